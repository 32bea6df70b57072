/- Books: the reference's Put. -/
import Derived.Test.YtpmnhieehkjnmaaBkC
namespace Go.Proofs.Ytpmnhieehkjnmaa
open Go.RowKit
set_option linter.unusedVariables false

/-- The reference's book in memory. -/
structure RefAt (w : World) (x : Nat) (a : Option Addr) (cap : Nat) (B : Bk) : Prop where
  blk : w.heap[x]? = some (.cells #[.int .i64 B.room, .slice a B.L.length cap, .int .i64 B.lost] 38)
  row : Evs w a B.L
  room : B.L.length ≤ cap ∧ cap ≤ maxLen
  past : ∀ ad, a = some ad → x < ad.block ∧ ad.block < w.heap.size
  hdr : a = none → cap = 0
  ok : B.Ok
theorem RefAt.lt {w : World} {x : Nat} {a : Option Addr} {cap : Nat} {B : Bk} (h : RefAt w x a cap B) : x < w.heap.size := (Array.getElem?_eq_some_iff.1 h.blk).1
theorem RefAt.kept {w w' : World} {x : Nat} {a : Option Addr} {cap : Nat} {B : Bk} (h : RefAt w x a cap B) (hs : w.heap.size ≤ w'.heap.size) (hx : w'.heap[x]? = w.heap[x]?) (ha : ∀ ad, a = some ad → w'.heap[ad.block]? = w.heap[ad.block]?) : RefAt w' x a cap B :=
  ⟨hx.trans h.blk, by
    rcases h.row with h0 | ⟨b, off, rfl, hlt, hc⟩
    · exact .inl h0
    · exact .inr ⟨b, off, rfl, Nat.lt_of_lt_of_le hlt hs, fun i hi j hj => by rw [World.cell?_of_block (a := ⟨b, off + i * 3 + j, none⟩) (ha ⟨b, off, none⟩ rfl)]; exact hc i hi j hj⟩, h.room, fun ad hd => ⟨(h.past ad hd).1, Nat.lt_of_lt_of_le (h.past ad hd).2 hs⟩, h.hdr, h.ok⟩
theorem RefAt.below {w w' : World} {x : Nat} {a : Option Addr} {cap : Nat} {B : Bk} (h : RefAt w x a cap B) (hb : Below w.heap.size w w') : RefAt w' x a cap B :=
  h.kept hb.size (hb.block _ h.lt) fun ad hd => hb.block _ (h.past ad hd).2
theorem RefAt.of {w : World} {x : Nat} {a : Option Addr} {cap : Nat} {B : Bk} {L : List Ev} {room lost : Int} (hB : B.L = L ∧ B.room = room ∧ B.lost = lost) (hok : B.Ok) (blk : w.heap[x]? = some (.cells #[.int .i64 room, .slice a L.length cap, .int .i64 lost] 38))
    (row : Evs w a L) (hc : L.length ≤ cap ∧ cap ≤ maxLen) (hp : ∀ ad, a = some ad → x < ad.block ∧ ad.block < w.heap.size) (h0 : a = none → cap = 0) : RefAt w x a cap B := by
  obtain ⟨rfl, rfl, rfl⟩ := hB
  exact ⟨blk, row, hc, hp, h0, hok⟩
theorem grown_x {w wr W : World} {x : Nat} (h : w.grownBy wr (some x)) (ho : W.os = wr.os ∧ W.tape = wr.tape ∧ W.output = wr.output) (hs : wr.heap.size ≤ W.heap.size) (hk : ∀ k, k < wr.heap.size → k ≠ x → W.heap[k]? = wr.heap[k]?) : w.grownBy W (some x) :=
  ⟨ho.1.trans h.os, ho.2.1.trans h.tape, ho.2.2.trans h.output, Nat.le_trans h.size hs, fun k hk1 hk2 => (hk k (Nat.lt_of_lt_of_le hk1 h.size) (by simpa using hk2)).trans (h.block k hk1 hk2)⟩
theorem evs_block {w w' : World} {a : Option Addr} {L : List Ev} (h : Evs w a L) (hs : w.heap.size ≤ w'.heap.size) (ha : ∀ ad, a = some ad → w'.heap[ad.block]? = w.heap[ad.block]?) : Evs w' a L := by
  rcases h with h0 | ⟨b, off, rfl, hlt, hc⟩
  · exact .inl h0
  · exact .inr ⟨b, off, rfl, Nat.lt_of_lt_of_le hlt hs, fun i hi j hj => by rw [World.cell?_of_block (a := ⟨b, off + i * 3 + j, none⟩) (ha ⟨b, off, none⟩ rfl)]; exact hc i hi j hj⟩
theorem put_ref (B : Bk) (e : Ev) (h : B.Ok) : (B.room < ((B.L ++ [e]).length : Int) → (B.put e).L = (B.L ++ [e]).drop 1 ∧ (B.put e).room = B.room ∧ (B.put e).lost = B.lost + 1) ∧ (¬ B.room < ((B.L ++ [e]).length : Int) → (B.put e).L = B.L ++ [e] ∧ (B.put e).room = B.room ∧ (B.put e).lost = B.lost) := by
  have h1 := h.room; have h2 := h.len
  unfold Bk.put
  constructor
  · intro hf
    simp at hf
    rw [if_pos (by omega)]
    refine ⟨?_, rfl, rfl⟩
    cases hL : B.L with
    | nil => rw [hL] at hf; simp at hf; omega
    | cons x L => simp
  · intro hf
    simp at hf
    rw [if_neg (by omega)]; exact ⟨rfl, rfl, rfl⟩
theorem evs_cell {w : World} {ad : Addr} {L : List Ev} (h : Evs w (some ad) L) : ∀ j u, (L.flatMap evC)[j]? = some u → w.cell? (ad.add j) = some u := by
  intro j u hj
  rcases h with h0 | ⟨b1, o1, e1, hlt, hcell⟩
  · have : L = [] := List.eq_nil_of_length_eq_zero h0
    subst this; simp at hj
  · cases e1
    rw [Addr.add_lit]
    have hjl : j < L.length * 3 := by
      have := (List.getElem?_eq_some_iff.1 hj).1
      rwa [flat_len] at this
    have hd : j / 3 < L.length := by omega
    have hm : j % 3 < 3 := by omega
    have g := List.getElem?_eq_getElem hd
    have e2 := flat_get evC_len L (j / 3) (j % 3) _ g hm
    rw [show j / 3 * 3 + j % 3 = j by omega, hj] at e2
    have e3 := hcell (j / 3) hd (j % 3) hm
    rw [show o1 + j / 3 * 3 + j % 3 = o1 + j by omega] at e3
    rw [e3]
    simp only [evV, g, Option.bind_some, ← e2, Option.getD_some]
theorem flat_one (L : List Ev) : ∀ u ∈ L.flatMap evC, u.oneCell' = true := fun u hu => by
  simp [evC] at hu
  obtain ⟨a, b, c, _, rfl | rfl | rfl⟩ := hu <;> rfl
/-- What append(nil, l...) makes, wherever it is run. -/
theorem app0_run (ao : Option Addr) (n c : Nat) (L : List Ev) (W : World) (hn : n = L.length) (hL : Evs W ao L) (h0 : ao = none → c = 0) (hl : L.length ≤ 1000000) (ty : TypeId) (w : World) (hw : Below W.heap.size W w) :
    ∃ v' w', (Builtin.append_ #[28, 28] ty #[.slice none 0 0, .slice ao n c]).run Try.prog w = .ok v' w' ∧ OwnK 34 3 evC w' W.heap.size v' L ∧ Below w.heap.size w w' := by
  subst hn
  obtain ⟨i0, hinfo, hz0, hz1, hz2⟩ := info_parts info_ev
  cases ao with
  | none =>
    have hLn : L = [] := by
      rcases hL with h | ⟨b, off, e, _⟩
      · exact List.eq_nil_of_length_eq_zero h
      · cases e
    subst hLn
    have := h0 rfl
    subst this
    have hrun := run_append_owned_none (P := Try.prog) (w := w) w.heap.size 28 ty 34 i0 3 Try.underlying28 hinfo (.slice none 0 0) 0 [] (World.ownsRow_nil w _ _ _)
    exact ⟨_, _, hrun, OwnK.nil _ _, Below.refl _ _⟩
  | some ad =>
    have hL' := hL.below hw (Nat.le_refl _)
    obtain ⟨v', w', hrun, r1, r2, _⟩ := run_append_own (P := Try.prog) w W.heap.size 28 ty 34 i0 _ 3 24 Try.underlying28 hinfo hz0 hz1 hz2 rfl (by decide) (.slice none 0 0) 0 [] (World.ownsRow_nil w _ _ _) ad L.length c (L.flatMap evC) (flat_len L) (evs_cell hL') (flat_one L) (by unfold maxLen; omega) (by omega) hw.size
    have r1' : OwnK 34 3 evC w' W.heap.size v' L := by unfold OwnK; simpa using r1
    exact ⟨v', w', hrun, r1', ⟨r2.os, r2.tape, r2.output, r2.size, fun k hk => r2.block k hk (by simp [Value.ownBlock])⟩⟩
theorem wpEH_app0 {ops : Array Oper} {W : World} {odd : List Nat} {deps : List (Nat × Nat)} {Q : Env → Act → Prop} {o : Oper} {l : List Oper} {k : Nat} {is : List Nat} {e : Env} {a : Act} {s x : Operand} {ao : Option Addr} {n c : Nat} (L : List Ev) (ho : odd.contains k = true) (hw : Region.wanted o (yielded ops a.tmps) = true)
    (hop : o.op = .call { callee := .builtin .append, args := #[s, x], argTypes := #[28, 28] }) (hs : a.eval s = .slice none 0 0) (hx : a.eval x = .slice ao n c) (hn : n = L.length) (hL : Evs W ao L) (h0 : ao = none → c = 0) (hl : L.length ≤ 1000000)
    (h : ∀ (v : Value) (p : World → Prop), (∀ w, p w → OwnK 34 3 evC w W.heap.size v L) → wpEH Try.prog ops W odd deps noRc Q l is (e.upd k p) (a.put o.dst v)) : wpEH Try.prog ops W odd deps noRc Q (o :: l) (k :: is) e a := by
  have hrun : ∀ u : Up W, ∃ v' w', (execOp a.eval o).run Try.prog u.w = .ok (.value v') w' ∧ OwnK 34 3 evC w' W.heap.size v' L ∧ Below u.w.heap.size u.w w' := fun u => by
    obtain ⟨v', w', h1, h2, h3⟩ := app0_run ao n c L W hn hL h0 hl o.type u.w u.bel
    refine ⟨v', w', ?_, h2, h3⟩
    unfold execOp
    simp [hop, resolve, invoke, builtin, hs, hx, h1, Result.andThen]
  refine wpEH_odd ho hw (fun u _ => by obtain ⟨v', w', h1, _, h3⟩ := hrun u; rw [h1]; exact h3) ?_
  rintro v ⟨u, u1, h1⟩
  refine h v _ fun w hr => ?_
  obtain ⟨u2, h2⟩ := hr
  obtain ⟨v', w', e1, e2, e3⟩ := hrun u2
  rw [e1] at h2
  obtain ⟨rfl, hb⟩ := h2
  exact e2.below hb

set_option maxHeartbeats 4000000 in
theorem rbput_any (x : Nat) (a : Option Addr) (cap : Nat) (B : Bk) (a0 : Option Addr) (cap0 : Nat) (xs : List Ev) (w : World) (h : RefAt w x a cap B) (hx : Evs w a0 xs) (hlost : B.lost + xs.length ≤ 1000000) (hab : xs ≠ [] → ∀ ad, a0 = some ad → ad.block ≠ x) :
    Calls Try.prog 10 #[.pointer (some ⟨x, 0, none⟩), .slice a0 xs.length cap0] w fun e w' => e = .returned (.tuple #[]) ∧ ∃ a' cap', RefAt w' x a' cap' (B.puts xs) ∧ w.grownBy w' (some x) ∧ ∀ ad, a' = some ad → (∃ ad0, a = some ad0 ∧ ad0.block = ad.block) ∨ w.heap.size ≤ ad.block := by
  have hxl : xs.length ≤ 1000000 := by have := h.ok.lost; omega
  have HX := Lib.hid hx
  have HA := Lib.hid hab
  clear hx hab
  go_enter Try.func10, Try.ntmps10
  go_wp2
  go_loopw [4] (fun p wr => ∃ k : Nat, p = .int .i64 k ∧ k ≤ xs.length ∧ ∃ a1 cap1, RefAt wr x a1 cap1 (B.puts (xs.take k)) ∧ w.grownBy wr (some x) ∧ ∀ ad, a1 = some ad → (∃ ad0, a = some ad0 ∧ ad0.block = ad.block) ∨ w.heap.size ≤ ad.block) (fun p _ => xs.length - (intOf p).toNat)
  case atStart => exact ⟨0, rfl, by omega, a, cap, h, ⟨rfl, rfl, rfl, Nat.le_refl _, fun _ _ _ => rfl⟩, fun ad hd => .inl ⟨ad, hd, rfl⟩⟩
  case round =>
    clear h
    obtain ⟨k, rfl, hk, a1, cap1, hrf, hgr, hfr⟩ := hrel
    by_cases hlt : k < xs.length
    · have g1 : xs[k]? = some xs[k] := List.getElem?_eq_getElem hlt
      have hlo : (B.puts (xs.take k)).lost ≤ 1000000 := by have := B.puts_lost (xs.take k); simp at this; omega
      have HP := Lib.hid (B.puts_snoc xs g1)
      have hxr : Evs wr a0 xs := by
        rcases HX.out with h0 | ⟨b1, o1, rfl, hlt1, hc⟩
        · exact .inl h0
        · have n1 := HA.out (fun e => by simp [e] at hlt) _ rfl
          exact .inr ⟨b1, o1, rfl, Nat.lt_of_lt_of_le hlt1 hgr.size, fun i hi j hj => by rw [World.cell?_of_block (hgr.block b1 hlt1 (by simpa using n1))]; exact hc i hi j hj⟩
      obtain ⟨b1, o1, rfl, hb1, x1, x2, x3⟩ := hxr.at g1
      generalize xs[k] = ev at *
      clear g1 hxr
      generalize B.puts (xs.take k) = B1 at *
      have hok := hrf.ok.room
      have hlen := hrf.ok.len
      have hl0 := hrf.ok.lost
      haveI : IsBlk wr x _ _ := ⟨hrf.blk⟩
      haveI hlx : LeSize (x + 1) wr := ⟨hrf.lt⟩
      have c0 : wr.cell? ⟨x, 0, none⟩ = some (.int .i64 B1.room) := by rw [IsBlk.cell]; rfl
      have c1 : wr.cell? ⟨x, 1, none⟩ = some (.slice a1 B1.L.length cap1) := by rw [IsBlk.cell]; rfl
      have hRW := Lib.hid hrf
      have HG := Lib.hid hgr
      have HFR := Lib.hid hfr
      clear hrf hgr hfr
      go_wp2
      (refine wp_region_noPanic ?_; refine wp_region_envF [0] [1, 2, 3, 4, 5, 6, 7, 8, 9, 10] [11, 12, 13, 14] [5, 10] [] noRc (by kernel_rfl) (by kernel_rfl) (fun _ _ _ _ _ h => (h : False).elim) noRc_stable ?_; simp only [pickO, List.filterMap_cons, List.filterMap_nil, List.getElem?_cons_succ, List.getElem?_cons_zero]; (repeat (first | (refine wpAddr_move rfl rfl rfl ?_; simp only [Act.put, List.setIfInBounds_toArray, List.set_cons_succ, List.set_cons_zero]) | (refine ⟨_, Or.inl ⟨rfl, fun w => ?_⟩, ?_⟩; (focus (simp [go_sem]; rfl))))); refine wpAddr_nil ?_; (try simp only [Act.put, List.setIfInBounds_toArray, List.set_cons_succ, List.set_cons_zero]))
      (repeat (first | (refine wpEH_skip rfl rfl ?_; simp only [Act.put, List.setIfInBounds_toArray, List.set_cons_succ, List.set_cons_zero]) | (refine wpEH_want rfl rfl ?_; intro Z hZs hZi hZn K hK; (first | (go_big_quiet_op; (first | go_big_quiet_on | go_big_quiet_call ((first | fail))))); clear hZs hZi hZn Z)))
      refine wpEH_app0 B1.L rfl rfl rfl rfl rfl rfl hRW.out.row hRW.out.hdr (by omega) ?_
      intro v5 p5 hp5
      simp only [Act.put, List.setIfInBounds_toArray, List.set_cons_succ, List.set_cons_zero]
      (repeat (first | (refine wpEH_skip rfl rfl ?_; simp only [Act.put, List.setIfInBounds_toArray, List.set_cons_succ, List.set_cons_zero]) | (refine wpEH_want rfl rfl ?_; intro Z hZs hZi hZn K hK; (first | (go_big_quiet_op; (first | go_big_quiet_on | go_big_quiet_call ((first | fail))))); clear hZs hZi hZn Z)))
      (refine wpEH_build 1 (.cells #[.int .i64 ev.1, .int .i64 ev.2.1, .int .i64 ev.2.2] 34) rfl rfl (fun w => (by simp [go_sem] <;> rfl)) ?_; intro q10 p10 hq10 hp10; simp only [Act.put, List.setIfInBounds_toArray, List.set_cons_succ, List.set_cons_zero])
      refine wpEH_nil ?_; intro u hinv
      have hO10 := (hp10 _ (hinv 10 _ rfl)).out
      have lO10 := laid_le hO10
      have hv5 := hp5 _ (hinv 5 _ rfl)
      clear hinv hp10 hp5 p10 p5
      go_simp
      have hu : Below wr.heap.size wr u.w := by (repeat' (first | (with_reducible exact Below.refl _ _) | (with_reducible assumption) | (with_reducible refine Below.setCell ?_ ?_ _) | (with_reducible refine Below.alloc ?_ ?_ _) | (with_reducible refine Below.drew ?_) | (with_reducible refine Up.base _ ?_ ?_) | (with_reducible exact LeSize.out) | exact LeSize.out | exact Nat.le_add_right_of_le LeSize.out | exact Nat.le_add_right_of_le (Nat.le_add_right_of_le LeSize.out) | (with_reducible exact Nat.le_refl _) | (simp; done) | (simp; omega)))
      have hcq : ∀ j y, (evC ev)[j]? = some y → u.w.cell? ⟨q10, j, none⟩ = some y := cells_blk (evC ev) hO10
      refine wpList_app_row rfl _ _ rfl wr.heap.size rfl hv5 ev (by rfl) hcq (by omega) LeSize.out ?_
      intro v' w1 hown' hg _ _
      obtain ⟨hPF, hPN⟩ := put_ref B1 ev hRW.out.ok
      have hn2 := Lib.hid (show (B1.L ++ [ev]).length = B1.L.length + 1 by simp)
      have HOK := Lib.hid (hRW.out.ok.put ev)
      generalize B1.L ++ [ev] = L2 at *
      obtain ⟨a2, cap2, rfl, hl2, hm2, _, hr2⟩ := hown'.opened evC_len
      have hr2 : Evs w1 a2 L2 := hr2
      obtain ⟨g, rfl, hgn⟩ : ∃ g, a2 = some ⟨g, 0, none⟩ ∧ wr.heap.size ≤ g := by
        rcases hown'.2 with ⟨e, _⟩ | ⟨g, _, _, e, hgn, _⟩
        · have := hn2.out; simp at e; omega
        · simp at e; exact ⟨g, e.1, hgn⟩
      have hg5 : some x ≠ v5.ownBlock := fun e => hv5.ne (b := x) hlx.out e.symm
      have hb1 : w1.heap[x]? = some (.cells #[.int .i64 B1.room, .slice a1 B1.L.length cap1, .int .i64 B1.lost] 38) := by
        rw [hg.block x LeSize.out hg5, hu.block x LeSize.out]; exact hRW.out.blk
      have hk1 : ∀ k, k < wr.heap.size → w1.heap[k]? = wr.heap[k]? := fun k hk => by
        rw [hg.block k (Nat.lt_of_lt_of_le hk hu.size) (fun e => hv5.ne (b := k) hk e.symm), hu.block k hk]
      have hs1 := Nat.le_trans hu.size hg.size
      have ho1 : w1.os = wr.os ∧ w1.tape = wr.tape ∧ w1.output = wr.output := ⟨hg.os.trans hu.os, hg.tape.trans hu.tape, hg.output.trans hu.output⟩
      have hgw : g < w1.heap.size := by
        rcases hr2 with h | ⟨_, _, e, h, _⟩
        · have := hn2.out; omega
        · cases e; exact h
      have hlx' := hlx.out
      clear hg hown' hcq hO10 lO10 hv5 hg5 hu
      generalize hW2 : w1.setCell ⟨x, 1, none⟩ (.slice (some ⟨g, 0, none⟩) L2.length cap2) = W2
      have hb2 : W2.heap[x]? = some (.cells #[.int .i64 B1.room, .slice (some ⟨g, 0, none⟩) L2.length cap2, .int .i64 B1.lost] 38) := by
        rw [← hW2]; exact heap_set_same hb1 1 _
      have hs2 : W2.heap.size = w1.heap.size := by rw [← hW2]; simp [World.setCell]
      have hk2 : ∀ k, k < w1.heap.size → k ≠ x → W2.heap[k]? = w1.heap[k]? := fun k _ h => by rw [← hW2]; exact Below.heap_setCell _ _ _ _ h
      have ho2 : W2.os = w1.os ∧ W2.tape = w1.tape ∧ W2.output = w1.output := by rw [← hW2]; exact ⟨rfl, rfl, rfl⟩
      have hr3 : Evs W2 (some ⟨g, 0, none⟩) L2 := evs_block hr2 (by omega) (fun ad hd => by cases hd; exact hk2 g hgw (by omega))
      have HW2 := Lib.hid hW2
      have HG2 : Hid (w.grownBy W2 (some x)) := Lib.hid (grown_x HG.out ⟨ho2.1.trans ho1.1, ho2.2.1.trans ho1.2.1, ho2.2.2.trans ho1.2.2⟩ (by omega) (fun k h1 h2 => by rw [hk2 k (by omega) h2, hk1 k h1]))
      have HBD : Hid (L2.length ≤ cap2 ∧ cap2 ≤ maxLen ∧ wr.heap.size ≤ g ∧ g < W2.heap.size ∧ x < wr.heap.size ∧ w.heap.size ≤ wr.heap.size) := Lib.hid ⟨hl2, hm2, hgn, by omega, hlx', HG.out.size⟩
      have HB2 := Lib.hid hb2
      have HR3 := Lib.hid hr3
      have hl1 : 1 ≤ L2.length := by have := hn2.out; omega
      have hl257 : L2.length ≤ 257 := by have := hn2.out; omega
      haveI : IsBlk w1 x _ _ := ⟨hb1⟩
      haveI : LeSize (x + 1) w1 := ⟨by omega⟩
      have d1 : w1.cell? ⟨x, 1, none⟩ = some (.slice a1 B1.L.length cap1) := by rw [IsBlk.cell]; rfl
      have f1 : w1.frozen? ⟨x, 1, none⟩ = false := IsBlk.frozen 1
      have j1 := HasCell.of d1
      haveI : IsBlk W2 x _ _ := ⟨hb2⟩
      haveI : LeSize (x + 1) W2 := ⟨by omega⟩
      have d20 : W2.cell? ⟨x, 0, none⟩ = some (.int .i64 B1.room) := by rw [IsBlk.cell]; rfl
      have d21 : W2.cell? ⟨x, 1, none⟩ = some (.slice (some ⟨g, 0, none⟩) L2.length cap2) := by rw [IsBlk.cell]; rfl
      have d22 : W2.cell? ⟨x, 2, none⟩ = some (.int .i64 B1.lost) := by rw [IsBlk.cell]; rfl
      have f21 : W2.frozen? ⟨x, 1, none⟩ = false := IsBlk.frozen 1
      have f22 : W2.frozen? ⟨x, 2, none⟩ = false := IsBlk.frozen 2
      have j20 := HasCell.of d20
      have j21 := HasCell.of d21
      have j22 := HasCell.of d22
      clear hb1 hk1 hs1 ho1 hgw hb2 hs2 hk2 ho2 hr3 hr2 hgn hlx'
      go_wp2
      refine NoPanic.normal ?_
      go_wp2
      try rw [hW2]
      clear hW2 HW2 d1 f1 j1
      by_cases hfull : B1.room < (L2.length : Int)
      · have HPL := Lib.hid (hPF (by omega))
        clear hPF hPN
        have hc2 : 2 ≤ cap2 := by have := HBD.out; omega
        go_wp2
        (refine wp_region_up (by kernel_rfl) (by kernel_rfl) ?_; (repeat (first | go_big_quiet_step ((first | fail)))); refine wpQuiet_nil ?_; rintro _ ⟨u, rfl⟩)
        go_wp2
        generalize hW3 : ((u.w.setCell ⟨x, 1, none⟩ (.slice (some ⟨g, 3, none⟩) (L2.length - 1) (cap2 - 1))).setCell ⟨x, 2, none⟩ (.int .i64 (B1.lost + 1))) = W3
        have hbu := u.bel
        have hbd := HBD.out
        have hb3 : W3.heap[x]? = some (.cells #[.int .i64 B1.room, .slice (some ⟨g, 3, none⟩) (L2.length - 1) (cap2 - 1), .int .i64 (B1.lost + 1)] 38) := by
          rw [← hW3]; exact heap_set_same (heap_set_same ((hbu.block x (by omega)).trans HB2.out) 1 _) 2 _
        have hs3 : W3.heap.size = u.w.heap.size := by rw [← hW3]; simp [World.setCell]
        have hk3 : ∀ k, k ≠ x → W3.heap[k]? = u.w.heap[k]? := fun k h => by rw [← hW3, Below.heap_setCell _ _ _ _ h, Below.heap_setCell _ _ _ _ h]
        have ho3 : W3.os = u.w.os ∧ W3.tape = u.w.tape ∧ W3.output = u.w.output := by rw [← hW3]; exact ⟨rfl, rfl, rfl⟩
        have hus := hbu.size
        have hr4 : Evs W3 (some ⟨g, 3, none⟩) (L2.drop 1) := evs_block (w := u.w) (by simpa using evs_tail (evs_block HR3.out hus (fun ad hd => hbu.block _ (by cases hd; simp; omega)))) (by omega) (fun ad hd => hk3 _ (by cases hd; simp; omega))
        have HR4 := Lib.hid hr4
        have HG3 := Lib.hid (grown_x HG2.out (W := W3) ⟨ho3.1.trans hbu.os, ho3.2.1.trans hbu.tape, ho3.2.2.trans hbu.output⟩ (by omega) (fun k hk h => (hk3 k h).trans (hbu.block k hk)))
        have HB3 := Lib.hid hb3
        have HS3 := Lib.hid hs3
        clear hW3 hb3 hs3 hk3 ho3 hus hbd hr4
        go_wp2
        go_roundw
        case rel => exact ⟨k + 1, by go_num, by omega, some ⟨g, 3, none⟩, (cap2 - 1), by
          rw [HP.out]
          have hbd := HBD.out
          have hs3 := HS3.out
          have hus := hbu.size
          exact RefAt.of HPL.out HOK.out (by have e := HB3.out; simpa using e) HR4.out (by simp; omega) (fun ad hd => by cases hd; exact ⟨by simp; omega, by simp; omega⟩) (fun h => by cases h), HG3.out, fun ad hd => .inr (by cases hd; have := HBD.out; simp; omega)⟩
        case measure => simp [intOf]; omega
      · have HPL := Lib.hid (hPN (by omega))
        clear hPF hPN
        go_wp2
        (refine wp_region_up (by kernel_rfl) (by kernel_rfl) ?_; (repeat (first | go_big_quiet_step ((first | fail)))); refine wpQuiet_nil ?_; rintro _ ⟨u, rfl⟩)
        go_wp2
        have hbu := u.bel
        go_roundw
        case rel => exact ⟨k + 1, by go_num, by omega, some ⟨g, 0, none⟩, cap2, by
          rw [HP.out]
          have hbd := HBD.out
          exact RefAt.below (RefAt.of HPL.out HOK.out HB2.out HR3.out ⟨hbd.1, hbd.2.1⟩ (fun ad hd => by cases hd; exact ⟨by simp; omega, by simp; omega⟩) (fun h => by cases h)) hbu, grown_x HG2.out ⟨hbu.os, hbu.tape, hbu.output⟩ hbu.size (fun k hk _ => hbu.block k hk), fun ad hd => .inr (by cases hd; have := HBD.out; simp; omega)⟩
        case measure => simp [intOf]; omega
    · obtain rfl : k = xs.length := by omega
      go_wp2
      go_returns
      exact ⟨rfl, a1, cap1, by simpa using hrf, hgr, hfr⟩
end Go.Proofs.Ytpmnhieehkjnmaa
