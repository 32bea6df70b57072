/- Books: Put. -/
import Derived.Test.YtpmnhieehkjnmaaBkB
import Derived.ArgAppend
import Derived.RangeFuncBox
namespace Go.Proofs.Ytpmnhieehkjnmaa
open Go.RowKit
set_option linter.unusedVariables false

/-- From w to w' the book alone has moved: its block, and its row past what was there. -/
structure Moved (w w' : World) (b : Nat) (v v' : Value) (n n' : Nat) : Prop where
  os : w'.os = w.os
  tape : w'.tape = w.tape
  output : w'.output = w.output
  size : w.heap.size ≤ w'.heap.size
  block : ∀ k, k < w.heap.size → k ≠ b → v.ownBlock ≠ some k → w'.heap[k]? = w.heap[k]?
  own : ∀ k, v'.ownBlock = some k → v.ownBlock = some k ∨ w.heap.size ≤ k
  len : ∀ k, v.ownBlock = some k → v'.ownBlock = some k → n ≤ n'
  cells : ∀ k, v.ownBlock = some k → ∀ i, i < n * 3 → w'.cell? ⟨k, i, none⟩ = w.cell? ⟨k, i, none⟩
theorem Moved.refl (w : World) (b : Nat) (v : Value) (n : Nat) : Moved w w b v v n n :=
  ⟨rfl, rfl, rfl, Nat.le_refl _, fun _ _ _ _ => rfl, fun _ h => .inl h, fun _ _ _ => Nat.le_refl _, fun _ _ _ _ => rfl⟩
theorem Moved.trans {w w1 w2 : World} {b : Nat} {v v1 v2 : Value} {n n1 n2 : Nat} (h : Moved w w1 b v v1 n n1) (k : Moved w1 w2 b v1 v2 n1 n2) (hv : ∀ j, v.ownBlock = some j → j < w.heap.size ∧ j ≠ b) : Moved w w2 b v v2 n n2 := by
  have hne : ∀ j, j < w.heap.size → v.ownBlock ≠ some j → v1.ownBlock ≠ some j := fun j hj h1 h2 => by
    rcases h.own j h2 with h3 | h3
    · exact h1 h3
    · omega
  refine ⟨k.os.trans h.os, k.tape.trans h.tape, k.output.trans h.output, Nat.le_trans h.size k.size, fun j hj h1 h2 => ?_, fun j hj => ?_, fun j h1 h2 => ?_, fun j h1 i hi => ?_⟩
  · exact (k.block j (Nat.lt_of_lt_of_le hj h.size) h1 (hne j hj h2)).trans (h.block j hj h1 h2)
  · rcases k.own j hj with h1 | h1
    · exact h.own j h1
    · exact .inr (Nat.le_trans h.size h1)
  · have hj := hv j h1
    rcases k.own j h2 with h3 | h3
    · exact Nat.le_trans (h.len j h1 h3) (k.len j h3 h2)
    · have := h.size; omega
  · have hj := hv j h1
    by_cases h3 : v1.ownBlock = some j
    · rw [k.cells j h3 i (by have := h.len j h1 h3; have := Nat.mul_le_mul_right 3 this; omega)]; exact h.cells j h1 i hi
    · have : w2.heap[j]? = w1.heap[j]? := k.block j (Nat.lt_of_lt_of_le hj.1 h.size) hj.2 h3
      rw [World.cell?_of_block (a := ⟨j, i, none⟩) this]; exact h.cells j h1 i hi
theorem Moved.below {w w1 w2 : World} {b : Nat} {v v1 : Value} {n n1 : Nat} (h : Moved w w1 b v v1 n n1) (k : Below w1.heap.size w1 w2) (hv : ∀ j, v.ownBlock = some j → j < w.heap.size) : Moved w w2 b v v1 n n1 := by
  refine ⟨k.os.trans h.os, k.tape.trans h.tape, k.output.trans h.output, Nat.le_trans h.size k.size, fun j hj h1 h2 => ?_, h.own, h.len, fun j h1 i hi => ?_⟩
  · exact (k.block j (Nat.lt_of_lt_of_le hj h.size)).trans (h.block j hj h1 h2)
  · have hj := hv j h1
    rw [World.cell?_of_block (a := ⟨j, i, none⟩) (k.block j (Nat.lt_of_lt_of_le hj h.size))]; exact h.cells j h1 i hi
theorem Moved.bel {w w' : World} {b B : Nat} {v v' : Value} {n n' : Nat} (h : Moved w w' b v v' n n') (hB : B ≤ b) (hs : b < w.heap.size) (hv : ∀ j, v.ownBlock = some j → b < j) : Below B w w' :=
  ⟨h.os, h.tape, h.output, h.size, fun k hk => h.block k (by omega) (by omega) (fun e => by have := hv k e; omega)⟩
theorem BookAt.own {w : World} {b : Nat} {v : Value} {B : Bk} (h : BookAt w b v B) : ∀ j, v.ownBlock = some j → j < w.heap.size ∧ j ≠ b ∧ b < j := fun j hj => by
  rcases h.row.2 with ⟨rfl, _⟩ | ⟨g, cap, cur, rfl, hg, hc, _⟩
  · simp [Value.ownBlock] at hj
  · simp [Value.ownBlock] at hj; subst hj
    exact ⟨(Array.getElem?_eq_some_iff.1 hc).1, by omega, by omega⟩

theorem flat_len (L : List Ev) : (L.flatMap evC).length = L.length * 3 := by
  induction L with
  | nil => rfl
  | cons x L ih => rw [List.flatMap_cons, List.length_append, ih, evC_len, List.length_cons]; omega
/-- An event appended to a row of one's own: in its place, or to new memory. -/
theorem wpList_app_row {ops : Array Oper} {rest : List Oper} {o : Oper} {a : Act} {w : World} {Q : Exit → Act → World → Prop} (hgd : o.guard = none) (s x : Operand)
    (ho : o.op = .call { callee := .builtin .append, args := #[s, x], argTypes := #[28, 28] })
    (base : Nat) {v : Value} {xs : List Ev} (hs : a.eval s = v) (hown : OwnK 34 3 evC w base v xs)
    {q : Nat} (y : Ev) (hx : a.eval x = .slice (some ⟨q, 0, none⟩) 1 1) (hc : ∀ j u, (evC y)[j]? = some u → w.cell? ⟨q, j, none⟩ = some u) (hn : xs.length ≤ 1000000) (hbase : base ≤ w.heap.size)
    (h : ∀ v' w', OwnK 34 3 evC w' base v' (xs ++ [y]) → w.grownBy w' v.ownBlock → (∀ k, v'.ownBlock = some k → v.ownBlock = some k ∨ w.heap.size ≤ k) → (v'.ownBlock ≠ v.ownBlock → w.grownBy w' none) → wpList Try.prog ops Q rest (a.put o.dst v') w') : wpList Try.prog ops Q (o :: rest) a w := by
  obtain ⟨i0, hinfo, hz0, hz1, hz2⟩ := info_parts info_ev
  have hnews : ∀ j u, (evC y)[j]? = some u → w.cell? ((⟨q, 0, none⟩ : Addr).add j) = some u := fun j u hj => by rw [Addr.add_lit, Nat.zero_add]; exact hc j u hj
  have h1c : ∀ u ∈ evC y, u.oneCell' = true := fun u hu => by simp [evC] at hu; rcases hu with rfl | rfl | rfl <;> rfl
  have b1 : xs.length + 1 ≤ maxLen := by unfold maxLen; omega
  have b2 : (xs.length + 1) * 24 ≤ 140737488355328 := by omega
  have key : ∃ v' w', (Builtin.append_ #[28, 28] o.type #[v, .slice (some ⟨q, 0, none⟩) 1 1]).run Try.prog w = .ok v' w' ∧ OwnK 34 3 evC w' base v' (xs ++ [y]) ∧ w.grownBy w' v.ownBlock ∧
      (∀ k, v'.ownBlock = some k → v.ownBlock = some k ∨ w.heap.size ≤ k) ∧ (v'.ownBlock ≠ v.ownBlock → w.grownBy w' none) := by
    obtain ⟨hl, hr⟩ := hown
    have hown' : w.ownsRow base 34 3 v xs.length (xs.flatMap evC) := ⟨hl, hr⟩
    rcases hr with ⟨rfl, h0⟩ | ⟨g, cap, cur, rfl, hg, hcur, h3, h4, h5, h6⟩
    · obtain rfl : xs = [] := List.eq_nil_of_length_eq_zero h0
      obtain ⟨v', w', hrun, r1, r2, _⟩ := run_append_own (P := Try.prog) w w.heap.size 28 o.type 34 i0 _ 3 24 Try.underlying28 hinfo hz0 hz1 hz2 rfl (by decide) (.slice none 0 0) 0 [] (World.ownsRow_nil w _ _ _) ⟨q, 0, none⟩ 1 1 (evC y) rfl hnews h1c (by unfold maxLen; omega) (by omega) (Nat.le_refl _)
      have r1' : OwnK 34 3 evC w' w.heap.size v' [y] := by unfold OwnK; simpa using r1
      exact ⟨v', w', hrun, r1'.less hbase, r2, fun k hk => .inr (r1.lt k hk).1, fun _ => r2⟩
    · by_cases hroom : xs.length + 1 ≤ cap
      · obtain ⟨v', w', hrun, r1, r2, _⟩ := run_append_own (P := Try.prog) w base 28 o.type 34 i0 _ 3 24 Try.underlying28 hinfo hz0 hz1 hz2 rfl (by decide) _ _ _ hown' ⟨q, 0, none⟩ 1 1 (evC y) rfl hnews h1c b1 b2 hbase
        have hroom' := run_append_room_cells (P := Try.prog) w 28 o.type 34 i0 Try.underlying28 hinfo g 0 xs.length cap ⟨q, 0, none⟩ 1 1 (evC y) (by rw [hz1]; rfl) hnews h1c hroom
          (fun j hj => by rw [hz1, Nat.zero_add]; rw [evC_len] at hj; rw [laid_cell hcur (xs.length * 3 + j) (Array.getElem?_eq_getElem (by omega))]; rfl) (fun j hj => by exact laid_open hcur _)
        rw [hrun] at hroom'
        cases hroom'
        exact ⟨_, _, hrun, by unfold OwnK; simpa using r1, r2, fun k hk => .inl (by simpa [Value.ownBlock] using hk), fun hne => absurd rfl hne⟩
      · obtain ⟨v', w', hrun, r1, r2⟩ := run_append_arg_grows (P := Try.prog) w 28 o.type 34 i0 _ 3 24 Try.underlying28 hinfo hz0 hz1 hz2 rfl (by decide) ⟨g, 0, none⟩ xs.length cap (xs.flatMap evC) (flat_len xs) (fun j u hj => by
          rw [Addr.add_lit, Nat.zero_add]
          have hjl := (List.getElem?_eq_some_iff.1 hj).1
          rw [flat_len] at hjl
          rw [← h6, List.getElem?_take, if_pos hjl] at hj
          exact laid_cell hcur j (by rw [← Array.getElem?_toList]; exact hj)) ⟨q, 0, none⟩ 1 1 (evC y) rfl hnews (by omega) b1 b2
        have r1' : OwnK 34 3 evC w' w.heap.size v' (xs ++ [y]) := by unfold OwnK; simpa using r1
        exact ⟨v', w', hrun, r1'.less hbase, ⟨r2.os, r2.tape, r2.output, r2.size, fun k hk _ => r2.block k hk (by simp)⟩, fun k hk => .inr (r1.lt k hk).1, fun _ => r2⟩
  obtain ⟨v', w', hrun, r1, r2, r3, r4⟩ := key
  refine wpList_plain hgd fun K hK' => ?_
  unfold Oper.wp
  simp [execOp, ho, resolve, invoke, builtin, hs, hx, hrun, Result.andThen]
  exact hK' _ _ (h v' w' r1 r2 r3 r4)
/-- The row from the second event on, where it is full: appended to, it moves. -/
theorem wpList_app_full {ops : Array Oper} {rest : List Oper} {o : Oper} {a : Act} {w : World} {Q : Exit → Act → World → Prop} (hgd : o.guard = none) (s x : Operand)
    (ho : o.op = .call { callee := .builtin .append, args := #[s, x], argTypes := #[28, 28] })
    {b : Nat} {off : Nat} {L : List Ev} {n : Nat} (hs : a.eval s = .slice (some ⟨b, off, none⟩) n n) (hn : L.length = n) (hL : Evs w (some ⟨b, off, none⟩) L)
    {q : Nat} (y : Ev) (hx : a.eval x = .slice (some ⟨q, 0, none⟩) 1 1) (hc : ∀ j u, (evC y)[j]? = some u → w.cell? ⟨q, j, none⟩ = some u) (hb : n ≤ 1000000)
    (h : ∀ v' w', OwnK 34 3 evC w' w.heap.size v' (L ++ [y]) → w.grownBy w' none → wpList Try.prog ops Q rest (a.put o.dst v') w') : wpList Try.prog ops Q (o :: rest) a w := by
  subst hn
  obtain ⟨i0, hinfo, hz0, hz1, hz2⟩ := info_parts info_ev
  refine wpList_append_grows w hgd s x 28 ho 34 i0 _ 3 24 Try.underlying28 hinfo hz0 hz1 hz2 rfl (by decide) (some ⟨b, off, none⟩) L.length L.length (L.flatMap evC) hs (by simp) (flat_len L) ?_ ⟨q, 0, none⟩ 1 1 (evC y) hx rfl ?_ ?_ (by omega) (by unfold maxLen; omega) (by omega) (fun v' w' h1 h2 => h v' w' ?_ h2)
  · intro b' e j u hj
    cases e
    rcases hL with h0 | ⟨b1, o1, e1, hlt, hcell⟩
    · have : L = [] := List.eq_nil_of_length_eq_zero h0
      subst this; simp at hj
    · cases e1
      rw [Addr.add_lit]
      have hjl : j < L.length * 3 := by
        have := (List.getElem?_eq_some_iff.1 hj).1
        rwa [flat_len] at this
      have hd : j / 3 < L.length := by omega
      have hm : j % 3 < 3 := by omega
      have g := List.getElem?_eq_getElem hd
      have e2 := flat_get evC_len L (j / 3) (j % 3) _ g hm
      rw [show j / 3 * 3 + j % 3 = j by omega, hj] at e2
      have e3 := hcell (j / 3) hd (j % 3) hm
      rw [show off + j / 3 * 3 + j % 3 = off + j by omega] at e3
      rw [e3]
      simp only [evV, g, Option.bind_some, ← e2, Option.getD_some]
  · intro j u hj; rw [Addr.add_lit, Nat.zero_add]; exact hc j u hj
  · intro u hu; simp [evC] at hu; rcases hu with rfl | rfl | rfl <;> rfl
  · unfold OwnK; simpa using h1
theorem evs_tail {w : World} {b off : Nat} {L : List Ev} (h : Evs w (some ⟨b, off, none⟩) L) : Evs w (some ⟨b, off + 3, none⟩) (L.drop 1) := by
  cases L with
  | nil => exact .inl rfl
  | cons x L =>
    have := RowK.part h rfl 1 L.length (by simp; omega)
    refine RowK.congr (by simpa using this) fun i hi j hj => ?_
    unfold evV
    rw [Nat.add_comm 1 i]; simp

/-- What an append and the store of the new row make of a book. -/
theorem moved_put {wr W7 w1 : World} {b : Nat} {v1 v' : Value} {B1 B2 : Bk} {row : Option Nat} {z : Value} (hbk : BookAt wr b v1 B1) (hok : B2.Ok)
    (h7o : W7.os = wr.os ∧ W7.tape = wr.tape ∧ W7.output = wr.output) (h7s : wr.heap.size ≤ W7.heap.size) (h7 : ∀ k, k < wr.heap.size → k ≠ b → W7.heap[k]? = wr.heap[k]?)
    (hg : W7.grownBy w1 row) (hrow : row = v1.ownBlock ∨ row = none) (hg2 : v'.ownBlock ≠ v1.ownBlock → W7.grownBy w1 none)
    (hown : OwnK 34 3 evC w1 (b + 1) v' B2.L) (hnew : ∀ k, v'.ownBlock = some k → v1.ownBlock = some k ∨ wr.heap.size ≤ k)
    (hlen : ∀ k, v1.ownBlock = some k → v'.ownBlock = some k → ∃ x, B2.L = B1.L ++ [x])
    (hb : w1.heap[b]? = some (.cells #[z, .int .i64 B2.room, .int .i64 B2.lost] 50)) :
    BookAt (w1.setCell ⟨b, 0, none⟩ v') b v' B2 ∧ Moved wr (w1.setCell ⟨b, 0, none⟩ v') b v1 v' B1.L.length B2.L.length := by
  have hlt := hbk.lt
  have hs1 := hg.size
  have hsz : wr.heap.size ≤ (w1.setCell ⟨b, 0, none⟩ v').heap.size := by
    have : (w1.setCell ⟨b, 0, none⟩ v').heap.size = w1.heap.size := by simp [World.setCell]
    omega
  refine ⟨⟨by rw [heap_set_same hb]; rfl, hown.kept (grownBy_setCell' w1 b v') (.inr (hown.ne (by omega))), hok⟩, ⟨hg.os.trans h7o.1, hg.tape.trans h7o.2.1, hg.output.trans h7o.2.2, hsz, fun k hk h1 h2 => ?_, hnew, fun k h1 h2 => ?_, fun k h1 i hi => ?_⟩⟩
  · rw [Below.heap_setCell _ _ _ _ h1, hg.block k (by omega) (by rcases hrow with rfl | rfl; exact fun e => h2 e.symm; simp)]
    exact h7 k hk h1
  · obtain ⟨x, e⟩ := hlen k h1 h2; rw [e]; simp
  · obtain ⟨hk1, hk2, hk3⟩ := hbk.own k h1
    rw [World.cell?_of_block (a := ⟨k, i, none⟩) (Below.heap_setCell w1 _ _ _ hk2)]
    by_cases h2 : v'.ownBlock = some k
    · obtain ⟨x, e⟩ := hlen k h1 h2
      obtain ⟨a1, c1, rfl, _, _, _, r1⟩ := hbk.row.opened evC_len
      obtain ⟨a2, c2, rfl, _, _, _, r2⟩ := hown.opened evC_len
      cases a1 with
      | none => simp [Value.ownBlock] at h1
      | some a1 =>
        cases a2 with
        | none => simp [Value.ownBlock] at h2
        | some a2 =>
          simp [Value.ownBlock] at h1 h2
          rcases hbk.row.2 with ⟨e0, _⟩ | ⟨g1, _, _, e1, _, _, _⟩
          · cases e0
          · rcases hown.2 with ⟨e0, _⟩ | ⟨g2, _, _, e2, _, _, _⟩
            · cases e0
            · simp at e1 e2
              obtain ⟨rfl, _⟩ := e1
              obtain ⟨rfl, _⟩ := e2
              simp at h1 h2
              subst h1 h2
              rcases r1 with r1 | ⟨_, _, q1, _, r1⟩
              · omega
              · rcases r2 with r2 | ⟨_, _, q2, _, r2⟩
                · rw [e] at r2; simp at r2
                · cases q1; cases q2
                  have hd : i / 3 < B1.L.length := by omega
                  have s1 := r1 (i / 3) hd (i % 3) (by omega)
                  have s2 := r2 (i / 3) (by rw [e]; simp; omega) (i % 3) (by omega)
                  rw [show 0 + i / 3 * 3 + i % 3 = i by omega] at s1 s2
                  rw [s1, s2, e]; simp only []; rw [List.getElem?_append_left hd]
    · have := (hg2 (fun e => h2 (e.trans h1))).block k (by omega) (by simp)
      rw [World.cell?_of_block (a := ⟨k, i, none⟩) this, World.cell?_of_block (a := ⟨k, i, none⟩) (h7 k hk1 hk2)]
set_option maxHeartbeats 4000000 in
theorem bput_any (b : Nat) (v : Value) (B : Bk) (a : Option Addr) (cap : Nat) (xs : List Ev) (w : World) (h : BookAt w b v B) (hx : Evs w a xs) (hlost : B.lost + xs.length ≤ 1000000) (hab : xs ≠ [] → ∀ ad, a = some ad → ad.block ≠ b ∧ v.ownBlock ≠ some ad.block) :
    Calls Try.prog 9 #[.pointer (some ⟨b, 0, none⟩), .slice a xs.length cap] w fun e w' => e = .returned (.tuple #[]) ∧ ∃ v', BookAt w' b v' (B.puts xs) ∧ Moved w w' b v v' B.L.length (B.puts xs).L.length := by
  have hxl : xs.length ≤ 1000000 := by have := h.ok.lost; omega
  have HX := Lib.hid hx
  have HB := Lib.hid h
  have HA := Lib.hid hab
  clear hx hab
  go_enter Try.func9, Try.ntmps9
  go_wp2
  go_loopw [9] (fun p wr => ∃ k : Nat, p = .int .i64 k ∧ k ≤ xs.length ∧ ∃ v1, BookAt wr b v1 (B.puts (xs.take k)) ∧ Moved w wr b v v1 B.L.length (B.puts (xs.take k)).L.length) (fun p _ => xs.length - (intOf p).toNat)
  case atStart => exact ⟨0, rfl, by omega, v, h, Moved.refl _ _ _ _⟩
  case round =>
    clear h
    obtain ⟨k, rfl, hk, v1, hbk, hmv⟩ := hrel
    by_cases hlt : k < xs.length
    · have g1 : xs[k]? = some xs[k] := List.getElem?_eq_getElem hlt
      have hlo : (B.puts (xs.take k)).lost ≤ 1000000 := by have := B.puts_lost (xs.take k); simp at this; omega
      have HP := Lib.hid (B.puts_snoc xs g1)
      have hxr : Evs wr a xs := by
        rcases HX.out with h0 | ⟨b1, o1, rfl, hlt1, hc⟩
        · exact .inl h0
        · obtain ⟨n1, n2⟩ := HA.out (fun e => by simp [e] at hlt) _ rfl
          exact .inr ⟨b1, o1, rfl, Nat.lt_of_lt_of_le hlt1 hmv.size, fun i hi j hj => by rw [World.cell?_of_block (hmv.block b1 hlt1 n1 n2)]; exact hc i hi j hj⟩
      obtain ⟨b1, o1, rfl, hb1, x1, x2, x3⟩ := hxr.at g1
      generalize xs[k] = x at *
      clear g1 hxr
      generalize B.puts (xs.take k) = B1 at *
      obtain ⟨a1, cap1, rfl, h1, h2, h3, h4⟩ := hbk.opened
      have hok := hbk.ok.room
      have hlen := hbk.ok.len
      have hl0 := hbk.ok.lost
      haveI : IsBlk wr b _ _ := ⟨hbk.blk⟩
      haveI : LeSize (b + 1) wr := ⟨hbk.lt⟩
      have c0 : wr.cell? ⟨b, 0, none⟩ = some (.slice a1 B1.L.length cap1) := by rw [IsBlk.cell]; rfl
      have c1 : wr.cell? ⟨b, 1, none⟩ = some (.int .i64 B1.room) := by rw [IsBlk.cell]; rfl
      have c2 : wr.cell? ⟨b, 2, none⟩ = some (.int .i64 B1.lost) := by rw [IsBlk.cell]; rfl
      have f0 : wr.frozen? ⟨b, 0, none⟩ = false := IsBlk.frozen 0
      have f2 : wr.frozen? ⟨b, 2, none⟩ = false := IsBlk.frozen 2
      have j_c0 := HasCell.of c0
      have j_c2 := HasCell.of c2
      by_cases hf : (B1.L.length : Int) = B1.room
      · have hf2 : ((B1.L.length : Int) == B1.room) = true := beq_iff_eq.2 hf
        have hPL : Hid ((B1.put x).L = B1.L.drop 1 ++ [x] ∧ (B1.put x).room = B1.room ∧ (B1.put x).lost = B1.lost + 1) := Lib.hid (by unfold Bk.put; rw [if_pos hf]; exact ⟨rfl, rfl, rfl⟩)
        have hpos : 1 ≤ B1.L.length := by omega
        obtain ⟨g, rfl⟩ : ∃ g, a1 = some ⟨g, 0, none⟩ := by
          rcases hbk.row.2 with ⟨e, _⟩ | ⟨g, _, _, e, _⟩
          · simp at e; omega
          · simp at e; exact ⟨g, e.1⟩
        have hT := Lib.hid (evs_tail h3)
        have hbl := Lib.hid hbk.blk
        have hbL := Lib.hid hbk
        have HM := Lib.hid hmv
        clear hf hbk hmv h3
        by_cases h1n : B1.L.length = 1
        · clear hpos
          go_wp2
          generalize hW : ((wr.setCell ⟨b, 0, none⟩ (.slice (some ⟨g, 0, none⟩) 0 0)).setCell ⟨b, 2, none⟩ (.int .i64 (B1.lost + 1))) = W6
          have hx6 : ∀ k, k ≠ b → W6.heap[k]? = wr.heap[k]? := fun k hk => by
            rw [← hW, Below.heap_setCell _ _ _ _ hk, Below.heap_setCell _ _ _ _ hk]
          have hs6 : W6.heap.size = wr.heap.size := by rw [← hW]; simp [World.setCell]
          have hb6 : W6.heap[b]? = some (.cells #[.slice (some ⟨g, 0, none⟩) 0 0, .int .i64 B1.room, .int .i64 (B1.lost + 1)] 50) := by
            rw [← hW]; exact heap_set_same (heap_set_same hbl.out 0 _) 2 _
          have ho6 : W6.os = wr.os ∧ W6.tape = wr.tape ∧ W6.output = wr.output := by rw [← hW]; exact ⟨rfl, rfl, rfl⟩
          rw [← hs6]
          clear hW f0 f2 c0 c1 c2 j_c0 j_c2 x1 x2 x3
          haveI : IsBlk W6 b _ _ := ⟨hb6⟩
          haveI hlb : LeSize (b + 1) W6 := ⟨(Array.getElem?_eq_some_iff.1 hb6).1⟩
          have c0 : W6.cell? ⟨b, 0, none⟩ = some (.slice (some ⟨g, 0, none⟩) 0 0) := by rw [IsBlk.cell]; rfl
          have hgw := hbL.out.own g rfl
          have hT6 : Evs W6 (some ⟨g, 0, none⟩) (B1.L.drop 1) := by
            rcases (.inl (by simp [h1n]) : Evs wr (some ⟨g, 0, none⟩) (B1.L.drop 1)) with h | ⟨b9, o9, e9, hl9, hc9⟩
            · exact .inl h
            · refine .inr ⟨b9, o9, e9, by omega, fun i hi j hj => ?_⟩
              cases e9
              rw [World.cell?_of_block (a := ⟨g, _, none⟩) (hx6 g hgw.2.1)]; exact hc9 i hi j hj
          have HS6 := Lib.hid hs6
          have HX6 := Lib.hid hx6
          have HT6 := Lib.hid hT6
          clear hs6 hx6 hT6
          (refine wp_region_noPanic ?_; refine wp_region_envF [0] [1, 2, 3, 4, 5, 6] [7, 8, 9, 10] [6] [] noRc (by kernel_rfl) (by kernel_rfl) (fun _ _ _ _ _ h => (h : False).elim) noRc_stable ?_; simp only [pickO, List.filterMap_cons, List.filterMap_nil, List.getElem?_cons_succ, List.getElem?_cons_zero]; (repeat (first | (refine wpAddr_move rfl rfl rfl ?_; simp only [Act.put, List.setIfInBounds_toArray, List.set_cons_succ, List.set_cons_zero]) | (refine ⟨_, Or.inl ⟨rfl, fun w => ?_⟩, ?_⟩; (focus (simp [go_sem]; rfl))))); refine wpAddr_nil ?_; (try simp only [Act.put, List.setIfInBounds_toArray, List.set_cons_succ, List.set_cons_zero]))
          (repeat (first | (refine wpEH_skip rfl rfl ?_; simp only [Act.put, List.setIfInBounds_toArray, List.set_cons_succ, List.set_cons_zero]) | (refine wpEH_want rfl rfl ?_; intro Z hZs hZi hZn K hK; (first | (go_big_quiet_op; (first | go_big_quiet_on | go_big_quiet_call ((first | fail))))); clear hZs hZi hZn Z)))
          (refine wpEH_build 1 (.cells #[.int .i64 x.1, .int .i64 x.2.1, .int .i64 x.2.2] 34) rfl rfl (fun w => (by simp [go_sem] <;> rfl)) ?_; intro q6 p6 hq6 hp6; simp only [Act.put, List.setIfInBounds_toArray, List.set_cons_succ, List.set_cons_zero])
          (refine wpEH_nil ?_; intro u hinv; have hO6 := (hp6 _ (hinv 6 _ rfl)).out; have lO6 := laid_le hO6; clear hinv; clear hp6 p6; go_simp)
          have hu : Below W6.heap.size W6 u.w := by (repeat' (first | (with_reducible exact Below.refl _ _) | (with_reducible assumption) | (with_reducible refine Below.setCell ?_ ?_ _) | (with_reducible refine Below.alloc ?_ ?_ _) | (with_reducible refine Below.drew ?_) | (with_reducible refine Up.base _ ?_ ?_) | (with_reducible exact LeSize.out) | exact LeSize.out | exact Nat.le_add_right_of_le LeSize.out | exact Nat.le_add_right_of_le (Nat.le_add_right_of_le LeSize.out) | (with_reducible exact Nat.le_refl _) | (simp; done) | (simp; omega)))
          have hcq : ∀ j y, (evC x)[j]? = some y → u.w.cell? ⟨q6, j, none⟩ = some y := cells_blk (evC x) hO6
          refine wpList_app_full rfl _ _ rfl (off := 0) (L := B1.L.drop 1) rfl (by simp; omega) (HT6.out.below hu (Nat.le_refl _)) x (by rfl) hcq (by omega) ?_
          intro v' w1 hown' hg
          obtain ⟨a', n', cap', rfl⟩ := hown'.slice
          have hb1 : w1.heap[b]? = some (.cells #[.slice (some ⟨g, 0, none⟩) 0 0, .int .i64 B1.room, .int .i64 (B1.lost + 1)] 50) := by
            rw [hg.block b LeSize.out (by simp), hu.block b hlb.out]; exact hb6
          have hs1 := hg.size
          haveI : IsBlk w1 b _ _ := ⟨hb1⟩
          haveI : LeSize (b + 1) w1 := ⟨(Array.getElem?_eq_some_iff.1 hb1).1⟩
          have f0' : w1.frozen? ⟨b, 0, none⟩ = false := IsBlk.frozen 0
          have c0' : w1.cell? ⟨b, 0, none⟩ = some (.slice (some ⟨g, 0, none⟩) 0 0) := by rw [IsBlk.cell]; rfl
          have hus := hu.size
          have hs6 := HS6.out
          have hlt' := hlb.out
          obtain ⟨hK2, hM2⟩ := moved_put (B2 := B1.put x) hbL.out (hbL.out.ok.put x) (W7 := u.w) ⟨hu.os.trans ho6.1, hu.tape.trans ho6.2.1, hu.output.trans ho6.2.2⟩ (by omega) (fun k hk h => (hu.block k (by omega)).trans (HX6.out k h)) hg (.inr rfl) (fun _ => hg)
            (by rw [hPL.out.1]; exact hown'.less (by omega)) (fun k hk => .inr (by have := hown'.ne (b := k); rcases Nat.lt_or_ge k u.w.heap.size with h | h; exact absurd hk (this h); omega))
            (fun k h5 h6 => by have := hown'.ne (b := k) (by have := hbL.out.own k h5; omega); exact absurd h6 this) (by rw [hPL.out.2.1, hPL.out.2.2]; exact hb1)
          have HK2 := Lib.hid hK2
          have HM2 := Lib.hid (HM.out.trans hM2 fun j hj => ⟨(HB.out.own j hj).1, (HB.out.own j hj).2.1⟩)
          clear hK2 hM2 hs6
          go_wp2
          refine NoPanic.normal ?_
          go_wp2
          go_roundw
          case rel => exact ⟨k + 1, by go_num, by omega, _, by rw [HP.out]; exact HK2.out, by rw [HP.out]; exact HM2.out⟩
          case measure => simp [intOf]; omega
        · have h2n : 2 ≤ B1.L.length := by omega
          clear h1n hpos
          go_wp2
          generalize hW : ((wr.setCell ⟨b, 0, none⟩ (.slice (some ⟨g, 3, none⟩) (B1.L.length - 1) (B1.L.length - 1))).setCell ⟨b, 2, none⟩ (.int .i64 (B1.lost + 1))) = W6
          have hx6 : ∀ k, k ≠ b → W6.heap[k]? = wr.heap[k]? := fun k hk => by
            rw [← hW, Below.heap_setCell _ _ _ _ hk, Below.heap_setCell _ _ _ _ hk]
          have hs6 : W6.heap.size = wr.heap.size := by rw [← hW]; simp [World.setCell]
          have hb6 : W6.heap[b]? = some (.cells #[.slice (some ⟨g, 3, none⟩) (B1.L.length - 1) (B1.L.length - 1), .int .i64 B1.room, .int .i64 (B1.lost + 1)] 50) := by
            rw [← hW]; exact heap_set_same (heap_set_same hbl.out 0 _) 2 _
          have ho6 : W6.os = wr.os ∧ W6.tape = wr.tape ∧ W6.output = wr.output := by rw [← hW]; exact ⟨rfl, rfl, rfl⟩
          rw [← hs6]
          clear hW f0 f2 c0 c1 c2 j_c0 j_c2 x1 x2 x3
          haveI : IsBlk W6 b _ _ := ⟨hb6⟩
          haveI hlb : LeSize (b + 1) W6 := ⟨(Array.getElem?_eq_some_iff.1 hb6).1⟩
          have c0 : W6.cell? ⟨b, 0, none⟩ = some (.slice (some ⟨g, 3, none⟩) (B1.L.length - 1) (B1.L.length - 1)) := by rw [IsBlk.cell]; rfl
          have hgw := hbL.out.own g rfl
          have hT6 : Evs W6 (some ⟨g, 3, none⟩) (B1.L.drop 1) := by
            rcases (by simpa using hT.out : Evs wr (some ⟨g, 3, none⟩) (B1.L.drop 1)) with h | ⟨b9, o9, e9, hl9, hc9⟩
            · exact .inl h
            · refine .inr ⟨b9, o9, e9, by omega, fun i hi j hj => ?_⟩
              cases e9
              rw [World.cell?_of_block (a := ⟨g, _, none⟩) (hx6 g hgw.2.1)]; exact hc9 i hi j hj
          have HS6 := Lib.hid hs6
          have HX6 := Lib.hid hx6
          have HT6 := Lib.hid hT6
          clear hs6 hx6 hT6
          (refine wp_region_noPanic ?_; refine wp_region_envF [0] [1, 2, 3, 4, 5, 6] [7, 8, 9, 10] [6] [] noRc (by kernel_rfl) (by kernel_rfl) (fun _ _ _ _ _ h => (h : False).elim) noRc_stable ?_; simp only [pickO, List.filterMap_cons, List.filterMap_nil, List.getElem?_cons_succ, List.getElem?_cons_zero]; (repeat (first | (refine wpAddr_move rfl rfl rfl ?_; simp only [Act.put, List.setIfInBounds_toArray, List.set_cons_succ, List.set_cons_zero]) | (refine ⟨_, Or.inl ⟨rfl, fun w => ?_⟩, ?_⟩; (focus (simp [go_sem]; rfl))))); refine wpAddr_nil ?_; (try simp only [Act.put, List.setIfInBounds_toArray, List.set_cons_succ, List.set_cons_zero]))
          (repeat (first | (refine wpEH_skip rfl rfl ?_; simp only [Act.put, List.setIfInBounds_toArray, List.set_cons_succ, List.set_cons_zero]) | (refine wpEH_want rfl rfl ?_; intro Z hZs hZi hZn K hK; (first | (go_big_quiet_op; (first | go_big_quiet_on | go_big_quiet_call ((first | fail))))); clear hZs hZi hZn Z)))
          (refine wpEH_build 1 (.cells #[.int .i64 x.1, .int .i64 x.2.1, .int .i64 x.2.2] 34) rfl rfl (fun w => (by simp [go_sem] <;> rfl)) ?_; intro q6 p6 hq6 hp6; simp only [Act.put, List.setIfInBounds_toArray, List.set_cons_succ, List.set_cons_zero])
          (refine wpEH_nil ?_; intro u hinv; have hO6 := (hp6 _ (hinv 6 _ rfl)).out; have lO6 := laid_le hO6; clear hinv; clear hp6 p6; go_simp)
          have hu : Below W6.heap.size W6 u.w := by (repeat' (first | (with_reducible exact Below.refl _ _) | (with_reducible assumption) | (with_reducible refine Below.setCell ?_ ?_ _) | (with_reducible refine Below.alloc ?_ ?_ _) | (with_reducible refine Below.drew ?_) | (with_reducible refine Up.base _ ?_ ?_) | (with_reducible exact LeSize.out) | exact LeSize.out | exact Nat.le_add_right_of_le LeSize.out | exact Nat.le_add_right_of_le (Nat.le_add_right_of_le LeSize.out) | (with_reducible exact Nat.le_refl _) | (simp; done) | (simp; omega)))
          have hcq : ∀ j y, (evC x)[j]? = some y → u.w.cell? ⟨q6, j, none⟩ = some y := cells_blk (evC x) hO6
          refine wpList_app_full rfl _ _ rfl (off := 3) (L := B1.L.drop 1) rfl (by simp) (HT6.out.below hu (Nat.le_refl _)) x (by rfl) hcq (by omega) ?_
          intro v' w1 hown' hg
          obtain ⟨a', n', cap', rfl⟩ := hown'.slice
          have hb1 : w1.heap[b]? = some (.cells #[.slice (some ⟨g, 3, none⟩) (B1.L.length - 1) (B1.L.length - 1), .int .i64 B1.room, .int .i64 (B1.lost + 1)] 50) := by
            rw [hg.block b LeSize.out (by simp), hu.block b hlb.out]; exact hb6
          have hs1 := hg.size
          haveI : IsBlk w1 b _ _ := ⟨hb1⟩
          haveI : LeSize (b + 1) w1 := ⟨(Array.getElem?_eq_some_iff.1 hb1).1⟩
          have f0' : w1.frozen? ⟨b, 0, none⟩ = false := IsBlk.frozen 0
          have c0' : w1.cell? ⟨b, 0, none⟩ = some (.slice (some ⟨g, 3, none⟩) (B1.L.length - 1) (B1.L.length - 1)) := by rw [IsBlk.cell]; rfl
          have hus := hu.size
          have hs6 := HS6.out
          have hlt' := hlb.out
          obtain ⟨hK2, hM2⟩ := moved_put (B2 := B1.put x) hbL.out (hbL.out.ok.put x) (W7 := u.w) ⟨hu.os.trans ho6.1, hu.tape.trans ho6.2.1, hu.output.trans ho6.2.2⟩ (by omega) (fun k hk h => (hu.block k (by omega)).trans (HX6.out k h)) hg (.inr rfl) (fun _ => hg)
            (by rw [hPL.out.1]; exact hown'.less (by omega)) (fun k hk => .inr (by have := hown'.ne (b := k); rcases Nat.lt_or_ge k u.w.heap.size with h | h; exact absurd hk (this h); omega))
            (fun k h5 h6 => by have := hown'.ne (b := k) (by have := hbL.out.own k h5; omega); exact absurd h6 this) (by rw [hPL.out.2.1, hPL.out.2.2]; exact hb1)
          have HK2 := Lib.hid hK2
          have HM2 := Lib.hid (HM.out.trans hM2 fun j hj => ⟨(HB.out.own j hj).1, (HB.out.own j hj).2.1⟩)
          clear hK2 hM2 hs6
          go_wp2
          refine NoPanic.normal ?_
          go_wp2
          go_roundw
          case rel => exact ⟨k + 1, by go_num, by omega, _, by rw [HP.out]; exact HK2.out, by rw [HP.out]; exact HM2.out⟩
          case measure => simp [intOf]; omega
      · have hf2 : ((B1.L.length : Int) == B1.room) = false := beq_eq_false_iff_ne.2 hf
        have hPL : Hid ((B1.put x).L = B1.L ++ [x] ∧ (B1.put x).room = B1.room ∧ (B1.put x).lost = B1.lost) := Lib.hid (by unfold Bk.put; rw [if_neg hf]; exact ⟨rfl, rfl, rfl⟩)
        have HR := Lib.hid hbk.row
        have HK := Lib.hid hbk
        have HM := Lib.hid hmv
        have HW := Lib.hid (Below.refl wr.heap.size wr)
        clear hf hbk hmv h3
        go_wp2
        (refine wp_region_noPanic ?_; refine wp_region_envF [0] [1, 2, 3, 4, 5, 6] [7, 8, 9, 10] [6] [] noRc (by kernel_rfl) (by kernel_rfl) (fun _ _ _ _ _ h => (h : False).elim) noRc_stable ?_; simp only [pickO, List.filterMap_cons, List.filterMap_nil, List.getElem?_cons_succ, List.getElem?_cons_zero]; (repeat (first | (refine wpAddr_move rfl rfl rfl ?_; simp only [Act.put, List.setIfInBounds_toArray, List.set_cons_succ, List.set_cons_zero]) | (refine ⟨_, Or.inl ⟨rfl, fun w => ?_⟩, ?_⟩; (focus (simp [go_sem]; rfl))))); refine wpAddr_nil ?_; (try simp only [Act.put, List.setIfInBounds_toArray, List.set_cons_succ, List.set_cons_zero]))
        (repeat (first | (refine wpEH_skip rfl rfl ?_; simp only [Act.put, List.setIfInBounds_toArray, List.set_cons_succ, List.set_cons_zero]) | (refine wpEH_want rfl rfl ?_; intro Z hZs hZi hZn K hK; (first | (go_big_quiet_op; (first | go_big_quiet_on | go_big_quiet_call ((first | fail))))); clear hZs hZi hZn Z)))
        (refine wpEH_build 1 (.cells #[.int .i64 x.1, .int .i64 x.2.1, .int .i64 x.2.2] 34) rfl rfl (fun w => (by simp [go_sem] <;> rfl)) ?_; intro q6 p6 hq6 hp6; simp only [Act.put, List.setIfInBounds_toArray, List.set_cons_succ, List.set_cons_zero])
        (refine wpEH_nil ?_; intro u hinv; have hO6 := (hp6 _ (hinv 6 _ rfl)).out; have lO6 := laid_le hO6; clear hinv; clear hp6 p6; go_simp)
        have hu : Below wr.heap.size wr u.w := by (repeat' (first | (with_reducible exact Below.refl _ _) | (with_reducible assumption) | (with_reducible refine Below.setCell ?_ ?_ _) | (with_reducible refine Below.alloc ?_ ?_ _) | (with_reducible refine Below.drew ?_) | (with_reducible refine Up.base _ ?_ ?_) | (with_reducible exact LeSize.out) | exact LeSize.out | exact Nat.le_add_right_of_le LeSize.out | exact Nat.le_add_right_of_le (Nat.le_add_right_of_le LeSize.out) | (with_reducible exact Nat.le_refl _) | (simp; done) | (simp; omega)))
        have hcq : ∀ j y, (evC x)[j]? = some y → u.w.cell? ⟨q6, j, none⟩ = some y := cells_blk (evC x) hO6
        have hru := HR.out.below hu
        refine wpList_app_row rfl _ _ rfl (b + 1) rfl hru x (by rfl) hcq (by omega) LeSize.out ?_
        intro v' w1 hown' hg hnew hg2
        obtain ⟨a', n', cap', rfl⟩ := hown'.slice
        have hne := hru.ne (b := b) (by omega)
        have hb1 : w1.heap[b]? = some (.cells #[.slice a1 B1.L.length cap1, .int .i64 B1.room, .int .i64 B1.lost] 50) := by
          rw [hg.block b (LeSize.out) (by simpa using fun e => hne e.symm), hu.block b (LeSize.out)]; exact HK.out.blk
        have hs1 := hg.size
        haveI : IsBlk w1 b _ _ := ⟨hb1⟩
        haveI : LeSize (b + 1) w1 := ⟨(Array.getElem?_eq_some_iff.1 hb1).1⟩
        have f0' : w1.frozen? ⟨b, 0, none⟩ = false := IsBlk.frozen 0
        have c0' : w1.cell? ⟨b, 0, none⟩ = some (.slice a1 B1.L.length cap1) := by rw [IsBlk.cell]; rfl
        obtain ⟨hK2, hM2⟩ := moved_put (B2 := B1.put x) HK.out (HK.out.ok.put x) ⟨hu.os, hu.tape, hu.output⟩ hu.size (fun k hk _ => hu.block k hk) hg (.inl rfl) hg2 (by rw [hPL.out.1]; exact hown') (fun k hk => by rcases hnew k hk with h | h; exact .inl h; exact .inr (Nat.le_trans hu.size h)) (fun _ _ _ => ⟨x, hPL.out.1⟩) (by rw [hPL.out.2.1, hPL.out.2.2]; exact hb1)
        have HK2 := Lib.hid hK2
        have HM2 := Lib.hid (HM.out.trans hM2 fun j hj => ⟨(HB.out.own j hj).1, (HB.out.own j hj).2.1⟩)
        clear hK2 hM2
        go_wp2
        refine NoPanic.normal ?_
        go_wp2
        go_roundw
        case rel => exact ⟨k + 1, by go_num, by omega, _, by rw [HP.out]; exact HK2.out, by rw [HP.out]; exact HM2.out⟩
        case measure => simp [intOf]; omega
    · obtain rfl : k = xs.length := by omega
      go_wp2
      go_returns
      exact ⟨rfl, v1, by simpa using hbk, by simpa using hmv⟩
end Go.Proofs.Ytpmnhieehkjnmaa
