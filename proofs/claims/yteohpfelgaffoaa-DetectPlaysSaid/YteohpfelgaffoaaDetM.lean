/- The contract of Script: the walk. -/
import Derived.Test.YteohpfelgaffoaaDetJ
import Derived.Deep.CutBlock
import Derived.Deep.DeepMust
namespace Go.Proofs.Yteohpfelgaffoaa
open Go.RowKit
set_option linter.unusedVariables false
attribute [local go_sem] IsBlk.cell IsBlk.frozen

theorem flatK_len {α : Type} {C : α → List Value} {k : Nat} (hC : ∀ x, (C x).length = k) : ∀ ys : List α, (ys.flatMap C).length = ys.length * k
  | [] => by simp
  | y :: ys => by simp [flatK_len hC ys, hC, Nat.add_mul]; omega
/-- Several elements at once, put to a row of the call's own. -/
theorem wpList_app_owns {α : Type} {C : α → List Value} {e : TypeId} {k : Nat} {P : Program} (hC : ∀ x, (C x).length = k) (bytes : Nat) (z : Value) (t : TypeId) (hu : P.underlying t = some (.slice e)) (hinfo : (P.info? e).map (fun i => (i.zero, i.size, i.bytes)) = some (some z, k, bytes)) (hz : z.cells.size = k) (hk : 0 < k) (hby : bytes ≤ 1000)
    {ops : Array Oper} {rest : List Oper} {o : Oper} {a : Act} {w : World} {Q : Exit → Act → World → Prop} (hgd : o.guard = none) (s x : Operand)
    (ho : o.op = .call { callee := .builtin .append, args := #[s, x], argTypes := #[t, t] })
    (base : Nat) {v : Value} {xs : List α} (hs : a.eval s = v) (hown : OwnK e k C w base v xs)
    {b m cap : Nat} (ys : List α) (hm : ys.length = m) (h1 : ∀ y, ∀ u ∈ C y, u.oneCell' = true) (hx : a.eval x = .slice (some ⟨b, 0, none⟩) m cap) (hc : ∀ j u, (ys.flatMap C)[j]? = some u → w.cell? ⟨b, j, none⟩ = some u) (hn : xs.length + ys.length ≤ 1000000) (hbase : base ≤ w.heap.size)
    (h : ∀ v' w', OwnK e k C w' base v' (xs ++ ys) → w.grownBy w' v.ownBlock → wpList P ops Q rest (a.put o.dst v') w') : wpList P ops Q (o :: rest) a w := by
  subst hm
  obtain ⟨i0, hinfo, hz0, hz1, hz2⟩ := info_parts hinfo
  refine wpList_append_own w hgd s x t ho base e i0 z k bytes hu hinfo hz0 hz1 hz2 hz hk v xs.length _ hs hown ⟨b, 0, none⟩ ys.length cap (ys.flatMap C) hx (flatK_len hC ys) ?_ ?_ ?_ ?_ hbase (fun v' w' h1 h2 _ => h v' w' ?_ h2)
  · intro j u hj; rw [Addr.add_mid, Nat.zero_add]; exact hc j u hj
  · intro u hu; obtain ⟨y, _, hy⟩ := List.mem_flatMap.1 hu; exact h1 y u hy
  · unfold maxLen; omega
  · have : (xs.length + ys.length) * bytes ≤ 1000000 * 1000 := Nat.mul_le_mul hn hby
    omega
  · unfold OwnK; simpa using h1
/-- What is laid already does not lie in a block to come. -/
theorem own_old {α : Type} {C : α → List Value} {e : TypeId} {k : Nat} {w : World} {base : Nat} {v : Value} {xs : List α} (h : OwnK e k C w base v xs) : v.ownBlock ≠ some w.heap.size := by
  rcases h.2 with ⟨rfl, _⟩ | ⟨g, cap, cur, rfl, hg, hc, _⟩
  · simp [Value.ownBlock]
  · have := (Array.getElem?_eq_some_iff.1 hc).1
    simp [Value.ownBlock]; omega
theorem wrap_mul6 (m : Nat) (h : m < 30) : IntKind.i64.wrap ((1 + (m : Int)) * 6) = (1 + (m : Int)) * 6 := by
  have h2 : IntKind.i64.bits = 64 := rfl
  unfold IntKind.wrap
  simp only [h2]
  simp [IntKind.signed]
  omega
theorem wpList_mulI {ops : Array Oper} {rest : List Oper} {op : Oper} {a : Act} {w : World} {Q : Exit → Act → World → Prop} {x y : Operand} {u v r : Int} (hgd : op.guard = none) (ho : op.op = .binOp .mul 3 x y 3)
    (hx : a.eval x = .int .i64 u) (hy : a.eval y = .int .i64 v) (hr : IntKind.i64.wrap (u * v) = r) (h : wpList Try.prog ops Q rest (a.put op.dst (.int .i64 r)) w) : wpList Try.prog ops Q (op :: rest) a w := by
  have e : Sem.run Try.prog (execOp a.eval op) w = .ok (.value (.int .i64 r)) w := by
    unfold execOp
    simp only [ho, hx, hy]
    subst hr
    rfl
  refine wpList_plain hgd fun _ hK => ?_
  unfold Oper.wp
  rw [e]
  exact hK _ _ h
theorem run_conv0 (w : World) : Sem.run Try.prog (convert 3 24 (.int .i64 0)) w = .ok (.float .f64 0) w := by kernel_rfl
theorem run_conv20 (w : World) : Sem.run Try.prog (convert 3 24 (.int .i64 20)) w = .ok (.float .f64 4626322717216342016) w := by kernel_rfl
def sixV (g : Nat) : Nat := if g = 0 then nanF else if g = 1 then 9218868437227405312 else if g = 2 then 9223372036854775808 else if g = 3 then 4613937818241073152 else if g = 4 then 4711630319722168320 else 4604930618986332160
theorem run_index6 {g : Nat} (h : g < 6) (w : World) : Sem.run Try.prog (Instr.index 89 (.agg #[.float .f64 nanF, .float .f64 9218868437227405312, .float .f64 9223372036854775808, .float .f64 4613937818241073152, .float .f64 4711630319722168320, .float .f64 4604930618986332160]) (.int .i64 (g : Int))) w = .ok (.float .f64 (sixV g)) w := by
  rcases (show g = 0 ∨ g = 1 ∨ g = 2 ∨ g = 3 ∨ g = 4 ∨ g = 5 by omega) with rfl | rfl | rfl | rfl | rfl | rfl <;> kernel_rfl
theorem ScOn.setQ {w wr : World} {o : Value} {frs : List Fr} {q i : Nat} {u : Value} (h : ScOn w wr o frs q) (hq : w.heap.size + 2 ≤ q) (hne : o.ownBlock ≠ some q) (hs : ∀ f ∈ frs, (Value.slice f.sa f.sl f.sc).ownBlock ≠ some q) : ScSt w (wr.setCell ⟨q, i, none⟩ u) o frs := by
  obtain ⟨⟨⟨S, hx⟩, ⟨ak, li, hf⟩, ho, hfr, hl, hbw⟩, pu, l1, h1⟩ := h
  exact ⟨⟨S, ⟨by rw [Below.heap_setCell _ _ _ _ (by simp; omega)]; exact hx.out⟩⟩, ⟨ak, li, ⟨by rw [Below.heap_setCell _ _ _ _ (by simp; omega)]; exact hf.out⟩⟩, ho.kept (grownBy_set _ _ _ _) (.inr hne), fun f hf => by
    obtain ⟨zs, hl, ho⟩ := hfr f hf
    exact ⟨zs, hl, ho.kept (grownBy_set _ _ _ _) (.inr (hs f hf))⟩, hl, hbw.setCell (p := ⟨q, i, none⟩) (by simp; omega) _⟩
theorem ScOn.setQ1 {w wr : World} {o : Value} {frs : List Fr} {q : Nat} {y : Int} (h : ScOn w wr o frs q) (hq : w.heap.size + 2 ≤ q) (hne : o.ownBlock ≠ some q) (hs : ∀ f ∈ frs, (Value.slice f.sa f.sl f.sc).ownBlock ≠ some q) : ScOn w (wr.setCell ⟨q, 1, none⟩ (.int .i64 y)) o frs q := by
  have h2 := h.setQ (i := 1) (u := .int .i64 y) hq hne hs
  obtain ⟨pu, l1, h1⟩ := h.one
  exact ⟨h2, y, l1, ⟨by rw [heap_set_same h1.out]; rfl⟩⟩
theorem ScOn.setQ3 {w wr : World} {o : Value} {frs : List Fr} {q : Nat} {y : Int} (h : ScOn w wr o frs q) (hq : w.heap.size + 2 ≤ q) (hne : o.ownBlock ≠ some q) (hs : ∀ f ∈ frs, (Value.slice f.sa f.sl f.sc).ownBlock ≠ some q) : ScOn w (wr.setCell ⟨q, 3, none⟩ (.int .i64 y)) o frs q := by
  have h2 := h.setQ (i := 3) (u := .int .i64 y) hq hne hs
  obtain ⟨pu, l1, h1⟩ := h.one
  exact ⟨h2, pu, y, ⟨by rw [heap_set_same h1.out]; rfl⟩⟩
theorem ScOn.setQ5 {w wr : World} {o : Value} {frs : List Fr} {q : Nat} (h : ScOn w wr o frs q) (hq : w.heap.size + 2 ≤ q) (hne : o.ownBlock ≠ some q) (hs : ∀ f ∈ frs, (Value.slice f.sa f.sl f.sc).ownBlock ≠ some q) : ScOn w (wr.setCell ⟨q, 5, none⟩ (.bool false)) o frs q := by
  have h2 := h.setQ (i := 5) (u := .bool false) hq hne hs
  obtain ⟨pu, l1, h1⟩ := h.one
  exact ⟨h2, pu, l1, ⟨by rw [heap_set_same h1.out]; rfl⟩⟩
theorem flC_one (y : Nat) : ∀ u ∈ flC y, u.oneCell' = true := by simp [flC, Value.oneCell']
theorem fl_flat (S : Nat → Nat) (k : Nat) : ((List.range k).map S).flatMap flC = (List.range k).map fun j => Value.float .f64 (S j) := by
  induction k with
  | zero => rfl
  | succ k ih => simp [List.range_succ, ih, flC]
theorem fl_cells {w : World} {b : Nat} {S : Nat → Nat} {t : TypeId} (h : IsBlk w b (smF S 16) t) {k : Nat} (hk : k ≤ 16) : ∀ j u, (((List.range k).map S).flatMap flC)[j]? = some u → w.cell? ⟨b, j, none⟩ = some u := fun j u hj => by
  rw [fl_flat] at hj
  have hl := (List.getElem?_eq_some_iff.1 hj).1
  simp at hl
  simp [hl] at hj
  subst hj
  exact laid_cell h.out _ (by rw [smF_get _ _ (by omega), if_pos (by omega)])
theorem smF_z16 : smF (fun _ => 0) 16 = #[.float .f64 0, .float .f64 0, .float .f64 0, .float .f64 0, .float .f64 0, .float .f64 0, .float .f64 0, .float .f64 0, .float .f64 0, .float .f64 0, .float .f64 0, .float .f64 0, .float .f64 0, .float .f64 0, .float .f64 0, .float .f64 0] := by kernel_rfl
/-- While the frames of a row are put. -/
structure ScIn (w wr : World) (o : Value) (frs : List Fr) (q : Nat) (sv : Value) (zs : List Nat) (n : Nat) : Prop where
  st : ScSt w wr o frs
  sm : OwnK 24 1 flC wr (w.heap.size + 2) sv zs
  one : n = 0 → ∃ pu li, IsBlk wr q #[.slice none 0 0, .int .i64 pu, .int .i64 0, .int .i64 li, .int .i64 0, .bool false] 60
/-- A frame that is made. -/
structure ScMi (w wr : World) (o : Value) (frs : List Fr) (p : Nat) (sa : Option Addr) (sl sc : Nat) (zs : List Nat) : Prop where
  st : ScSt w wr o frs
  sm : OwnK 24 1 flC wr (w.heap.size + 2) (.slice sa sl sc) zs
  g : ∃ pu ak li, IsBlk wr p #[.slice sa sl sc, .int .i64 pu, .int .i64 ak, .int .i64 li, .int .i64 0, .bool false] 60
set_option maxHeartbeats 16000000 in
set_option maxRecDepth 100000 in
theorem lscript_any (a : Option Addr) (cap : Nat) (zs : List Int) (w : World) (hl : zs.length ≤ 9223372036854775807) (hz : Ints w a zs) :
    Calls Try.prog 14 #[.slice a zs.length cap, .bool false] w fun e w' => ∃ o frs, e = .returned o ∧ OwnK 60 6 frC w' w.heap.size o frs ∧ FrsOf w' w.heap.size frs ∧ frs.length ≤ 1500 ∧ Below w.heap.size w w' := by
  have HZ := Lib.hid hz
  have HZL := Lib.hid hl
  clear hz hl
  go_enter Try.func14, Try.ntmps14
  go_wp2
  go_loopw [5, 7, 9] (fun o few i wr => ∃ n : Nat, n ≤ zs.length ∧ i = .int .i64 n ∧ (∃ k : Nat, k ≤ 16 ∧ few = .int .i64 k) ∧ ∃ frs, Hid (ScSt w wr o frs)) (fun _ _ i _ => zs.length - (intOf i).toNat)
  case atStart =>
    have ix : IsBlk ((w.alloc (.cells #[.float .f64 0, .float .f64 0, .float .f64 0, .float .f64 0, .float .f64 0, .float .f64 0, .float .f64 0, .float .f64 0, .float .f64 0, .float .f64 0, .float .f64 0, .float .f64 0, .float .f64 0, .float .f64 0, .float .f64 0, .float .f64 0] 39)).alloc (.cells #[.slice none 0 0, .int .i64 0, .int .i64 0, .int .i64 0, .int .i64 0, .bool false] 60)) w.heap.size (smF (fun _ => 0) 16) 39 := by rw [smF_z16]; exact inferInstance
    have iF : IsBlk ((w.alloc (.cells #[.float .f64 0, .float .f64 0, .float .f64 0, .float .f64 0, .float .f64 0, .float .f64 0, .float .f64 0, .float .f64 0, .float .f64 0, .float .f64 0, .float .f64 0, .float .f64 0, .float .f64 0, .float .f64 0, .float .f64 0, .float .f64 0] 39)).alloc (.cells #[.slice none 0 0, .int .i64 0, .int .i64 0, .int .i64 0, .int .i64 0, .bool false] 60)) (w.heap.size + 1) #[.slice none 0 0, .int .i64 0, .int .i64 0, .int .i64 0, .int .i64 0, .bool false] 60 := inferInstance
    exact ⟨0, Nat.zero_le _, rfl, ⟨16, by omega, rfl⟩, [], Lib.hid ⟨⟨_, ix⟩, ⟨0, 0, iF⟩, OwnK.nil _ _, FrsOf.nil _ _, by simp, by (repeat' (first | (with_reducible exact Below.refl _ _) | (with_reducible assumption) | (with_reducible refine Below.setCell ?_ ?_ _) | (with_reducible refine Below.alloc ?_ ?_ _) | (with_reducible refine Below.drew ?_) | (with_reducible refine Up.base _ ?_ ?_) | (with_reducible exact LeSize.out) | exact LeSize.out | exact Nat.le_add_right_of_le LeSize.out | exact Nat.le_add_right_of_le (Nat.le_add_right_of_le LeSize.out) | (with_reducible exact Nat.le_refl _) | (simp; done) | (simp; omega)))⟩⟩
  case round =>
    obtain ⟨n, hn, rfl, ⟨k, hk, rfl⟩, frs, HS⟩ := hrel
    obtain ⟨oa, oc, rfl, _⟩ := OwnK.opened frC_len HS.out.own
    have hbw := HS.out.bel
    haveI : LeSize w.heap.size wr := ⟨hbw.size⟩
    by_cases hgo : n < zs.length ∧ n < 120 ∧ frs.length < 1500
    · obtain ⟨h1, h2, h3⟩ := hgo
      have h1I : (n : Int) < zs.length := by omega
      have h2I : (n : Int) < 120 := by omega
      have h3I : (frs.length : Int) < 1500 := by omega
      obtain ⟨zb, zoff, rfl, hzb, hzc⟩ := Row1.cell HZ.out (by omega)
      haveI : LeSize (zb + 1) wr := ⟨Nat.le_trans hzb hbw.size⟩
      have hz : wr.cell? ⟨zb, zoff + n, none⟩ = some (.int .i64 (zs.getD n 0)) := by rw [hbw.cell (p := ⟨zb, zoff + n, none⟩) hzb]; exact hzc n h1
      clear hzc
      have hv0 := Int.emod_nonneg (zs.getD n 0) (show (1099511627776 : Int) ≠ 0 by omega)
      have hv1 := Int.emod_lt_of_pos (zs.getD n 0) (show (0 : Int) < 1099511627776 by omega)
      generalize zs.getD n 0 = z at *
      obtain ⟨v, hv⟩ : ∃ v : Nat, z % 1099511627776 = v := ⟨(z % 1099511627776).toNat, by omega⟩
      have hvl : v < 1099511627776 := by omega
      clear hv0 hv1
      obtain ⟨kk, hkk⟩ : ∃ kk : Nat, v / 16 % 64 = kk := ⟨_, rfl⟩
      have hk64 : kk < 64 := by omega
      have e1 : (v : Int) / 16 % 64 = (kk : Int) := by omega
      obtain ⟨m, hm⟩ : ∃ m : Nat, v / 1024 % 30 = m := ⟨_, rfl⟩
      have hm30 : m < 30 := by omega
      have e2 : (v : Int) / 1024 % 30 = (m : Int) := by omega
      obtain ⟨c, hc⟩ : ∃ c : Nat, v % 16 = c := ⟨_, rfl⟩
      have hc16 : c < 16 := by omega
      have e3 : (v : Int) % 16 = (c : Int) := by omega
      obtain ⟨d, hd⟩ : ∃ d : Nat, kk % 16 = d := ⟨_, rfl⟩
      have hd16 : d < 16 := by omega
      have e4 : (kk : Int) % 16 = (d : Int) := by omega
      obtain ⟨r, hr⟩ : ∃ r : Nat, kk % 4 = r := ⟨_, rfl⟩
      have hr4 : r ≤ 8 := by omega
      have e5 : (kk : Int) % 4 = (r : Int) := by omega
      obtain ⟨g, hg⟩ : ∃ g : Nat, kk % 6 = g := ⟨_, rfl⟩
      have hg6 : g < 6 := by omega
      have e6 : (kk : Int) % 6 = (g : Int) := by omega
      obtain ⟨f, hf⟩ : ∃ f : Nat, kk % 17 = f := ⟨_, rfl⟩
      have hf17 : f ≤ 16 := by omega
      have e7 : (kk : Int) % 17 = (f : Int) := by omega
      obtain ⟨b, hb⟩ : ∃ b : Nat, kk % 2 = b := ⟨_, rfl⟩
      have hb2 : b < 2 := by omega
      have e8 : (kk : Int) % 2 = (b : Int) := by omega
      have HSH := Lib.hid (run_shl1 r hr4)
      clear hkk hm hc hd hr hg hf hb
      go_upto_block 2 with (first | (go_at_call 8; refine (place_big _ _ _ (by omega) (by omega)).mono ?_; rintro e w' ⟨rfl, rfl⟩))
      have HON : Hid (ScOn w (wr.alloc (.cells #[.slice none 0 0, .int .i64 0, .int .i64 0, .int .i64 0, .int .i64 0, .bool false] 60)) (.slice oa frs.length oc) frs wr.heap.size) := Lib.hid ⟨HS.out.below ((Below.refl _ _).alloc (Nat.le_refl _) _), 0, 0, inferInstance⟩
      have hb1 : Below w.heap.size w (wr.alloc (.cells #[.slice none 0 0, .int .i64 0, .int .i64 0, .int .i64 0, .int .i64 0, .bool false] 60)) := by (repeat' (first | (with_reducible exact Below.refl _ _) | (with_reducible assumption) | (with_reducible refine Below.setCell ?_ ?_ _) | (with_reducible refine Below.alloc ?_ ?_ _) | (with_reducible refine Below.drew ?_) | (with_reducible refine Up.base _ ?_ ?_) | (with_reducible exact LeSize.out) | exact LeSize.out | exact Nat.le_add_right_of_le LeSize.out | exact Nat.le_add_right_of_le (Nat.le_add_right_of_le LeSize.out) | (with_reducible exact Nat.le_refl _) | (simp; done) | (simp; omega)))
      have hq1 : wr.heap.size < (wr.alloc (.cells #[.slice none 0 0, .int .i64 0, .int .i64 0, .int .i64 0, .int .i64 0, .bool false] 60)).heap.size := by simp
      generalize (wr.alloc (.cells #[.slice none 0 0, .int .i64 0, .int .i64 0, .int .i64 0, .int .i64 0, .bool false] 60)) = W1 at *
      have hqw : w.heap.size + 2 ≤ wr.heap.size := by
        obtain ⟨ak, li, hf⟩ := HS.out.f
        have := (Array.getElem?_eq_some_iff.1 hf.out).1; omega
      obtain ⟨q, hq⟩ : ∃ q, wr.heap.size = q := ⟨_, rfl⟩
      rw [hq] at HON hq1 hqw
      rw [hq]
      have HQ : Hid ((Value.slice oa frs.length oc).ownBlock ≠ some q ∧ ∀ f ∈ frs, (Value.slice f.sa f.sl f.sc).ownBlock ≠ some q) := Lib.hid ⟨hq ▸ own_old HS.out.own, fun f hf => by
        obtain ⟨zs, _, ho⟩ := HS.out.fr f hf
        exact hq ▸ own_old ho⟩
      clear HS hq hz hbw
      go_cut [7, 12] (fun s7 s12 wx => (∃ k' : Nat, k' ≤ 16 ∧ s7 = .int .i64 k') ∧ (∃ m' : Nat, m' ≤ 200 ∧ s12 = .int .i64 m') ∧ ScOn w wx (.slice oa frs.length oc) frs q)
      case first =>
        have e2' : ((1 : Int) + m) = ((1 + m : Nat) : Int) := by omega
        obtain ⟨S, hx⟩ := HON.out.st.x
        obtain ⟨ak, li, hf⟩ := HON.out.st.f
        obtain ⟨pu, lo, ho⟩ := HON.out.one
        haveI : Apart w.heap.size q := ⟨by omega⟩
        haveI : Apart q w.heap.size := ⟨by omega⟩
        haveI : Apart (w.heap.size + 1) q := ⟨by omega⟩
        haveI : Apart q (w.heap.size + 1) := ⟨by omega⟩
        have hfx : W1.frozen? ⟨w.heap.size, d, none⟩ = false := laid_open hx.out _
        have hcx : W1.cell? ⟨w.heap.size, d, none⟩ = some (.float .f64 (S d)) := laid_cell hx.out _ (by rw [smF_get _ _ hd16, if_pos hd16])
        have hdI : (d : Int) < 16 := by omega
        rcases (show c = 0 ∨ c = 1 ∨ c = 2 ∨ c = 3 ∨ c = 4 ∨ c = 5 ∨ c = 6 ∨ c = 7 ∨ c = 8 ∨ c = 9 ∨ c = 10 ∨ c = 11 ∨ c = 12 ∨ c = 13 ∨ c = 14 ∨ c = 15 by omega) with rfl | rfl | rfl | rfl | rfl | rfl | rfl | rfl | rfl | rfl | rfl | rfl | rfl | rfl | rfl | rfl
        iterate 3
          · as_aux_lemma =>
              obtain ⟨y, W2, hs, hb2⟩ := run_fsub 24 4626322717216342016 (S d) W1
              have HON2 := Lib.hid (HON.out.below hb2)
              obtain ⟨S2, hx2⟩ := HON2.out.st.x
              have hfx2 : W2.frozen? ⟨w.heap.size, d, none⟩ = false := laid_open hx2.out _
              have hcx2 : W2.cell? ⟨w.heap.size, d, none⟩ = some (.float .f64 (S2 d)) := laid_cell hx2.out _ (by rw [smF_get _ _ hd16, if_pos hd16])
              clear hb2
              go_wp2
              go_meet
              exact ⟨⟨k, hk, rfl⟩, ⟨1 + m, by omega, rfl⟩, HON2.out.set (HON2.out.st.putX hd16 y) (by omega)⟩
        · as_aux_lemma =>
            have hidx := run_index6 hg6
            go_wp2_with (first | (go_at_call 10; refine (nan_any _).mono ?_; rintro e w' ⟨rfl, rfl⟩; dsimp only) | (go_at_call 11; refine (infQ_any _).mono ?_; rintro e w' ⟨rfl, rfl⟩; dsimp only) | (go_at_call 38; refine (cps_any _).mono ?_; rintro e w' ⟨rfl, rfl⟩; dsimp only))
            go_meet
            exact ⟨⟨k, hk, rfl⟩, ⟨1 + m, by omega, rfl⟩, HON.out.set (HON.out.st.putX hd16 _) (by omega)⟩
        iterate 2
          · as_aux_lemma =>
              go_wp2
              go_meet
              exact ⟨⟨k, hk, rfl⟩, ⟨1 + m, by omega, rfl⟩, HON.out.setQ1 hqw HQ.out.1 HQ.out.2⟩
        · as_aux_lemma =>
            have hsh := HSH.out
            go_wp2
            go_meet
            exact ⟨⟨k, hk, rfl⟩, ⟨1 + m, by omega, rfl⟩, HON.out.set (HON.out.st.putF2 _) (by omega)⟩
        · as_aux_lemma =>
            have hsh := HSH.out
            go_wp2
            go_meet
            exact ⟨⟨k, hk, rfl⟩, ⟨1 + m, by omega, rfl⟩, HON.out.setQ3 hqw HQ.out.1 HQ.out.2⟩
        · as_aux_lemma =>
            have hsh := HSH.out
            go_wp2
            go_meet
            exact ⟨⟨k, hk, rfl⟩, ⟨1 + m, by omega, rfl⟩, HON.out.set (HON.out.st.putF3 _) (by omega)⟩
        · as_aux_lemma =>
            obtain ⟨M, hM⟩ : ∃ M : Nat, (1 + (m : Int)) = M := ⟨1 + m, by omega⟩
            have hM30 : (M : Int) ≤ 30 := by omega
            rw [hM]
            clear hM e2' e2
            go_wp2
            go_meet
            exact ⟨⟨k, hk, rfl⟩, ⟨M * 6, by omega, by simp⟩, HON.out⟩
        · as_aux_lemma =>
            have hcv0 := run_conv0
            have hcv20 := run_conv20
            rcases (show b = 0 ∨ b = 1 by omega) with rfl | rfl
            all_goals
              go_wp2
              go_loopw [14] (fun i wx => ∃ n : Nat, n ≤ 16 ∧ i = .int .i64 n ∧ Hid (ScOn w wx (.slice oa frs.length oc) frs q)) (fun i _ => 16 - (intOf i).toNat)
              case atStart => exact ⟨0, by omega, rfl, HON⟩
              case round =>
                obtain ⟨i, hi, rfl, HI⟩ := hrel
                obtain ⟨S3, hx3⟩ := HI.out.st.x
                by_cases hi16 : i < 16
                · have hfx3 : wr.frozen? ⟨w.heap.size, i, none⟩ = false := laid_open hx3.out _
                  have hcx3 : wr.cell? ⟨w.heap.size, i, none⟩ = some (.float .f64 (S3 i)) := laid_cell hx3.out _ (by rw [smF_get _ _ hi16, if_pos hi16])
                  haveI := HasCell.of hcx3
                  have hiI : (i : Int) < 16 := by omega
                  go_wp2
                  go_roundw
                  case rel => exact ⟨i + 1, by omega, by go_num, Lib.hid (HI.out.set (HI.out.st.putX hi16 _) (by omega))⟩
                  case measure => simp [intOf]; omega
                · obtain rfl : i = 16 := by omega
                  go_wp2
                  go_meet
                  exact ⟨⟨k, hk, rfl⟩, ⟨1 + m, by omega, rfl⟩, HI.out⟩
        · as_aux_lemma =>
            go_wp2
            go_meet
            exact ⟨⟨f, hf17, congrArg _ e7⟩, ⟨1 + m, by omega, rfl⟩, HON.out⟩
        · as_aux_lemma =>
            go_wp2
            go_meet
            exact ⟨⟨16, by omega, rfl⟩, ⟨1 + m, by omega, rfl⟩, HON.out.set (HON.out.st.putF3 _) (by omega)⟩
        · as_aux_lemma =>
            go_wp2
            go_meet
            exact ⟨⟨k, hk, rfl⟩, ⟨1 + m, by omega, rfl⟩, HON.out.setQ5 hqw HQ.out.1 HQ.out.2⟩
        iterate 2
          · as_aux_lemma =>
              go_wp2
              go_meet
              exact ⟨⟨k, hk, rfl⟩, ⟨1 + m, by omega, rfl⟩, HON.out⟩
      case rest =>
        obtain ⟨⟨k', hk', rfl⟩, ⟨m', hm', rfl⟩, hon⟩ := hcut
        have HON2 := Lib.hid hon
        clear hon
        obtain ⟨S, hx⟩ := HON2.out.st.x
        obtain ⟨ak, li, hf⟩ := HON2.out.st.f
        obtain ⟨pu, lo, ho⟩ := HON2.out.one
        have hbx := HON2.out.st.bel
        haveI : LeSize w.heap.size wc := ⟨hbx.size⟩
        have hqc : q < wc.heap.size := (Array.getElem?_eq_some_iff.1 ho.out).1
        have hk'I : (k' : Int) ≤ 16 := by omega
        go_upto_region 47 with (at_builtin; refine wpList_app_owns flC_len 8 _ 23 Try.underlying23 info_f64 rfl (by omega) (by omega) rfl _ _ rfl (w.heap.size + 2) rfl (OwnK.nil _ _) ((List.range k').map S) (by simp) flC_one rfl (fl_cells hx hk') (by simp; omega) (by omega) ?_; intro v' w1 hown' hg)
        have hb2 : Below wc.heap.size wc w1 := (OwnK.nil (e := 24) (k := 1) (C := flC) wc wc.heap.size).grown0 (Below.refl _ _) (Nat.le_refl _) (Nat.le_refl _) hg
        obtain ⟨sa, sl, sc, rfl⟩ := hown'.slice
        have HIN : Hid (ScIn w w1 (.slice oa frs.length oc) frs q (.slice sa sl sc) ([] ++ (List.range k').map S) 0) := Lib.hid ⟨(HON2.out.below hb2).st, hown', fun _ => (HON2.out.below hb2).one⟩
        have hsl : ([] ++ (List.range k').map S).length ≤ 16 := by simp; omega
        generalize [] ++ (List.range k').map S = sz at *
        have HSL := Lib.hid hsl
        clear hsl HON2 hx hf ho hbx hown' hg hb2 HON hb1 hq1 HSH HQ e1 e2 e3 e4 e5 e6 e7 e8
        go_wp2
        go_loopw [5, 16] (fun o i wx => ∃ n2 : Nat, n2 ≤ m' ∧ i = .int .i64 n2 ∧ ∃ frs2, Hid (ScIn w wx o frs2 q (.slice sa sl sc) sz n2)) (fun _ i _ => m' - (intOf i).toNat)
        case atStart => exact ⟨0, by omega, rfl, frs, HIN⟩
        case round =>
          clear HIN
          obtain ⟨n2, hn2, rfl, frs2, HI⟩ := hrel
          obtain ⟨oa2, oc2, rfl, _⟩ := OwnK.opened frC_len HI.out.st.own
          have hbi := HI.out.st.bel
          haveI : LeSize w.heap.size wr := ⟨hbi.size⟩
          by_cases hgo2 : n2 < m' ∧ frs2.length < 1500
          · obtain ⟨h4, h5⟩ := hgo2
            have h4I : (n2 : Int) < m' := by omega
            have h5I : (frs2.length : Int) < 1500 := by omega
            obtain ⟨ak, li, hf⟩ := HI.out.st.f
            go_upto_if 179 with fail
            have HMI : Hid (ScMi w (wr.alloc (.cells #[.slice sa sl sc, .int .i64 0, .int .i64 ak, .int .i64 li, .int .i64 0, .bool false] 60)) (.slice oa2 frs2.length oc2) frs2 wr.heap.size sa sl sc sz) := Lib.hid ⟨HI.out.st.below ((Below.refl _ _).alloc (Nat.le_refl _) _), HI.out.sm.alloc _, 0, ak, li, inferInstance⟩
            go_cut [] (fun wx => ScMi w wx (.slice oa2 frs2.length oc2) frs2 wr.heap.size sa sl sc sz)
            case first =>
              as_aux_lemma =>
                by_cases hn0 : n2 = 0
                · subst hn0
                  obtain ⟨pu, l1, ho⟩ := HI.out.one rfl
                  have hql : q < wr.heap.size := (Array.getElem?_eq_some_iff.1 ho.out).1
                  haveI := ho
                  haveI : Apart q wr.heap.size := ⟨by omega⟩
                  haveI : Apart wr.heap.size q := ⟨by omega⟩
                  clear HMI
                  go_wp2
                  go_meet
                  exact ⟨HI.out.st.below ((Below.refl _ _).alloc (Nat.le_refl _) _), HI.out.sm.alloc _, _, _, _, inferInstance⟩
                · have hn0I : ((n2 : Int) == 0) = false := by simp; omega
                  go_wp2
                  go_meet
                  exact HMI.out
            case rest =>
              have HM2 := Lib.hid hcut
              clear hcut HMI
              obtain ⟨pu, ak2, li2, hG⟩ := HM2.out.g
              have hbm := HM2.out.st.bel
              haveI : LeSize w.heap.size wc := ⟨hbm.size⟩
              have hwl : w.heap.size + 1 < wc.heap.size := by
                obtain ⟨_, _, hf2⟩ := HM2.out.st.f
                exact (Array.getElem?_eq_some_iff.1 hf2.out).1
              go_wp2_with (at_builtin; go_must (refine wpList_app_own frC_len 64 _ 57 Try.underlying57 info_fr rfl (by omega) (by omega) rfl _ _ rfl (w.heap.size + 2) rfl (HM2.out.st.own.alloc _) (b := wc.heap.size) (⟨sa, sl, sc, pu, ak2, li2, 0, false⟩ : Fr) (frC_one _) rfl (cells_new _ _) (by omega) (Nat.le_trans (show w.heap.size + 2 ≤ wc.heap.size by omega) (by simp)) ?_); intro v2 w2 hown2 hg2)
              have HSN := Lib.hid ((HM2.out.st.below ((Below.refl _ _).alloc (Nat.le_refl _) _)).snoc (f := ⟨sa, sl, sc, pu, ak2, li2, 0, false⟩) HSL.out (HM2.out.sm.alloc _) h5 hown2 hg2 (by simp; omega))
              clear hown2 hg2
              go_wp2
              go_roundw
              case rel => exact ⟨n2 + 1, by omega, by go_num, _, Lib.hid ⟨HSN.out.1, HSN.out.2, fun h => absurd h (by omega)⟩⟩
              case measure => simp [intOf]; omega
          · have hout2 : ¬ n2 < m' ∨ (n2 < m' ∧ ¬ frs2.length < 1500) := by omega
            have HO2 := Lib.hid HI.out.st
            rcases hout2 with h4 | ⟨h4, h5⟩
            · have h4I : ¬ ((n2 : Int) < m') := by omega
              go_wp2
              go_roundw
              case rel => exact ⟨n + 1, by omega, by go_num, ⟨k', hk', rfl⟩, frs2, HO2⟩
              case measure => simp [intOf]; omega
            · have h4I : (n2 : Int) < m' := by omega
              have h5I : ¬ ((frs2.length : Int) < 1500) := by omega
              go_wp2
              go_roundw
              case rel => exact ⟨n + 1, by omega, by go_num, ⟨k', hk', rfl⟩, frs2, HO2⟩
              case measure => simp [intOf]; omega
    · have HFIN : Hid (OwnK 60 6 frC wr w.heap.size (.slice oa frs.length oc) frs ∧ FrsOf wr w.heap.size frs ∧ frs.length ≤ 1500 ∧ Below w.heap.size w wr) := Lib.hid ⟨HS.out.own.less (by omega), fun f hf => by
        obtain ⟨zs, hl, ho⟩ := HS.out.fr f hf
        exact ⟨zs, hl, ho.less (by omega)⟩, HS.out.le, hbw⟩
      have hout : ¬ (n < zs.length) ∨ (n < zs.length ∧ ¬ (n < 120)) ∨ (n < zs.length ∧ n < 120 ∧ ¬ (frs.length < 1500)) := by omega
      clear HS hgo
      rcases hout with h1 | ⟨h1, h2⟩ | ⟨h1, h2, h3⟩
      · have h1I : ¬ ((n : Int) < zs.length) := by omega
        go_wp2
        go_ret
        exact ⟨_, rfl, frs, HFIN.out⟩
      · have h1I : (n : Int) < zs.length := by omega
        have h2I : ¬ ((n : Int) < 120) := by omega
        go_wp2
        go_ret
        exact ⟨_, rfl, frs, HFIN.out⟩
      · have h1I : (n : Int) < zs.length := by omega
        have h2I : (n : Int) < 120 := by omega
        have h3I : ¬ ((frs.length : Int) < 1500) := by omega
        go_wp2
        go_ret
        exact ⟨_, rfl, frs, HFIN.out⟩
end Go.Proofs.Yteohpfelgaffoaa
