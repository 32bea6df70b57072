/- The contracts of the reference's bounds: Pass, Free. -/
import Derived.Test.YtbnbakienajhmaaTabH
import Derived.Maps.AppendAt
namespace Go.Proofs.Ytbnbakienajhmaa
open Go.RowKit
set_option linter.unusedVariables false
attribute [local go_sem] IsBlk.cell IsBlk.frozen

theorem OwnInts.one {w : World} {q base : Nat} {x : Int} (h : w.heap[q]? = some (.cells #[.int .i64 x] 3)) (hb : base ≤ q) : OwnInts w base (.slice (some ⟨q, 0, none⟩) 1 1) [x] :=
  ⟨rfl, .inr ⟨q, 1, #[.int .i64 x], rfl, hb, h, by simp, by decide, rfl, rfl⟩⟩
/-- All spots, opened. -/
theorem spots_up (T : Array Value) (t : Tab) (w : World) (hT : IsTab w T t) :
    Calls Try.prog 60 #[.agg T] w fun e w' => ∃ a cap, ∃ u : Up w, e = .returned (.slice a (spotsM t.gr).length cap) ∧ w' = u.w ∧ RowK u.w a 4 (spotsM t.gr).length (cellK spotC (spotsM t.gr)) ∧ ∀ b off, a = some ⟨b, off, none⟩ → w.heap.size ≤ b := by
  refine (spots_any T t w hT).mono ?_
  rintro e w' ⟨v, rfl, hown, hb⟩
  have hown0 := hown
  obtain ⟨a, cap, rfl, _, _, _, hr⟩ := OwnK.opened spotC_len hown
  refine ⟨a, cap, ⟨w', hb⟩, rfl, rfl, hr, fun b off e => ?_⟩
  rcases hown0.2 with ⟨h, _⟩ | ⟨g, _, _, h, hg, _⟩
  · injection h with h1; rw [e] at h1; cases h1
  · injection h with h1; rw [e] at h1; cases h1; exact hg
theorem RowK.grown {w w' : World} {a : Option Addr} {k len : Nat} {V : Nat → Nat → Value} {row : Option Nat} (h : RowK w a k len V) (hg : w.grownBy w' row) (hn : ∀ b off, a = some ⟨b, off, none⟩ → row ≠ some b) : RowK w' a k len V := by
  rcases h with h | ⟨b, off, rfl, hb, hc⟩
  · exact .inl h
  · exact .inr ⟨b, off, rfl, Nat.lt_of_lt_of_le hb hg.size, fun i hi j hj => by
      rw [World.cell?_of_block (a := ⟨b, off + i * k + j, none⟩) (hg.block b hb (fun e => hn b off rfl e.symm))]; exact hc i hi j hj⟩
theorem wpList_app_int_at {ops : Array Oper} {rest : List Oper} {o : Oper} {a : Act} {w : World} {Q : Exit → Act → World → Prop} (hgd : o.guard = none) (s x : Operand)
    (ho : o.op = .call { callee := .builtin .append, args := #[s, x], argTypes := #[22, 22] })
    (base : Nat) {v : Value} {zs : List Int} (hs : a.eval s = v) (hown : OwnInts w base v zs)
    {b : Nat} {y : Int} (hx : a.eval x = .slice (some ⟨b, 0, none⟩) 1 1) (hc : w.cell? ⟨b, 0, none⟩ = some (.int .i64 y)) (hn : zs.length ≤ 1000000) (hbase : base ≤ w.heap.size)
    (h : ∀ v' w', OwnInts w' base v' (zs ++ [y]) → w.grownBy w' v.ownBlock → (v'.ownBlock = v.ownBlock ∨ v'.ownBlock = some w.heap.size) → wpList Try.prog ops Q rest (a.put o.dst v') w') : wpList Try.prog ops Q (o :: rest) a w := by
  obtain ⟨i0, hinfo, hz0, hz1, hz2⟩ := info_parts info_int
  refine wpList_append_own_at w hgd s x 22 ho base 3 i0 (.int .i64 0) 1 8 Try.underlying22 hinfo hz0 hz1 hz2 rfl (by decide) v zs.length _ hs hown ⟨b, 0, none⟩ 1 1 [.int .i64 y] hx rfl ?_ ?_ ?_ ?_ hbase (fun v' w' h1 h2 _ h4 => h v' w' ?_ h2 h4)
  · intro j u hj; match j, hj with | 0, hj => simp at hj; subst hj; simp [Addr.add]; exact hc
  · simp [Value.oneCell']
  · unfold maxLen; omega
  · omega
  · unfold OwnInts; simpa using h1
theorem spots_len {w : World} {T : Array Value} {t : Tab} (hT : IsTab w T t) : (spotsM t.gr).length ≤ 200 := by
  obtain ⟨g, d, r, b, _, hI⟩ := hT
  have := spG_length hI.lr t.gr.length
  have := hI.lg
  unfold spotsM; omega
def psL (t : Tab) (g : Int) (sp : List Spot) : List Int := (sp.filter fun s => (s.g : Int) == g).map fun s => serveZ t s.p
def passZ (t : Tab) (g : Int) : Int := if 0 ≤ g ∧ g < t.gr.length then sumZ (8 :: psL t g (spotsM t.gr)) else 0
theorem psL_take (t : Tab) (g : Int) (sp : List Spot) (k : Nat) (s : Spot) (h : sp[k]? = some s) : psL t g (sp.take (k + 1)) = psL t g (sp.take k) ++ (if (s.g : Int) == g then [serveZ t s.p] else []) := by
  unfold psL; rw [List.take_add_one, h, List.filter_append, List.map_append]
  cases hc : ((s.g : Int) == g) <;> simp [hc]
theorem psL_len (t : Tab) (g : Int) (sp : List Spot) : (psL t g sp).length ≤ sp.length := by
  unfold psL; rw [List.length_map]; exact List.length_filter_le _ _
set_option maxHeartbeats 8000000 in
set_option maxRecDepth 100000 in
theorem rpass_any (T : Array Value) (t : Tab) (g : Int) (w : World) (hT : IsTab w T t) :
    Calls Try.prog 52 #[.agg T, .int .i64 g] w fun e w' => e = .returned (.int .i64 (passZ t g)) ∧ Below w.heap.size w w' := by
  haveI : Sz131 T := ⟨hT.size⟩
  have HT : Hid (∀ w', Below w.heap.size w w' → IsTab w' T t) := Lib.hid fun w' hb => hT.below hb (Nat.le_refl _)
  have hsl := spots_len hT
  obtain ⟨ga, gcap, t104, hlg⟩ : ∃ ga gcap, T[104]? = some (.slice ga t.gr.length gcap) ∧ t.gr.length ≤ 8 := by
    obtain ⟨g, d, r, b, hTe, hI⟩ := hT
    obtain ⟨ga, gcap, H, rfl, _, _⟩ := hI.gr
    exact ⟨ga, gcap, by rw [hTe, arrF_get _ _ _ (by omega)]; rfl, hI.lg⟩
  clear hT
  by_cases h0 : g < 0
  · rw [show passZ t g = 0 by unfold passZ; rw [if_neg (by omega)]]
    go_enter Try.func52, Try.ntmps52
    go_wp2
    go_ret
    exact ⟨rfl, by (repeat' (first | (with_reducible exact Below.refl _ _) | (with_reducible assumption) | (with_reducible refine Below.setCell ?_ ?_ _) | (with_reducible refine Below.alloc ?_ ?_ _) | (with_reducible refine Below.drew ?_) | (with_reducible refine Up.base _ ?_ ?_) | (with_reducible exact LeSize.out) | exact LeSize.out | exact Nat.le_add_right_of_le LeSize.out | exact Nat.le_add_right_of_le (Nat.le_add_right_of_le LeSize.out) | (with_reducible exact Nat.le_refl _) | (simp; done) | (simp; omega)))⟩
  by_cases h1 : (t.gr.length : Int) ≤ g
  · rw [show passZ t g = 0 by unfold passZ; rw [if_neg (by omega)]]
    go_enter Try.func52, Try.ntmps52
    go_wp2
    go_ret
    exact ⟨rfl, by (repeat' (first | (with_reducible exact Below.refl _ _) | (with_reducible assumption) | (with_reducible refine Below.setCell ?_ ?_ _) | (with_reducible refine Below.alloc ?_ ?_ _) | (with_reducible refine Below.drew ?_) | (with_reducible refine Up.base _ ?_ ?_) | (with_reducible exact LeSize.out) | exact LeSize.out | exact Nat.le_add_right_of_le LeSize.out | exact Nat.le_add_right_of_le (Nat.le_add_right_of_le LeSize.out) | (with_reducible exact Nat.le_refl _) | (simp; done) | (simp; omega)))⟩
  obtain ⟨R, hR⟩ : ∃ R, passZ t g = R := ⟨_, rfl⟩
  have HR := Lib.hid (show sumZ (8 :: psL t g (spotsM t.gr)) = R by rw [← hR]; unfold passZ; rw [if_pos (by omega)])
  rw [hR]
  clear hR
  go_enter Try.func52, Try.ntmps52
  go_wp2_with (first | (refine l_ltab rfl rfl rfl ?_; go_simp) | (go_at_call 60; refine (spots_up _ _ _ (HT.out _ (by (repeat' (first | (with_reducible exact Below.refl _ _) | (with_reducible assumption) | (with_reducible refine Below.setCell ?_ ?_ _) | (with_reducible refine Below.alloc ?_ ?_ _) | (with_reducible refine Below.drew ?_) | (with_reducible refine Up.base _ ?_ ?_) | (with_reducible exact LeSize.out) | exact LeSize.out | exact Nat.le_add_right_of_le LeSize.out | exact Nat.le_add_right_of_le (Nat.le_add_right_of_le LeSize.out) | (with_reducible exact Nat.le_refl _) | (simp; done) | (simp; omega)))))).mono ?_; rintro e w' ⟨sa, scap, us, rfl, rfl, hsp, hsa⟩))
  generalize spotsM t.gr = sp at *
  have HSP := Lib.hid hsp
  have HSA := Lib.hid hsa
  clear hsp hsa
  go_loopw [5, 21] (fun l i wr => ∃ k : Nat, k ≤ sp.length ∧ i = .int .i64 k ∧ OwnInts wr (w.heap.size + 1) l (8 :: psL t g (sp.take k)) ∧ Below (w.heap.size + 1) (w.alloc (.cells T 32)) wr ∧ RowK wr sa 4 sp.length (cellK spotC sp) ∧ ∀ b off, sa = some ⟨b, off, none⟩ → l.ownBlock ≠ some b) (fun _ i _ => sp.length - (intOf i).toNat)
  case atStart => exact ⟨0, Nat.zero_le _, rfl, (OwnInts.one (q := w.heap.size + 1) (x := 8) (by have := heap_alloc_here (w.alloc (.cells T 32)) (.cells #[.int .i64 8] 3); simpa using this) (Nat.le_refl _)).up us, Below.trans ((Below.refl _ _).alloc (by simp) _) (us.bel.mono (by simp)), HSP.out, fun b off e => by have := HSA.out b off e; simp [Value.ownBlock] at this ⊢; omega⟩
  case round =>
    obtain ⟨k, hk, rfl, hown, hb, hrow, hne⟩ := hrel
    obtain ⟨ur, rfl⟩ : ∃ ur : Up (w.alloc (.cells T 32)), wr = ur.w := ⟨⟨wr, hb.mono (by simp)⟩, rfl⟩
    have hpl := psL_len t g (sp.take k)
    have hfl : (8 :: psL t g (sp.take k)).length ≤ 1000000 := by simp at hpl ⊢; omega
    by_cases hlt : k < sp.length
    · obtain ⟨s, hx⟩ : ∃ s, sp[k]? = some s := ⟨_, List.getElem?_eq_getElem hlt⟩
      obtain ⟨b, off, rfl, hbl, hc⟩ := hrow.resolve_left (by omega)
      have c0 := hc k hlt 0 (by omega)
      have c1 := hc k hlt 1 (by omega)
      have c2 := hc k hlt 2 (by omega)
      have c3 := hc k hlt 3 (by omega)
      simp only [cellK, hx, Option.bind_some, spotC, List.getElem?_cons_zero, List.getElem?_cons_succ, Option.getD_some, Nat.add_zero] at c0 c1 c2 c3
      have hct := psL_take t g sp k s hx
      obtain ⟨la, ll, lc, rfl⟩ := hown.slice
      clear hc hx
      by_cases hg : (s.g : Int) = g
      · rw [show ((s.g : Int) == g) = true by simp [hg], if_pos rfl] at hct
        have HCT := Lib.hid hct
        clear hct
        have HG := Lib.hid hg
        have hg' : ((s.g : Int) == g) = true := by simp [hg]
        clear hg
        obtain ⟨S, hS⟩ : ∃ S, serveZ t s.p = S := ⟨_, rfl⟩
        have HSV : ∀ w', Below w.heap.size w w' → Calls Try.prog 70 #[.agg T, .int .i64 s.p] w' fun e w'' => e = .returned (.int .i64 S) ∧ Below w'.heap.size w' w'' := fun w' h => by rw [← hS]; exact rserve_any T t s.p w' (HT.out _ h)
        rw [hS] at HCT
        clear hS
        go_wp2_with (first | (refine l_ltab rfl rfl rfl ?_; go_simp) | (go_at_call 70; refine (Up.run (HSV _ (by (repeat' (first | (with_reducible exact Below.refl _ _) | (with_reducible assumption) | (with_reducible refine Below.setCell ?_ ?_ _) | (with_reducible refine Below.alloc ?_ ?_ _) | (with_reducible refine Below.drew ?_) | (with_reducible refine Up.base _ ?_ ?_) | (with_reducible exact LeSize.out) | exact LeSize.out | exact Nat.le_add_right_of_le LeSize.out | exact Nat.le_add_right_of_le (Nat.le_add_right_of_le LeSize.out) | (with_reducible exact Nat.le_refl _) | (simp; done) | (simp; omega)))))).mono ?_; rintro e w' ⟨rfl, use, rfl⟩) | (at_builtin; go_loud (have o3 := Lib.hid (hown.below (show Below ur.w.heap.size ur.w (use.w.alloc (.cells #[.int .i64 S] 3)) by (repeat' (first | (with_reducible exact Below.refl _ _) | (with_reducible assumption) | (with_reducible refine Below.setCell ?_ ?_ _) | (with_reducible refine Below.alloc ?_ ?_ _) | (with_reducible refine Below.drew ?_) | (with_reducible refine Up.base _ ?_ ?_) | (with_reducible exact LeSize.out) | exact LeSize.out | exact Nat.le_add_right_of_le LeSize.out | exact Nat.le_add_right_of_le (Nat.le_add_right_of_le LeSize.out) | (with_reducible exact Nat.le_refl _) | (simp; done) | (simp; omega))))); have hr3 := Lib.hid (hrow.below (show Below ur.w.heap.size ur.w (use.w.alloc (.cells #[.int .i64 S] 3)) by (repeat' (first | (with_reducible exact Below.refl _ _) | (with_reducible assumption) | (with_reducible refine Below.setCell ?_ ?_ _) | (with_reducible refine Below.alloc ?_ ?_ _) | (with_reducible refine Below.drew ?_) | (with_reducible refine Up.base _ ?_ ?_) | (with_reducible exact LeSize.out) | exact LeSize.out | exact Nat.le_add_right_of_le LeSize.out | exact Nat.le_add_right_of_le (Nat.le_add_right_of_le LeSize.out) | (with_reducible exact Nat.le_refl _) | (simp; done) | (simp; omega)))) (Nat.le_refl _)); have hb3 := Lib.hid (hb.trans (show Below (w.heap.size + 1) ur.w (use.w.alloc (.cells #[.int .i64 S] 3)) by (repeat' (first | (with_reducible exact Below.refl _ _) | (with_reducible assumption) | (with_reducible refine Below.setCell ?_ ?_ _) | (with_reducible refine Below.alloc ?_ ?_ _) | (with_reducible refine Below.drew ?_) | (with_reducible refine Up.base _ ?_ ?_) | (with_reducible exact LeSize.out) | exact LeSize.out | exact Nat.le_add_right_of_le LeSize.out | exact Nat.le_add_right_of_le (Nat.le_add_right_of_le LeSize.out) | (with_reducible exact Nat.le_refl _) | (simp; done) | (simp; omega))))); refine wpList_app_int_at rfl _ _ rfl (w.heap.size + 1) rfl o3.out (b := use.w.heap.size) (y := S) rfl (by simp) hfl (by have := hb3.out.size; simp only [World.size_alloc] at this ⊢; exact this) ?_; intro v' w1 hown' hg hat)))
        have hb4 := o3.out.grown0 hb3.out (by have := hb3.out.size; simp only [World.size_alloc] at this ⊢; exact this) (Nat.le_refl _) hg
        have hr4 := hr3.out.grown hg hne
        have hn4 : ∀ b2 off2, some (⟨b, off, none⟩ : Addr) = some ⟨b2, off2, none⟩ → v'.ownBlock ≠ some b2 := fun b2 off2 e => by
          cases e
          rcases hat with h | h
          · rw [h]; exact hne b off rfl
          · rw [h]; simp; have := (use.bel.size); simp at this; omega
        clear hg
        go_roundw
        case rel => exact ⟨k + 1, by omega, by go_num, by rw [HCT.out]; exact hown', hb4, hr4, hn4⟩
        case measure => simp [intOf]; omega
      · rw [show ((s.g : Int) == g) = false by simp [hg], if_neg (by simp), List.append_nil] at hct
        have HCT := Lib.hid hct
        have hg' : ((s.g : Int) == g) = false := by simp [hg]
        clear hct hg
        go_wp2
        go_roundw
        case rel => exact ⟨k + 1, by omega, by go_num, by rw [HCT.out]; exact hown.below (by (repeat' (first | (with_reducible exact Below.refl _ _) | (with_reducible assumption) | (with_reducible refine Below.setCell ?_ ?_ _) | (with_reducible refine Below.alloc ?_ ?_ _) | (with_reducible refine Below.drew ?_) | (with_reducible refine Up.base _ ?_ ?_) | (with_reducible exact LeSize.out) | exact LeSize.out | exact Nat.le_add_right_of_le LeSize.out | exact Nat.le_add_right_of_le (Nat.le_add_right_of_le LeSize.out) | (with_reducible exact Nat.le_refl _) | (simp; done) | (simp; omega)))), hb.trans (by (repeat' (first | (with_reducible exact Below.refl _ _) | (with_reducible assumption) | (with_reducible refine Below.setCell ?_ ?_ _) | (with_reducible refine Below.alloc ?_ ?_ _) | (with_reducible refine Below.drew ?_) | (with_reducible refine Up.base _ ?_ ?_) | (with_reducible exact LeSize.out) | exact LeSize.out | exact Nat.le_add_right_of_le LeSize.out | exact Nat.le_add_right_of_le (Nat.le_add_right_of_le LeSize.out) | (with_reducible exact Nat.le_refl _) | (simp; done) | (simp; omega)))), hrow.below (by (repeat' (first | (with_reducible exact Below.refl _ _) | (with_reducible assumption) | (with_reducible refine Below.setCell ?_ ?_ _) | (with_reducible refine Below.alloc ?_ ?_ _) | (with_reducible refine Below.drew ?_) | (with_reducible refine Up.base _ ?_ ?_) | (with_reducible exact LeSize.out) | exact LeSize.out | exact Nat.le_add_right_of_le LeSize.out | exact Nat.le_add_right_of_le (Nat.le_add_right_of_le LeSize.out) | (with_reducible exact Nat.le_refl _) | (simp; done) | (simp; omega)))) (Nat.le_refl _), hne⟩
        case measure => simp [intOf]; omega
    · obtain rfl : k = sp.length := by omega
      rw [List.take_length] at hown
      obtain ⟨a, cap, rfl, hi⟩ := hown.opened
      have hzl : (8 :: psL t g sp).length ≤ 1000 := by have := psL_len t g sp; simp; omega
      generalize 8 :: psL t g sp = zs at *
      go_wp2_with (go_at_call 53; refine (vsum_any _ _ _ _ hzl hi).mono ?_; rintro e w' ⟨rfl, rfl⟩)
      go_ret
      exact ⟨ret_int HR.out, by (repeat' (first | (with_reducible exact Below.refl _ _) | (with_reducible assumption) | (with_reducible refine Below.setCell ?_ ?_ _) | (with_reducible refine Below.alloc ?_ ?_ _) | (with_reducible refine Below.drew ?_) | (with_reducible refine Up.base _ ?_ ?_) | (with_reducible exact LeSize.out) | exact LeSize.out | exact Nat.le_add_right_of_le LeSize.out | exact Nat.le_add_right_of_le (Nat.le_add_right_of_le LeSize.out) | (with_reducible exact Nat.le_refl _) | (simp; done) | (simp; omega)))⟩
end Go.Proofs.Ytbnbakienajhmaa
