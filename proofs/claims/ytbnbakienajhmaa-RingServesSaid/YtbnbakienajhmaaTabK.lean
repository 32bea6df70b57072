/- The contracts of the reference's bounds: Entry, Over. -/
import Derived.Test.YtbnbakienajhmaaTabJ
namespace Go.Proofs.Ytbnbakienajhmaa
open Go.RowKit
set_option linter.unusedVariables false
attribute [local go_sem] IsBlk.cell IsBlk.frozen

def entryR (t : Tab) (r : Rl) : Int := sumZ [r.dly, r.hold, r.grn, r.grn, r.foot, r.foot, r.foot, clearZ t, clearZ t, clearZ t, clearZ t, clearZ t, t.rev, t.rev, t.rev, 60]
theorem IsTab.rails {w : World} {T : Array Value} {t : Tab} (h : IsTab w T t) : ∃ a cap, T[114]? = some (.slice a t.ra.length cap) ∧ RowK w a 11 t.ra.length (cellK rlC t.ra) ∧ t.ra.length ≤ 64 := by
  obtain ⟨g, d, r, b, rfl, hI⟩ := h
  obtain ⟨a, cap, rfl, hr⟩ := hI.ra
  exact ⟨a, cap, by rw [arrF_get _ _ _ (by omega)]; rfl, hr, hI.la⟩
theorem IsTab.rev' {w : World} {T : Array Value} {t : Tab} (h : IsTab w T t) : T[119]? = some (.int .i64 t.rev) := by
  obtain ⟨g, d, r, b, rfl, _⟩ := h; rw [arrF_get _ _ _ (by omega)]; rfl
set_option maxHeartbeats 8000000 in
set_option maxRecDepth 100000 in
theorem rentry_any (T : Array Value) (t : Tab) (k : Nat) (r : Rl) (w : World) (hT : IsTab w T t) (hk : t.ra[k]? = some r) :
    Calls Try.prog 73 #[.agg T, .int .i64 k] w fun e w' => e = .returned (.int .i64 (entryR t r)) ∧ Below w.heap.size w w' := by
  haveI : Sz131 T := ⟨hT.size⟩
  have HT : Hid (∀ w', Below w.heap.size w w' → IsTab w' T t) := Lib.hid fun w' hb => hT.below hb (Nat.le_refl _)
  obtain ⟨ra, rcap, t114, hrow, hl64⟩ := hT.rails
  have t119 := hT.rev'
  have hlt := (List.getElem?_eq_some_iff.1 hk).1
  obtain ⟨b, off, rfl, hbl, hc⟩ := hrow.resolve_left (by omega)
  have c0 := hc k hlt 0 (by omega)
  have c1 := hc k hlt 1 (by omega)
  have c2 := hc k hlt 2 (by omega)
  have c3 := hc k hlt 3 (by omega)
  have c4 := hc k hlt 4 (by omega)
  have c5 := hc k hlt 5 (by omega)
  have c6 := hc k hlt 6 (by omega)
  have c7 := hc k hlt 7 (by omega)
  have c8 := hc k hlt 8 (by omega)
  have c9 := hc k hlt 9 (by omega)
  have c10 := hc k hlt 10 (by omega)
  simp only [cellK, hk, Option.bind_some, rlC, List.getElem?_cons_zero, List.getElem?_cons_succ, Option.getD_some, Nat.add_zero] at c0 c1 c2 c3 c4 c5 c6 c7 c8 c9 c10
  clear hc hrow hT hk
  have hltI : (k : Int) < t.ra.length := by omega
  haveI : LeSize (b + 1) w := ⟨hbl⟩
  obtain ⟨R, hR⟩ : ∃ R, entryR t r = R := ⟨_, rfl⟩
  obtain ⟨cl, hcl⟩ : ∃ cl, clearZ t = cl := ⟨_, rfl⟩
  have HR := Lib.hid (show sumZ [r.dly, r.hold, r.grn, r.grn, r.foot, r.foot, r.foot, cl, cl, cl, cl, cl, t.rev, t.rev, t.rev, 60] = R by rw [← hR, ← hcl]; rfl)
  have HC : Hid (∀ w', Below w.heap.size w w' → Calls Try.prog 75 #[.agg T] w' fun e w'' => e = .returned (.int .i64 cl) ∧ Below w'.heap.size w' w'') := Lib.hid fun w' h => by rw [← hcl]; exact rclear_any T t w' (HT.out _ h)
  rw [hR]
  clear hR hcl
  go_enter Try.func73, Try.ntmps73
  go_wp2_with (first | (refine l_ltab rfl rfl rfl ?_; go_simp) | (go_at_call 75; refine (Up.run (HC.out _ (by (repeat' (first | (with_reducible exact Below.refl _ _) | (with_reducible assumption) | (with_reducible refine Below.setCell ?_ ?_ _) | (with_reducible refine Below.alloc ?_ ?_ _) | (with_reducible refine Below.drew ?_) | (with_reducible refine Up.base _ ?_ ?_) | (with_reducible exact LeSize.out) | exact LeSize.out | exact Nat.le_add_right_of_le LeSize.out | exact Nat.le_add_right_of_le (Nat.le_add_right_of_le LeSize.out) | (with_reducible exact Nat.le_refl _) | (simp; done) | (simp; omega)))))).mono ?_; rintro e w' ⟨rfl, ucl, rfl⟩) | (go_at_call 53; refine (vsum_any _ _ [r.dly, r.hold, r.grn, r.grn, r.foot, r.foot, r.foot, cl, cl, cl, cl, cl, t.rev, t.rev, t.rev, 60] _ (by simp) (ints_new _ rfl rfl)).mono ?_; rintro e w' ⟨rfl, rfl⟩))
  go_ret
  exact ⟨ret_int HR.out, by (repeat' (first | (with_reducible exact Below.refl _ _) | (with_reducible assumption) | (with_reducible refine Below.setCell ?_ ?_ _) | (with_reducible refine Below.alloc ?_ ?_ _) | (with_reducible refine Below.drew ?_) | (with_reducible refine Up.base _ ?_ ?_) | (with_reducible exact LeSize.out) | exact LeSize.out | exact Nat.le_add_right_of_le LeSize.out | exact Nat.le_add_right_of_le (Nat.le_add_right_of_le LeSize.out) | (with_reducible exact Nat.le_refl _) | (simp; done) | (simp; omega)))⟩

/-! ### Over -/
theorem wpList_app_two {ops : Array Oper} {rest : List Oper} {o : Oper} {a : Act} {w : World} {Q : Exit → Act → World → Prop} (hgd : o.guard = none) (s x : Operand)
    (ho : o.op = .call { callee := .builtin .append, args := #[s, x], argTypes := #[22, 22] })
    (base : Nat) {v : Value} {zs : List Int} (hs : a.eval s = v) (hown : OwnInts w base v zs)
    {b : Nat} {y z : Int} (hx : a.eval x = .slice (some ⟨b, 0, none⟩) 2 2) (hc : w.cell? ⟨b, 0, none⟩ = some (.int .i64 y)) (hc1 : w.cell? ⟨b, 1, none⟩ = some (.int .i64 z)) (hn : zs.length ≤ 1000000) (hbase : base ≤ w.heap.size)
    (h : ∀ v' w', OwnInts w' base v' (zs ++ [y, z]) → w.grownBy w' v.ownBlock → wpList Try.prog ops Q rest (a.put o.dst v') w') : wpList Try.prog ops Q (o :: rest) a w := by
  obtain ⟨i0, hinfo, hz0, hz1, hz2⟩ := info_parts info_int
  refine wpList_append_own w hgd s x 22 ho base 3 i0 (.int .i64 0) 1 8 Try.underlying22 hinfo hz0 hz1 hz2 rfl (by decide) v zs.length _ hs hown ⟨b, 0, none⟩ 2 2 [.int .i64 y, .int .i64 z] hx rfl ?_ ?_ ?_ ?_ hbase (fun v' w' h1 h2 _ => h v' w' ?_ h2)
  · intro j u hj; match j, hj with
    | 0, hj => simp at hj; subst hj; simp [Addr.add]; exact hc
    | 1, hj => simp at hj; subst hj; simp [Addr.add]; exact hc1
  · simp [Value.oneCell']
  · unfold maxLen; omega
  · omega
  · unfold OwnInts; simpa using h1
def ovL (t : Tab) (rs : List Rl) : List Int := rs.map fun r => sumZ [entryR t r, r.stay]
def mnL (t : Tab) (xs : List Int) : List Int := xs.flatMap fun p => [capZ (t.ph p.toNat).min, sumZ [(t.ph p.toNat).walk, (t.ph p.toNat).blinks]]
def overZ (t : Tab) : Int := if t.ra.length = 0 then 0 else sumZ [mostZ (ovL t t.ra), mostZ (mnL t (listM (onM t))), clearZ t, t.rev, 30]
theorem ovL_take (t : Tab) (rs : List Rl) (k : Nat) (r : Rl) (h : rs[k]? = some r) : ovL t (rs.take (k + 1)) = ovL t (rs.take k) ++ [sumZ [entryR t r, r.stay]] := by
  unfold ovL; rw [List.take_add_one, h]; simp
theorem mnL_take (t : Tab) (xs : List Int) (k : Nat) (p : Nat) (h : xs[k]? = some (p : Int)) : mnL t (xs.take (k + 1)) = mnL t (xs.take k) ++ [capZ (t.ph p).min, sumZ [(t.ph p).walk, (t.ph p).blinks]] := by
  unfold mnL; rw [List.take_add_one, h]; simp
theorem ovL_len (t : Tab) (rs : List Rl) : (ovL t rs).length = rs.length := by simp [ovL]
theorem mnL_len (t : Tab) : ∀ xs : List Int, (mnL t xs).length = 2 * xs.length
  | [] => rfl
  | x :: xs => by have := mnL_len t xs; unfold mnL at *; rw [List.flatMap_cons, List.length_append, this]; simp; omega
end Go.Proofs.Ytbnbakienajhmaa
