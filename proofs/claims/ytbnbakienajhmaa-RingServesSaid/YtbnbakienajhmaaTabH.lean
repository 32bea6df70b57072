/- The contracts of the reference's bounds: Serve. -/
import Derived.Test.YtbnbakienajhmaaTabG
namespace Go.Proofs.Ytbnbakienajhmaa
open Go.RowKit
set_option linter.unusedVariables false
attribute [local go_sem] IsBlk.cell IsBlk.frozen

/-- A phase's cells lie in an array from here on. -/
class IsPh (T : Array Value) (o : Nat) (p : outParam Phs) : Prop where
  out : ∀ j, j < 13 → T[o + j]? = some ((phC p).getD j undef)
theorem IsTab.isPh {w : World} {T : Array Value} {t : Tab} (h : IsTab w T t) (p : Nat) (hp : p < 8) : IsPh T (p * 13) (t.ph p) := ⟨fun j hj => by rw [Nat.mul_comm]; exact h.ph p j hp hj⟩
theorem load_ph {w : World} {b o : Nat} {C : Array Value} {t : TypeId} {p : Phs} [h : IsBlk w b C t] [hp : IsPh C o p] : Sem.run Try.prog (Instr.loadAt 24 (.pointer (some ⟨b, o, none⟩))) w = .ok (.agg #[.bool p.on, .int .i64 p.min, .int .i64 p.gap, .int .i64 p.max, .int .i64 p.top, .int .i64 p.step, .int .i64 p.yel, .int .i64 p.red, .int .i64 p.walk, .int .i64 p.blinks, .int .i64 p.recl, .bool p.lock, .bool p.rest]) w := by
  have := run_loadAt_mid (P := Try.prog) w b o 24 (phC p) _ (blk_range h.out o (phC p) fun j hj => by
    rw [hp.out j (by simpa [phC] using hj), List.getD_eq_getElem?_getD, List.getElem?_eq_getElem hj]; rfl) Try.underlying24 rfl (by kernel_rfl)
  exact this
theorem l_ph {ops : Array Oper} {rest : List Oper} {op : Oper} {a : Act} {w : World} {Q : Exit → Act → World → Prop} {x : Operand} {b o : Nat} {C : Array Value} {t : TypeId} {p : Phs} (hgd : op.guard = none) (ho : op.op = .load 24 x) (hx : a.eval x = .pointer (some ⟨b, o, none⟩)) [h : IsBlk w b C t] [hp : IsPh C o p]
    (hk : wpList Try.prog ops Q rest (a.put op.dst (.agg #[.bool p.on, .int .i64 p.min, .int .i64 p.gap, .int .i64 p.max, .int .i64 p.top, .int .i64 p.step, .int .i64 p.yel, .int .i64 p.red, .int .i64 p.walk, .int .i64 p.blinks, .int .i64 p.recl, .bool p.lock, .bool p.rest])) w) : wpList Try.prog ops Q (op :: rest) a w := wpList_load_at hgd ho hx load_ph hk
theorem hasM_bd {s p : Int} (h : hasM s p = true) : ∃ k : Nat, p = k ∧ k < 8 := by
  unfold hasM at h
  simp at h
  exact ⟨p.toNat, by omega, by omega⟩
def serveP (t : Tab) (x : Phs) : Int := sumZ [mostZ [capZ x.min, sumZ [x.walk, x.blinks], capZ x.top], t.ext, x.yel, x.red, t.rev, 8]
def serveZ (t : Tab) (p : Int) : Int := if hasM (onM t) p then serveP t (t.ph p.toNat) else 0
set_option maxHeartbeats 8000000 in
set_option maxRecDepth 100000 in
theorem rserve_any (T : Array Value) (t : Tab) (p : Int) (w : World) (hT : IsTab w T t) :
    Calls Try.prog 70 #[.agg T, .int .i64 p] w fun e w' => e = .returned (.int .i64 (serveZ t p)) ∧ Below w.heap.size w w' := by
  haveI : Sz131 T := ⟨hT.size⟩
  have HT : Hid (∀ w', Below w.heap.size w w' → IsTab w' T t) := Lib.hid fun w' hb => hT.below hb (Nat.le_refl _)
  cases hh : hasM (onM t) p
  · rw [show serveZ t p = 0 by simp [serveZ, hh]]
    clear hT
    go_enter Try.func70, Try.ntmps70
    go_wp2_with (first | (refine l_ltab rfl rfl rfl ?_; go_simp) | (go_at_call 21; refine (Up.run (ron_any _ _ _ (HT.out _ (by (repeat' (first | (with_reducible exact Below.refl _ _) | (with_reducible assumption) | (with_reducible refine Below.setCell ?_ ?_ _) | (with_reducible refine Below.alloc ?_ ?_ _) | (with_reducible refine Below.drew ?_) | (with_reducible refine Up.base _ ?_ ?_) | (with_reducible exact LeSize.out) | exact LeSize.out | exact Nat.le_add_right_of_le LeSize.out | exact Nat.le_add_right_of_le (Nat.le_add_right_of_le LeSize.out) | (with_reducible exact Nat.le_refl _) | (simp; done) | (simp; omega))))))).mono ?_; rintro e w' ⟨rfl, uo, rfl⟩) | (go_at_call 14; refine (rhas_any _ _ _).mono ?_; rintro e w' ⟨rfl, rfl⟩))
    go_ret
    exact ⟨rfl, by (repeat' (first | (with_reducible exact Below.refl _ _) | (with_reducible assumption) | (with_reducible refine Below.setCell ?_ ?_ _) | (with_reducible refine Below.alloc ?_ ?_ _) | (with_reducible refine Below.drew ?_) | (with_reducible refine Up.base _ ?_ ?_) | (with_reducible exact LeSize.out) | exact LeSize.out | exact Nat.le_add_right_of_le LeSize.out | exact Nat.le_add_right_of_le (Nat.le_add_right_of_le LeSize.out) | (with_reducible exact Nat.le_refl _) | (simp; done) | (simp; omega)))⟩
  · obtain ⟨k, rfl, hk⟩ := hasM_bd hh
    have hkI : (k : Int) < 8 := by omega
    haveI := hT.isPh k hk
    have t116 : T[116]? = some (.int .i64 t.ext) := by obtain ⟨g, d, r, b, rfl, _⟩ := hT; rw [arrF_get _ _ _ (by omega)]; rfl
    have t119 : T[119]? = some (.int .i64 t.rev) := by obtain ⟨g, d, r, b, rfl, _⟩ := hT; rw [arrF_get _ _ _ (by omega)]; rfl
    obtain ⟨R, hR⟩ : ∃ R, serveZ t k = R := ⟨_, rfl⟩
    have HR := Lib.hid (show sumZ [mostZ [capZ (t.ph k).min, sumZ [(t.ph k).walk, (t.ph k).blinks], capZ (t.ph k).top], t.ext, (t.ph k).yel, (t.ph k).red, t.rev, 8] = R by rw [← hR]; simp [serveZ, hh, serveP])
    rw [hR]
    clear hR
    generalize t.ph k = x at *
    generalize t.ext = ext at *
    generalize t.rev = rev at *
    clear hT
    go_enter Try.func70, Try.ntmps70
    go_wp2_with (first | (refine l_ltab rfl rfl rfl ?_; go_simp) | (go_at_call 21; refine (Up.run (ron_any _ _ _ (HT.out _ (by (repeat' (first | (with_reducible exact Below.refl _ _) | (with_reducible assumption) | (with_reducible refine Below.setCell ?_ ?_ _) | (with_reducible refine Below.alloc ?_ ?_ _) | (with_reducible refine Below.drew ?_) | (with_reducible refine Up.base _ ?_ ?_) | (with_reducible exact LeSize.out) | exact LeSize.out | exact Nat.le_add_right_of_le LeSize.out | exact Nat.le_add_right_of_le (Nat.le_add_right_of_le LeSize.out) | (with_reducible exact Nat.le_refl _) | (simp; done) | (simp; omega))))))).mono ?_; rintro e w' ⟨rfl, uo, rfl⟩) | (go_at_call 14; refine (rhas_any _ _ _).mono ?_; rintro e w' ⟨rfl, rfl⟩) | (refine l_ph rfl rfl rfl ?_; go_simp))
    (refine wp_region_noPanic ?_; refine wp_region_envF [] [0, 1, 2, 3, 4, 5, 6, 7, 8, 9, 10, 11, 12, 13, 14, 15, 16, 17, 18, 19, 20, 21, 22, 23] [24] [7, 12, 22] [(8, 7), (13, 12), (23, 22)] noRc (by kernel_rfl) (by kernel_rfl) (fun _ _ _ _ _ h => (h : False).elim) noRc_stable ?_; simp only [pickO, List.filterMap_cons, List.filterMap_nil, List.getElem?_cons_succ, List.getElem?_cons_zero]; refine wpAddr_nil ?_)
    (repeat (first | (refine wpEH_skip rfl rfl ?_; simp only [Act.put, List.setIfInBounds_toArray, List.set_cons_succ, List.set_cons_zero]) | (refine wpEH_want rfl rfl ?_; intro Z hZs hZi hZn K hK; (first | (go_big_quiet_op; (first | go_big_quiet_on | go_big_quiet_call ((first | (go_at_call 72; exact UpZ.pure (zcap_any _ _)) | fail))))); clear hZs hZi hZn Z)))
    (refine wpEH_build 2 (.cells #[.int .i64 x.walk, .int .i64 x.blinks] 3) rfl rfl (fun w => (by simp [go_sem] <;> rfl)) ?_; intro q7 p7 hq7 hp7; simp only [Act.put, List.setIfInBounds_toArray, List.set_cons_succ, List.set_cons_zero])
    (repeat (first | (refine wpEH_skip rfl rfl ?_; simp only [Act.put, List.setIfInBounds_toArray, List.set_cons_succ, List.set_cons_zero]) | (refine wpEH_want rfl rfl ?_; intro Z hZs hZi hZn K hK; (first | (go_big_quiet_op; (first | go_big_quiet_on | go_big_quiet_call ((first | (go_at_call 72; exact UpZ.pure (zcap_any _ _)) | (go_at_call 53; exact UpZ.pure (vsum_any _ _ [x.walk, x.blinks] _ (by simp) (ints_built [x.walk, x.blinks] (hp7 _ (env_at (h := 7) (hZi _ (UpZ.z _)) rfl rfl))))) | fail))))); clear hZs hZi hZn Z)))
    (refine wpEH_build 3 (.cells #[.int .i64 (capZ x.min), .int .i64 (sumZ [x.walk, x.blinks]), .int .i64 (capZ x.top)] 3) rfl rfl (fun w => (by simp [go_sem] <;> rfl)) ?_; intro q12 p12 hq12 hp12; simp only [Act.put, List.setIfInBounds_toArray, List.set_cons_succ, List.set_cons_zero])
    (repeat (first | (refine wpEH_skip rfl rfl ?_; simp only [Act.put, List.setIfInBounds_toArray, List.set_cons_succ, List.set_cons_zero]) | (refine wpEH_want rfl rfl ?_; intro Z hZs hZi hZn K hK; (first | (go_big_quiet_op; (first | go_big_quiet_on | go_big_quiet_call ((first | (go_at_call 74; exact UpZ.pure (vmost_any _ _ [capZ x.min, sumZ [x.walk, x.blinks], capZ x.top] _ (by simp) (ints_built [capZ x.min, sumZ [x.walk, x.blinks], capZ x.top] (hp12 _ (env_at (h := 12) (hZi _ (UpZ.z _)) rfl rfl))))) | fail))))); clear hZs hZi hZn Z)))
    (refine wpEH_build 6 (.cells #[.int .i64 (mostZ [capZ x.min, sumZ [x.walk, x.blinks], capZ x.top]), .int .i64 ext, .int .i64 x.yel, .int .i64 x.red, .int .i64 rev, .int .i64 8] 3) rfl rfl (fun w => (by simp [go_sem] <;> rfl)) ?_; intro q22 p22 hq22 hp22; simp only [Act.put, List.setIfInBounds_toArray, List.set_cons_succ, List.set_cons_zero])
    (repeat (first | (refine wpEH_skip rfl rfl ?_; simp only [Act.put, List.setIfInBounds_toArray, List.set_cons_succ, List.set_cons_zero]) | (refine wpEH_want rfl rfl ?_; intro Z hZs hZi hZn K hK; (first | (go_big_quiet_op; (first | go_big_quiet_on | go_big_quiet_call ((first | (go_at_call 53; exact UpZ.pure (vsum_any _ _ [mostZ [capZ x.min, sumZ [x.walk, x.blinks], capZ x.top], ext, x.yel, x.red, rev, 8] _ (by simp) (ints_built [mostZ [capZ x.min, sumZ [x.walk, x.blinks], capZ x.top], ext, x.yel, x.red, rev, 8] (hp22 _ (env_at (h := 22) (hZi _ (UpZ.z _)) rfl rfl))))) | fail))))); clear hZs hZi hZn Z)))
    (refine wpEH_nil ?_; intro u hinv; clear hinv; go_simp)
    go_wp2
    refine NoPanic.normal ?_
    go_wp2
    go_ret
    exact ⟨ret_int HR.out, by (repeat' (first | (with_reducible exact Below.refl _ _) | (with_reducible assumption) | (with_reducible refine Below.setCell ?_ ?_ _) | (with_reducible refine Below.alloc ?_ ?_ _) | (with_reducible refine Below.drew ?_) | (with_reducible refine Up.base _ ?_ ?_) | (with_reducible exact LeSize.out) | exact LeSize.out | exact Nat.le_add_right_of_le LeSize.out | exact Nat.le_add_right_of_le (Nat.le_add_right_of_le LeSize.out) | (with_reducible exact Nat.le_refl _) | (simp; done) | (simp; omega)))⟩
end Go.Proofs.Ytbnbakienajhmaa
