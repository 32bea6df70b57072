/- 'awake' of package detect's laws. -/
import Derived.Test.YteohpfelgaffoaaDetB
import Derived.Test.YteohpfelgaffoaaTabR
import Derived.Test.YteohpfelgaffoaaEnvC
namespace Go.Proofs.Yteohpfelgaffoaa
open Go.RowKit
set_option linter.unusedVariables false
attribute [local go_sem] IsBlk.cell IsBlk.frozen

def TabD (a : Option Addr) (n c : Nat) : Array Value := TabZero.setIfInBounds 113 (.slice a n c)
theorem tabD_size (a : Option Addr) (n c : Nat) : (TabD a n c).size = 131 := by unfold TabD; rw [Array.size_setIfInBounds]; rfl
theorem tabD_one (a : Option Addr) (n c : Nat) : (TabD a n c).all (·.oneCell') = true := by kernel_rfl
theorem wpList_build_tabD {ops : Array Oper} {rest : List Oper} {op : Oper} {a : Act} {w : World} {Q : Exit → Act → World → Prop} {x : Operand} {ad : Option Addr} {n c : Nat} (hgd : op.guard = none) (ho : op.op = .build 34 #[(3, x)])
    (hx : a.eval x = .slice ad n c) (h : wpList Try.prog ops Q rest (a.put op.dst (.agg (TabD ad n c))) w) : wpList Try.prog ops Q (op :: rest) a w := by
  have e : Sem.run Try.prog (execOp a.eval op) w = .ok (.value (.agg (TabD ad n c))) w := by
    unfold execOp
    simp only [ho, List.map_toArray, List.map_cons, List.map_nil, hx]
    kernel_rfl
  refine wpList_plain hgd fun _ hK => ?_
  unfold Oper.wp
  rw [e]
  exact hK _ _ h
def dA : Det := ⟨3, 4617315517961601024, 4611686018427387904, 0, 0, 0, 0⟩
def t14 : Tab := ⟨fun _ => ph0, [], fun _ => 0, [dA], [], [], 0, 0, 0, 0, 0, fun _ => 0, 0, 0⟩
def c14 : Ch := stepCh dA ch0 4618441417868443648
def e14 : Ch := stepCh dA c14 4607182418800017408
theorem tabD_is (a : Option Addr) (n c : Nat) : TabD a n c = arrF 131 (tabAt t14 (.slice none 0 0) (.slice a n c) (.slice none 0 0) (.slice none 0 0)) := by kernel_rfl
theorem floats_new {w : World} {b : Nat} {cs : Array Value} {t : TypeId} (zs : List Nat) (hb : b = w.heap.size) (h : cs = (zs.map (Value.float .f64)).toArray) : Floats (w.alloc (.cells cs t)) (some ⟨b, 0, none⟩) zs := by
  subst hb h
  right
  refine ⟨_, 0, rfl, by simp, fun i hi => ?_⟩
  rw [World.cell?_alloc_at _ _ _ _ rfl]
  simp [hi, List.getD]
theorem floats_built {m : Nat} {q : Nat} {w : World} {t : TypeId} (zs : List Nat) (h : BuiltS m (.cells (zs.map (Value.float .f64)).toArray t) q w) : Floats w (some ⟨q, 0, none⟩) zs := by
  right
  refine ⟨_, 0, rfl, h.lt, fun i hi => ?_⟩
  rw [laid_cell h.out (0 + i) (v := .float .f64 (zs.getD i 0)) (by simp [hi, List.getD])]
/-- The contract of Step, its result a slice that is read. -/
theorem dstep_up (T : Array Value) (t : Tab) (a : Option Addr) (cap : Nat) (cs : List Ch) (sa : Option Addr) (scap : Nat) (zs : List Nat) (w : World) (hT : IsTab w T t) (hcs : Chs w a cs) (hzs : Floats w sa zs) (htk : ∀ d ∈ t.de, IsTk d.dl ∧ IsTk d.ex) :
    Calls Try.prog 9 #[.agg T, .slice a cs.length cap, .slice sa zs.length scap] w fun e w' => ∃ a' cap', ∃ u : Up w, e = .returned (.slice a' t.de.length cap') ∧ w' = u.w ∧ Chs u.w a' (stepN t.de cs zs t.de.length) := by
  refine (dstep_any T t a cap cs sa scap zs w hT hcs hzs htk).mono ?_
  rintro e w' ⟨v, rfl, hown, hb⟩
  obtain ⟨a', cap', rfl, _, _, _, hr⟩ := OwnK.opened chC_len hown
  rw [stepN_len]
  refine ⟨a', cap', ⟨w', hb⟩, rfl, rfl, ?_⟩
  have : (stepN t.de cs zs t.de.length).length = t.de.length := stepN_len _ _ _ _
  exact hr
section
variable {P : Program} {ops : Array Oper} {W : World}
theorem wpEH_buildR {odd : List Nat} {deps : List (Nat × Nat)} {Rc : RcT} {Q : Env → Act → Prop} {o : Oper} {l : List Oper} {k : Nat} {is : List Nat} {e : Env} {a : Act} (m : Nat) (ob : Obj) (ho : odd.contains k = true) (hw : Region.wanted o (yielded ops a.tmps) = true)
    (hrun : ∀ w : World, (execOp a.eval o).run P w = .ok (.value (.slice (some ⟨w.heap.size, 0, none⟩) m m)) (w.alloc ob))
    (h : ∀ (q : Nat) (p : World → Prop), W.heap.size ≤ q → (∀ w, p w → BuiltS m ob q w) → wpEH P ops W odd deps Rc Q l is (e.upd k p) (a.put o.dst (.slice (some ⟨q, 0, none⟩) m m))) : wpEH P ops W odd deps Rc Q (o :: l) (k :: is) e a := by
  refine wpEH_odd ho hw (fun u _ => by rw [hrun]; exact (Below.refl _ _).alloc (Nat.le_refl _) _) ?_
  rintro v ⟨u, hu⟩
  have hu0 := hu
  obtain ⟨u1, h1⟩ := hu
  rw [hrun] at h1
  obtain ⟨rfl, hb⟩ := h1
  refine h _ _ u1.bel.size fun w hr => ?_
  obtain ⟨u2, h2⟩ := hr
  rw [hrun] at h2
  obtain ⟨hv, hb2⟩ := h2
  have : u2.w.heap.size = u1.w.heap.size := by simpa using hv
  rw [← this]
  exact ⟨by rw [hb2.block _ (by simp)]; exact heap_alloc_here _ _⟩
end
def RcCh (L : List Ch) : RcT := fun f args v w => ∃ a' c', v = .slice a' L.length c' ∧ Chs w a' L
theorem rcCh_stable (L : List Ch) : ∀ f args v, Stable (RcCh L f args v) := fun f args v w w' ⟨a', c', e, h⟩ hb => ⟨a', c', e, h.below hb (Nat.le_refl _)⟩
theorem here_lit {f : FuncId} {args : Array Value} {w : World} {n m : Int} (h : Calls Try.prog f args w fun e w' => e = .returned (.int .i64 n) ∧ Below w.heap.size w w') (e : n = m) : Calls Try.prog f args w fun e w' => e = .returned (.int .i64 m) ∧ Below w.heap.size w w' := by rw [← e]; exact h
set_option maxHeartbeats 8000000 in
set_option maxRecDepth 100000 in
theorem awake14_any (w : World) : Calls Try.prog 7 #[] w fun e w' => e = .returned (.bool true) ∧ Below w.heap.size w w' := by
  have hz := zeroTab
  go_enter Try.func7, Try.ntmps7
  go_upto_region 2 with (first | (refine wpList_build_tabD rfl rfl rfl ?_; go_simp) | (refine wpList_store_newT (T := TabD _ _ _) 34 rfl rfl rfl rfl inferInstance (by rw [tabD_size]; rfl) (by rw [tabD_size]; exact info_tab) (tabD_one _ _ _) ?_; go_simp))
  have i0 : IsBlk ((w.alloc (.cells #[.int .i64 3, .float .f64 4617315517961601024, .float .f64 4611686018427387904, .float .f64 0, .float .f64 0, .int .i64 0, .int .i64 0] 54)).alloc (.cells (TabD (some ⟨w.heap.size, 0, none⟩) 1 1) 34)) w.heap.size #[.int .i64 3, .float .f64 4617315517961601024, .float .f64 4611686018427387904, .float .f64 0, .float .f64 0, .int .i64 0, .int .i64 0] 54 := inferInstance
  have i1 : IsBlk ((w.alloc (.cells #[.int .i64 3, .float .f64 4617315517961601024, .float .f64 4611686018427387904, .float .f64 0, .float .f64 0, .int .i64 0, .int .i64 0] 54)).alloc (.cells (TabD (some ⟨w.heap.size, 0, none⟩) 1 1) 34)) (w.heap.size + 1) (TabD (some ⟨w.heap.size, 0, none⟩) 1 1) 34 := inferInstance
  have hbw : Below w.heap.size w ((w.alloc (.cells #[.int .i64 3, .float .f64 4617315517961601024, .float .f64 4611686018427387904, .float .f64 0, .float .f64 0, .int .i64 0, .int .i64 0] 54)).alloc (.cells (TabD (some ⟨w.heap.size, 0, none⟩) 1 1) 34)) := by (repeat' (first | (with_reducible exact Below.refl _ _) | (with_reducible assumption) | (with_reducible refine Below.setCell ?_ ?_ _) | (with_reducible refine Below.alloc ?_ ?_ _) | (with_reducible refine Below.drew ?_) | (with_reducible refine Up.base _ ?_ ?_) | (with_reducible exact LeSize.out) | exact LeSize.out | exact Nat.le_add_right_of_le LeSize.out | exact Nat.le_add_right_of_le (Nat.le_add_right_of_le LeSize.out) | (with_reducible exact Nat.le_refl _) | (simp; done) | (simp; omega)))
  generalize ((w.alloc (.cells #[.int .i64 3, .float .f64 4617315517961601024, .float .f64 4611686018427387904, .float .f64 0, .float .f64 0, .int .i64 0, .int .i64 0] 54)).alloc (.cells (TabD (some ⟨w.heap.size, 0, none⟩) 1 1) 34)) = W0 at *
  have hT : IsTab W0 (TabD (some ⟨w.heap.size, 0, none⟩) 1 1) t14 := by
    refine ⟨_, _, _, _, tabD_is _ _ _, ⟨⟨none, 0, fun _ _ => (none, 0), rfl, .inl rfl, fun i hi => absurd hi (Nat.not_lt_zero _)⟩, ⟨some ⟨w.heap.size, 0, none⟩, 1, rfl, .inr ⟨w.heap.size, 0, rfl, i0.le.out, fun i hi j hj => ?_⟩⟩, ⟨none, 0, rfl, .inl rfl⟩, ⟨none, 0, rfl, .inl rfl⟩, by decide, fun i j => by unfold rowOf t14; simp, by decide, by decide, by decide⟩⟩
    have hi' : i = 0 := by have : i < 1 := hi; omega
    subst hi'
    rcases (show j = 0 ∨ j = 1 ∨ j = 2 ∨ j = 3 ∨ j = 4 ∨ j = 5 ∨ j = 6 by omega) with rfl | rfl | rfl | rfl | rfl | rfl | rfl
    all_goals exact laid_cell i0.out _ rfl
  haveI : Sz131 (TabD (some ⟨w.heap.size, 0, none⟩) 1 1) := ⟨tabD_size _ _ _⟩
  generalize (TabD (some ⟨w.heap.size, 0, none⟩) 1 1) = T at *
  have HT : Hid (∀ w', Below W0.heap.size W0 w' → IsTab w' T t14) := Lib.hid fun w' hb => hT.below hb (Nat.le_refl _)
  have HTK : Hid (∀ d ∈ t14.de, IsTk d.dl ∧ IsTk d.ex) := Lib.hid fun d hd => by
    have : d = dA := by simpa [t14] using hd
    rw [this]; exact ⟨.inl rfl, .inl rfl⟩
  have HS1 : Hid (stepN t14.de [] [4618441417868443648] t14.de.length = [c14]) := Lib.hid rfl
  have HS2 : Hid (stepN t14.de [c14] [4607182418800017408] t14.de.length = [e14]) := Lib.hid rfl
  have HH1 : Hid (hereN t14.de [c14] (min [c14].length t14.de.length) = 8) := Lib.hid (by decide +kernel)
  have HH2 : Hid (hereN t14.de [e14] (min [e14].length t14.de.length) = 0) := Lib.hid (by decide +kernel)
  have hws := hbw.size
  haveI : LeSize w.heap.size W0 := ⟨hws⟩
  clear hT i0
  go_upto_region 3 with (first | (refine l_ltab rfl rfl rfl ?_; go_simp) | (go_at_call 9; refine (dstep_up T t14 none 0 [] _ 1 [4618441417868443648] _ (HT.out _ (by (repeat' (first | (with_reducible exact Below.refl _ _) | (with_reducible assumption) | (with_reducible refine Below.setCell ?_ ?_ _) | (with_reducible refine Below.alloc ?_ ?_ _) | (with_reducible refine Below.drew ?_) | (with_reducible refine Up.base _ ?_ ?_) | (with_reducible exact LeSize.out) | exact LeSize.out | exact Nat.le_add_right_of_le LeSize.out | exact Nat.le_add_right_of_le (Nat.le_add_right_of_le LeSize.out) | (with_reducible exact Nat.le_refl _) | (simp; done) | (simp; omega))))) (.inl rfl) (floats_new _ (by simp) rfl) HTK.out).mono ?_; rintro e w' ⟨a1, k1, u1, rfl, rfl, hch⟩; rw [HS1.out] at hch))
  have e1 : t14.de.length = 1 := rfl
  rw [e1]
  have HCH := Lib.hid hch
  have HE1 : Hid (∀ w', Below u1.w.heap.size u1.w w' → Calls Try.prog 13 #[.agg T, .slice a1 1 k1] w' fun e w'' => e = .returned (.int .i64 8) ∧ Below w'.heap.size w' w'') := Lib.hid fun w' hb => by
    have := here_any T t14 a1 k1 [c14] w' (HT.out _ ((by (repeat' (first | (with_reducible exact Below.refl _ _) | (with_reducible assumption) | (with_reducible refine Below.setCell ?_ ?_ _) | (with_reducible refine Below.alloc ?_ ?_ _) | (with_reducible refine Below.drew ?_) | (with_reducible refine Up.base _ ?_ ?_) | (with_reducible exact LeSize.out) | exact LeSize.out | exact Nat.le_add_right_of_le LeSize.out | exact Nat.le_add_right_of_le (Nat.le_add_right_of_le LeSize.out) | (with_reducible exact Nat.le_refl _) | (simp; done) | (simp; omega))) : Below W0.heap.size W0 u1.w).trans (hb.mono (by (repeat' (first | (with_reducible exact Below.refl _ _) | (with_reducible assumption) | (with_reducible refine Below.setCell ?_ ?_ _) | (with_reducible refine Below.alloc ?_ ?_ _) | (with_reducible refine Below.drew ?_) | (with_reducible refine Up.base _ ?_ ?_) | (with_reducible exact LeSize.out) | exact LeSize.out | exact Nat.le_add_right_of_le LeSize.out | exact Nat.le_add_right_of_le (Nat.le_add_right_of_le LeSize.out) | (with_reducible exact Nat.le_refl _) | (simp; done) | (simp; omega))))))) (hch.below hb (Nat.le_refl _)) (by simp)
    rwa [HH1.out] at this
  clear hch
  go_wp2
  (refine wp_region_noPanic ?_; refine wp_region_envF [] [0, 1, 2, 3, 4, 5, 6, 7, 8, 9, 10, 11, 12, 13, 14, 15, 16, 17, 18] [] [13, 14] [(14, 13), (15, 14)] (RcCh [e14]) (by kernel_rfl) (by kernel_rfl) (fun _ _ _ _ _ h => (h : False).elim) (rcCh_stable _) ?_; simp only [pickO, List.filterMap_cons, List.filterMap_nil, List.getElem?_cons_succ, List.getElem?_cons_zero]; refine wpAddr_nil ?_)
  (repeat (first | (refine wpEH_skip rfl rfl ?_; simp only [Act.put, List.setIfInBounds_toArray, List.set_cons_succ, List.set_cons_zero]) | (refine wpEH_want rfl rfl ?_; intro Z hZs hZi hZn K hK; (first | (refine z_ltab rfl rfl ?_; simp only [Act.put, List.setIfInBounds_toArray, List.set_cons_succ, List.set_cons_zero]; go_big_quiet_on) | (go_big_quiet_op; (first | go_big_quiet_on | go_big_quiet_call ((first | (go_at_call 13; (with_reducible refine UpZ.calls hZs (HE1.out _ ?_)); (repeat' (first | (with_reducible exact Below.refl _ _) | (with_reducible assumption) | (with_reducible refine Below.setCell ?_ ?_ _) | (with_reducible refine Below.alloc ?_ ?_ _) | (with_reducible refine Below.drew ?_) | (with_reducible refine Up.base _ ?_ ?_) | (with_reducible exact LeSize.out) | exact LeSize.out | exact Nat.le_add_right_of_le LeSize.out | exact Nat.le_add_right_of_le (Nat.le_add_right_of_le LeSize.out) | (with_reducible exact Nat.le_refl _) | (simp; done) | (simp; omega)))) | fail))))); clear hZs hZi hZn Z)))
  refine wpEH_buildR 1 (.cells #[.float .f64 4607182418800017408] 24) rfl rfl (fun w => (by simp [go_sem] <;> rfl)) ?_
  intro q13 p13 hq13 hp13
  (try simp only [Act.put, List.setIfInBounds_toArray, List.set_cons_succ, List.set_cons_zero])
  refine wpEH_ocall (f := 9) (args := #[.agg T, .slice a1 1 k1, .slice (some ⟨q13, 0, none⟩) 1 1]) rfl rfl (fun w => by simp [go_sem]) (fun u hu => ?_) ?_
  · have hz := floats_built [4607182418800017408] (hp13 _ (env_at (h := 13) hu rfl rfl))
    refine (dstep_up T t14 a1 k1 [c14] _ 1 [4607182418800017408] u.w (HT.out _ (by (repeat' (first | (with_reducible exact Below.refl _ _) | (with_reducible assumption) | (with_reducible refine Below.setCell ?_ ?_ _) | (with_reducible refine Below.alloc ?_ ?_ _) | (with_reducible refine Below.drew ?_) | (with_reducible refine Up.base _ ?_ ?_) | (with_reducible exact LeSize.out) | exact LeSize.out | exact Nat.le_add_right_of_le LeSize.out | exact Nat.le_add_right_of_le (Nat.le_add_right_of_le LeSize.out) | (with_reducible exact Nat.le_refl _) | (simp; done) | (simp; omega))))) (HCH.out.below u.bel (Nat.le_refl _)) hz HTK.out).mono ?_
    rintro e w' ⟨a4, k4, u4, rfl, rfl, he⟩
    rw [HS2.out] at he
    exact ⟨_, rfl, ⟨a4, k4, rfl, he⟩, u4.bel⟩
  · rintro v p ⟨u0, a4, k4, rfl, hE0⟩ hp
    have hp14 : ∀ w, p w → Chs w a4 [e14] := fun w h => by
      obtain ⟨a5, c5, e, h5⟩ := hp w h
      cases e; exact h5
    clear hp hE0 u0
    (try simp only [Act.put, List.setIfInBounds_toArray, List.set_cons_succ, List.set_cons_zero])
    (repeat (first | (refine wpEH_skip rfl rfl ?_; simp only [Act.put, List.setIfInBounds_toArray, List.set_cons_succ, List.set_cons_zero]) | (refine wpEH_want rfl rfl ?_; intro Z hZs hZi hZn K hK; (first | (refine z_ltab rfl rfl ?_; simp only [Act.put, List.setIfInBounds_toArray, List.set_cons_succ, List.set_cons_zero]; go_big_quiet_on) | (go_big_quiet_op; (first | go_big_quiet_on | go_big_quiet_call ((first | (go_at_call 13; (refine UpZ.calls hZs (here_lit (here_any T t14 a4 k4 [e14] _ (HT.out _ ?_) (hp14 _ (env_at (h := 14) (hZi _ (UpZ.z _)) rfl rfl)) (by simp)) HH2.out)); (repeat' (first | (with_reducible exact Below.refl _ _) | (with_reducible assumption) | (with_reducible refine Below.setCell ?_ ?_ _) | (with_reducible refine Below.alloc ?_ ?_ _) | (with_reducible refine Below.drew ?_) | (with_reducible refine Up.base _ ?_ ?_) | (with_reducible exact LeSize.out) | exact LeSize.out | exact Nat.le_add_right_of_le LeSize.out | exact Nat.le_add_right_of_le (Nat.le_add_right_of_le LeSize.out) | (with_reducible exact Nat.le_refl _) | (simp; done) | (simp; omega)))) | fail))))); clear hZs hZi hZn Z)))
    refine wpEH_nil ?_; intro u hinv
    clear hinv hp14 hp13 p13
    go_wp2
    refine NoPanic.normal ?_
    go_wp2
    go_ret
    exact ⟨rfl, by (repeat' (first | (with_reducible exact Below.refl _ _) | (with_reducible assumption) | (with_reducible refine Below.setCell ?_ ?_ _) | (with_reducible refine Below.alloc ?_ ?_ _) | (with_reducible refine Below.drew ?_) | (with_reducible refine Up.base _ ?_ ?_) | (with_reducible exact LeSize.out) | exact LeSize.out | exact Nat.le_add_right_of_le LeSize.out | exact Nat.le_add_right_of_le (Nat.le_add_right_of_le LeSize.out) | (with_reducible exact Nat.le_refl _) | (simp; done) | (simp; omega)))⟩
end Go.Proofs.Yteohpfelgaffoaa
