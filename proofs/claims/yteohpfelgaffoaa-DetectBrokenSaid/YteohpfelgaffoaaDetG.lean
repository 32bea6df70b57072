/- What is broken calls for ever; what is whole again does not. -/
import Derived.Test.YteohpfelgaffoaaDetF
import Derived.Test.YteohpfelgaffoaaBld
import Derived.Laws.MakeOwn
namespace Go.Proofs.Yteohpfelgaffoaa
open Go.ChangeShapes Go.WideShapes Go.ChangeAt Go.RowKit
set_option linter.unusedVariables false

theorem floats_at {w : World} {q : Nat} {t : TypeId} (zs : List Nat) (h : w.heap[q]? = some (.cells (zs.map (Value.float .f64)).toArray t)) : Floats w (some ⟨q, 0, none⟩) zs := by
  right
  refine ⟨_, 0, rfl, (Array.getElem?_eq_some_iff.1 h).1, fun i hi => ?_⟩
  rw [laid_cell h (0 + i) (v := .float .f64 (zs.getD i 0)) (by simp [hi, List.getD])]
/-- The contract of Table, its detectors owned. -/
theorem ltable_upO (a : Option Addr) (cap : Nat) (zs : List Int) (w : World) (hl : zs.length ≤ 9223372036854775807) (hz : Ints w a zs) :
    Calls Try.prog 6 #[.slice a zs.length cap] w fun e w' => ∃ T, ∃ u : Up w, e = .returned (.agg T) ∧ w' = u.w ∧ IsTab u.w T (tabM zs) ∧ OwnDe u.w w.heap.size T (tabM zs).de := by
  refine (ltable_own a cap zs w hl hz).mono ?_
  rintro e w' ⟨T, rfl, hT, hO, hb⟩
  exact ⟨T, ⟨w', hb⟩, rfl, rfl, hT, hO⟩
/-- Made later than this. -/
def FarA (B : Nat) (a : Option Addr) : Prop := ∀ p, a = some p → B ≤ p.block
theorem FarA.less {B B' : Nat} {a : Option Addr} (h : FarA B a) (hb : B' ≤ B) : FarA B' a := fun p e => Nat.le_trans hb (h p e)
theorem ownK_far {α : Type} {C : α → List Value} {e : TypeId} {k : Nat} {w : World} {base : Nat} {v : Value} {xs : List α} (h : OwnK e k C w base v xs) : ∀ a n c, v = .slice a n c → FarA base a := by
  intro a n c hv p hp
  rcases h.2 with ⟨rfl, _⟩ | ⟨g, cap, cur, rfl, hg, _⟩
  · cases hv; cases hp
  · cases hv; cases hp; exact hg
theorem chs_set {w : World} {a : Option Addr} {cs : List Ch} {g o : Nat} {v : Value} {B : Nat} (h : Chs w a cs) (hf : FarA B a) (hg : g < B) : Chs (w.setCell ⟨g, o, none⟩ v) a cs := by
  rcases h with h | ⟨b, off, rfl, hb, hc⟩
  · exact .inl h
  · have hB := hf _ rfl
    exact .inr ⟨b, off, rfl, by simpa using hb, fun i hi j hj => by
      rw [World.cell?_setCell_other _ _ _ _ (fun e => by have := congrArg Addr.block e; simp at this hB; omega)]; exact hc i hi j hj⟩
/-- The contract of Here over a table's detectors. -/
theorem here_upD (T : Array Value) (de : List Det) (a : Option Addr) (cap : Nat) (cs : List Ch) (n : Nat) (s : Int) (w : World) (hT : IsDe w T de) (hcs : Chs w a cs) (hc : cs.length = n) (hn : de.length = n) (hn8 : n ≤ 8) (hs : hereN de cs n = s) :
    Calls Try.prog 13 #[.agg T, .slice a n cap] w fun e w' => e = .returned (.int .i64 s) ∧ Below w.heap.size w w' := by
  have h := here_de T de a cap cs w hT hcs (by omega)
  rw [hn, hc, Nat.min_self, hs] at h
  exact h
/-- The contract of Step over a table's detectors. -/
theorem dstep_upD (T : Array Value) (de : List Det) (a : Option Addr) (cap : Nat) (cs : List Ch) (sa : Option Addr) (scap : Nat) (zs : List Nat) (m n : Nat) (w : World) (hT : IsDe w T de) (hcs : Chs w a cs) (hzs : Floats w sa zs) (htk : ∀ d ∈ de, IsTk d.dl ∧ IsTk d.ex) (hm : zs.length = m) (hn : de.length = n) :
    Calls Try.prog 9 #[.agg T, .slice a cs.length cap, .slice sa m scap] w fun e w' => ∃ a' cap', ∃ u : Up w, e = .returned (.slice a' n cap') ∧ w' = u.w ∧ Chs u.w a' (stepN de cs zs n) ∧ FarA w.heap.size a' := by
  subst hm hn
  refine (dstep_de T de a cap cs sa scap zs w hT hcs hzs htk).mono ?_
  rintro e w' ⟨v, rfl, hown, hb⟩
  have hfar := ownK_far hown
  obtain ⟨a', cap', rfl, _, _, _, hr⟩ := OwnK.opened chC_len hown
  rw [stepN_len] at hfar ⊢
  refine ⟨a', cap', ⟨w', hb⟩, rfl, rfl, hr, hfar _ _ _ rfl⟩
/-! ### The detectors' waits are set to zero, one after another -/
def detZ2 (d : Det) : Det := ⟨d.ph, d.on, d.off, d.dl, d.ex, 0, 0⟩
def dzAt (de : List Det) (i q : Nat) : Det := if q < i then detZ2 (de.getD q detZ) else de.getD q detZ
structure DzIn (w : World) (g : Nat) (de : List Det) (i : Nat) : Prop where
  out : ∃ cur t, w.heap[g]? = some (.cells cur t (0, 0)) ∧ ∀ q, q < de.length → ∀ j, j < 7 → cur[q * 7 + j]? = (detC (dzAt de i q))[j]?
theorem ownDe_open {w : World} {base : Nat} {T : Array Value} {de : List Det} (h : OwnDe w base T de) : ∃ g da cap, T[113]? = some (.slice da de.length cap) ∧ (0 < de.length → da = some ⟨g, 0, none⟩ ∧ base ≤ g ∧ DzIn w g de 0) := by
  obtain ⟨v, hv, hl, h⟩ := h
  rcases h with ⟨rfl, h0⟩ | ⟨g, cap, cur, rfl, hg, hc, h3, h4, h5, h6⟩
  · exact ⟨0, none, 0, by rw [hv, h0], fun h => by omega⟩
  · refine ⟨g, _, cap, hv, fun _ => ⟨rfl, hg, ⟨cur, _, hc, fun q hq j hj => ?_⟩⟩⟩
    have hx : de[q]? = some de[q] := List.getElem?_eq_getElem hq
    have hij : q * 7 + j < de.length * 7 := by omega
    have h7 : (cur.toList.take (de.length * 7))[q * 7 + j]? = (detC de[q])[j]? := by rw [h6]; exact flat_get detC_len de q j _ hx hj
    rw [List.getElem?_take, if_pos hij] at h7
    rw [← Array.getElem?_toList, h7]
    simp [dzAt, List.getD, hx]
theorem DzIn.cell {w : World} {g : Nat} {de : List Det} {i : Nat} (h : DzIn w g de i) {q j : Nat} (hq : q < de.length) (hj : j < 7) : w.cell? ⟨g, q * 7 + j, none⟩ = some (((detC (dzAt de i q))[j]?).getD undef) := by
  obtain ⟨cur, t, hc, h⟩ := h.out
  refine laid_cell hc _ ?_
  rw [h q hq j hj, List.getElem?_eq_getElem (by rw [detC_len]; exact hj)]; rfl
theorem DzIn.frozen {w : World} {g : Nat} {de : List Det} {i : Nat} (h : DzIn w g de i) (o : Nat) : w.frozen? ⟨g, o, none⟩ = false := by
  obtain ⟨cur, t, hc, _⟩ := h.out
  exact laid_open hc o
theorem DzIn.lt {w : World} {g : Nat} {de : List Det} {i : Nat} (h : DzIn w g de i) : g < w.heap.size := by
  obtain ⟨cur, t, hc, _⟩ := h.out
  exact (Array.getElem?_eq_some_iff.1 hc).1
theorem DzIn.below {B : Nat} {w w' : World} {g : Nat} {de : List Det} {i : Nat} (h : DzIn w g de i) (hb : Below B w w') (hB : w.heap.size ≤ B) : DzIn w' g de i := by
  have hl := h.lt
  obtain ⟨cur, t, hc, h⟩ := h.out
  exact ⟨cur, t, by rw [hb.block _ (by omega)]; exact hc, h⟩
theorem DzIn.step {w : World} {g : Nat} {de : List Det} {i : Nat} (h : DzIn w g de i) : DzIn ((w.setCell ⟨g, i * 7 + 5, none⟩ (.int .i64 0)).setCell ⟨g, i * 7 + 6, none⟩ (.int .i64 0)) g de (i + 1) := by
  obtain ⟨cur, t, hc, h⟩ := h.out
  refine ⟨_, t, heap_set_same (heap_set_same hc _ _) _ _, fun q hq j hj => ?_⟩
  have hs : q * 7 + j < cur.size := by
    have := h q hq j hj
    rw [List.getElem?_eq_getElem (by rw [detC_len]; exact hj)] at this
    exact (Array.getElem?_eq_some_iff.1 this).1
  rw [Array.getElem?_setIfInBounds, Array.getElem?_setIfInBounds, h q hq j hj, Array.size_setIfInBounds]
  by_cases hqi : q = i
  · subst hqi
    rcases (show j = 0 ∨ j = 1 ∨ j = 2 ∨ j = 3 ∨ j = 4 ∨ j = 5 ∨ j = 6 by omega) with rfl | rfl | rfl | rfl | rfl | rfl | rfl <;> simp [dzAt, detZ2, detC, hs]
  · rw [if_neg (by omega), if_neg (by omega)]
    have : (q < i + 1) = (q < i) := propext ⟨by omega, by omega⟩
    simp only [dzAt, this]
theorem DzIn.row {w : World} {g : Nat} {de : List Det} (h : DzIn w g de de.length) : RowK w (some ⟨g, 0, none⟩) 7 (de.map detZ2).length (cellK detC (de.map detZ2)) := by
  refine .inr ⟨g, 0, rfl, h.lt, fun i hi j hj => ?_⟩
  rw [List.length_map] at hi
  rw [Nat.zero_add, h.cell hi hj]
  simp [cellK, dzAt, hi, List.getD]
/-- The channels, kept between ticks. -/
structure BrSt (n m : Nat) (W0 wr : World) (a : Option Addr) (cs : List Ch) : Prop where
  chs : Chs wr a cs
  far : FarA W0.heap.size a
  tl : ∀ d, 0 ≤ (cs.getD d ch0).tl ∧ (cs.getD d ch0).tl ≤ 5
  bad0 : ∀ d, 0 ≤ (cs.getD d ch0).bad
  bad : ∀ d, d < n → (m : Int) ≤ (cs.getD d ch0).bad
  bel : Below W0.heap.size W0 wr
theorem step_bad0 {d : Det} {c : Ch} {x : Nat} (h : 0 ≤ c.bad) : 0 ≤ (stepCh d c x).bad := by
  have hm := lv_moreM_bd c.bad
  show 0 ≤ (lv_levM d.on d.off c.on c.bad x).2
  unfold lv_levM
  split
  · show 0 ≤ lv_moreM c.bad; omega
  · split
    · exact Int.le_refl 0
    · split <;> exact Int.le_refl 0
theorem BrSt.step {n m : Nat} {W0 wr w' : World} {a a' : Option Addr} {cs : List Ch} {de : List Det} {zs : List Nat} (h : BrSt n m W0 wr a cs) (hb : Below W0.heap.size W0 w') (hc : Chs w' a' (stepN de cs zs n)) (hf : FarA W0.heap.size a') : BrSt n 0 W0 w' a' (stepN de cs zs n) := by
  refine ⟨hc, hf, fun d => ?_, fun d => ?_, fun d hd => ?_, hb⟩
  · by_cases hd : d < n
    · rw [stepN_get _ _ _ hd]; exact step_tl5 (h.tl d)
    · rw [stepN_out _ _ _ hd]; decide
  · by_cases hd : d < n
    · rw [stepN_get _ _ _ hd]; exact step_bad0 (h.bad0 d)
    · rw [stepN_out _ _ _ hd]; decide
  · rw [stepN_get _ _ _ hd]; exact step_bad0 (h.bad0 d)
theorem BrSt.stepB {n i : Nat} {W0 wr w' : World} {a a' : Option Addr} {cs : List Ch} {de : List Det} {zs : List Nat} (h : BrSt n (min i 3) W0 wr a cs) (hb : Below W0.heap.size W0 w') (hc : Chs w' a' (stepN de cs zs n)) (hf : FarA W0.heap.size a') (hz : ∀ d, d < n → lv_badM (zs.getD d nanF) = true) : BrSt n (min (i + 1) 3) W0 w' a' (stepN de cs zs n) := by
  obtain ⟨h1, h1f, h2, h3, _, h5⟩ := h.step hb hc hf
  refine ⟨h1, h1f, h2, h3, fun d hd => ?_, h5⟩
  rw [stepN_get _ _ _ hd, step_bad (hz d hd)]
  exact min3_step (h.bad d hd)
theorem BrSt.less {n m : Nat} {W0 wr : World} {a : Option Addr} {cs : List Ch} (h : BrSt n m W0 wr a cs) : BrSt n 0 W0 wr a cs := ⟨h.chs, h.far, h.tl, h.bad0, fun d _ => h.bad0 d, h.bel⟩
theorem BrSt.below {n m : Nat} {W0 wr w' : World} {a : Option Addr} {cs : List Ch} (h : BrSt n m W0 wr a cs) (hb : Below wr.heap.size wr w') : BrSt n m W0 w' a cs := ⟨h.chs.below hb (Nat.le_refl _), h.far, h.tl, h.bad0, h.bad, h.bel.trans (hb.mono h.bel.size)⟩
theorem BrSt.here {n m : Nat} {W0 wr : World} {a : Option Addr} {cs : List Ch} {de : List Det} (h : BrSt n m W0 wr a cs) (hm : 3 ≤ m) : hereN de cs n = allN de n :=
  here_all fun d hd => by
    have := h.bad d hd
    unfold callB
    have h3 : decide (3 ≤ (cs.getD d ch0).bad) = true := decide_eq_true (by omega)
    rw [h3, Bool.or_true, Bool.true_or]
/-- The channels, while nothing is said. -/
structure ZeSt (n e : Nat) (W0 wr : World) (a : Option Addr) (cs : List Ch) : Prop where
  chs : Chs wr a cs
  tl : e = 0 → ∀ d, 0 ≤ (cs.getD d ch0).tl ∧ (cs.getD d ch0).tl ≤ 5
  ze : 0 < e → ∀ d, d < n → ZeIn e (cs.getD d ch0)
  len : 0 < e → cs.length = n
  bel : Below W0.heap.size W0 wr
theorem ZeSt.step {n e : Nat} {W0 wr w' : World} {a a' : Option Addr} {cs : List Ch} {de : List Det} {zs : List Nat} (h : ZeSt n e W0 wr a cs) (hb : Below W0.heap.size W0 w') (hc : Chs w' a' (stepN de cs zs n)) (hz : ∀ d, d < n → zs.getD d nanF = 0)
    (hd : ∀ d, d < n → fge 0 (de.getD d ⟨0, 0, 0, 0, 0, 0, 0⟩).on = false ∧ fle 0 (de.getD d ⟨0, 0, 0, 0, 0, 0, 0⟩).off = true) : ZeSt n (e + 1) W0 w' a' (stepN de cs zs n) := by
  refine ⟨hc, fun h => by omega, fun _ d hdn => ?_, fun _ => stepN_len _ _ _ _, hb⟩
  rw [stepN_get _ _ _ hdn, hz d hdn]
  obtain ⟨h1, h2⟩ := hd d hdn
  by_cases he : e = 0
  · subst he; exact ze_first h1 h2 (h.tl rfl d)
  · exact ze_step h1 h2 (h.ze (by omega) d hdn)
theorem ZeSt.here {n e : Nat} {W0 wr : World} {a : Option Addr} {cs : List Ch} {de : List Det} (h : ZeSt n e W0 wr a cs) (he : 6 ≤ e) (hm : ∀ d, d < n → (de.getD d ⟨0, 0, 0, 0, 0, 0, 0⟩).mon = 0 ∧ (de.getD d ⟨0, 0, 0, 0, 0, 0, 0⟩).mof = 0) : hereN de cs n = 0 :=
  here_none fun d hd => ze_call he (hm d hd) (h.ze (by omega) d hd)
/-- While the waits are set to zero. -/
structure LzSt (w W0 wx : World) (b : Nat) (T : Array Value) (g : Nat) (de : List Det) (e : Nat) (a : Option Addr) (cs : List Ch) : Prop where
  tab : IsBlk wx b T 34
  dz : 0 < de.length → DzIn wx g de e
  chs : Chs wx a cs
  bel : Below w.heap.size w wx
  siz : W0.heap.size ≤ wx.heap.size
theorem LzSt.step {w W0 wx : World} {b : Nat} {T : Array Value} {g : Nat} {de : List Det} {e : Nat} {a : Option Addr} {cs : List Ch} (h : LzSt w W0 wx b T g de e a cs) (hf : FarA W0.heap.size a) (hg : g < W0.heap.size) (hgb : g ≠ b) (hgw : w.heap.size ≤ g) :
    LzSt w W0 ((wx.setCell ⟨g, e * 7 + 5, none⟩ (.int .i64 0)).setCell ⟨g, e * 7 + 6, none⟩ (.int .i64 0)) b T g de (e + 1) a cs := by
  haveI := h.tab
  haveI : Apart g b := ⟨hgb⟩
  haveI : Apart b g := ⟨hgb.symm⟩
  exact ⟨inferInstance, fun h0 => (h.dz h0).step, chs_set (chs_set h.chs hf hg) hf hg, (h.bel.setCell (p := ⟨g, _, none⟩) hgw _).setCell (p := ⟨g, _, none⟩) hgw _, by simpa using h.siz⟩
theorem detZ2_get {de : List Det} {q : Nat} (h : q < de.length) : (de.map detZ2).getD q ⟨0, 0, 0, 0, 0, 0, 0⟩ = detZ2 (de.getD q ⟨0, 0, 0, 0, 0, 0, 0⟩) := by simp [List.getD, h]
theorem getD_mem {de : List Det} {q : Nat} (h : q < de.length) : de.getD q ⟨0, 0, 0, 0, 0, 0, 0⟩ ∈ de := by simp [List.getD, h]
set_option maxHeartbeats 2000000 in
theorem infP_any (w : World) : Calls Try.prog 11 #[.int .i64 1] w fun e w' => e = .returned (.float .f64 9218868437227405312) ∧ w = w' := by
  have h : ∀ w, Sem.run Try.prog (callFunc 32 #[.int .u64 9218868437227405312]) w = .ok (.value (.float .f64 9218868437227405312)) w := fun w => by kernel_rfl
  go_enter Try.func11, Try.ntmps11
  go_wp2
  go_ret
  exact ⟨rfl, rfl⟩
set_option maxHeartbeats 2000000 in
theorem infM_any (w : World) : Calls Try.prog 11 #[.int .i64 (-1)] w fun e w' => e = .returned (.float .f64 18442240474082181120) ∧ w = w' := by
  have h : ∀ w, Sem.run Try.prog (callFunc 32 #[.int .u64 18442240474082181120]) w = .ok (.value (.float .f64 18442240474082181120)) w := fun w => by kernel_rfl
  go_enter Try.func11, Try.ntmps11
  go_wp2
  go_ret
  exact ⟨rfl, rfl⟩
theorem zero16 {q : Nat} (h : q < 16) : (List.replicate 16 (0 : Nat)).getD q nanF = 0 := by
  rw [List.getD_eq_getElem?_getD, List.getElem?_replicate, if_pos h]; rfl
theorem run_make16 (w : World) : Sem.run Try.prog (Instr.makeSlice 23 (.int .i64 16) (.int .i64 16)) w = .ok (.slice (some ⟨w.heap.size, 0, none⟩) 16 16) (w.alloc (.cells (List.replicate 16 (Value.float .f64 0)).toArray 24)) := by
  obtain ⟨i, hi, hz, hs, hb⟩ : ∃ i, Try.prog.info? 24 = some i ∧ i.zero = some (.float .f64 0) ∧ i.size = 1 ∧ i.bytes = 8 := by
    have : (Try.prog.info? 24).map (fun i => (i.zero, i.size, i.bytes)) = some (some (.float .f64 0), 1, 8) := by kernel_rfl
    cases hq : Try.prog.info? 24 with
    | none => simp [hq] at this
    | some i => exact ⟨i, rfl, by simpa [hq] using this⟩
  have h := run_make (P := Try.prog) w 23 24 i (.float .f64 0) Try.underlying23 hi hz .i64 .i64 16 16 (by omega) (by omega) (by rw [hb]; omega) (by omega)
  rw [hs] at h
  have e : madeCells (Value.float .f64 0).cells ((16 : Int).toNat * 1) = (List.replicate 16 (Value.float .f64 0)).toArray := by kernel_rfl
  rw [e] at h
  exact h
attribute [local go_sem] run_make16
theorem run_index_bad {k : Int} (hk : 0 ≤ k ∧ k < 4) (w : World) : Sem.run Try.prog (Instr.index 52 (.agg #[.float .f64 nanF, .float .f64 9218868437227405312, .float .f64 18442240474082181120, .float .f64 4701340746312056832]) (.int .i64 k)) w = .ok (.float .f64 (badV k)) w := by
  rcases (show k = 0 ∨ k = 1 ∨ k = 2 ∨ k = 3 by omega) with rfl | rfl | rfl | rfl <;> kernel_rfl
set_option maxHeartbeats 16000000 in
set_option maxRecDepth 100000 in
theorem detectBroken_walk (a0 : Option Addr) (cap0 : Nat) (z0 : List Int) (a1 : Option Addr) (cap1 : Nat) (z1 : List Nat) (a2 a3 : Int) (w : World) (hc0 : z0.length ≤ cap0 ∧ cap0 ≤ 9223372036854775807) (_ : Hdr w a0 cap0) (hz0 : Ints w a0 z0) (_ : ∀ i, i < z0.length → InKind .i64 (z0.getD i 0))
    (hc1 : z1.length ≤ cap1 ∧ cap1 ≤ 9223372036854775807) (_ : Hdr w a1 cap1) (hz1 : Floats w a1 z1) (_ : ∀ i, i < z1.length → z1.getD i 0 < 18446744073709551616) (_ : InKind .i64 a2) (_ : InKind .i64 a3) :
    Calls Try.prog 4 #[.slice a0 z0.length cap0, .slice a1 z1.length cap1, .int .i64 a2, .int .i64 a3] w fun e w' => e = .returned (.bool true) ∧ Below w.heap.size w w' := by
  have HZ : Hid (∀ w', Below w.heap.size w w' → Ints w' a0 z0) := Lib.hid fun w' hb => Row1.below hz0 hb (Nat.le_refl _)
  have HZL : Hid (z0.length ≤ 9223372036854775807) := Lib.hid (by omega)
  have HY := Lib.hid hz1
  have z := zeroTab
  have hdl := tab_de_len z0
  have HTK := Lib.hid (tab_de_tk z0)
  have HLV := Lib.hid (tab_de_lv z0)
  generalize ht : tabM z0 = t at *
  have HT0 := Lib.hid ht
  clear hz0 hz1 ht
  go_enter Try.func4, Try.ntmps4
  go_upto_region 2 with (first | (go_at_call 6; refine (ltable_upO _ _ _ _ HZL.out (HZ.out _ (by (repeat' (first | (with_reducible exact Below.refl _ _) | (with_reducible assumption) | (with_reducible refine Below.setCell ?_ ?_ _) | (with_reducible refine Below.alloc ?_ ?_ _) | (with_reducible refine Below.drew ?_) | (with_reducible refine Up.base _ ?_ ?_) | (with_reducible exact LeSize.out) | exact LeSize.out | exact Nat.le_add_right_of_le LeSize.out | exact Nat.le_add_right_of_le (Nat.le_add_right_of_le LeSize.out) | (with_reducible exact Nat.le_refl _) | (simp; done) | (simp; omega)))))).mono ?_; rintro e w' ⟨T, uT, rfl, rfl, hT, hO⟩; rw [HT0.out] at hT hO) | (refine l_newTab rfl rfl rfl rfl inferInstance hT rfl ?_; go_simp))
  haveI : Sz131 T := ⟨hT.size⟩
  have HT : Hid (∀ w', Below uT.w.heap.size uT.w w' → IsDe w' T t.de) := Lib.hid fun w' hb => hT.isDe.below hb (Nat.le_refl _)
  obtain ⟨g, da, dcap, t113, hda⟩ := ownDe_open hO
  obtain ⟨da2, dcap2, e2, hrow, _⟩ := hT.isDe
  clear hT HT0 hO
  generalize t.de = de at *
  rw [t113] at e2
  obtain ⟨rfl, rfl⟩ : da = da2 ∧ dcap = dcap2 := by simpa using e2
  have HR := Lib.hid hrow
  clear e2 hrow
  obtain ⟨n, hn⟩ : ∃ n, de.length = n := ⟨_, rfl⟩
  rw [hn] at hdl t113 hda
  have HDA := Lib.hid hda
  have HN := Lib.hid hn
  clear hn hda
  have i9 : IsBlk (uT.w.alloc (.cells T 34)) uT.w.heap.size T 34 := inferInstance
  have hbw : Below w.heap.size w (uT.w.alloc (.cells T 34)) := by (repeat' (first | (with_reducible exact Below.refl _ _) | (with_reducible assumption) | (with_reducible refine Below.setCell ?_ ?_ _) | (with_reducible refine Below.alloc ?_ ?_ _) | (with_reducible refine Below.drew ?_) | (with_reducible refine Up.base _ ?_ ?_) | (with_reducible exact LeSize.out) | exact LeSize.out | exact Nat.le_add_right_of_le LeSize.out | exact Nat.le_add_right_of_le (Nat.le_add_right_of_le LeSize.out) | (with_reducible exact Nat.le_refl _) | (simp; done) | (simp; omega)))
  have hbT : Below uT.w.heap.size uT.w (uT.w.alloc (.cells T 34)) := by (repeat' (first | (with_reducible exact Below.refl _ _) | (with_reducible assumption) | (with_reducible refine Below.setCell ?_ ?_ _) | (with_reducible refine Below.alloc ?_ ?_ _) | (with_reducible refine Below.drew ?_) | (with_reducible refine Up.base _ ?_ ?_) | (with_reducible exact LeSize.out) | exact LeSize.out | exact Nat.le_add_right_of_le LeSize.out | exact Nat.le_add_right_of_le (Nat.le_add_right_of_le LeSize.out) | (with_reducible exact Nat.le_refl _) | (simp; done) | (simp; omega)))
  have hcT : (uT.w.alloc (.cells T 34)).cell? ⟨uT.w.heap.size, 113, none⟩ = some (.slice da n dcap) := laid_cell i9.out _ t113
  have huw := uT.bel.size
  generalize hW0 : (uT.w.alloc (.cells T 34)) = W0 at *
  have hWs : W0.heap.size = uT.w.heap.size + 1 := by rw [← hW0]; simp
  have HWS := Lib.hid hWs
  clear hWs hW0
  haveI : LeSize w.heap.size W0 := ⟨hbw.size⟩
  by_cases hlen : 30 < z1.length
  · go_wp2_with (first | (go_at_call 7; refine (Up.run (awake14_any _)).mono ?_; rintro e w' ⟨rfl, ua, rfl⟩))
    go_ret
    exact ⟨rfl, by (repeat' (first | (with_reducible exact Below.refl _ _) | (with_reducible assumption) | (with_reducible refine Below.setCell ?_ ?_ _) | (with_reducible refine Below.alloc ?_ ?_ _) | (with_reducible refine Below.drew ?_) | (with_reducible refine Up.base _ ?_ ?_) | (with_reducible exact LeSize.out) | exact LeSize.out | exact Nat.le_add_right_of_le LeSize.out | exact Nat.le_add_right_of_le (Nat.le_add_right_of_le LeSize.out) | (with_reducible exact Nat.le_refl _) | (simp; done) | (simp; omega)))⟩
  · go_wp2
    go_loopw [10, 11] (fun xa i wr => ∃ j : Nat, j ≤ z1.length ∧ i = .int .i64 j ∧ ∃ aa ka cs, xa = .slice aa (cs : List Ch).length ka ∧ Hid (BrSt n 0 W0 wr aa cs)) (fun _ i _ => z1.length - (intOf i).toNat)
    case atStart => exact ⟨0, Nat.zero_le _, rfl, none, 0, [], rfl, Lib.hid ⟨.inl rfl, (fun _ h => by cases h), fun _ => ⟨by simp [ch0], by simp [ch0]⟩, fun _ => by simp [ch0], fun _ _ => by simp [ch0], Below.refl _ _⟩⟩
    case round =>
      obtain ⟨j, hj, rfl, aa, ka, cs, rfl, HA⟩ := hrel
      have hA0 := HA.out.bel
      have hA1 := hA0.size
      have hAw : Below w.heap.size w wr := hbw.trans (hA0.mono hbw.size)
      haveI : LeSize w.heap.size wr := ⟨hAw.size⟩
      by_cases hlt : j < z1.length
      · obtain ⟨yb, yoff, rfl, hyb, hyc⟩ := Row1.cell HY.out (by omega)
        have hz : wr.cell? ⟨yb, yoff + j, none⟩ = some (.float .f64 (z1.getD j 0)) := by
          rw [hAw.cell (p := ⟨yb, yoff + j, none⟩) hyb]; exact hyc _ hlt
        haveI : LeSize (yb + 1) wr := ⟨Nat.le_trans hyb hAw.size⟩
        haveI iT : IsBlk wr uT.w.heap.size T 34 := ⟨by rw [hA0.block _ (by have := HWS.out; omega)]; exact i9.out⟩
        have hAT : Below uT.w.heap.size uT.w wr := hbT.trans (hA0.mono (by have := HWS.out; omega))
        haveI : LeSize uT.w.heap.size wr := ⟨hAT.size⟩
        generalize z1.getD j 0 = x at *
        have HC : Hid (∀ w', Below wr.heap.size wr w' → Chs w' aa cs) := Lib.hid fun w' hb => HA.out.chs.below hb (Nat.le_refl _)
        clear hyc
        go_upto_region 8 with fail
        (refine wp_region_up_build 19 18 4 (.cells #[.float .f64 x, .float .f64 x, .float .f64 x, .float .f64 x] 24) (by kernel_rfl) (by kernel_rfl) rfl rfl ?_; intro X; simp only [List.take_succ_cons, List.take_zero, List.drop_succ_cons, List.drop_zero, List.eraseIdx_cons_succ, List.eraseIdx_cons_zero]; (repeat (first | (go_big_quiet_want; refine q_ltab rfl rfl ?_; simp only [Act.put, List.setIfInBounds_toArray, List.set_cons_succ, List.set_cons_zero]; go_big_quiet_on) | go_big_quiet_step ((first | fail)))); refine wpQuiet_nil ⟨fun u => (by simp [go_sem] <;> rfl), ?_⟩; clear X; rintro q u hq hO; (try simp at hq); have lO := laid_le hO; go_simp)
        have HF : Hid (∀ w', Below u.w.heap.size u.w w' → Floats w' (some ⟨q, 0, none⟩) [x, x, x, x]) := Lib.hid fun w' hb => Row1.below (floats_at [x, x, x, x] hO) hb (Nat.le_refl _)
        go_wp2_with (go_at_call 9; refine (dstep_upD T de aa ka cs (some ⟨q, 0, none⟩) 4 [x, x, x, x] 4 n _ (HT.out _ (by (repeat' (first | (with_reducible exact Below.refl _ _) | (with_reducible assumption) | (with_reducible refine Below.setCell ?_ ?_ _) | (with_reducible refine Below.alloc ?_ ?_ _) | (with_reducible refine Below.drew ?_) | (with_reducible refine Up.base _ ?_ ?_) | (with_reducible exact LeSize.out) | exact LeSize.out | exact Nat.le_add_right_of_le LeSize.out | exact Nat.le_add_right_of_le (Nat.le_add_right_of_le LeSize.out) | (with_reducible exact Nat.le_refl _) | (simp; done) | (simp; omega))))) (HC.out _ (by (repeat' (first | (with_reducible exact Below.refl _ _) | (with_reducible assumption) | (with_reducible refine Below.setCell ?_ ?_ _) | (with_reducible refine Below.alloc ?_ ?_ _) | (with_reducible refine Below.drew ?_) | (with_reducible refine Up.base _ ?_ ?_) | (with_reducible exact LeSize.out) | exact LeSize.out | exact Nat.le_add_right_of_le LeSize.out | exact Nat.le_add_right_of_le (Nat.le_add_right_of_le LeSize.out) | (with_reducible exact Nat.le_refl _) | (simp; done) | (simp; omega))))) (HF.out _ (by (repeat' (first | (with_reducible exact Below.refl _ _) | (with_reducible assumption) | (with_reducible refine Below.setCell ?_ ?_ _) | (with_reducible refine Below.alloc ?_ ?_ _) | (with_reducible refine Below.drew ?_) | (with_reducible refine Up.base _ ?_ ?_) | (with_reducible exact LeSize.out) | exact LeSize.out | exact Nat.le_add_right_of_le LeSize.out | exact Nat.le_add_right_of_le (Nat.le_add_right_of_le LeSize.out) | (with_reducible exact Nat.le_refl _) | (simp; done) | (simp; omega))))) HTK.out rfl HN.out).mono ?_; rintro e w' ⟨a5, k5, u5, rfl, rfl, hch5, hfa5⟩)
        go_roundw
        case rel => exact ⟨j + 1, by omega, by go_num, a5, k5, _, by rw [stepN_len], Lib.hid (HA.out.step (hA0.trans ((by (repeat' (first | (with_reducible exact Below.refl _ _) | (with_reducible assumption) | (with_reducible refine Below.setCell ?_ ?_ _) | (with_reducible refine Below.alloc ?_ ?_ _) | (with_reducible refine Below.drew ?_) | (with_reducible refine Up.base _ ?_ ?_) | (with_reducible exact LeSize.out) | exact LeSize.out | exact Nat.le_add_right_of_le LeSize.out | exact Nat.le_add_right_of_le (Nat.le_add_right_of_le LeSize.out) | (with_reducible exact Nat.le_refl _) | (simp; done) | (simp; omega))) : Below wr.heap.size wr u5.w).mono hA1)) hch5 (hfa5.less (by have := (by (repeat' (first | (with_reducible exact Below.refl _ _) | (with_reducible assumption) | (with_reducible refine Below.setCell ?_ ?_ _) | (with_reducible refine Below.alloc ?_ ?_ _) | (with_reducible refine Below.drew ?_) | (with_reducible refine Up.base _ ?_ ?_) | (with_reducible exact LeSize.out) | exact LeSize.out | exact Nat.le_add_right_of_le LeSize.out | exact Nat.le_add_right_of_le (Nat.le_add_right_of_le LeSize.out) | (with_reducible exact Nat.le_refl _) | (simp; done) | (simp; omega))) : Below wr.heap.size wr u.w).size; omega)))⟩
        case measure => simp [intOf]; omega
      · obtain rfl : j = z1.length := by omega
        have hk0 := Int.emod_nonneg a2 (show (4 : Int) ≠ 0 by omega)
        have hk1 := Int.emod_lt_of_pos a2 (show (0 : Int) < 4 by omega)
        have hidx := run_index_bad ⟨hk0, hk1⟩
        have HBV := Lib.hid (badV_bad (a2 % 4) ⟨hk0, hk1⟩)
        have HX : Hid (∀ w', Below wr.heap.size wr w' → BrSt n 0 W0 w' aa cs) := Lib.hid fun w' hb => ⟨HA.out.chs.below hb (Nat.le_refl _), HA.out.far, HA.out.tl, HA.out.bad0, HA.out.bad, hA0.trans (hb.mono hA1)⟩
        generalize badV (a2 % 4) = x at *
        go_upto_region 10 with (first | (go_at_call 10; refine (nan_any _).mono ?_; rintro e w' ⟨rfl, rfl⟩) | (go_at_call 11; refine (infP_any _).mono ?_; rintro e w' ⟨rfl, rfl⟩) | (go_at_call 11; refine (infM_any _).mono ?_; rintro e w' ⟨rfl, rfl⟩) | (go_at_call 8; refine (place_any _ _ _ (by omega) (by omega)).mono ?_; rintro e w' ⟨rfl, rfl⟩))
        generalize wr = WA at *
        obtain ⟨K, hK⟩ : ∃ K : Nat, a3 % 40 = K := ⟨(a3 % 40).toNat, by have := Int.emod_nonneg a3 (show (40 : Int) ≠ 0 by omega); omega⟩
        have hK40 : (K : Int) < 40 := by have := Int.emod_lt_of_pos a3 (show (0 : Int) < 40 by omega); omega
        have HX0 := Lib.hid (HX.out _ (Below.refl _ _))
        have hAT : Below uT.w.heap.size uT.w WA := hbT.trans (hA0.mono (by have := HWS.out; omega))
        have iA : IsBlk WA uT.w.heap.size T 34 := ⟨by rw [hA0.block _ (by have := HWS.out; omega)]; exact i9.out⟩
        have hAL := iA.le.out
        clear hidx hk0 hk1
        go_wp2
        go_loopw [13, 14] (fun s i wx => ∃ d : Nat, d ≤ n ∧ i = .int .i64 d ∧ s = .int .i64 (allN de d) ∧ Below WA.heap.size WA wx) (fun _ i _ => n - (intOf i).toNat)
        case atStart => exact ⟨0, Nat.zero_le _, rfl, rfl, Below.refl _ _⟩
        case round =>
          obtain ⟨d, hd, rfl, rfl, hbx⟩ := hrel
          have hbs := hbx.size
          haveI iT : IsBlk wr uT.w.heap.size T 34 := ⟨by rw [hbx.block _ (by omega)]; exact iA.out⟩
          have hAw2 : Below w.heap.size w wr := hAw.trans (hbx.mono hAw.size)
          have hAT2 : Below uT.w.heap.size uT.w wr := hAT.trans (hbx.mono hAT.size)
          haveI : LeSize WA.heap.size wr := ⟨hbs⟩
          haveI : LeSize w.heap.size wr := ⟨hAw2.size⟩
          have ct : wr.cell? ⟨uT.w.heap.size, 113, none⟩ = some (.slice da n dcap) := laid_cell iT.out _ t113
          by_cases hdn : d < n
          · obtain ⟨db, doff, rfl, hdb, hdc⟩ := det_cells HR.out (i := d) (by rw [HN.out]; exact hdn)
            haveI : LeSize (db + 1) wr := ⟨by have := hAT2.size; omega⟩
            have c0 : wr.cell? ⟨db, doff + d * 7 + 0, none⟩ = some (((detC (de.getD d ⟨0, 0, 0, 0, 0, 0, 0⟩))[0]?).getD undef) := by
              rw [hAT2.cell (p := ⟨db, doff + d * 7 + 0, none⟩) hdb]; exact hdc 0 (by omega)
            simp only [detC, Nat.add_zero, List.getElem?_cons_zero, Option.getD_some] at c0
            have HS : Hid (allN de (d + 1) = withM (allN de d) (de.getD d ⟨0, 0, 0, 0, 0, 0, 0⟩).ph) := Lib.hid rfl
            generalize (de.getD d ⟨0, 0, 0, 0, 0, 0, 0⟩).ph = p at *
            generalize allN de d = s0 at *
            have hdI : (d : Int) < n := by omega
            clear hdc
            go_wp2_with (first | (go_at_call 12; refine (Up.run (rwith_any _ _ _)).mono ?_; rintro e w' ⟨rfl, u, rfl⟩))
            go_roundw
            case rel => exact ⟨d + 1, by omega, by go_num, by rw [HS.out], by (repeat' (first | (with_reducible exact Below.refl _ _) | (with_reducible assumption) | (with_reducible refine Below.setCell ?_ ?_ _) | (with_reducible refine Below.alloc ?_ ?_ _) | (with_reducible refine Below.drew ?_) | (with_reducible refine Up.base _ ?_ ?_) | (with_reducible exact LeSize.out) | exact LeSize.out | exact Nat.le_add_right_of_le LeSize.out | exact Nat.le_add_right_of_le (Nat.le_add_right_of_le LeSize.out) | (with_reducible exact Nat.le_refl _) | (simp; done) | (simp; omega)))⟩
            case measure => simp [intOf]; omega
          · obtain rfl : d = n := by omega
            have HX2 := Lib.hid (HX.out _ hbx)
            obtain ⟨s, hs⟩ : ∃ s, allN de d = s := ⟨_, rfl⟩
            have HAL := Lib.hid hs
            rw [hs]
            have hss : (s != s) = false := by simp
            clear hs hbx
            generalize hWB : wr = WB at *
            clear hWB
            go_wp2
            go_loopw [10, 15] (fun xa i wx => ∃ j : Nat, 1 ≤ j ∧ j ≤ 4 + K ∧ i = .int .i64 j ∧ ∃ aa ka cs, xa = .slice aa (cs : List Ch).length ka ∧ Hid (BrSt d (min (j - 1) 3) W0 wx aa cs)) (fun _ i _ => 45 - (intOf i).toNat)
            case atStart => exact ⟨1, by omega, by omega, rfl, aa, ka, cs, rfl, HX2⟩
            case round =>
              clear HX HX0 HX2 HA
              obtain ⟨j, hj1, hj2, rfl, aa, ka, cs, rfl, HA⟩ := hrel
              have hA0 := HA.out.bel
              have hA1 := hA0.size
              have hAw : Below w.heap.size w wr := hbw.trans (hA0.mono hbw.size)
              haveI : LeSize w.heap.size wr := ⟨hAw.size⟩
              haveI iT : IsBlk wr uT.w.heap.size T 34 := ⟨by rw [hA0.block _ (by have := HWS.out; omega)]; exact i9.out⟩
              have hAT : Below uT.w.heap.size uT.w wr := hbT.trans (hA0.mono (by have := HWS.out; omega))
              haveI : LeSize uT.w.heap.size wr := ⟨hAT.size⟩
              have HC : Hid (∀ w', Below wr.heap.size wr w' → Chs w' aa cs) := Lib.hid fun w' hb => HA.out.chs.below hb (Nat.le_refl _)
              have HTW : Hid (∀ w', Below wr.heap.size wr w' → IsDe w' T de) := Lib.hid fun w' hb => HT.out _ (hAT.trans (hb.mono hAT.size))
              by_cases hjk : j ≤ 3 + K
              · have hjkI : (j : Int) ≤ 3 + K := by omega
                go_upto_region 18 with (first | (go_at_call 8; refine (place_any _ _ _ (by omega) (by omega)).mono ?_; rintro e w' ⟨rfl, rfl⟩))
                go_upto_region 19 with (first | (refine l_ltab rfl rfl rfl ?_; go_simp) | (go_at_call 9; refine (dstep_upD T de aa ka cs _ 8 [x, x, x, x, x, x, x, x] 8 d _ (HTW.out _ (by (repeat' (first | (with_reducible exact Below.refl _ _) | (with_reducible assumption) | (with_reducible refine Below.setCell ?_ ?_ _) | (with_reducible refine Below.alloc ?_ ?_ _) | (with_reducible refine Below.drew ?_) | (with_reducible refine Up.base _ ?_ ?_) | (with_reducible exact LeSize.out) | exact LeSize.out | exact Nat.le_add_right_of_le LeSize.out | exact Nat.le_add_right_of_le (Nat.le_add_right_of_le LeSize.out) | (with_reducible exact Nat.le_refl _) | (simp; done) | (simp; omega))))) (HC.out _ (by (repeat' (first | (with_reducible exact Below.refl _ _) | (with_reducible assumption) | (with_reducible refine Below.setCell ?_ ?_ _) | (with_reducible refine Below.alloc ?_ ?_ _) | (with_reducible refine Below.drew ?_) | (with_reducible refine Up.base _ ?_ ?_) | (with_reducible exact LeSize.out) | exact LeSize.out | exact Nat.le_add_right_of_le LeSize.out | exact Nat.le_add_right_of_le (Nat.le_add_right_of_le LeSize.out) | (with_reducible exact Nat.le_refl _) | (simp; done) | (simp; omega))))) (floats_new _ (by simp) rfl) HTK.out rfl HN.out).mono ?_; rintro e w' ⟨a5, k5, u5, rfl, rfl, hch5, hfa5⟩))
                have hb5 : Below wr.heap.size wr u5.w := by (repeat' (first | (with_reducible exact Below.refl _ _) | (with_reducible assumption) | (with_reducible refine Below.setCell ?_ ?_ _) | (with_reducible refine Below.alloc ?_ ?_ _) | (with_reducible refine Below.drew ?_) | (with_reducible refine Up.base _ ?_ ?_) | (with_reducible exact LeSize.out) | exact LeSize.out | exact Nat.le_add_right_of_le LeSize.out | exact Nat.le_add_right_of_le (Nat.le_add_right_of_le LeSize.out) | (with_reducible exact Nat.le_refl _) | (simp; done) | (simp; omega)))
                have HBS : Hid (BrSt d (min (j - 1 + 1) 3) W0 u5.w a5 (stepN de cs [x, x, x, x, x, x, x, x] d)) := Lib.hid (HA.out.stepB (hA0.trans (hb5.mono hA1)) hch5 (hfa5.less (by simp; omega)) fun q hq => by
                  have : q = 0 ∨ q = 1 ∨ q = 2 ∨ q = 3 ∨ q = 4 ∨ q = 5 ∨ q = 6 ∨ q = 7 := by omega
                  rcases this with rfl | rfl | rfl | rfl | rfl | rfl | rfl | rfl <;> exact HBV.out)
                rw [show j - 1 + 1 = j by omega] at HBS
                have HL := Lib.hid (stepN_len de cs [x, x, x, x, x, x, x, x] d)
                generalize stepN de cs [x, x, x, x, x, x, x, x] d = c5 at *
                clear hch5 hfa5
                haveI iT5 : IsBlk u5.w uT.w.heap.size T 34 := ⟨by rw [hb5.block _ (by have := HWS.out; omega)]; exact iT.out⟩
                by_cases hj3 : 3 ≤ j
                · have hj3I : (3 : Int) ≤ j := by omega
                  have HH : Hid (∀ w', Below u5.w.heap.size u5.w w' → Calls Try.prog 13 #[.agg T, .slice a5 d k5] w' fun e w'' => e = .returned (.int .i64 s) ∧ Below w'.heap.size w' w'') := Lib.hid fun w' hb =>
                    here_upD T de a5 k5 c5 d s w' (HTW.out _ (hb5.trans (hb.mono hb5.size))) (HBS.out.chs.below hb (Nat.le_refl _)) HL.out HN.out hdl ((HBS.out.here (by omega)).trans HAL.out)
                  go_wp2_with (first | (refine l_ltab rfl rfl rfl ?_; go_simp) | (refine g_ltab rfl rfl rfl ?_; go_simp) | (go_at_call 13; refine (Up.run (HH.out _ (by (repeat' (first | (with_reducible exact Below.refl _ _) | (with_reducible assumption) | (with_reducible refine Below.setCell ?_ ?_ _) | (with_reducible refine Below.alloc ?_ ?_ _) | (with_reducible refine Below.drew ?_) | (with_reducible refine Up.base _ ?_ ?_) | (with_reducible exact LeSize.out) | exact LeSize.out | exact Nat.le_add_right_of_le LeSize.out | exact Nat.le_add_right_of_le (Nat.le_add_right_of_le LeSize.out) | (with_reducible exact Nat.le_refl _) | (simp; done) | (simp; omega)))))).mono ?_; rintro e w' ⟨rfl, uh, rfl⟩))
                  go_roundw
                  case rel => exact ⟨j + 1, by omega, by omega, by go_num, a5, k5, c5, by rw [HL.out], Lib.hid (HBS.out.below (by (repeat' (first | (with_reducible exact Below.refl _ _) | (with_reducible assumption) | (with_reducible refine Below.setCell ?_ ?_ _) | (with_reducible refine Below.alloc ?_ ?_ _) | (with_reducible refine Below.drew ?_) | (with_reducible refine Up.base _ ?_ ?_) | (with_reducible exact LeSize.out) | exact LeSize.out | exact Nat.le_add_right_of_le LeSize.out | exact Nat.le_add_right_of_le (Nat.le_add_right_of_le LeSize.out) | (with_reducible exact Nat.le_refl _) | (simp; done) | (simp; omega)))))⟩
                  case measure => simp [intOf]; omega
                · have hj3I : ¬ ((3 : Int) ≤ j) := by omega
                  have hj3D : decide ((3 : Int) ≤ j) = false := decide_eq_false hj3I
                  go_wp2
                  go_roundw
                  case rel => exact ⟨j + 1, by omega, by omega, by go_num, a5, k5, c5, by rw [HL.out], HBS⟩
                  case measure => simp [intOf]; omega
              · have hjkI : 3 + (K : Int) < j := by omega
                go_upto_region 21 with (first | (go_at_call 8; refine (place_any _ _ _ (by omega) (by omega)).mono ?_; rintro e w' ⟨rfl, rfl⟩))
                have hWC := hAw
                have HZI : Hid (LzSt w W0 wr uT.w.heap.size T g de 0 aa cs) := Lib.hid ⟨iT, fun h0 => (HDA.out (by rw [← HN.out]; exact h0)).2.2.below hAT (Nat.le_refl _), HA.out.chs, hAw, hA1⟩
                have HFA := Lib.hid HA.out.far
                have HTL := Lib.hid HA.out.tl
                clear HA HC HTW hAT hA0
                generalize hWC0 : wr = WC at *
                clear hWC0
                go_wp2
                go_loopw [16] (fun i wx => ∃ e : Nat, e ≤ d ∧ i = .int .i64 e ∧ Hid (LzSt w W0 wx uT.w.heap.size T g de e aa cs)) (fun i _ => d - (intOf i).toNat)
                case atStart => exact ⟨0, Nat.zero_le _, rfl, HZI⟩
                case round =>
                  clear HZI
                  obtain ⟨e, he, rfl, HL⟩ := hrel
                  haveI iT2 := HL.out.tab
                  have hbw2 := HL.out.bel
                  haveI : LeSize w.heap.size wr := ⟨hbw2.size⟩
                  have ct2 : wr.cell? ⟨uT.w.heap.size, 113, none⟩ = some (.slice da d dcap) := laid_cell iT2.out _ t113
                  by_cases hed : e < d
                  · obtain ⟨rfl, hgw, hdz0⟩ := HDA.out (by omega)
                    have hgl := hdz0.lt
                    have hdz := HL.out.dz (by rw [HN.out]; omega)
                    haveI : Apart g uT.w.heap.size := ⟨by omega⟩
                    haveI : Apart uT.w.heap.size g := ⟨by omega⟩
                    have c5 : wr.cell? ⟨g, e * 7 + 5, none⟩ = some (.int .i64 (dzAt de e e).mon) := hdz.cell (by rw [HN.out]; exact hed) (j := 5) (by omega)
                    have c6 : wr.cell? ⟨g, e * 7 + 6, none⟩ = some (.int .i64 (dzAt de e e).mof) := hdz.cell (by rw [HN.out]; exact hed) (j := 6) (by omega)
                    have f5 : wr.frozen? ⟨g, e * 7 + 5, none⟩ = false := hdz.frozen _
                    have f6 : wr.frozen? ⟨g, e * 7 + 6, none⟩ = false := hdz.frozen _
                    have hedI : (e : Int) < d := by omega
                    have hgs := hdz.lt
                    have HL2 := Lib.hid (HL.out.step HFA.out (by have := HWS.out; omega) (by omega) hgw)
                    clear hdz0 hdz
                    go_wp2
                    go_roundw
                    case rel => exact ⟨e + 1, by omega, by go_num, HL2⟩
                    case measure => simp [intOf]; omega
                  · obtain rfl : e = d := by omega
                    have HDE : Hid (∀ w', Below wr.heap.size wr w' → IsDe w' T (de.map detZ2)) := Lib.hid fun w' hb => by
                      refine IsDe.below ⟨da, dcap, by rw [List.length_map, HN.out]; exact t113, ?_, by rw [List.length_map, HN.out]; omega⟩ hb (Nat.le_refl _)
                      by_cases h0 : 0 < e
                      · have h1 := (HDA.out h0).1
                        have h2 := HL.out.dz (by rw [HN.out]; exact h0)
                        rw [← HN.out] at h2
                        rw [h1]; exact h2.row
                      · exact .inl (by rw [List.length_map, HN.out]; omega)
                    have HTK2 : Hid (∀ q ∈ de.map detZ2, IsTk q.dl ∧ IsTk q.ex) := Lib.hid fun q hq => by
                      obtain ⟨p, hp, rfl⟩ := List.mem_map.1 hq
                      exact HTK.out p hp
                    have HLV2 : Hid (∀ q, q < e → fge 0 ((de.map detZ2).getD q ⟨0, 0, 0, 0, 0, 0, 0⟩).on = false ∧ fle 0 ((de.map detZ2).getD q ⟨0, 0, 0, 0, 0, 0, 0⟩).off = true) := Lib.hid fun q hq => by
                      rw [detZ2_get (by rw [HN.out]; exact hq)]
                      exact HLV.out (de.getD q ⟨0, 0, 0, 0, 0, 0, 0⟩) (getD_mem (by rw [HN.out]; exact hq))
                    have HMN : Hid (∀ q, q < e → ((de.map detZ2).getD q ⟨0, 0, 0, 0, 0, 0, 0⟩).mon = 0 ∧ ((de.map detZ2).getD q ⟨0, 0, 0, 0, 0, 0, 0⟩).mof = 0) := Lib.hid fun q hq => by
                      rw [detZ2_get (by rw [HN.out]; exact hq)]
                      exact ⟨rfl, rfl⟩
                    have HN2 : Hid ((de.map detZ2).length = e) := Lib.hid (by rw [List.length_map, HN.out])
                    have HZ0 : Hid (ZeSt e 0 wr wr aa cs) := Lib.hid ⟨HL.out.chs, fun _ => HTL.out, fun h => by omega, fun h => by omega, Below.refl _ _⟩
                    generalize de.map detZ2 = dz at *
                    clear HL HTL HFA HDA HTK HLV HN HAL HR
                    generalize hWD : wr = WD at *
                    clear hWD
                    have hWDl := iT2.le.out
                    go_wp2
                    go_loopw [10, 17] (fun xa i wx => ∃ j : Nat, j ≤ 8 ∧ i = .int .i64 j ∧ ∃ aa ka cs, xa = .slice aa (cs : List Ch).length ka ∧ Hid (ZeSt e j WD wx aa cs)) (fun _ i _ => 8 - (intOf i).toNat)
                    case atStart => exact ⟨0, by omega, rfl, aa, ka, cs, rfl, HZ0⟩
                    case round =>
                      clear HZ0
                      obtain ⟨j, hj, rfl, aa, ka, cs, rfl, HS⟩ := hrel
                      have hbx := HS.out.bel
                      have hbs := hbx.size
                      have hbw3 : Below w.heap.size w wr := hbw2.trans (hbx.mono hbw2.size)
                      haveI : LeSize w.heap.size wr := ⟨hbw3.size⟩
                      haveI : LeSize WD.heap.size wr := ⟨hbs⟩
                      haveI iT3 : IsBlk wr uT.w.heap.size T 34 := ⟨by rw [hbx.block _ (by omega)]; exact iT2.out⟩
                      by_cases hj8 : j < 8
                      · have HC : Hid (∀ w', Below wr.heap.size wr w' → Chs w' aa cs) := Lib.hid fun w' hb => HS.out.chs.below hb (Nat.le_refl _)
                        go_upto_region 29 with fail
                        (refine wp_region_up_build 3 2 16 (.cells (List.replicate 16 (Value.float .f64 0)).toArray 24) (by kernel_rfl) (by kernel_rfl) rfl rfl ?_; intro X; simp only [List.take_succ_cons, List.take_zero, List.drop_succ_cons, List.drop_zero, List.eraseIdx_cons_succ, List.eraseIdx_cons_zero]; (repeat (first | (go_big_quiet_want; refine q_ltab rfl rfl ?_; simp only [Act.put, List.setIfInBounds_toArray, List.set_cons_succ, List.set_cons_zero]; go_big_quiet_on) | go_big_quiet_step ((first | fail)))); refine wpQuiet_nil ⟨fun u => (by simp [go_sem] <;> rfl), ?_⟩; clear X; rintro q u hq hO; (try simp at hq); have lO := laid_le hO; go_simp)
                        have HF : Hid (∀ w', Below u.w.heap.size u.w w' → Floats w' (some ⟨q, 0, none⟩) (List.replicate 16 0)) := Lib.hid fun w' hb => Row1.below (floats_at (List.replicate 16 0) hO) hb (Nat.le_refl _)
                        go_wp2_with (go_at_call 9; refine (dstep_upD T dz aa ka cs (some ⟨q, 0, none⟩) 16 (List.replicate 16 0) 16 e _ (HDE.out _ (by (repeat' (first | (with_reducible exact Below.refl _ _) | (with_reducible assumption) | (with_reducible refine Below.setCell ?_ ?_ _) | (with_reducible refine Below.alloc ?_ ?_ _) | (with_reducible refine Below.drew ?_) | (with_reducible refine Up.base _ ?_ ?_) | (with_reducible exact LeSize.out) | exact LeSize.out | exact Nat.le_add_right_of_le LeSize.out | exact Nat.le_add_right_of_le (Nat.le_add_right_of_le LeSize.out) | (with_reducible exact Nat.le_refl _) | (simp; done) | (simp; omega))))) (HC.out _ (by (repeat' (first | (with_reducible exact Below.refl _ _) | (with_reducible assumption) | (with_reducible refine Below.setCell ?_ ?_ _) | (with_reducible refine Below.alloc ?_ ?_ _) | (with_reducible refine Below.drew ?_) | (with_reducible refine Up.base _ ?_ ?_) | (with_reducible exact LeSize.out) | exact LeSize.out | exact Nat.le_add_right_of_le LeSize.out | exact Nat.le_add_right_of_le (Nat.le_add_right_of_le LeSize.out) | (with_reducible exact Nat.le_refl _) | (simp; done) | (simp; omega))))) (HF.out _ (by (repeat' (first | (with_reducible exact Below.refl _ _) | (with_reducible assumption) | (with_reducible refine Below.setCell ?_ ?_ _) | (with_reducible refine Below.alloc ?_ ?_ _) | (with_reducible refine Below.drew ?_) | (with_reducible refine Up.base _ ?_ ?_) | (with_reducible exact LeSize.out) | exact LeSize.out | exact Nat.le_add_right_of_le LeSize.out | exact Nat.le_add_right_of_le (Nat.le_add_right_of_le LeSize.out) | (with_reducible exact Nat.le_refl _) | (simp; done) | (simp; omega))))) HTK2.out rfl HN2.out).mono ?_; rintro e' w' ⟨a5, k5, u5, rfl, rfl, hch5, _⟩)
                        go_roundw
                        case rel => exact ⟨j + 1, by omega, by go_num, a5, k5, _, by rw [stepN_len], Lib.hid (HS.out.step (hbx.trans ((by (repeat' (first | (with_reducible exact Below.refl _ _) | (with_reducible assumption) | (with_reducible refine Below.setCell ?_ ?_ _) | (with_reducible refine Below.alloc ?_ ?_ _) | (with_reducible refine Below.drew ?_) | (with_reducible refine Up.base _ ?_ ?_) | (with_reducible exact LeSize.out) | exact LeSize.out | exact Nat.le_add_right_of_le LeSize.out | exact Nat.le_add_right_of_le (Nat.le_add_right_of_le LeSize.out) | (with_reducible exact Nat.le_refl _) | (simp; done) | (simp; omega))) : Below wr.heap.size wr u5.w).mono hbs)) hch5 (fun q hq => zero16 (by omega)) HLV2.out)⟩
                        case measure => simp [intOf]; omega
                      · obtain rfl : j = 8 := by omega
                        have HH : Hid (∀ w', Below wr.heap.size wr w' → Calls Try.prog 13 #[.agg T, .slice aa e ka] w' fun e w'' => e = .returned (.int .i64 0) ∧ Below w'.heap.size w' w'') := Lib.hid fun w' hb =>
                          here_upD T dz aa ka cs e 0 w' (HDE.out _ (hbx.trans (hb.mono hbs))) (HS.out.chs.below hb (Nat.le_refl _)) (HS.out.len (by omega)) HN2.out hdl (HS.out.here (by omega) HMN.out)
                        have hcl := HS.out.len (by omega)
                        rw [hcl]
                        clear hcl
                        go_wp2_with (first | (refine l_ltab rfl rfl rfl ?_; go_simp) | (go_at_call 13; refine (Up.run (HH.out _ (by (repeat' (first | (with_reducible exact Below.refl _ _) | (with_reducible assumption) | (with_reducible refine Below.setCell ?_ ?_ _) | (with_reducible refine Below.alloc ?_ ?_ _) | (with_reducible refine Below.drew ?_) | (with_reducible refine Up.base _ ?_ ?_) | (with_reducible exact LeSize.out) | exact LeSize.out | exact Nat.le_add_right_of_le LeSize.out | exact Nat.le_add_right_of_le (Nat.le_add_right_of_le LeSize.out) | (with_reducible exact Nat.le_refl _) | (simp; done) | (simp; omega)))))).mono ?_; rintro e w' ⟨rfl, uh, rfl⟩) | (go_at_call 7; refine (Up.run (awake14_any _)).mono ?_; rintro e w' ⟨rfl, ua, rfl⟩))
                        go_ret
                        exact ⟨rfl, by (repeat' (first | (with_reducible exact Below.refl _ _) | (with_reducible assumption) | (with_reducible refine Below.setCell ?_ ?_ _) | (with_reducible refine Below.alloc ?_ ?_ _) | (with_reducible refine Below.drew ?_) | (with_reducible refine Up.base _ ?_ ?_) | (with_reducible exact LeSize.out) | exact LeSize.out | exact Nat.le_add_right_of_le LeSize.out | exact Nat.le_add_right_of_le (Nat.le_add_right_of_le LeSize.out) | (with_reducible exact Nat.le_refl _) | (simp; done) | (simp; omega)))⟩
set_option maxRecDepth 100000 in
theorem DetectBroken_lifted (os : Os) (started : os.Started) (H : Type) (enc : TypeId × Value → H) :
    ReturnsInHanded {} Try.checked os 4 .any (Rows.detectBrokenSpec.pre6 enc Try.prog Try.f4 Rows.detectBrokenRow.domain false) (Rows.detectBrokenSpec.post enc Try.prog Try.f4 false true false false) := by
  refine returnsInHanded_of_change (C := Try.checked) own started (by kernel_rfl) Try.func4
    (ChangeSpec.witness6 (enc := enc) (C := Try.checked) false ⟨#[], #[.slice none 0 0, .slice none 0 0, .int .i64 0, .int .i64 0], []⟩ 8 (by kernel_rfl) (by kernel_rfl) (by kernel_rfl) (by kernel_rfl)) ?_
  intro W base args ds gs before hval0 hW hcnd _
  have hval : ∀ (j : Nat) t v, Try.f4.params[j]? = some t → args[j]? = some v → Value.okWide Try.prog W .any base t v := hval0
  have hW' := hW
  obtain ⟨p, q, hA0, hV, rfl, hfz, hnd⟩ := hW
  have hA : DataW.TrodAll enc Try.prog W 0 (fun _ => true) true Try.f4.params.toList args.toList ds p := hA0
  rw [Try.params4] at hA hval
  obtain ⟨v0, vs0, d0, ds0, p0, q0, hargs, rfl, rfl, h0, r0⟩ := trodAll_cons hA
  obtain ⟨v1, vs1, d1, ds1, p1, q1, rfl, rfl, rfl, h1, r1⟩ := trodAll_cons r0
  obtain ⟨v2, vs2, d2, ds2, p2, q2, rfl, rfl, rfl, h2, r2⟩ := trodAll_cons r1
  obtain ⟨v3, vs3, d3, ds3, p3, q3, rfl, rfl, rfl, h3, r3⟩ := trodAll_cons r2
  obtain ⟨rfl, rfl, rfl⟩ := trodAll_nil r3
  obtain rfl : args = #[v0, v1, v2, v3] := by cases args; simp_all
  obtain ⟨rfl, rfl⟩ := trodVars_none hV
  have k0 := h0
  have lt0 : ∀ x ∈ p0, x.block < W.heap.size := by obtain ⟨m, hm⟩ := k0; exact DataW.trod_lt m _ _ _ hm
  have k1 := h1
  have lt1 : ∀ x ∈ p1, x.block < W.heap.size := by obtain ⟨m, hm⟩ := k1; exact DataW.trod_lt m _ _ _ hm
  have k2 := h2
  have lt2 : ∀ x ∈ p2, x.block < W.heap.size := by obtain ⟨m, hm⟩ := k2; exact DataW.trod_lt m _ _ _ hm
  have k3 := h3
  have lt3 : ∀ x ∈ p3, x.block < W.heap.size := by obtain ⟨m, hm⟩ := k3; exact DataW.trod_lt m _ _ _ hm
  obtain ⟨a0, cap0, z0, rfl, hl0, hm0, hh0, hr0, iz0⟩ := open_ints1 Try.underlying22 Try.underlying3 (by kernel_rfl) (hval 0 22 v0 rfl rfl) k0
  obtain ⟨a1, cap1, z1, rfl, hl1, hm1, hh1, hr1, iz1⟩ := open_floats1 Try.underlying23 Try.underlying24 (by kernel_rfl) (hval 1 23 v1 rfl rfl) k1
  obtain ⟨a2, rfl, w2⟩ := open_int1 Try.underlying3 (hval 2 3 v2 rfl rfl)
  obtain ⟨a3, rfl, w3⟩ := open_int1 Try.underlying3 (hval 3 3 v3 rfl rfl)
  clear hA0 hval0
  refine (detectBroken_walk a0 cap0 z0 a1 cap1 z1 a2 a3 W ⟨hl0, hm0⟩ hh0 hr0 iz0 ⟨hl1, hm1⟩ hh1 hr1 iz1 w2 w3).mono fun e W' ⟨he, bel⟩ => ?_
  subst he
  exact ⟨_, rfl, _, _, _, [], _, [], hW', trodAll_mk1 (shut_bool Try.underlying4 _), (trodAll_cons_mk (Below.trod laidOut (by kernel_rfl) (of_decide_eq_true (by kernel_rfl)) k0 bel lt0) (trodAll_cons_mk (Below.trod laidOut (by kernel_rfl) (of_decide_eq_true (by kernel_rfl)) k1 bel lt1) (trodAll_cons_mk (Below.trod laidOut (by kernel_rfl) (of_decide_eq_true (by kernel_rfl)) k2 bel lt2) (trodAll_cons_mk (Below.trod laidOut (by kernel_rfl) (of_decide_eq_true (by kernel_rfl)) k3 bel lt3) trodAll_mk0)))), rfl, bel.frame _, fun h => by cases h⟩

theorem DetectBroken_over : Rows.detectBrokenRow.holds Try.pinned (OpenSpec.ofChange Rows.detectBrokenSpec) :=
  OpenClaim.holds_of_wide 4 Try.f4 rfl rfl rfl rfl rfl rfl rfl ⟨rfl, rfl, rfl, rfl, rfl⟩ rfl rfl rfl rfl rfl (by kernel_rfl) Try.func4 (by kernel_rfl)
    (of_decide_eq_true (by kernel_rfl)) (by unfold Func.isWrapper; first | (rw [if_pos (by decide +kernel)]; kernel_rfl) | (rw [if_neg (by decide +kernel)]; exact ⟨rfl, rfl⟩))
    (fun os started H enc _ => DetectBroken_lifted os started H enc)

/-- The given statement. -/
theorem DetectBroken_holds : Rows.DetectBrokenSaid := DetectBroken_over
#print axioms DetectBroken_holds
end Go.Proofs.Yteohpfelgaffoaa
