/- The contract of Script: frames, each with samples. -/
import Derived.Test.YteohpfelgaffoaaDetH
import Derived.Test.YteohpfelgaffoaaDetE
import Derived.Deep.DeepCutAuto
namespace Go.Proofs.Yteohpfelgaffoaa
open Go.RowKit
set_option linter.unusedVariables false
attribute [local go_sem] IsBlk.cell IsBlk.frozen

/-! ### Frames -/
structure Fr where
  sa : Option Addr
  sl : Nat
  sc : Nat
  pu : Int
  ak : Int
  li : Int
  st : Int
  re : Bool
def frC (f : Fr) : List Value := [.slice f.sa f.sl f.sc, .int .i64 f.pu, .int .i64 f.ak, .int .i64 f.li, .int .i64 f.st, .bool f.re]
theorem frC_len (f : Fr) : (frC f).length = 6 := rfl
theorem frC_one (f : Fr) : ∀ u ∈ frC f, u.oneCell' = true := by simp [frC, Value.oneCell']
theorem info_fr : (Try.prog.info? 60).map (fun i => (i.zero, i.size, i.bytes)) = some (some (.agg #[.slice none 0 0, .int .i64 0, .int .i64 0, .int .i64 0, .int .i64 0, .bool false]), 6, 64) := by kernel_rfl
theorem info_f64 : (Try.prog.info? 24).map (fun i => (i.zero, i.size, i.bytes)) = some (some (.float .f64 0), 1, 8) := by kernel_rfl
def flC (x : Nat) : List Value := [.float .f64 x]
theorem flC_len (x : Nat) : (flC x).length = 1 := rfl
/-- A frame's samples are of the script's own. -/
def FrsOf (w : World) (base : Nat) (frs : List Fr) : Prop := ∀ f ∈ frs, ∃ zs, zs.length ≤ 16 ∧ OwnK 24 1 flC w base (.slice f.sa f.sl f.sc) zs
theorem FrsOf.nil (w : World) (base : Nat) : FrsOf w base [] := fun f hf => by simp at hf
theorem FrsOf.below {w w' : World} {base : Nat} {frs : List Fr} (h : FrsOf w base frs) (hb : Below w.heap.size w w') : FrsOf w' base frs := fun f hf => by
  obtain ⟨zs, hl, ho⟩ := h f hf
  exact ⟨zs, hl, ho.below hb⟩
theorem FrsOf.snoc {w : World} {base : Nat} {frs : List Fr} (h : FrsOf w base frs) {f : Fr} {zs : List Nat} (hl : zs.length ≤ 16) (ho : OwnK 24 1 flC w base (.slice f.sa f.sl f.sc) zs) : FrsOf w base (frs ++ [f]) := fun g hg => by
  rw [List.mem_append, List.mem_singleton] at hg
  rcases hg with hg | rfl
  · exact h g hg
  · exact ⟨zs, hl, ho⟩
theorem fl_ne {w : World} {base base2 : Nat} {v u : Value} {frs : List Fr} {zs : List Nat} (h : OwnK 60 6 frC w base v frs) (ho : OwnK 24 1 flC w base2 u zs) : u.ownBlock = none ∨ u.ownBlock ≠ v.ownBlock := own_ne (by decide) h ho
/-- An append to the frames leaves the samples. -/
theorem FrsOf.grown {w w' : World} {base base2 : Nat} {v : Value} {frs frs2 : List Fr} (h : FrsOf w base frs) (hv : OwnK 60 6 frC w base2 v frs2) (hg : w.grownBy w' v.ownBlock) : FrsOf w' base frs := fun f hf => by
  obtain ⟨zs, hl, ho⟩ := h f hf
  exact ⟨zs, hl, ho.kept hg (fl_ne hv ho)⟩
theorem FrsOf.set {w : World} {base b i : Nat} {u : Value} {frs : List Fr} (h : FrsOf w base frs) (hb : b < base) : FrsOf (w.setCell ⟨b, i, none⟩ u) base frs := fun f hf => by
  obtain ⟨zs, hl, ho⟩ := h f hf
  exact ⟨zs, hl, ho.kept (grownBy_set w b i u) (.inr (ho.ne hb))⟩
theorem smF_put (S : Nat → Nat) {d : Nat} (h : d < 16) (y : Nat) : (smF S 16).setIfInBounds d (.float .f64 y) = smF (fun q => if q = d then y else S q) 16 := by
  refine arrF_set h fun j hj => ?_
  by_cases e : j = d
  · subst e; simp [hj]
  · simp [e, hj]
theorem smF_size (S : Nat → Nat) (d : Nat) : (smF S d).size = 16 := arrF_size 16 _
/-- What is kept from row to row. -/
structure ScSt (w wr : World) (o : Value) (frs : List Fr) : Prop where
  x : ∃ S, IsBlk wr w.heap.size (smF S 16) 39
  f : ∃ ak li, IsBlk wr (w.heap.size + 1) #[.slice none 0 0, .int .i64 0, .int .i64 ak, .int .i64 li, .int .i64 0, .bool false] 60
  own : OwnK 60 6 frC wr (w.heap.size + 2) o frs
  fr : FrsOf wr (w.heap.size + 2) frs
  le : frs.length ≤ 1500
  bel : Below w.heap.size w wr
/-- The same, beside the frame that a row begins with. -/
structure ScOn (w wr : World) (o : Value) (frs : List Fr) (q : Nat) : Prop where
  st : ScSt w wr o frs
  one : ∃ pu li, IsBlk wr q #[.slice none 0 0, .int .i64 pu, .int .i64 0, .int .i64 li, .int .i64 0, .bool false] 60
theorem ScSt.below {w wr w' : World} {o : Value} {frs : List Fr} (h : ScSt w wr o frs) (hb : Below wr.heap.size wr w') : ScSt w w' o frs := by
  obtain ⟨⟨S, hx⟩, ⟨ak, li, hf⟩, ho, hfr, hl, hbw⟩ := h
  exact ⟨⟨S, ⟨blk_past hx.out hb⟩⟩, ⟨ak, li, ⟨blk_past hf.out hb⟩⟩, ho.below hb, hfr.below hb, hl, hbw.trans (hb.mono hbw.size)⟩
theorem ScSt.putX {w wr : World} {o : Value} {frs : List Fr} (h : ScSt w wr o frs) {d : Nat} (hd : d < 16) (y : Nat) : ScSt w (wr.setCell ⟨w.heap.size, d, none⟩ (.float .f64 y)) o frs := by
  obtain ⟨⟨S, hx⟩, ⟨ak, li, hf⟩, ho, hfr, hl, hbw⟩ := h
  have hs := hbw.size
  refine ⟨⟨_, ⟨by rw [heap_set_same hx.out, smF_put S hd y]⟩⟩, ⟨ak, li, ⟨by rw [Below.heap_setCell _ _ _ _ (by simp)]; exact hf.out⟩⟩, ho.kept (grownBy_set _ _ _ _) (.inr (ho.ne (by omega))), hfr.set (by omega), hl, hbw.setCell (p := ⟨w.heap.size, d, none⟩) (Nat.le_refl _) _⟩
theorem ScSt.putF2 {w wr : World} {o : Value} {frs : List Fr} (h : ScSt w wr o frs) (y : Int) : ScSt w (wr.setCell ⟨w.heap.size + 1, 2, none⟩ (.int .i64 y)) o frs := by
  obtain ⟨⟨S, hx⟩, ⟨ak, li, hf⟩, ho, hfr, hl, hbw⟩ := h
  exact ⟨⟨S, ⟨by rw [Below.heap_setCell _ _ _ _ (by simp)]; exact hx.out⟩⟩, ⟨y, li, ⟨by rw [heap_set_same hf.out]; rfl⟩⟩, ho.kept (grownBy_set _ _ _ _) (.inr (ho.ne (by omega))), hfr.set (by omega), hl, hbw.setCell (p := ⟨w.heap.size + 1, 2, none⟩) (Nat.le_succ _) _⟩
theorem ScSt.putF3 {w wr : World} {o : Value} {frs : List Fr} (h : ScSt w wr o frs) (y : Int) : ScSt w (wr.setCell ⟨w.heap.size + 1, 3, none⟩ (.int .i64 y)) o frs := by
  obtain ⟨⟨S, hx⟩, ⟨ak, li, hf⟩, ho, hfr, hl, hbw⟩ := h
  exact ⟨⟨S, ⟨by rw [Below.heap_setCell _ _ _ _ (by simp)]; exact hx.out⟩⟩, ⟨ak, y, ⟨by rw [heap_set_same hf.out]; rfl⟩⟩, ho.kept (grownBy_set _ _ _ _) (.inr (ho.ne (by omega))), hfr.set (by omega), hl, hbw.setCell (p := ⟨w.heap.size + 1, 3, none⟩) (Nat.le_succ _) _⟩
theorem ScOn.set {w wr : World} {o : Value} {frs : List Fr} {q b i : Nat} {u : Value} (h : ScOn w wr o frs q) (h2 : ScSt w (wr.setCell ⟨b, i, none⟩ u) o frs) (hq : b ≠ q) : ScOn w (wr.setCell ⟨b, i, none⟩ u) o frs q := by
  obtain ⟨pu, li, h1⟩ := h.one
  exact ⟨h2, pu, li, ⟨by rw [Below.heap_setCell _ _ _ _ (by simpa using fun e => hq e.symm)]; exact h1.out⟩⟩
theorem ScOn.below {w wr w' : World} {o : Value} {frs : List Fr} {q : Nat} (h : ScOn w wr o frs q) (hb : Below wr.heap.size wr w') : ScOn w w' o frs q := by
  obtain ⟨pu, li, h1⟩ := h.one
  exact ⟨h.st.below hb, pu, li, ⟨blk_past h1.out hb⟩⟩
/-- The difference of two floats is a float; a NaN's bits are drawn. -/
theorem run_fsub (t : TypeId) (x y : Nat) (w : World) : ∃ r w', Sem.run Try.prog (binOp .sub t (.float .f64 x) (.float .f64 y)) w = .ok (.float .f64 r) w' ∧ Below w.heap.size w w' := by
  cases h : FloatKind.f64.format.sub x y with
  | some r => exact ⟨r, w, by simp [binOp, Op.floatArith, h], Below.refl _ _⟩
  | none => exact ⟨_, w.drew, by simp [binOp, Op.floatArith, h, Question.forced]; rfl, (Below.refl _ _).drew⟩
/-- A frame is put at the end. -/
theorem ScSt.snoc {w wr w' : World} {o o' : Value} {frs : List Fr} (h : ScSt w wr o frs) {f : Fr} {zs : List Nat} (hz : zs.length ≤ 16) (hs : OwnK 24 1 flC wr (w.heap.size + 2) (.slice f.sa f.sl f.sc) zs) (hl : frs.length < 1500)
    (hown : OwnK 60 6 frC w' (w.heap.size + 2) o' (frs ++ [f])) (hg : wr.grownBy w' o.ownBlock) (hw : w.heap.size + 2 ≤ wr.heap.size) : ScSt w w' o' (frs ++ [f]) ∧ OwnK 24 1 flC w' (w.heap.size + 2) (.slice f.sa f.sl f.sc) zs := by
  obtain ⟨⟨S, hx⟩, ⟨ak, li, hf⟩, ho, hfr, _, hbw⟩ := h
  have hk := hs.kept hg (fl_ne ho hs)
  refine ⟨⟨⟨S, ⟨by rw [hg.block _ (by omega) (fun e => ho.ne (b := w.heap.size) (by omega) e.symm)]; exact hx.out⟩⟩, ⟨ak, li, ⟨by rw [hg.block _ (by omega) (fun e => ho.ne (b := w.heap.size + 1) (by omega) e.symm)]; exact hf.out⟩⟩, hown, (hfr.grown ho hg).snoc hz hk, by simp; omega, ho.grown0 hbw (by omega) (by omega) hg⟩, hk⟩
set_option maxHeartbeats 2000000 in
theorem cps_any (w : World) : Calls Try.prog 38 #[.float .f64 0, .float .f64 13830554455654793216] w fun e w' => e = .returned (.float .f64 9223372036854775808) ∧ w = w' := by
  have h1 : ∀ w, Sem.run Try.prog (callFunc 59 #[.float .f64 0]) w = .ok (.value (.int .u64 0)) w := fun w => by kernel_rfl
  have h2 : ∀ w, Sem.run Try.prog (callFunc 59 #[.float .f64 13830554455654793216]) w = .ok (.value (.int .u64 13830554455654793216)) w := fun w => by kernel_rfl
  have h3 : ∀ w, Sem.run Try.prog (callFunc 32 #[.int .u64 9223372036854775808]) w = .ok (.value (.float .f64 9223372036854775808)) w := fun w => by kernel_rfl
  have g1 : bits .andNot .u64 0 9223372036854775808 = 0 := by decide +kernel
  have g2 : bits .and .u64 13830554455654793216 9223372036854775808 = 9223372036854775808 := by decide +kernel
  have g3 : bits .or .u64 0 9223372036854775808 = 9223372036854775808 := by decide +kernel
  go_enter Try.func38, Try.ntmps38
  go_wp2
  go_ret
  exact ⟨rfl, rfl⟩
set_option maxHeartbeats 2000000 in
theorem infQ_any (w : World) : Calls Try.prog 11 #[.int .i64 1] w fun e w' => e = .returned (.float .f64 9218868437227405312) ∧ w = w' := by
  have h : ∀ w, Sem.run Try.prog (callFunc 32 #[.int .u64 9218868437227405312]) w = .ok (.value (.float .f64 9218868437227405312)) w := fun w => by kernel_rfl
  go_enter Try.func11, Try.ntmps11
  go_wp2
  go_ret
  exact ⟨rfl, rfl⟩
end Go.Proofs.Yteohpfelgaffoaa
