/- The contracts of detect's ticks and of math's NaN. The contracts of package detect: at. -/
import Derived.Test.YteohpfelgaffoaaDetL
import Derived.Test.YteohpfelgaffoaaDetT
import Derived.Laws.Externs
import Derived.Test.YteohpfelgaffoaaTabB
import Derived.Test.YteohpfelgaffoaaSetN
namespace Go.Proofs.Yteohpfelgaffoaa
section
open Go.RowKit
set_option linter.unusedVariables false

def nanF : Nat := 9221120237041090561
set_option maxHeartbeats 2000000 in
theorem nan_any (w : World) : Calls Try.prog 10 #[] w fun e w' => e = .returned (.float .f64 nanF) ∧ w = w' := by
  have h : ∀ w, Sem.run Try.prog (callFunc 32 #[.int .u64 9221120237041090561]) w = .ok (.value (.float .f64 9221120237041090561)) w := fun w => by kernel_rfl
  go_enter Try.func10, Try.ntmps10
  go_wp2
  go_ret
  exact ⟨rfl, rfl⟩
theorem secs_lit (f g : Nat) (n : Int) (h1 : fge f 0 = true) (h2 : fle f 4652006429231887155 = true) (hm : ∀ w, Sem.run Try.prog (binOp .mul 24 (.float .f64 4621819117588971520) (.float .f64 f)) w = .ok (.float .f64 g) w)
    (hr : ∀ w, Sem.run Try.prog (callFunc 71 #[.float .f64 g]) w = .ok (.value (.float .f64 g)) w) (hc : ∀ w, Sem.run Try.prog (convert 24 3 (.float .f64 g)) w = .ok (.int .i64 n) w) (w : World) :
    Calls Try.prog 56 #[.float .f64 f] w fun e w' => e = .returned (.tuple #[.int .i64 n, .bool true]) ∧ w = w' := by
  go_enter Try.func56, Try.ntmps56
  go_wp2
  go_returns
  exact ⟨rfl, rfl⟩
theorem ticks_lit (f g : Nat) (n : Int) (h1 : fge f 0 = true) (h2 : fle f 4652006429231887155 = true) (hm : ∀ w, Sem.run Try.prog (binOp .mul 24 (.float .f64 4621819117588971520) (.float .f64 f)) w = .ok (.float .f64 g) w)
    (hr : ∀ w, Sem.run Try.prog (callFunc 71 #[.float .f64 g]) w = .ok (.value (.float .f64 g)) w) (hc : ∀ w, Sem.run Try.prog (convert 24 3 (.float .f64 g)) w = .ok (.int .i64 n) w) (w : World) :
    Calls Try.prog 31 #[.float .f64 f] w fun e w' => e = .returned (.int .i64 n) ∧ w = w' := by
  have H := Lib.hid (secs_lit f g n h1 h2 hm hr hc)
  clear h1 h2 hm hr hc
  go_enter Try.func31, Try.ntmps31
  go_wp2_with (go_at_call 56; refine (H.out _).mono ?_; rintro e w' ⟨rfl, rfl⟩)
  go_ret
  exact ⟨rfl, rfl⟩
/-- So many ticks are a table's seconds. -/
def tkF (f : Nat) : Int := if f = 0 then 0 else if f = 4591870180066957722 then 1 else if f = 4596373779694328218 then 2 else if f = 4599075939470750515 then 3 else if f = 4600877379321698714 then 4 else 5
def IsTk (f : Nat) : Prop := f = 0 ∨ f = 4591870180066957722 ∨ f = 4596373779694328218 ∨ f = 4599075939470750515 ∨ f = 4600877379321698714 ∨ f = 4602678819172646912
theorem tkF_bd (f : Nat) : 0 ≤ tkF f ∧ tkF f ≤ 5 := by unfold tkF; repeat' split
                                                       all_goals omega
theorem ticks_any (f : Nat) (hf : IsTk f) (w : World) : Calls Try.prog 31 #[.float .f64 f] w fun e w' => e = .returned (.int .i64 (tkF f)) ∧ w = w' := by
  rcases hf with rfl | rfl | rfl | rfl | rfl | rfl
  · exact ticks_lit 0 0 0 (by decide +kernel) (by decide +kernel) (fun w => by kernel_rfl) (fun w => by kernel_rfl) (fun w => by kernel_rfl) w
  · exact ticks_lit 4591870180066957722 4607182418800017408 1 (by decide +kernel) (by decide +kernel) (fun w => by kernel_rfl) (fun w => by kernel_rfl) (fun w => by kernel_rfl) w
  · exact ticks_lit 4596373779694328218 4611686018427387904 2 (by decide +kernel) (by decide +kernel) (fun w => by kernel_rfl) (fun w => by kernel_rfl) (fun w => by kernel_rfl) w
  · exact ticks_lit 4599075939470750515 4613937818241073152 3 (by decide +kernel) (by decide +kernel) (fun w => by kernel_rfl) (fun w => by kernel_rfl) (fun w => by kernel_rfl) w
  · exact ticks_lit 4600877379321698714 4616189618054758400 4 (by decide +kernel) (by decide +kernel) (fun w => by kernel_rfl) (fun w => by kernel_rfl) (fun w => by kernel_rfl) w
  · exact ticks_lit 4602678819172646912 4617315517961601024 5 (by decide +kernel) (by decide +kernel) (fun w => by kernel_rfl) (fun w => by kernel_rfl) (fun w => by kernel_rfl) w
end
section
open Go.RowKit
set_option linter.unusedVariables false
attribute [local go_sem] IsBlk.cell IsBlk.frozen

/-! ### Channels -/
structure Ch where
  on : Bool
  bad : Int
  won : Int
  wof : Int
  hd : Int
  tl : Int
  out : Bool
def ch0 : Ch := ⟨false, 0, 0, 0, 0, 0, false⟩
def chC (c : Ch) : List Value := [.bool c.on, .int .i64 c.bad, .int .i64 c.won, .int .i64 c.wof, .int .i64 c.hd, .int .i64 c.tl, .bool c.out]
theorem chC_len (c : Ch) : (chC c).length = 7 := rfl
theorem chC_one (c : Ch) : ∀ u ∈ chC c, u.oneCell' = true := by simp [chC, Value.oneCell']
theorem info_ch : (Try.prog.info? 48).map (fun i => (i.zero, i.size, i.bytes)) = some (some (.agg #[.bool false, .int .i64 0, .int .i64 0, .int .i64 0, .int .i64 0, .int .i64 0, .bool false]), 7, 56) := by kernel_rfl
/-- A channel a tick later. -/
def stepCh (d : Det) (c : Ch) (x : Nat) : Ch :=
  let l := lv_levM d.on d.off c.on c.bad x
  let s := lv_seenM l.1 l.2
  ⟨l.1, l.2, wt_wOn c.won s, wt_wOff c.wof s, tm_tH s c.hd, tm_tTail (tkF d.dl) (tkF d.ex) c.hd c.tl c.out s, tm_tOut (tkF d.dl) c.hd c.tl c.out s⟩
def stepN (de : List Det) (cs : List Ch) (zs : List Nat) (n : Nat) : List Ch := (List.range n).map fun i => stepCh (de.getD i ⟨0, 0, 0, 0, 0, 0, 0⟩) (cs.getD i ch0) (zs.getD i nanF)
theorem stepN_succ (de : List Det) (cs : List Ch) (zs : List Nat) (n : Nat) : stepN de cs zs (n + 1) = stepN de cs zs n ++ [stepCh (de.getD n ⟨0, 0, 0, 0, 0, 0, 0⟩) (cs.getD n ch0) (zs.getD n nanF)] := by
  unfold stepN; rw [List.range_succ, List.map_append]; rfl
theorem stepN_len (de : List Det) (cs : List Ch) (zs : List Nat) (n : Nat) : (stepN de cs zs n).length = n := by simp [stepN]
/-- A row of channels, as it lies in memory. -/
def Chs (w : World) (a : Option Addr) (cs : List Ch) : Prop := RowK w a 7 cs.length (cellK chC cs)
theorem Chs.below {B : Nat} {w w' : World} {a : Option Addr} {cs : List Ch} (h : Chs w a cs) (hb : Below B w w') (hB : w.heap.size ≤ B) : Chs w' a cs := RowK.below h hb hB
theorem Chs.cells {w : World} {a : Option Addr} {cs : List Ch} (h : Chs w a cs) {i : Nat} (hi : i < cs.length) :
    ∃ b off, a = some ⟨b, off, none⟩ ∧ b < w.heap.size ∧ ∀ j, j < 7 → w.cell? ⟨b, off + i * 7 + j, none⟩ = some (((chC (cs.getD i ch0))[j]?).getD undef) := by
  obtain ⟨b, off, e, hb, hc⟩ := h.resolve_left (by omega)
  refine ⟨b, off, e, hb, fun j hj => ?_⟩
  rw [hc i hi j hj]
  unfold cellK
  rw [List.getElem?_eq_getElem hi, List.getD_eq_getElem?_getD, List.getElem?_eq_getElem hi]; rfl
set_option maxHeartbeats 2000000 in
theorem atF_any (a : Option Addr) (cap : Nat) (zs : List Nat) (i n : Nat) (w : World) (hi : Floats w a zs) (hin : i < 1000000) :
    Calls Try.prog 27 #[.slice a zs.length cap, .int .i64 i, .float .f64 n] w fun e w' => e = .returned (.float .f64 (zs.getD i n)) ∧ w = w' := by
  by_cases hlt : i < zs.length
  · obtain ⟨b, off, rfl, hb, hc⟩ := Row1.cell hi (by omega)
    have hcell := hc i hlt
    have e : zs.getD i n = zs.getD i 0 := by simp [List.getD, hlt]
    rw [e]
    clear hc hi e
    generalize zs.getD i 0 = x at *
    have hltI : (i : Int) < zs.length := by omega
    go_enter Try.func27, Try.ntmps27
    go_wp2
    go_ret
    exact ⟨rfl, rfl⟩
  · have e : zs.getD i n = n := by simp [List.getD, List.getElem?_eq_none (show zs.length ≤ i by omega)]
    have h2 : (zs.length : Int) ≤ i := by omega
    rw [e]
    clear hi e
    go_enter Try.func27, Try.ntmps27
    go_wp2
    go_ret
    exact ⟨rfl, rfl⟩
set_option maxHeartbeats 4000000 in
set_option maxRecDepth 100000 in
theorem atC_any (a : Option Addr) (cap : Nat) (cs : List Ch) (i : Nat) (w : World) (hi : Chs w a cs) (hin : i < 1000000) :
    Calls Try.prog 25 #[.slice a cs.length cap, .int .i64 i, .agg #[.bool false, .int .i64 0, .int .i64 0, .int .i64 0, .int .i64 0, .int .i64 0, .bool false]] w fun e w' => e = .returned (.agg (chC (cs.getD i ch0)).toArray) ∧ Below w.heap.size w w' := by
  by_cases hlt : i < cs.length
  · obtain ⟨b, off, rfl, hb, hc⟩ := hi.cells hlt
    haveI : LeSize (b + 1) w := ⟨hb⟩
    have c0 := hc 0 (by omega)
    have c1 := hc 1 (by omega)
    have c2 := hc 2 (by omega)
    have c3 := hc 3 (by omega)
    have c4 := hc 4 (by omega)
    have c5 := hc 5 (by omega)
    have c6 := hc 6 (by omega)
    generalize cs.getD i ch0 = c at *
    simp only [chC, Nat.add_zero, List.getElem?_cons_zero, List.getElem?_cons_succ, Option.getD_some] at c0 c1 c2 c3 c4 c5 c6
    have hltI : (i : Int) < cs.length := by omega
    clear hc hi
    go_enter Try.func25, Try.ntmps25
    go_wp2
    go_returns
    exact ⟨rfl, by (repeat' (first | (with_reducible exact Below.refl _ _) | (with_reducible assumption) | (with_reducible refine Below.setCell ?_ ?_ _) | (with_reducible refine Below.alloc ?_ ?_ _) | (with_reducible refine Below.drew ?_) | (with_reducible refine Up.base _ ?_ ?_) | (with_reducible exact LeSize.out) | exact LeSize.out | exact Nat.le_add_right_of_le LeSize.out | exact Nat.le_add_right_of_le (Nat.le_add_right_of_le LeSize.out) | (with_reducible exact Nat.le_refl _) | (simp; done) | (simp; omega)))⟩
  · have e : cs.getD i ch0 = ch0 := by simp [List.getD, List.getElem?_eq_none (show cs.length ≤ i by omega)]
    have h2 : (cs.length : Int) ≤ i := by omega
    rw [e]
    clear hi e
    go_enter Try.func25, Try.ntmps25
    go_wp2
    go_returns
    exact ⟨rfl, by (repeat' (first | (with_reducible exact Below.refl _ _) | (with_reducible assumption) | (with_reducible refine Below.setCell ?_ ?_ _) | (with_reducible refine Below.alloc ?_ ?_ _) | (with_reducible refine Below.drew ?_) | (with_reducible refine Up.base _ ?_ ?_) | (with_reducible exact LeSize.out) | exact LeSize.out | exact Nat.le_add_right_of_le LeSize.out | exact Nat.le_add_right_of_le (Nat.le_add_right_of_le LeSize.out) | (with_reducible exact Nat.le_refl _) | (simp; done) | (simp; omega)))⟩
end
end Go.Proofs.Yteohpfelgaffoaa
