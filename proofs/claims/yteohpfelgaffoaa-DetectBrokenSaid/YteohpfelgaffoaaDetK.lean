/- The contracts of detect's ticks and of math's NaN. -/
import Derived.Test.YteohpfelgaffoaaDetL
import Derived.Test.YteohpfelgaffoaaDetW
import Derived.Test.YteohpfelgaffoaaDetT
import Derived.Laws.Externs
namespace Go.Proofs.Yteohpfelgaffoaa
open Go.RowKit
set_option linter.unusedVariables false

def nanF : Nat := 9221120237041090561
set_option maxHeartbeats 2000000 in
theorem nan_any (w : World) : Calls Try.prog 10 #[] w fun e w' => e = .returned (.float .f64 nanF) ∧ w = w' := by
  have h : ∀ w, Sem.run Try.prog (callFunc 32 #[.int .u64 9221120237041090561]) w = .ok (.value (.float .f64 9221120237041090561)) w := fun w => by kernel_rfl
  go_enter Try.func10, Try.ntmps10
  go_wp2
  go_ret
  exact ⟨rfl, rfl⟩
theorem secs_lit (f g : Nat) (n : Int) (h1 : fge f 0 = true) (h2 : fle f 4652006429231887155 = true) (hm : ∀ w, Sem.run Try.prog (binOp .mul 24 (.float .f64 4621819117588971520) (.float .f64 f)) w = .ok (.float .f64 g) w)
    (hr : ∀ w, Sem.run Try.prog (callFunc 71 #[.float .f64 g]) w = .ok (.value (.float .f64 g)) w) (hc : ∀ w, Sem.run Try.prog (convert 24 3 (.float .f64 g)) w = .ok (.int .i64 n) w) (w : World) :
    Calls Try.prog 56 #[.float .f64 f] w fun e w' => e = .returned (.tuple #[.int .i64 n, .bool true]) ∧ w = w' := by
  go_enter Try.func56, Try.ntmps56
  go_wp2
  go_returns
  exact ⟨rfl, rfl⟩
theorem ticks_lit (f g : Nat) (n : Int) (h1 : fge f 0 = true) (h2 : fle f 4652006429231887155 = true) (hm : ∀ w, Sem.run Try.prog (binOp .mul 24 (.float .f64 4621819117588971520) (.float .f64 f)) w = .ok (.float .f64 g) w)
    (hr : ∀ w, Sem.run Try.prog (callFunc 71 #[.float .f64 g]) w = .ok (.value (.float .f64 g)) w) (hc : ∀ w, Sem.run Try.prog (convert 24 3 (.float .f64 g)) w = .ok (.int .i64 n) w) (w : World) :
    Calls Try.prog 31 #[.float .f64 f] w fun e w' => e = .returned (.int .i64 n) ∧ w = w' := by
  have H := Lib.hid (secs_lit f g n h1 h2 hm hr hc)
  clear h1 h2 hm hr hc
  go_enter Try.func31, Try.ntmps31
  go_wp2_with (go_at_call 56; refine (H.out _).mono ?_; rintro e w' ⟨rfl, rfl⟩)
  go_ret
  exact ⟨rfl, rfl⟩
/-- So many ticks are a table's seconds. -/
def tkF (f : Nat) : Int := if f = 0 then 0 else if f = 4591870180066957722 then 1 else if f = 4596373779694328218 then 2 else if f = 4599075939470750515 then 3 else if f = 4600877379321698714 then 4 else 5
def IsTk (f : Nat) : Prop := f = 0 ∨ f = 4591870180066957722 ∨ f = 4596373779694328218 ∨ f = 4599075939470750515 ∨ f = 4600877379321698714 ∨ f = 4602678819172646912
theorem tkF_bd (f : Nat) : 0 ≤ tkF f ∧ tkF f ≤ 5 := by unfold tkF; repeat' split
                                                       all_goals omega
theorem ticks_any (f : Nat) (hf : IsTk f) (w : World) : Calls Try.prog 31 #[.float .f64 f] w fun e w' => e = .returned (.int .i64 (tkF f)) ∧ w = w' := by
  rcases hf with rfl | rfl | rfl | rfl | rfl | rfl
  · exact ticks_lit 0 0 0 (by decide +kernel) (by decide +kernel) (fun w => by kernel_rfl) (fun w => by kernel_rfl) (fun w => by kernel_rfl) w
  · exact ticks_lit 4591870180066957722 4607182418800017408 1 (by decide +kernel) (by decide +kernel) (fun w => by kernel_rfl) (fun w => by kernel_rfl) (fun w => by kernel_rfl) w
  · exact ticks_lit 4596373779694328218 4611686018427387904 2 (by decide +kernel) (by decide +kernel) (fun w => by kernel_rfl) (fun w => by kernel_rfl) (fun w => by kernel_rfl) w
  · exact ticks_lit 4599075939470750515 4613937818241073152 3 (by decide +kernel) (by decide +kernel) (fun w => by kernel_rfl) (fun w => by kernel_rfl) (fun w => by kernel_rfl) w
  · exact ticks_lit 4600877379321698714 4616189618054758400 4 (by decide +kernel) (by decide +kernel) (fun w => by kernel_rfl) (fun w => by kernel_rfl) (fun w => by kernel_rfl) w
  · exact ticks_lit 4602678819172646912 4617315517961601024 5 (by decide +kernel) (by decide +kernel) (fun w => by kernel_rfl) (fun w => by kernel_rfl) (fun w => by kernel_rfl) w
end Go.Proofs.Yteohpfelgaffoaa
