/- Env: calls whose value hangs on the order. -/
import Derived.Test.YteohpfelgaffoaaEnvF
namespace Go.Proofs.Yteohpfelgaffoaa
open Go.RowKit
set_option linter.unusedVariables false
section
variable {P : Program} {ops : Array Oper} {W : World}
theorem wpEH_ocall {odd : List Nat} {deps : List (Nat × Nat)} {Rc : RcT} {Q : Env → Act → Prop} {o : Oper} {l : List Oper} {k : Nat} {is : List Nat} {e : Env} {a : Act} {f : FuncId} {args : Array Value} (ho : odd.contains k = true) (hw : Region.wanted o (yielded ops a.tmps) = true)
    (hrun : ∀ w : World, (execOp a.eval o).run P w = .ok (.enter f args) w)
    (hc : ∀ u : Up W, (e.on (dep deps k)).inv u.w → Calls P f args u.w fun e w' => ∃ v, e = .returned v ∧ Rc f args v w' ∧ Below u.w.heap.size u.w w')
    (h : ∀ (v : Value) (p : World → Prop), (∃ u : Up W, Rc f args v u.w) → (∀ w, p w → Rc f args v w) → wpEH P ops W odd deps Rc Q l is (e.upd k p) (a.put o.dst v)) : wpEH P ops W odd deps Rc Q (o :: l) (k :: is) e a := by
  refine wpEH_odd ho hw (fun u hu => by rw [hrun]; exact ⟨rfl, hc u hu⟩) ?_
  rintro v ⟨u, u1, hu⟩
  refine h v _ ⟨u, ?_⟩ ?_
  · rw [hrun] at hu; exact hu
  · rintro w ⟨u2, h2⟩; rw [hrun] at h2; exact h2
end
end Go.Proofs.Yteohpfelgaffoaa
