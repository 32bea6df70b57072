/- A load of a known value inside a region that draws its order: a step to put ahead of go_big_quiet_step.
   Use: (go_big_quiet_want; refine quiet_load_of rfl rfl (fun u => <run law at u.w, by instances>) ?_; simp only [Act.put, List.setIfInBounds_toArray, List.set_cons_succ, List.set_cons_zero]; go_big_quiet_on) -/
import Derived.Test.YtbnbakienajhmaaBlk
namespace Go.Proofs.Ytbnbakienajhmaa
open Go.RowKit
set_option linter.unusedVariables false
theorem quiet_load_of {W : World} {K : Act → Prop} {o : Oper} {a : Act} {x : Operand} {ty : TypeId} {ptr v : Value} (ho : o.op = .load ty x) (hx : a.eval x = ptr)
    (hrun : ∀ u : Up W, Sem.run Try.prog (Instr.loadAt ty ptr) u.w = .ok v u.w) (hk : K (a.put o.dst v)) : o.quiet Try.prog a (fun w' => ∃ u : Up W, w' = u.w) K := by
  refine ⟨v, ?_, hk⟩
  rintro w ⟨u, rfl⟩
  have e := hrun u
  simp only [Oper.quietAt, execOp, ho, hx]
  generalize Instr.loadAt ty ptr = L at e ⊢
  simp [go_sem, e, Oper.quietUpon]
theorem quiet_load_z {W : World} {Z : World → Prop} {K : Act → Prop} {op : Oper} {a : Act} {x : Operand} {ty : TypeId} {b o : Nat} {v : Value} (ho : op.op = .load ty x) (hx : a.eval x = .pointer (some ⟨b, o, none⟩))
    (hrun : ∀ u : Up W, Sem.run Try.prog (Instr.loadAt ty (.pointer (some ⟨b, o, none⟩))) u.w = .ok v u.w) (hk : K (a.put op.dst v)) : op.quiet Try.prog a (fun w' => ∃ u : UpZ W Z, w' = u.up.w) K := by
  refine ⟨v, ?_, hk⟩
  rintro w ⟨u, rfl⟩
  have e := hrun u.up
  simp only [Oper.quietAt, execOp, ho, hx]
  generalize Instr.loadAt ty (Value.pointer (some ⟨b, o, none⟩)) = L at e ⊢
  simp [go_sem, e, Oper.quietUpon]
theorem wpList_load_of {ops : Array Oper} {rest : List Oper} {op : Oper} {a : Act} {w : World} {Q : Exit → Act → World → Prop} {x : Operand} {ty : TypeId} {ptr v : Value} (hgd : op.guard = none) (ho : op.op = .load ty x) (hx : a.eval x = ptr)
    (hrun : Sem.run Try.prog (Instr.loadAt ty ptr) w = .ok v w) (h : wpList Try.prog ops Q rest (a.put op.dst v) w) : wpList Try.prog ops Q (op :: rest) a w := by
  refine wpList_plain hgd fun _ hK => ?_
  unfold Oper.wp execOp
  simp only [ho, hx]
  generalize Instr.loadAt ty ptr = L at hrun ⊢
  simp [go_sem, hrun]
  exact hK _ _ h
theorem quiet_load_at {W : World} {K : Act → Prop} {op : Oper} {a : Act} {x : Operand} {ty : TypeId} {b o : Nat} {v : Value} (ho : op.op = .load ty x) (hx : a.eval x = .pointer (some ⟨b, o, none⟩))
    (hrun : ∀ u : Up W, Sem.run Try.prog (Instr.loadAt ty (.pointer (some ⟨b, o, none⟩))) u.w = .ok v u.w) (hk : K (a.put op.dst v)) : op.quiet Try.prog a (fun w' => ∃ u : Up W, w' = u.w) K :=
  quiet_load_of ho hx hrun hk
theorem wpList_load_at {ops : Array Oper} {rest : List Oper} {op : Oper} {a : Act} {w : World} {Q : Exit → Act → World → Prop} {x : Operand} {ty : TypeId} {b o : Nat} {v : Value} (hgd : op.guard = none) (ho : op.op = .load ty x) (hx : a.eval x = .pointer (some ⟨b, o, none⟩))
    (hrun : Sem.run Try.prog (Instr.loadAt ty (.pointer (some ⟨b, o, none⟩))) w = .ok v w) (h : wpList Try.prog ops Q rest (a.put op.dst v) w) : wpList Try.prog ops Q (op :: rest) a w :=
  wpList_load_of hgd ho hx hrun h
end Go.Proofs.Ytbnbakienajhmaa
