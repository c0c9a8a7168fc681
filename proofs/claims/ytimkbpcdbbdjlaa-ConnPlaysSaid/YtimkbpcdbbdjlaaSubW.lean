/- Part W: a call of a function as one step of a region that draws its order. No program's text. -/
import Derived.Test.YtimkbpcdbbdjlaaSubV
set_option linter.unusedVariables false
set_option linter.unusedSimpArgs false
namespace Go.Sub
theorem step_call {α : Type} {P : Program} {w : World} {ops : Array Oper} {o : Oper} {a : Act} {Q : Exit → Act → World → Prop} {K : Act → World → Prop} {E : Prop} (hgd : o.guard = none) (f : FuncId) (as : Array Operand) (ts : Array TypeId)
    (ho : o.op = .call { callee := .value (.func f), args := as, argTypes := ts }) (args : Array Value) (hargs : as.map a.eval = args) (hent : (callFunc f args).run P w = .ok (.enter f args) w)
    (T : α → Value) (R : α → World → Prop) (C : Calls P f args w fun e w' => ∃ x, Ret (T x) (R x) e w') (h : ∀ x w', R x w' → K (a.put o.dst (T x)) w') :
    if Region.wanted o (yielded ops a.tmps) = true then Oper.wp P o a w K Q else E := by
  have hw : Region.wanted o (yielded ops a.tmps) = true := by simp [Region.wanted, hgd]
  rw [if_pos hw]
  have he : (execOp a.eval o).run P w = .ok (.enter f args) w := by
    unfold execOp
    rw [ho]
    simp [resolve, invoke, Act.eval, Deferred.ofValue, hargs, hent]
  unfold Oper.wp
  rw [he, Oper.upon_enter]
  refine C.mono ?_
  rintro e w' ⟨x, rfl, hR⟩
  exact h x w' hR
end Go.Sub
