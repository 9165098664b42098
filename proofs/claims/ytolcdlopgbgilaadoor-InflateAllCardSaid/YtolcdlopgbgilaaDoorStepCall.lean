/- A call of a Go function as a step of a region that draws its order (for go_region_law). -/
import Derived.Test.YtolcdlopgbgilaaDoorCalm
namespace Go.Dray
open Go.RowKit

theorem step_call {P : Program} {w : World} {ops : Array Oper} {o : Oper} {a : Act} {K : Act → World → Prop} {Q : Exit → Act → World → Prop} {E : Prop} (hgd : o.guard = none) {f : FuncId} {fn : Func} {c : Code} (hf : P.funcs[f]? = some fn) (hname : (fn.name == "runtime.NumGoroutine") = false) (hb : fn.body = some c) {as : Array Operand} {tys : Array TypeId}
    (ho : o.op = .call { callee := .value (.func f), args := as, argTypes := tys }) {args : Array Value} (ha : as.map a.eval = args) {R : Ending → World → Prop} (hc : Calls P f args w R)
    (h : ∀ e w', R e w' → ∃ v, e = .returned v ∧ K (a.put o.dst v) w') : if Region.wanted o (yielded ops a.tmps) = true then Oper.wp P o a w K Q else E := by
  rw [if_pos (by simp [Region.wanted, hgd])]
  subst ha
  unfold Oper.wp
  have e1 : (execOp a.eval o).run P w = .ok (.enter f (as.map a.eval)) w := by
    simp [execOp, ho, resolve, invoke, go_sem]
    have h1 : fn.name ≠ "runtime.NumGoroutine" := by simpa using hname
    simp [callFunc, hf, h1, hb]
  rw [e1]
  show Calls P f _ w _
  exact hc.mono fun e w' hp => by
    obtain ⟨v, rfl, hk⟩ := h e w' hp
    exact hk

end Go.Dray
