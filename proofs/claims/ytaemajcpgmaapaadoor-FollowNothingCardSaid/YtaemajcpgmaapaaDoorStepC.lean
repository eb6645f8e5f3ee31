/- A call of a Go function of one parameter, at a step of a region that draws its order and stores besides. -/
import Derived.Test.YtaemajcpgmaapaaDoorShelf
import Derived.WalkKit
import Derived.Deep.RegionLaw
namespace Go.Proofs.YtaemajcpgmaapaaDoor
open Go.RowKit

theorem callFunc_enter {P : Program} {f : FuncId} {fn : Func} {c : Code} (hf : P.funcs[f]? = some fn) (hname : (fn.name == "runtime.NumGoroutine") = false) (hb : fn.body = some c) (args : Array Value) (w : World) :
    (callFunc f args).run P w = .ok (.enter f args) w := by
  have hn : ¬ fn.name = "runtime.NumGoroutine" := by simpa using hname
  simp [callFunc, hf, hn, hb, go_sem]
theorem step_call_law {P : Program} {ops : Array Oper} {o : Oper} {a : Act} {w : World} {K : Act → World → Prop} {Q : Exit → Act → World → Prop} {E : Prop}
    (hgd : o.guard = none) (f : Nat) (x : Operand) (ty : TypeId) (ho : o.op = .call { callee := .value (.func f), args := #[x], argTypes := #[ty] }) (s : Value) (hx : a.eval x = s)
    (hcf : ∀ w, (callFunc f #[s]).run P w = .ok (.enter f #[s]) w)
    {Post : Ending → World → Prop} (hc : Calls P f #[s] w Post) (hr : ∀ e w', Post e w' → ∃ v, e = .returned v) (h : ∀ v w', Post (.returned v) w' → K (a.put o.dst v) w') :
    if Region.wanted o (yielded ops a.tmps) = true then Oper.wp P o a w K Q else E := by
  have hw : Region.wanted o (yielded ops a.tmps) = true := by simp [Region.wanted, hgd]
  rw [if_pos hw]
  unfold Oper.wp
  have he : execOp a.eval o = callFunc f #[s] := by
    obtain ⟨dst, op, type, pos, after, guard⟩ := o
    subst ho
    show callFunc f (#[] ++ #[x].map a.eval ++ #[]) = _
    simp [hx]
  rw [he, hcf, Oper.upon_enter]
  refine hc.mono fun e w' he => ?_
  obtain ⟨v, rfl⟩ := hr e w' he
  exact h v w' he
end Go.Proofs.YtaemajcpgmaapaaDoor
