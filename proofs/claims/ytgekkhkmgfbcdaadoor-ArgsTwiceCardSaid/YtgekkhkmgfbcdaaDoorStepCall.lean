/- General: in a region that draws its order, a call of a Go function as one step, by its contract. -/
import Derived.Test.YtgekkhkmgfbcdaaDoorLib
import Derived.Deep.RegionLaw
namespace Go.Proofs.YtgekkhkmgfbcdaaDoor
open Go.RowKit

/-- What a call's end means for the walk. -/
def CallEnd (Q : Exit → Act → World → Prop) (a : Act) (K : Value → World → Prop) : Ending → World → Prop
  | .returned v, w => K v w
  | .panicked chain, w => Q (.panic chain) a w
  | .outgrown, _ => LetsOut Q
theorem callFunc_enter {P : Program} {f : FuncId} {fn : Func} (hf : P.funcs[f]? = some fn) (hn : (fn.name == "runtime.NumGoroutine") = false) (hb : fn.body.isNone = false) (args : Array Value) (w : World) :
    (callFunc f args).run P w = .ok (.enter f args) w := by
  have h1 : fn.name ≠ "runtime.NumGoroutine" := by simpa using hn
  have h2 : ¬ fn.body = none := fun e => by rw [e] at hb; cases hb
  simp [callFunc, hf, h1, h2]
theorem step_call2 {P : Program} {ops : Array Oper} {o : Oper} {a : Act} {w : World} {K : Act → World → Prop} {Q : Exit → Act → World → Prop} {F : Prop} {fn : Func} (hgd : o.guard = none) (f : FuncId) (x y : Operand) (tys : Array TypeId)
    (ho : o.op = .call { callee := .value (.func f), args := #[x, y], argTypes := tys }) (hf : P.funcs[f]? = some fn) (hn : (fn.name == "runtime.NumGoroutine") = false) (hb : fn.body.isNone = false) (vx vy : Value) (hx : a.eval x = vx) (hy : a.eval y = vy)
    (h : Calls P f #[vx, vy] w (CallEnd Q a fun v w' => K (a.put o.dst v) w')) : if Region.wanted o (yielded ops a.tmps) = true then Oper.wp P o a w K Q else F := by
  rw [if_pos (by simp [Region.wanted, hgd])]
  have hc := callFunc_enter hf hn hb #[vx, vy] w
  have he : a.eval (.func f) = .func (.func f) #[] #[] := rfl
  unfold Oper.wp
  have hr : (execOp a.eval o).run P w = .ok (.enter f #[vx, vy]) w := by
    simp [execOp, ho, resolve, invoke, Deferred.ofValue, he, hx, hy, hc]
  rw [hr]
  exact h.mono fun e w' hh => by cases e <;> exact hh
theorem step_call1 {P : Program} {ops : Array Oper} {o : Oper} {a : Act} {w : World} {K : Act → World → Prop} {Q : Exit → Act → World → Prop} {F : Prop} {fn : Func} (hgd : o.guard = none) (f : FuncId) (x : Operand) (tys : Array TypeId)
    (ho : o.op = .call { callee := .value (.func f), args := #[x], argTypes := tys }) (hf : P.funcs[f]? = some fn) (hn : (fn.name == "runtime.NumGoroutine") = false) (hb : fn.body.isNone = false) (vx : Value) (hx : a.eval x = vx)
    (h : Calls P f #[vx] w (CallEnd Q a fun v w' => K (a.put o.dst v) w')) : if Region.wanted o (yielded ops a.tmps) = true then Oper.wp P o a w K Q else F := by
  rw [if_pos (by simp [Region.wanted, hgd])]
  have hc := callFunc_enter hf hn hb #[vx] w
  have he : a.eval (.func f) = .func (.func f) #[] #[] := rfl
  unfold Oper.wp
  have hr : (execOp a.eval o).run P w = .ok (.enter f #[vx]) w := by
    simp [execOp, ho, resolve, invoke, Deferred.ofValue, he, hx, hc]
  rw [hr]
  exact h.mono fun e w' hh => by cases e <;> exact hh

end Go.Proofs.YtgekkhkmgfbcdaaDoor
