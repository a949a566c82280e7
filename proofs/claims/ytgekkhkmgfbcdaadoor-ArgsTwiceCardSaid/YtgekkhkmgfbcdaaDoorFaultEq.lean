/- '==' and '!=' between two faults. -/
import Derived.Test.YtgekkhkmgfbcdaaDoorLib
import Derived.WalkSpells
namespace Go.Proofs.YtgekkhkmgfbcdaaDoor
open Go.RowKit

/-- Are two faults the same? -/
def faultEq (a b c d : Int) : Bool := a == c && b == d
theorem faultEq_iff (a b c d : Int) : faultEq a b c d = true ↔ a = c ∧ b = d := by simp [faultEq]
theorem faultEq_same (a b : Int) : faultEq a b a b = true := by simp [faultEq]
theorem faultEq_code {a b c d : Int} (h : a ≠ c) : faultEq a b c d = false := by simp [faultEq, h]
theorem stood_fault : Tryd.prog.stoodInHeld 27 = false := by kernel_rfl
@[go_sem] theorem guard_fault (op : BinOp) (x y : Operand) (xs ys : Array Value) (w : World) : (eqGuard op 27 x y (.agg xs) (.agg ys)).run Tryd.prog w = .ok () w := run_eqGuard_agg w op _ x y xs ys (by kernel_rfl)
theorem eq_fault (a b c d : Int) (w : World) : (Op.equalIn 10000 27 (.agg #[.int .i64 a, .int .i64 b]) (.agg #[.int .i64 c, .int .i64 d])).run Tryd.prog w = .ok (faultEq a b c d) w := by
  have u3 := Tryd.underlying3
  have a3 := Tryd.isAgg3
  have z3 := Tryd.sizeOf3
  have u4 := Tryd.underlying25
  have a4 := Tryd.isAgg25
  have z4 := Tryd.sizeOf25
  have hS : Tryd.prog.underlying 27 = some (.struct (Tryd.prog.fieldsOf 27)) := by kernel_rfl
  rw [show (10000 : Nat) = 9999 + 1 from rfl, run_equalIn_agg w 9999 27 _ _ hS stood_fault]
  simp only [Program.fieldsOf, Tryd.underlying27]
  go_simp
  by_cases h1 : a = c <;> by_cases h2 : b = d <;> simp [faultEq, h1, h2]
@[go_sem ↓] theorem neq_fault (a b c d : Int) (w : World) : (binOp .neq 27 (.agg #[.int .i64 a, .int .i64 b]) (.agg #[.int .i64 c, .int .i64 d])).run Tryd.prog w = .ok (.bool (!faultEq a b c d)) w := by
  rw [run_neq_struct, eq_fault]; rfl
@[go_sem ↓] theorem eql_fault (a b c d : Int) (w : World) : (binOp .eql 27 (.agg #[.int .i64 a, .int .i64 b]) (.agg #[.int .i64 c, .int .i64 d])).run Tryd.prog w = .ok (.bool (faultEq a b c d)) w := by
  rw [run_eql_struct, eq_fault]; rfl

end Go.Proofs.YtgekkhkmgfbcdaaDoor
