/- '==' and '!=' between two faults. -/
import Derived.Test.YtemcflfgoelpiaaLib
import Derived.WalkSpells
namespace Go.Proofs.Ytemcflfgoelpiaa
open Go.RowKit

/-- Are two faults the same? -/
def faultEq (a b c d : Int) : Bool := a == c && b == d
theorem faultEq_iff (a b c d : Int) : faultEq a b c d = true ↔ a = c ∧ b = d := by simp [faultEq]
theorem faultEq_same (a b : Int) : faultEq a b a b = true := by simp [faultEq]
theorem faultEq_code {a b c d : Int} (h : a ≠ c) : faultEq a b c d = false := by simp [faultEq, h]
theorem stood_fault : Try.prog.stoodInHeld 29 = false := by kernel_rfl
@[go_sem] theorem guard_fault (op : BinOp) (x y : Operand) (xs ys : Array Value) (w : World) : (eqGuard op 29 x y (.agg xs) (.agg ys)).run Try.prog w = .ok () w := run_eqGuard_agg w op _ x y xs ys (by kernel_rfl)
theorem eq_fault (a b c d : Int) (w : World) : (Op.equalIn 10000 29 (.agg #[.int .i64 a, .int .i64 b]) (.agg #[.int .i64 c, .int .i64 d])).run Try.prog w = .ok (faultEq a b c d) w := by
  have u3 := Try.underlying3
  have a3 := Try.isAgg3
  have z3 := Try.sizeOf3
  have u4 := Try.underlying27
  have a4 := Try.isAgg27
  have z4 := Try.sizeOf27
  have hS : Try.prog.underlying 29 = some (.struct (Try.prog.fieldsOf 29)) := by kernel_rfl
  rw [show (10000 : Nat) = 9999 + 1 from rfl, run_equalIn_agg w 9999 29 _ _ hS stood_fault]
  simp only [Program.fieldsOf, Try.underlying29]
  go_simp
  by_cases h1 : a = c <;> by_cases h2 : b = d <;> simp [faultEq, h1, h2]
@[go_sem ↓] theorem neq_fault (a b c d : Int) (w : World) : (binOp .neq 29 (.agg #[.int .i64 a, .int .i64 b]) (.agg #[.int .i64 c, .int .i64 d])).run Try.prog w = .ok (.bool (!faultEq a b c d)) w := by
  rw [run_neq_struct, eq_fault]; rfl
@[go_sem ↓] theorem eql_fault (a b c d : Int) (w : World) : (binOp .eql 29 (.agg #[.int .i64 a, .int .i64 b]) (.agg #[.int .i64 c, .int .i64 d])).run Try.prog w = .ok (.bool (faultEq a b c d)) w := by
  rw [run_eql_struct, eq_fault]; rfl

end Go.Proofs.Ytemcflfgoelpiaa
