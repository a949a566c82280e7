/- '==' between options of the same values. -/
import Derived.Test.YtgekkhkmgfbcdaaDoorFaultEq
namespace Go.Proofs.YtgekkhkmgfbcdaaDoor
open Go.RowKit

theorem stood_opt : Tryd.prog.stoodInHeld 39 = false := by kernel_rfl
theorem stood_flags : Tryd.prog.stoodInHeld 35 = false := by kernel_rfl
theorem stood_engine : Tryd.prog.stoodInHeld 37 = false := by kernel_rfl
@[go_sem] theorem guard_opt (op : BinOp) (x y : Operand) (xs ys : Array Value) (w : World) : (eqGuard op 39 x y (.agg xs) (.agg ys)).run Tryd.prog w = .ok () w := run_eqGuard_agg w op _ x y xs ys (by kernel_rfl)
theorem eq_opt (n0 n1 n2 n3 n4 : Int) (b0 b1 b2 b3 b4 b5 b6 b7 b8 b9 : Bool) (t0 t1 : ByteArray) (w : World) :
    (Op.equalIn 10000 39 (.agg #[.int .i64 n0, .int .i64 n1, .int .i64 n2, .int .i64 n3, .bool b0, .bool b1, .bool b2, .bool b3, .bool b4, .bool b5, .bool b6, .bool b7, .bool b8, .bool b9, .int .i64 n4, .string t0, .string t1])
      (.agg #[.int .i64 n0, .int .i64 n1, .int .i64 n2, .int .i64 n3, .bool b0, .bool b1, .bool b2, .bool b3, .bool b4, .bool b5, .bool b6, .bool b7, .bool b8, .bool b9, .int .i64 n4, .string t0, .string t1])).run Tryd.prog w = .ok true w := by
  have u3 := Tryd.underlying3
  have a3 := Tryd.isAgg3
  have z3 := Tryd.sizeOf3
  have u4 := Tryd.underlying4
  have a4 := Tryd.isAgg4
  have z4 := Tryd.sizeOf4
  have u9 := Tryd.underlying9
  have a9 := Tryd.isAgg9
  have z9 := Tryd.sizeOf9
  have hS : Tryd.prog.underlying 39 = some (.struct (Tryd.prog.fieldsOf 39)) := by kernel_rfl
  rw [show (10000 : Nat) = 9999 + 1 from rfl, run_equalIn_agg w 9999 39 _ _ hS stood_opt]
  simp only [Program.fieldsOf, Tryd.underlying39]
  go_simp
@[go_sem ↓] theorem eql_opt (n0 n1 n2 n3 n4 : Int) (b0 b1 b2 b3 b4 b5 b6 b7 b8 b9 : Bool) (t0 t1 : ByteArray) (w : World) :
    (binOp .eql 39 (.agg #[.int .i64 n0, .int .i64 n1, .int .i64 n2, .int .i64 n3, .bool b0, .bool b1, .bool b2, .bool b3, .bool b4, .bool b5, .bool b6, .bool b7, .bool b8, .bool b9, .int .i64 n4, .string t0, .string t1]) (.agg #[.int .i64 n0, .int .i64 n1, .int .i64 n2, .int .i64 n3, .bool b0, .bool b1, .bool b2, .bool b3, .bool b4, .bool b5, .bool b6, .bool b7, .bool b8, .bool b9, .int .i64 n4, .string t0, .string t1])).run Tryd.prog w = .ok (.bool true) w := by
  rw [run_eql_struct, eq_opt]; rfl

end Go.Proofs.YtgekkhkmgfbcdaaDoor
