/- What the walk of Transform asks: conversions, complex operations, the mask of a power of two. -/
import Derived.Test.YtnjmefjcaiepfaaDoorWFin
import Derived.Test.YtnjmefjcaiepfaaDoorWTurned
import Derived.Laws.ComplexArith
import Derived.Laws.Cover2
namespace Go.Proofs.YtnjmefjcaiepfaaDoor
open Go.RowKit WaveP WaveP.Cx

theorem floatOf_nat (n : Nat) : floatOfInt .f64 (n : Int) = natW n := by
  have h := natW_eq n
  unfold floatOfInt
  rw [← h]
  rfl
theorem run_cmul {P : Program} {a b c d ac bd ad bc re im : Nat} (h : Prod a b c d ac bd ad bc re im) : ∀ t w, (binOp .mul t (.complex .f64 a b) (.complex .f64 c d)).run P w = .ok (.complex .f64 re im) w := fun t w =>
  run_complex_mul w t a b c d re im (by
    have p1 : floatBits .mul .f64 a c = some ac := h.p1
    have p2 : floatBits .mul .f64 b d = some bd := h.p2
    have p3 : floatBits .sub .f64 ac bd = some re := h.p3
    have p4 : floatBits .mul .f64 a d = some ad := h.p4
    have p5 : floatBits .mul .f64 b c = some bc := h.p5
    have p6 : floatBits .add .f64 ad bc = some im := h.p6
    unfold cMulBits
    rw [p1, Option.bind_some, p2, Option.bind_some, p3, Option.bind_some, p4, Option.bind_some, p5, Option.bind_some, p6, Option.bind_some])
theorem run_cadd {P : Program} {a b c d re im : Nat} (h1 : fmt.add a c = some re) (h2 : fmt.add b d = some im) : ∀ t w, (binOp .add t (.complex .f64 a b) (.complex .f64 c d)).run P w = .ok (.complex .f64 re im) w := fun t w =>
  run_complex_sum w .add (.inl rfl) t .f64 a b c d re im (by
    have p1 : floatBits .add .f64 a c = some re := h1
    have p2 : floatBits .add .f64 b d = some im := h2
    unfold cSumBits
    rw [p1, Option.bind_some, p2, Option.bind_some])
theorem run_csub {P : Program} {a b c d re im : Nat} (h1 : fmt.sub a c = some re) (h2 : fmt.sub b d = some im) : ∀ t w, (binOp .sub t (.complex .f64 a b) (.complex .f64 c d)).run P w = .ok (.complex .f64 re im) w := fun t w =>
  run_complex_sum w .sub (.inr rfl) t .f64 a b c d re im (by
    have p1 : floatBits .sub .f64 a c = some re := h1
    have p2 : floatBits .sub .f64 b d = some im := h2
    unfold cSumBits
    rw [p1, Option.bind_some, p2, Option.bind_some])
theorem and_pow (L : Nat) (hL : L ≤ 12) : bits .and .i64 (((2 ^ L : Nat) : Int)) (((2 ^ L : Nat) : Int) - 1) = 0 := by
  have h : ∀ L, L < 13 → bits .and .i64 (((2 ^ L : Nat) : Int)) (((2 ^ L : Nat) : Int) - 1) = 0 := by decide +kernel
  exact h L (by omega)
end Go.Proofs.YtnjmefjcaiepfaaDoor
