/- The plain law of a cut, case by case, as the program asks. -/
import Derived.Test.YtemjgnpkhomofaaSplitLen
namespace Go.Proofs.Ytemjgnpkhomofaa
open SetPure
namespace UtfPure

theorem cs64h {a b : Int} (x1 : a / 64 ≠ b / 64) (x2 : a % 64 ≠ 0) : cutAt a b levels = some (a / 64 * 64 + 63) := by
  unfold levels; simp only [cutAt]
  repeat' split
  all_goals first | (exfalso; omega) | (congr 1)
theorem cs64t {a b : Int} (x1 : a / 64 ≠ b / 64) (x2 : a % 64 = 0) (x3 : b % 64 ≠ 63) : cutAt a b levels = some (b / 64 * 64 - 1) := by
  unfold levels; simp only [cutAt]
  repeat' split
  all_goals first | (exfalso; omega) | (congr 1)
theorem cs4096h {a b : Int} (x1 : a % 64 = 0) (x2 : b % 64 = 63) (x3 : a / 4096 ≠ b / 4096) (x4 : a % 4096 ≠ 0) : cutAt a b levels = some (a / 4096 * 4096 + 4095) := by
  unfold levels; simp only [cutAt]
  repeat' split
  all_goals first | (exfalso; omega) | (congr 1)
theorem cs4096t {a b : Int} (x1 : a % 64 = 0) (x2 : b % 64 = 63) (x3 : a / 4096 ≠ b / 4096) (x4 : a % 4096 = 0) (x5 : b % 4096 ≠ 4095) : cutAt a b levels = some (b / 4096 * 4096 - 1) := by
  unfold levels; simp only [cutAt]
  repeat' split
  all_goals first | (exfalso; omega) | (congr 1)
theorem cs262144h {a b : Int} (x1 : a % 4096 = 0) (x2 : b % 4096 = 4095) (x3 : a / 262144 ≠ b / 262144) (x4 : a % 262144 ≠ 0) : cutAt a b levels = some (a / 262144 * 262144 + 262143) := by
  unfold levels; simp only [cutAt]
  repeat' split
  all_goals first | (exfalso; omega) | (congr 1)
theorem cs262144t {a b : Int} (x1 : a % 4096 = 0) (x2 : b % 4096 = 4095) (x3 : a / 262144 ≠ b / 262144) (x4 : a % 262144 = 0) (x5 : b % 262144 ≠ 262143) : cutAt a b levels = some (b / 262144 * 262144 - 1) := by
  unfold levels; simp only [cutAt]
  repeat' split
  all_goals first | (exfalso; omega) | (congr 1)
theorem cut_noneEnd {a b : Int} (x1 : a % 262144 = 0) (x2 : b % 262144 = 262143) : cutAt a b levels = none := by
  unfold levels; simp only [cutAt]
  repeat' split
  all_goals first | rfl | (exfalso; omega)
/-- What the program knows ahead of the k-th power. -/
def Past (a b : Int) (k : Nat) : Prop := (1 ≤ k → a % 64 = 0 ∧ b % 64 = 63) ∧ (2 ≤ k → a % 4096 = 0 ∧ b % 4096 = 4095) ∧ (3 ≤ k → a % 262144 = 0 ∧ b % 262144 = 262143)

end UtfPure
end Go.Proofs.Ytemjgnpkhomofaa
