/- The byte ahead of a text that keeps a mark from being read. -/
import Derived.Test.YtemcflfgoelpiaaDecode
namespace Go.Proofs.Ytemcflfgoelpiaa
open Go.RowKit

def xs (s : ByteArray) : ByteArray := ⟨#[120]⟩ ++ s
theorem xs_list (s : ByteArray) : (xs s).data.toList = 120 :: s.data.toList := by
  unfold xs
  rw [ByteArray.data_append]
  simp
theorem xs_size (s : ByteArray) : (xs s).size = s.size + 1 := by
  unfold xs
  rw [ByteArray.size_append]
  show 1 + s.size = s.size + 1
  omega
theorem xs_mark (s : ByteArray) : NoMark (xs s) := by
  unfold NoMark
  rw [xs_list]
  rfl

end Go.Proofs.Ytemcflfgoelpiaa
