/- The table's check, by the kernel (second half), and the angles of fewer parts. -/
import Derived.Test.YtnjmefjcaiepfaaDoorWRoot
namespace Go.Proofs.YtnjmefjcaiepfaaDoor.WaveP
set_option maxRecDepth 100000
theorem blk8 : blk 8 128 = true := by decide +kernel
theorem blk9 : blk 9 128 = true := by decide +kernel
theorem blk10 : blk 10 128 = true := by decide +kernel
theorem blk11 : blk 11 128 = true := by decide +kernel
theorem blk12 : blk 12 128 = true := by decide +kernel
theorem blk13 : blk 13 128 = true := by decide +kernel
theorem blk14 : blk 14 128 = true := by decide +kernel
theorem blk15 : blk 15 127 = true := by decide +kernel
theorem l1 : chkL 1 0 1 = true := by decide +kernel
theorem l2 : chkL 2 0 2 = true := by decide +kernel
theorem l3 : chkL 3 0 4 = true := by decide +kernel
theorem l4 : chkL 4 0 8 = true := by decide +kernel
theorem l5 : chkL 5 0 16 = true := by decide +kernel
theorem l6 : chkL 6 0 32 = true := by decide +kernel
theorem l7 : chkL 7 0 64 = true := by decide +kernel
theorem l8 : chkL 8 0 128 = true := by decide +kernel
theorem l9 : chkL 9 0 256 = true := by decide +kernel
theorem l10 : chkL 10 0 512 = true := by decide +kernel
theorem l11 : chkL 11 0 1024 = true := by decide +kernel
end Go.Proofs.YtnjmefjcaiepfaaDoor.WaveP
