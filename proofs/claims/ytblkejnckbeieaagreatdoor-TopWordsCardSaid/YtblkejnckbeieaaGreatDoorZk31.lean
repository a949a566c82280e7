/- The table's check, by the kernel (first half), and the half turn. -/
import Derived.Test.YtblkejnckbeieaaGreatDoorZk30
namespace Go.Proofs.YtblkejnckbeieaaGreatDoor.WaveP
set_option maxRecDepth 100000
theorem half_t : half_ok = true := by decide +kernel
theorem blk0 : blk 0 128 = true := by decide +kernel
theorem blk1 : blk 1 128 = true := by decide +kernel
theorem blk2 : blk 2 128 = true := by decide +kernel
theorem blk3 : blk 3 128 = true := by decide +kernel
theorem blk4 : blk 4 128 = true := by decide +kernel
theorem blk5 : blk 5 128 = true := by decide +kernel
theorem blk6 : blk 6 128 = true := by decide +kernel
theorem blk7 : blk 7 128 = true := by decide +kernel
end Go.Proofs.YtblkejnckbeieaaGreatDoor.WaveP
