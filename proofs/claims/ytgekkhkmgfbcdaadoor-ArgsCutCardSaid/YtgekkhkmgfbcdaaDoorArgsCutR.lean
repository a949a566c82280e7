/- Chapter 25: the law ArgsCut, as its row asks for it. -/
import Derived.Test.YtgekkhkmgfbcdaaDoorArgsCutLaw
namespace Go.Proofs.YtgekkhkmgfbcdaaDoor
open Go.RowKit
theorem cut_row (a b : ByteArray) (c : Int) (w : World) (ha : a.size ≤ 140737488355328) (hb : b.size ≤ 140737488355328) (hB : Base w) :
    Calls Tryd.prog 4 #[.string a, .string b, .int .i64 c] w fun e w' => e = .returned (.bool true) ∧ Below w.heap.size w w' := cut_law a b c w ha hb hB
end Go.Proofs.YtgekkhkmgfbcdaaDoor
