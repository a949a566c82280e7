/- Chapter 09: the law UcdClasses, as its row asks for it. -/
import Derived.Test.YtpidgcjioocmhaaUcdClassesW
namespace Go.Proofs.Ytpidgcjioocmhaa
open Go.RowKit SetPure Go.WideShapes

theorem classes_row (r c : Int) (name : ByteArray) (w : World) (_ : name.size ≤ 140737488355328) (hw : (Lit.int .u8 c).wf = true) :
    Calls Try.prog 9 #[.string name, .int .i64 r, .int .u8 c] w fun e w' => e = .returned (.bool true) ∧ Below w.heap.size w w' := by
  have h : 0 ≤ c ∧ c ≤ 255 := by
    have h2 : (decide ((0 : Int) ≤ c) && decide (c ≤ (255 : Int))) = true := hw
    simpa using h2
  exact classes_law r c name w (by omega) (by omega)

end Go.Proofs.Ytpidgcjioocmhaa
