/- Chapter 08, the walk of SetsWork. -/
import Derived.Test.YtapjkahpblbnmaaWorkA
import Derived.Test.YtapjkahpblbnmaaWorkB
import Derived.Test.YtapjkahpblbnmaaWorkC
namespace Go.Proofs.Ytapjkahpblbnmaa
open Go.RowKit SetPure CanonPure

theorem work_any (A A' : Option Addr) (c c' : Nat) (l m : List Rg) (r : Int) (w : World) (hl : l.length ≤ 1048576) (hm : m.length ≤ 1048576) (hA : SeqAt Epair w w.heap.size A l) (hA' : SeqAt Epair w w.heap.size A' m) :
    Calls Try.prog 7 #[.slice A l.length c, .slice A' m.length c', .int .i64 r] w fun e w' => e = .returned (.bool true) ∧ Below w.heap.size w w' := by
  by_cases h0 : 0 ≤ r
  · by_cases h1 : r ≤ 1114111
    · exact work_A A A' c c' l m r w hl hm hA hA' _ rfl h0 h1 (by simp [inR, h0, h1])
    · exact work_B A A' c c' l m r w hl hm hA hA' _ rfl h0 h1 (by simp [inR, h1])
  · exact work_C A A' c c' l m r w hl hm hA hA' _ rfl h0 (by simp [inR, h0])

end Go.Proofs.Ytapjkahpblbnmaa
