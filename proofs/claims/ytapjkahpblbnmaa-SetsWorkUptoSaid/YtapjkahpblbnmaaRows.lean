/-
  No cell of these rows narrows 'for every input' (looked for: loops, veiled, ifaces, maps, wideKeys, modest, calm, conditions, laid).
  DERIVED. THE GIVEN ROWS OF THIS SEAT. 5 by the template 'for every input the law returns true; each argument reads behind the call as it read before'; 0 by the template 'total and deterministic' (their statements: YtapjkahpblbnmaaTotals.lean).
  GIVEN WITH THE SEED: the statements are not yours to turn. If you find one false, say at which input.
  Laid BY PROGRAM, IN A SANDBOX (cutbox-rows.mjs): the forced cells as the released guide's own fill.sh prints them over the translation 5520f3c22e79677a… (all of the seat's roots in one cut). By AI agents, Wed Nov 11 2026. No macro, syntax, notation, axiom, sorry.
-/
import Derived.Test.YtapjkahpblbnmaaChecked
import GoSem.Claim
import GoSem.ClaimJoined
import GoSem.ClaimMapViews
import Derived.JoinedTies
import Derived.KernelRfl
namespace Go.Proofs.Ytapjkahpblbnmaa
/- THE CELL 'sum', in the pinned program and in every row, IS THE sha256 OF THE DUMP (.gsa) THAT YtapjkahpblbnmaaProg.lean LOADS. Nothing in Lean hashes anything: it is a label: what it is worth is what the hold of that sum in a sandbox is worth. -/
noncomputable def Try.pinned : Pinned := { name := "ytapjkahpblbnmaa", sum := "5520f3c22e79677ab7487703970534171d2d1a0647f092c2f017e4951e3ff6f2", checked := Try.checked }
namespace Rows
def none {H : Type} : Left H := { results := [], args := [] }

/-- 'ferretlaw08.SetsTurned': WHATEVER THE INPUT: true; the input reads as it did. -/
def setsTurnedSpec : ChangeSpec := { name := "setsTurned", fn := fun _ => fun
  | [d] => { results := [.lit (.bool true)], args := [d] }
  | _ => none }
def setsTurnedRow : OpenClaim := { program := "ytapjkahpblbnmaa", sum := "5520f3c22e79677ab7487703970534171d2d1a0647f092c2f017e4951e3ff6f2", func := "ferret/ferretlaw08.SetsTurned", spec := "setsTurned", inPlace := ["internal/reflectlite.ValueOf", "internal/reflectlite.Swapper", "(internal/reflectlite.Value).Len"], unfollowed := true, recurses := true, apart := false }
def SetsTurnedSaid : Prop := setsTurnedRow.holds Try.pinned (OpenSpec.ofChange setsTurnedSpec)

/-- ITS FALSE NEIGHBOUR: 'it returns false'. Refute it at one input. -/
def setsTurnedWrong : ChangeSpec := { name := "setsTurned", fn := fun _ => fun
  | [d] => { results := [.lit (.bool false)], args := [d] }
  | _ => none }
def SetsTurnedWrongFalsely : Prop := setsTurnedRow.holds Try.pinned (OpenSpec.ofChange setsTurnedWrong)

/-- 'ferretlaw08.SetsForm': WHATEVER THE INPUT: true; the input reads as it did. -/
def setsFormSpec : ChangeSpec := { name := "setsForm", fn := fun _ => fun
  | [d1, d2] => { results := [.lit (.bool true)], args := [d1, d2] }
  | _ => none }
def setsFormRow : OpenClaim := { program := "ytapjkahpblbnmaa", sum := "5520f3c22e79677ab7487703970534171d2d1a0647f092c2f017e4951e3ff6f2", func := "ferret/ferretlaw08.SetsForm", spec := "setsForm", inPlace := ["internal/reflectlite.ValueOf", "internal/reflectlite.Swapper", "(internal/reflectlite.Value).Len"], unfollowed := true, recurses := true, apart := false }
def SetsFormSaid : Prop := setsFormRow.holds Try.pinned (OpenSpec.ofChange setsFormSpec)

/-- ITS FALSE NEIGHBOUR: 'it returns false'. Refute it at one input. -/
def setsFormWrong : ChangeSpec := { name := "setsForm", fn := fun _ => fun
  | [d1, d2] => { results := [.lit (.bool false)], args := [d1, d2] }
  | _ => none }
def SetsFormWrongFalsely : Prop := setsFormRow.holds Try.pinned (OpenSpec.ofChange setsFormWrong)

/-- 'ferretlaw08.SetsLaws': WHATEVER THE INPUT: true; the input reads as it did. -/
def setsLawsSpec : ChangeSpec := { name := "setsLaws", fn := fun _ => fun
  | [d1, d2, d3] => { results := [.lit (.bool true)], args := [d1, d2, d3] }
  | _ => none }
def setsLawsRow : OpenClaim := { program := "ytapjkahpblbnmaa", sum := "5520f3c22e79677ab7487703970534171d2d1a0647f092c2f017e4951e3ff6f2", func := "ferret/ferretlaw08.SetsLaws", spec := "setsLaws", inPlace := ["internal/reflectlite.ValueOf", "internal/reflectlite.Swapper", "(internal/reflectlite.Value).Len"], unfollowed := true, recurses := true, apart := false }
def SetsLawsSaid : Prop := setsLawsRow.holds Try.pinned (OpenSpec.ofChange setsLawsSpec)

/-- ITS FALSE NEIGHBOUR: 'it returns false'. Refute it at one input. -/
def setsLawsWrong : ChangeSpec := { name := "setsLaws", fn := fun _ => fun
  | [d1, d2, d3] => { results := [.lit (.bool false)], args := [d1, d2, d3] }
  | _ => none }
def SetsLawsWrongFalsely : Prop := setsLawsRow.holds Try.pinned (OpenSpec.ofChange setsLawsWrong)

/-- 'ferretlaw08.SetsEach': WHATEVER THE INPUT: true; the input reads as it did. -/
def setsEachSpec : ChangeSpec := { name := "setsEach", fn := fun _ => fun
  | [d1, d2, d3] => { results := [.lit (.bool true)], args := [d1, d2, d3] }
  | _ => none }
def setsEachRow : OpenClaim := { program := "ytapjkahpblbnmaa", sum := "5520f3c22e79677ab7487703970534171d2d1a0647f092c2f017e4951e3ff6f2", func := "ferret/ferretlaw08.SetsEach", spec := "setsEach", inPlace := ["internal/reflectlite.ValueOf", "internal/reflectlite.Swapper", "(internal/reflectlite.Value).Len"], unfollowed := true, recurses := true, apart := false }
def SetsEachSaid : Prop := setsEachRow.holds Try.pinned (OpenSpec.ofChange setsEachSpec)

/-- ITS FALSE NEIGHBOUR: 'it returns false'. Refute it at one input. -/
def setsEachWrong : ChangeSpec := { name := "setsEach", fn := fun _ => fun
  | [d1, d2, d3] => { results := [.lit (.bool false)], args := [d1, d2, d3] }
  | _ => none }
def SetsEachWrongFalsely : Prop := setsEachRow.holds Try.pinned (OpenSpec.ofChange setsEachWrong)

/-- 'ferretlaw08.SetsWork': WHATEVER THE INPUT: true; the input reads as it did. -/
def setsWorkSpec : ChangeSpec := { name := "setsWork", fn := fun _ => fun
  | [d1, d2, d3] => { results := [.lit (.bool true)], args := [d1, d2, d3] }
  | _ => none }
def setsWorkRow : OpenClaim := { program := "ytapjkahpblbnmaa", sum := "5520f3c22e79677ab7487703970534171d2d1a0647f092c2f017e4951e3ff6f2", func := "ferret/ferretlaw08.SetsWork", spec := "setsWork", inPlace := ["internal/reflectlite.ValueOf", "internal/reflectlite.Swapper", "(internal/reflectlite.Value).Len"], unfollowed := true, recurses := true, apart := false }
def SetsWorkSaid : Prop := setsWorkRow.holds Try.pinned (OpenSpec.ofChange setsWorkSpec)

/-- ITS FALSE NEIGHBOUR: 'it returns false'. Refute it at one input. -/
def setsWorkWrong : ChangeSpec := { name := "setsWork", fn := fun _ => fun
  | [d1, d2, d3] => { results := [.lit (.bool false)], args := [d1, d2, d3] }
  | _ => none }
def SetsWorkWrongFalsely : Prop := setsWorkRow.holds Try.pinned (OpenSpec.ofChange setsWorkWrong)

/- THE SECOND FORM. 'bulk': how many values and letters a reading holds, each counted each time it is reached (what is shared counts as often as it is met; a slice's spare places count too). A statement '..UptoSaid' is the law's where the arguments, and the package variables that the reading takes, are together of bulk at most 1048576: NARROWER than '..Said'. Prove '..Said' where nothing that the law and all that it calls make is longer than what came in: it says more and counts as full. Else prove '..UptoSaid'. A law counts once. -/
mutual
def uptoBulk {H : Type} : DataW H → Nat
  | .lit (.string bytes) => bytes.length + 1
  | .lit _ => 1
  | .nil => 1
  | .ptr d => uptoBulk d + 1
  | .slice elems spare => uptoBulkAll elems + uptoBulkAll spare + 1
  | .agg parts => uptoBulkAll parts + 1
  | .iface _ d => uptoBulk d + 1
  | .map entries => uptoBulkEntries entries + 1
  | .held _ => 1
def uptoBulkAll {H : Type} : List (DataW H) → Nat
  | [] => 0
  | d :: r => uptoBulk d + uptoBulkAll r
def uptoBulkEntries {H : Type} : List (Lit × DataW H) → Nat
  | [] => 0
  | x :: r => uptoBulkEntry x + uptoBulkEntries r
def uptoBulkEntry {H : Type} : Lit × DataW H → Nat
  | (.string bytes, d) => bytes.length + uptoBulk d + 1
  | (_, d) => uptoBulk d + 1
 end
def uptoSmall : (H : Type) → List (DataW H) → Bool := fun _ ds => decide (uptoBulkAll ds ≤ 1048576)
def OpenSpec.upto (s : _root_.Go.ChangeSpec) : _root_.Go.OpenSpec := { _root_.Go.OpenSpec.ofChange s with cond := some uptoSmall }

/-- 'ferretlaw08.SetsTurned', WHERE WHAT IT READS IS OF BULK AT MOST 1048576: true; the input reads as it did. -/
def setsTurnedUptoRow : OpenClaim := { program := "ytapjkahpblbnmaa", sum := "5520f3c22e79677ab7487703970534171d2d1a0647f092c2f017e4951e3ff6f2", func := "ferret/ferretlaw08.SetsTurned", spec := "setsTurned", inPlace := ["internal/reflectlite.ValueOf", "internal/reflectlite.Swapper", "(internal/reflectlite.Value).Len"], unfollowed := true, recurses := true, apart := false, narrowed := true }
def SetsTurnedUptoSaid : Prop := setsTurnedUptoRow.holds Try.pinned (OpenSpec.upto setsTurnedSpec)

/-- 'ferretlaw08.SetsForm', WHERE WHAT IT READS IS OF BULK AT MOST 1048576: true; the input reads as it did. -/
def setsFormUptoRow : OpenClaim := { program := "ytapjkahpblbnmaa", sum := "5520f3c22e79677ab7487703970534171d2d1a0647f092c2f017e4951e3ff6f2", func := "ferret/ferretlaw08.SetsForm", spec := "setsForm", inPlace := ["internal/reflectlite.ValueOf", "internal/reflectlite.Swapper", "(internal/reflectlite.Value).Len"], unfollowed := true, recurses := true, apart := false, narrowed := true }
def SetsFormUptoSaid : Prop := setsFormUptoRow.holds Try.pinned (OpenSpec.upto setsFormSpec)

/-- 'ferretlaw08.SetsLaws', WHERE WHAT IT READS IS OF BULK AT MOST 1048576: true; the input reads as it did. -/
def setsLawsUptoRow : OpenClaim := { program := "ytapjkahpblbnmaa", sum := "5520f3c22e79677ab7487703970534171d2d1a0647f092c2f017e4951e3ff6f2", func := "ferret/ferretlaw08.SetsLaws", spec := "setsLaws", inPlace := ["internal/reflectlite.ValueOf", "internal/reflectlite.Swapper", "(internal/reflectlite.Value).Len"], unfollowed := true, recurses := true, apart := false, narrowed := true }
def SetsLawsUptoSaid : Prop := setsLawsUptoRow.holds Try.pinned (OpenSpec.upto setsLawsSpec)

/-- 'ferretlaw08.SetsEach', WHERE WHAT IT READS IS OF BULK AT MOST 1048576: true; the input reads as it did. -/
def setsEachUptoRow : OpenClaim := { program := "ytapjkahpblbnmaa", sum := "5520f3c22e79677ab7487703970534171d2d1a0647f092c2f017e4951e3ff6f2", func := "ferret/ferretlaw08.SetsEach", spec := "setsEach", inPlace := ["internal/reflectlite.ValueOf", "internal/reflectlite.Swapper", "(internal/reflectlite.Value).Len"], unfollowed := true, recurses := true, apart := false, narrowed := true }
def SetsEachUptoSaid : Prop := setsEachUptoRow.holds Try.pinned (OpenSpec.upto setsEachSpec)

/-- 'ferretlaw08.SetsWork', WHERE WHAT IT READS IS OF BULK AT MOST 1048576: true; the input reads as it did. -/
def setsWorkUptoRow : OpenClaim := { program := "ytapjkahpblbnmaa", sum := "5520f3c22e79677ab7487703970534171d2d1a0647f092c2f017e4951e3ff6f2", func := "ferret/ferretlaw08.SetsWork", spec := "setsWork", inPlace := ["internal/reflectlite.ValueOf", "internal/reflectlite.Swapper", "(internal/reflectlite.Value).Len"], unfollowed := true, recurses := true, apart := false, narrowed := true }
def SetsWorkUptoSaid : Prop := setsWorkUptoRow.holds Try.pinned (OpenSpec.upto setsWorkSpec)

end Rows
end Go.Proofs.Ytapjkahpblbnmaa
