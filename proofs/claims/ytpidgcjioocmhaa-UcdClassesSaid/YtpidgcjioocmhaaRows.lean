/-
  No cell of these rows narrows 'for every input' (looked for: loops, veiled, ifaces, maps, wideKeys, modest, calm, conditions, laid).
  DERIVED. THE GIVEN ROWS OF THIS SEAT. 7 by the template 'for every input the law returns true; each argument reads behind the call as it read before'; 0 by the template 'total and deterministic' (their statements: YtpidgcjioocmhaaTotals.lean).
  GIVEN WITH THE SEED: the statements are not yours to turn. If you find one false, say at which input.
  Laid BY PROGRAM, IN A SANDBOX (cutbox-rows.mjs): the forced cells as the released guide's own fill.sh prints them over the translation 65d4c516abdc5ccc… (all of the seat's roots in one cut). By AI agents, Wed Nov 11 2026. No macro, syntax, notation, axiom, sorry.
-/
import Derived.Test.YtpidgcjioocmhaaChecked
import GoSem.Claim
import GoSem.ClaimJoined
import GoSem.ClaimMapViews
import Derived.JoinedTies
import Derived.KernelRfl
namespace Go.Proofs.Ytpidgcjioocmhaa
/- THE CELL 'sum', in the pinned program and in every row, IS THE sha256 OF THE DUMP (.gsa) THAT YtpidgcjioocmhaaProg.lean LOADS. Nothing in Lean hashes anything: it is a label: what it is worth is what the hold of that sum in a sandbox is worth. -/
noncomputable def Try.pinned : Pinned := { name := "ytpidgcjioocmhaa", sum := "65d4c516abdc5ccc727098e0ee38aac4edc2c8f06f431fa8e63ffa51d0699e71", checked := Try.checked }
namespace Rows
def none {H : Type} : Left H := { results := [], args := [] }

/-- 'ferretlaw09.UcdOrbits': WHATEVER THE INPUT: true; the input reads as it did. -/
def ucdOrbitsSpec : ChangeSpec := { name := "ucdOrbits", fn := fun _ => fun
  | [d] => { results := [.lit (.bool true)], args := [d] }
  | _ => none }
def ucdOrbitsRow : OpenClaim := { program := "ytpidgcjioocmhaa", sum := "65d4c516abdc5ccc727098e0ee38aac4edc2c8f06f431fa8e63ffa51d0699e71", func := "ferret/ferretlaw09.UcdOrbits", spec := "ucdOrbits", apart := false }
def UcdOrbitsSaid : Prop := ucdOrbitsRow.holds Try.pinned (OpenSpec.ofChange ucdOrbitsSpec)

/-- ITS FALSE NEIGHBOUR: 'it returns false'. Refute it at one input. -/
def ucdOrbitsWrong : ChangeSpec := { name := "ucdOrbits", fn := fun _ => fun
  | [d] => { results := [.lit (.bool false)], args := [d] }
  | _ => none }
def UcdOrbitsWrongFalsely : Prop := ucdOrbitsRow.holds Try.pinned (OpenSpec.ofChange ucdOrbitsWrong)

/-- 'ferretlaw09.UcdCloses': WHATEVER THE INPUT: true; the input reads as it did. -/
def ucdClosesSpec : ChangeSpec := { name := "ucdCloses", fn := fun _ => fun
  | [d1, d2] => { results := [.lit (.bool true)], args := [d1, d2] }
  | _ => none }
def ucdClosesRow : OpenClaim := { program := "ytpidgcjioocmhaa", sum := "65d4c516abdc5ccc727098e0ee38aac4edc2c8f06f431fa8e63ffa51d0699e71", func := "ferret/ferretlaw09.UcdCloses", spec := "ucdCloses", inPlace := ["internal/reflectlite.ValueOf", "internal/reflectlite.Swapper", "(internal/reflectlite.Value).Len"], unfollowed := true, recurses := true, apart := false }
def UcdClosesSaid : Prop := ucdClosesRow.holds Try.pinned (OpenSpec.ofChange ucdClosesSpec)

/-- ITS FALSE NEIGHBOUR: 'it returns false'. Refute it at one input. -/
def ucdClosesWrong : ChangeSpec := { name := "ucdCloses", fn := fun _ => fun
  | [d1, d2] => { results := [.lit (.bool false)], args := [d1, d2] }
  | _ => none }
def UcdClosesWrongFalsely : Prop := ucdClosesRow.holds Try.pinned (OpenSpec.ofChange ucdClosesWrong)

/-- 'ferretlaw09.UcdGrows': WHATEVER THE INPUT: true; the input reads as it did. -/
def ucdGrowsSpec : ChangeSpec := { name := "ucdGrows", fn := fun _ => fun
  | [d1, d2] => { results := [.lit (.bool true)], args := [d1, d2] }
  | _ => none }
def ucdGrowsRow : OpenClaim := { program := "ytpidgcjioocmhaa", sum := "65d4c516abdc5ccc727098e0ee38aac4edc2c8f06f431fa8e63ffa51d0699e71", func := "ferret/ferretlaw09.UcdGrows", spec := "ucdGrows", inPlace := ["internal/reflectlite.ValueOf", "internal/reflectlite.Swapper", "(internal/reflectlite.Value).Len"], unfollowed := true, recurses := true, apart := false }
def UcdGrowsSaid : Prop := ucdGrowsRow.holds Try.pinned (OpenSpec.ofChange ucdGrowsSpec)

/-- ITS FALSE NEIGHBOUR: 'it returns false'. Refute it at one input. -/
def ucdGrowsWrong : ChangeSpec := { name := "ucdGrows", fn := fun _ => fun
  | [d1, d2] => { results := [.lit (.bool false)], args := [d1, d2] }
  | _ => none }
def UcdGrowsWrongFalsely : Prop := ucdGrowsRow.holds Try.pinned (OpenSpec.ofChange ucdGrowsWrong)

/-- 'ferretlaw09.UcdPairs': WHATEVER THE INPUT: true; the input reads as it did. -/
def ucdPairsSpec : ChangeSpec := { name := "ucdPairs", fn := fun _ => fun
  | [d] => { results := [.lit (.bool true)], args := [d] }
  | _ => none }
def ucdPairsRow : OpenClaim := { program := "ytpidgcjioocmhaa", sum := "65d4c516abdc5ccc727098e0ee38aac4edc2c8f06f431fa8e63ffa51d0699e71", func := "ferret/ferretlaw09.UcdPairs", spec := "ucdPairs", inPlace := ["internal/reflectlite.ValueOf", "internal/reflectlite.Swapper", "(internal/reflectlite.Value).Len"], unfollowed := true, recurses := true, apart := false }
def UcdPairsSaid : Prop := ucdPairsRow.holds Try.pinned (OpenSpec.ofChange ucdPairsSpec)

/-- ITS FALSE NEIGHBOUR: 'it returns false'. Refute it at one input. -/
def ucdPairsWrong : ChangeSpec := { name := "ucdPairs", fn := fun _ => fun
  | [d] => { results := [.lit (.bool false)], args := [d] }
  | _ => none }
def UcdPairsWrongFalsely : Prop := ucdPairsRow.holds Try.pinned (OpenSpec.ofChange ucdPairsWrong)

/-- 'ferretlaw09.UcdTurned': WHATEVER THE INPUT: true; the input reads as it did. -/
def ucdTurnedSpec : ChangeSpec := { name := "ucdTurned", fn := fun _ => fun
  | [d] => { results := [.lit (.bool true)], args := [d] }
  | _ => none }
def ucdTurnedRow : OpenClaim := { program := "ytpidgcjioocmhaa", sum := "65d4c516abdc5ccc727098e0ee38aac4edc2c8f06f431fa8e63ffa51d0699e71", func := "ferret/ferretlaw09.UcdTurned", spec := "ucdTurned", inPlace := ["internal/reflectlite.ValueOf", "internal/reflectlite.Swapper", "(internal/reflectlite.Value).Len"], unfollowed := true, recurses := true, apart := false }
def UcdTurnedSaid : Prop := ucdTurnedRow.holds Try.pinned (OpenSpec.ofChange ucdTurnedSpec)

/-- ITS FALSE NEIGHBOUR: 'it returns false'. Refute it at one input. -/
def ucdTurnedWrong : ChangeSpec := { name := "ucdTurned", fn := fun _ => fun
  | [d] => { results := [.lit (.bool false)], args := [d] }
  | _ => none }
def UcdTurnedWrongFalsely : Prop := ucdTurnedRow.holds Try.pinned (OpenSpec.ofChange ucdTurnedWrong)

/-- 'ferretlaw09.UcdParts': WHATEVER THE INPUT: true; the input reads as it did. -/
def ucdPartsSpec : ChangeSpec := { name := "ucdParts", fn := fun _ => fun
  | [d] => { results := [.lit (.bool true)], args := [d] }
  | _ => none }
def ucdPartsRow : OpenClaim := { program := "ytpidgcjioocmhaa", sum := "65d4c516abdc5ccc727098e0ee38aac4edc2c8f06f431fa8e63ffa51d0699e71", func := "ferret/ferretlaw09.UcdParts", spec := "ucdParts", inPlace := ["internal/reflectlite.ValueOf", "internal/reflectlite.Swapper", "(internal/reflectlite.Value).Len"], unfollowed := true, recurses := true, apart := false }
def UcdPartsSaid : Prop := ucdPartsRow.holds Try.pinned (OpenSpec.ofChange ucdPartsSpec)

/-- ITS FALSE NEIGHBOUR: 'it returns false'. Refute it at one input. -/
def ucdPartsWrong : ChangeSpec := { name := "ucdParts", fn := fun _ => fun
  | [d] => { results := [.lit (.bool false)], args := [d] }
  | _ => none }
def UcdPartsWrongFalsely : Prop := ucdPartsRow.holds Try.pinned (OpenSpec.ofChange ucdPartsWrong)

/-- 'ferretlaw09.UcdClasses': WHATEVER THE INPUT: true; the input reads as it did. -/
def ucdClassesSpec : ChangeSpec := { name := "ucdClasses", fn := fun _ => fun
  | [d1, d2, d3] => { results := [.lit (.bool true)], args := [d1, d2, d3] }
  | _ => none }
def ucdClassesRow : OpenClaim := { program := "ytpidgcjioocmhaa", sum := "65d4c516abdc5ccc727098e0ee38aac4edc2c8f06f431fa8e63ffa51d0699e71", func := "ferret/ferretlaw09.UcdClasses", spec := "ucdClasses", inPlace := ["internal/reflectlite.ValueOf", "internal/reflectlite.Swapper", "(internal/reflectlite.Value).Len"], unfollowed := true, recurses := true, apart := false }
def UcdClassesSaid : Prop := ucdClassesRow.holds Try.pinned (OpenSpec.ofChange ucdClassesSpec)

/-- ITS FALSE NEIGHBOUR: 'it returns false'. Refute it at one input. -/
def ucdClassesWrong : ChangeSpec := { name := "ucdClasses", fn := fun _ => fun
  | [d1, d2, d3] => { results := [.lit (.bool false)], args := [d1, d2, d3] }
  | _ => none }
def UcdClassesWrongFalsely : Prop := ucdClassesRow.holds Try.pinned (OpenSpec.ofChange ucdClassesWrong)

/- THE SECOND FORM. 'bulk': how many values and letters a reading holds, each counted each time it is reached (what is shared counts as often as it is met; a slice's spare places count too). A statement '..UptoSaid' is the law's where the arguments, and the package variables that the reading takes, are together of bulk at most 1048576: NARROWER than '..Said'. Prove '..Said' where nothing that the law and all that it calls make is longer than what came in: it says more and counts as full. Else prove '..UptoSaid'. A law counts once. -/
mutual
def uptoBulk {H : Type} : DataW H → Nat
  | .lit (.string bytes) => bytes.length + 1
  | .lit _ => 1
  | .nil => 1
  | .ptr d => uptoBulk d + 1
  | .slice elems spare => uptoBulkAll elems + uptoBulkAll spare + 1
  | .agg parts => uptoBulkAll parts + 1
  | .iface _ d => uptoBulk d + 1
  | .map entries => uptoBulkEntries entries + 1
  | .held _ => 1
def uptoBulkAll {H : Type} : List (DataW H) → Nat
  | [] => 0
  | d :: r => uptoBulk d + uptoBulkAll r
def uptoBulkEntries {H : Type} : List (Lit × DataW H) → Nat
  | [] => 0
  | x :: r => uptoBulkEntry x + uptoBulkEntries r
def uptoBulkEntry {H : Type} : Lit × DataW H → Nat
  | (.string bytes, d) => bytes.length + uptoBulk d + 1
  | (_, d) => uptoBulk d + 1
 end
def uptoSmall : (H : Type) → List (DataW H) → Bool := fun _ ds => decide (uptoBulkAll ds ≤ 1048576)
def OpenSpec.upto (s : _root_.Go.ChangeSpec) : _root_.Go.OpenSpec := { _root_.Go.OpenSpec.ofChange s with cond := some uptoSmall }

/-- 'ferretlaw09.UcdOrbits', WHERE WHAT IT READS IS OF BULK AT MOST 1048576: true; the input reads as it did. -/
def ucdOrbitsUptoRow : OpenClaim := { program := "ytpidgcjioocmhaa", sum := "65d4c516abdc5ccc727098e0ee38aac4edc2c8f06f431fa8e63ffa51d0699e71", func := "ferret/ferretlaw09.UcdOrbits", spec := "ucdOrbits", apart := false, narrowed := true }
def UcdOrbitsUptoSaid : Prop := ucdOrbitsUptoRow.holds Try.pinned (OpenSpec.upto ucdOrbitsSpec)

/-- 'ferretlaw09.UcdCloses', WHERE WHAT IT READS IS OF BULK AT MOST 1048576: true; the input reads as it did. -/
def ucdClosesUptoRow : OpenClaim := { program := "ytpidgcjioocmhaa", sum := "65d4c516abdc5ccc727098e0ee38aac4edc2c8f06f431fa8e63ffa51d0699e71", func := "ferret/ferretlaw09.UcdCloses", spec := "ucdCloses", inPlace := ["internal/reflectlite.ValueOf", "internal/reflectlite.Swapper", "(internal/reflectlite.Value).Len"], unfollowed := true, recurses := true, apart := false, narrowed := true }
def UcdClosesUptoSaid : Prop := ucdClosesUptoRow.holds Try.pinned (OpenSpec.upto ucdClosesSpec)

/-- 'ferretlaw09.UcdGrows', WHERE WHAT IT READS IS OF BULK AT MOST 1048576: true; the input reads as it did. -/
def ucdGrowsUptoRow : OpenClaim := { program := "ytpidgcjioocmhaa", sum := "65d4c516abdc5ccc727098e0ee38aac4edc2c8f06f431fa8e63ffa51d0699e71", func := "ferret/ferretlaw09.UcdGrows", spec := "ucdGrows", inPlace := ["internal/reflectlite.ValueOf", "internal/reflectlite.Swapper", "(internal/reflectlite.Value).Len"], unfollowed := true, recurses := true, apart := false, narrowed := true }
def UcdGrowsUptoSaid : Prop := ucdGrowsUptoRow.holds Try.pinned (OpenSpec.upto ucdGrowsSpec)

/-- 'ferretlaw09.UcdPairs', WHERE WHAT IT READS IS OF BULK AT MOST 1048576: true; the input reads as it did. -/
def ucdPairsUptoRow : OpenClaim := { program := "ytpidgcjioocmhaa", sum := "65d4c516abdc5ccc727098e0ee38aac4edc2c8f06f431fa8e63ffa51d0699e71", func := "ferret/ferretlaw09.UcdPairs", spec := "ucdPairs", inPlace := ["internal/reflectlite.ValueOf", "internal/reflectlite.Swapper", "(internal/reflectlite.Value).Len"], unfollowed := true, recurses := true, apart := false, narrowed := true }
def UcdPairsUptoSaid : Prop := ucdPairsUptoRow.holds Try.pinned (OpenSpec.upto ucdPairsSpec)

/-- 'ferretlaw09.UcdTurned', WHERE WHAT IT READS IS OF BULK AT MOST 1048576: true; the input reads as it did. -/
def ucdTurnedUptoRow : OpenClaim := { program := "ytpidgcjioocmhaa", sum := "65d4c516abdc5ccc727098e0ee38aac4edc2c8f06f431fa8e63ffa51d0699e71", func := "ferret/ferretlaw09.UcdTurned", spec := "ucdTurned", inPlace := ["internal/reflectlite.ValueOf", "internal/reflectlite.Swapper", "(internal/reflectlite.Value).Len"], unfollowed := true, recurses := true, apart := false, narrowed := true }
def UcdTurnedUptoSaid : Prop := ucdTurnedUptoRow.holds Try.pinned (OpenSpec.upto ucdTurnedSpec)

/-- 'ferretlaw09.UcdParts', WHERE WHAT IT READS IS OF BULK AT MOST 1048576: true; the input reads as it did. -/
def ucdPartsUptoRow : OpenClaim := { program := "ytpidgcjioocmhaa", sum := "65d4c516abdc5ccc727098e0ee38aac4edc2c8f06f431fa8e63ffa51d0699e71", func := "ferret/ferretlaw09.UcdParts", spec := "ucdParts", inPlace := ["internal/reflectlite.ValueOf", "internal/reflectlite.Swapper", "(internal/reflectlite.Value).Len"], unfollowed := true, recurses := true, apart := false, narrowed := true }
def UcdPartsUptoSaid : Prop := ucdPartsUptoRow.holds Try.pinned (OpenSpec.upto ucdPartsSpec)

/-- 'ferretlaw09.UcdClasses', WHERE WHAT IT READS IS OF BULK AT MOST 1048576: true; the input reads as it did. -/
def ucdClassesUptoRow : OpenClaim := { program := "ytpidgcjioocmhaa", sum := "65d4c516abdc5ccc727098e0ee38aac4edc2c8f06f431fa8e63ffa51d0699e71", func := "ferret/ferretlaw09.UcdClasses", spec := "ucdClasses", inPlace := ["internal/reflectlite.ValueOf", "internal/reflectlite.Swapper", "(internal/reflectlite.Value).Len"], unfollowed := true, recurses := true, apart := false, narrowed := true }
def UcdClassesUptoSaid : Prop := ucdClassesUptoRow.holds Try.pinned (OpenSpec.upto ucdClassesSpec)

end Rows
end Go.Proofs.Ytpidgcjioocmhaa
