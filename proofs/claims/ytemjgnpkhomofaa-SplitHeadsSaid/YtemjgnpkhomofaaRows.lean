/-
  No cell of these rows narrows 'for every input' (looked for: loops, veiled, ifaces, maps, wideKeys, modest, calm, conditions, laid).
  DERIVED. THE GIVEN ROWS OF THIS SEAT. 4 by the template 'for every input the law returns true; each argument reads behind the call as it read before'; 0 by the template 'total and deterministic' (their statements: YtemjgnpkhomofaaTotals.lean).
  GIVEN WITH THE SEED: the statements are not yours to turn. If you find one false, say at which input.
  Laid BY PROGRAM, IN A SANDBOX (cutbox-rows.mjs): the forced cells as the released guide's own fill.sh prints them over the translation be2fb2f6a7b3415a… (all of the seat's roots in one cut). By AI agents, Wed Nov 11 2026. No macro, syntax, notation, axiom, sorry.
-/
import Derived.Test.YtemjgnpkhomofaaChecked
import GoSem.Claim
import GoSem.ClaimJoined
import GoSem.ClaimMapViews
import Derived.JoinedTies
import Derived.KernelRfl
namespace Go.Proofs.Ytemjgnpkhomofaa
/- THE CELL 'sum', in the pinned program and in every row, IS THE sha256 OF THE DUMP (.gsa) THAT YtemjgnpkhomofaaProg.lean LOADS. Nothing in Lean hashes anything: it is a label: what it is worth is what the hold of that sum in a sandbox is worth. -/
noncomputable def Try.pinned : Pinned := { name := "ytemjgnpkhomofaa", sum := "be2fb2f6a7b3415a6457d9883971e11811c846aa59eb55970015b8889b72eb3f", checked := Try.checked }
namespace Rows
def none {H : Type} : Left H := { results := [], args := [] }

/-- 'ferretlaw13.SplitTells': WHATEVER THE INPUT: true; the input reads as it did. -/
def splitTellsSpec : ChangeSpec := { name := "splitTells", fn := fun _ => fun
  | [d1, d2, d3] => { results := [.lit (.bool true)], args := [d1, d2, d3] }
  | _ => none }
def splitTellsRow : OpenClaim := { program := "ytemjgnpkhomofaa", sum := "be2fb2f6a7b3415a6457d9883971e11811c846aa59eb55970015b8889b72eb3f", func := "ferret/ferretlaw13.SplitTells", spec := "splitTells", inPlace := ["internal/reflectlite.ValueOf", "internal/reflectlite.Swapper", "(internal/reflectlite.Value).Len"], unfollowed := true, recurses := true, apart := false }
def SplitTellsSaid : Prop := splitTellsRow.holds Try.pinned (OpenSpec.ofChange splitTellsSpec)

/-- ITS FALSE NEIGHBOUR: 'it returns false'. Refute it at one input. -/
def splitTellsWrong : ChangeSpec := { name := "splitTells", fn := fun _ => fun
  | [d1, d2, d3] => { results := [.lit (.bool false)], args := [d1, d2, d3] }
  | _ => none }
def SplitTellsWrongFalsely : Prop := splitTellsRow.holds Try.pinned (OpenSpec.ofChange splitTellsWrong)

/-- 'ferretlaw13.SplitOne': WHATEVER THE INPUT: true; the input reads as it did. -/
def splitOneSpec : ChangeSpec := { name := "splitOne", fn := fun _ => fun
  | [d] => { results := [.lit (.bool true)], args := [d] }
  | _ => none }
def splitOneRow : OpenClaim := { program := "ytemjgnpkhomofaa", sum := "be2fb2f6a7b3415a6457d9883971e11811c846aa59eb55970015b8889b72eb3f", func := "ferret/ferretlaw13.SplitOne", spec := "splitOne", inPlace := ["internal/reflectlite.ValueOf", "internal/reflectlite.Swapper", "(internal/reflectlite.Value).Len"], unfollowed := true, recurses := true, apart := false }
def SplitOneSaid : Prop := splitOneRow.holds Try.pinned (OpenSpec.ofChange splitOneSpec)

/-- ITS FALSE NEIGHBOUR: 'it returns false'. Refute it at one input. -/
def splitOneWrong : ChangeSpec := { name := "splitOne", fn := fun _ => fun
  | [d] => { results := [.lit (.bool false)], args := [d] }
  | _ => none }
def SplitOneWrongFalsely : Prop := splitOneRow.holds Try.pinned (OpenSpec.ofChange splitOneWrong)

/-- 'ferretlaw13.SplitHeads': WHATEVER THE INPUT: true; the input reads as it did. -/
def splitHeadsSpec : ChangeSpec := { name := "splitHeads", fn := fun _ => fun
  | [d1, d2] => { results := [.lit (.bool true)], args := [d1, d2] }
  | _ => none }
def splitHeadsRow : OpenClaim := { program := "ytemjgnpkhomofaa", sum := "be2fb2f6a7b3415a6457d9883971e11811c846aa59eb55970015b8889b72eb3f", func := "ferret/ferretlaw13.SplitHeads", spec := "splitHeads", inPlace := ["internal/reflectlite.ValueOf", "internal/reflectlite.Swapper", "(internal/reflectlite.Value).Len"], unfollowed := true, recurses := true, apart := false }
def SplitHeadsSaid : Prop := splitHeadsRow.holds Try.pinned (OpenSpec.ofChange splitHeadsSpec)

/-- ITS FALSE NEIGHBOUR: 'it returns false'. Refute it at one input. -/
def splitHeadsWrong : ChangeSpec := { name := "splitHeads", fn := fun _ => fun
  | [d1, d2] => { results := [.lit (.bool false)], args := [d1, d2] }
  | _ => none }
def SplitHeadsWrongFalsely : Prop := splitHeadsRow.holds Try.pinned (OpenSpec.ofChange splitHeadsWrong)

/-- 'ferretlaw13.SplitOrder': WHATEVER THE INPUT: true; the input reads as it did. -/
def splitOrderSpec : ChangeSpec := { name := "splitOrder", fn := fun _ => fun
  | [d] => { results := [.lit (.bool true)], args := [d] }
  | _ => none }
def splitOrderRow : OpenClaim := { program := "ytemjgnpkhomofaa", sum := "be2fb2f6a7b3415a6457d9883971e11811c846aa59eb55970015b8889b72eb3f", func := "ferret/ferretlaw13.SplitOrder", spec := "splitOrder", inPlace := ["internal/reflectlite.ValueOf", "internal/reflectlite.Swapper", "(internal/reflectlite.Value).Len"], unfollowed := true, recurses := true, apart := false }
def SplitOrderSaid : Prop := splitOrderRow.holds Try.pinned (OpenSpec.ofChange splitOrderSpec)

/-- ITS FALSE NEIGHBOUR: 'it returns false'. Refute it at one input. -/
def splitOrderWrong : ChangeSpec := { name := "splitOrder", fn := fun _ => fun
  | [d] => { results := [.lit (.bool false)], args := [d] }
  | _ => none }
def SplitOrderWrongFalsely : Prop := splitOrderRow.holds Try.pinned (OpenSpec.ofChange splitOrderWrong)

/- THE SECOND FORM. 'bulk': how many values and letters a reading holds, each counted each time it is reached (what is shared counts as often as it is met; a slice's spare places count too). A statement '..UptoSaid' is the law's where the arguments, and the package variables that the reading takes, are together of bulk at most 1048576: NARROWER than '..Said'. Prove '..Said' where nothing that the law and all that it calls make is longer than what came in: it says more and counts as full. Else prove '..UptoSaid'. A law counts once. -/
mutual
def uptoBulk {H : Type} : DataW H → Nat
  | .lit (.string bytes) => bytes.length + 1
  | .lit _ => 1
  | .nil => 1
  | .ptr d => uptoBulk d + 1
  | .slice elems spare => uptoBulkAll elems + uptoBulkAll spare + 1
  | .agg parts => uptoBulkAll parts + 1
  | .iface _ d => uptoBulk d + 1
  | .map entries => uptoBulkEntries entries + 1
  | .held _ => 1
def uptoBulkAll {H : Type} : List (DataW H) → Nat
  | [] => 0
  | d :: r => uptoBulk d + uptoBulkAll r
def uptoBulkEntries {H : Type} : List (Lit × DataW H) → Nat
  | [] => 0
  | x :: r => uptoBulkEntry x + uptoBulkEntries r
def uptoBulkEntry {H : Type} : Lit × DataW H → Nat
  | (.string bytes, d) => bytes.length + uptoBulk d + 1
  | (_, d) => uptoBulk d + 1
 end
def uptoSmall : (H : Type) → List (DataW H) → Bool := fun _ ds => decide (uptoBulkAll ds ≤ 1048576)
def OpenSpec.upto (s : _root_.Go.ChangeSpec) : _root_.Go.OpenSpec := { _root_.Go.OpenSpec.ofChange s with cond := some uptoSmall }

/-- 'ferretlaw13.SplitTells', WHERE WHAT IT READS IS OF BULK AT MOST 1048576: true; the input reads as it did. -/
def splitTellsUptoRow : OpenClaim := { program := "ytemjgnpkhomofaa", sum := "be2fb2f6a7b3415a6457d9883971e11811c846aa59eb55970015b8889b72eb3f", func := "ferret/ferretlaw13.SplitTells", spec := "splitTells", inPlace := ["internal/reflectlite.ValueOf", "internal/reflectlite.Swapper", "(internal/reflectlite.Value).Len"], unfollowed := true, recurses := true, apart := false, narrowed := true }
def SplitTellsUptoSaid : Prop := splitTellsUptoRow.holds Try.pinned (OpenSpec.upto splitTellsSpec)

/-- 'ferretlaw13.SplitOne', WHERE WHAT IT READS IS OF BULK AT MOST 1048576: true; the input reads as it did. -/
def splitOneUptoRow : OpenClaim := { program := "ytemjgnpkhomofaa", sum := "be2fb2f6a7b3415a6457d9883971e11811c846aa59eb55970015b8889b72eb3f", func := "ferret/ferretlaw13.SplitOne", spec := "splitOne", inPlace := ["internal/reflectlite.ValueOf", "internal/reflectlite.Swapper", "(internal/reflectlite.Value).Len"], unfollowed := true, recurses := true, apart := false, narrowed := true }
def SplitOneUptoSaid : Prop := splitOneUptoRow.holds Try.pinned (OpenSpec.upto splitOneSpec)

/-- 'ferretlaw13.SplitHeads', WHERE WHAT IT READS IS OF BULK AT MOST 1048576: true; the input reads as it did. -/
def splitHeadsUptoRow : OpenClaim := { program := "ytemjgnpkhomofaa", sum := "be2fb2f6a7b3415a6457d9883971e11811c846aa59eb55970015b8889b72eb3f", func := "ferret/ferretlaw13.SplitHeads", spec := "splitHeads", inPlace := ["internal/reflectlite.ValueOf", "internal/reflectlite.Swapper", "(internal/reflectlite.Value).Len"], unfollowed := true, recurses := true, apart := false, narrowed := true }
def SplitHeadsUptoSaid : Prop := splitHeadsUptoRow.holds Try.pinned (OpenSpec.upto splitHeadsSpec)

/-- 'ferretlaw13.SplitOrder', WHERE WHAT IT READS IS OF BULK AT MOST 1048576: true; the input reads as it did. -/
def splitOrderUptoRow : OpenClaim := { program := "ytemjgnpkhomofaa", sum := "be2fb2f6a7b3415a6457d9883971e11811c846aa59eb55970015b8889b72eb3f", func := "ferret/ferretlaw13.SplitOrder", spec := "splitOrder", inPlace := ["internal/reflectlite.ValueOf", "internal/reflectlite.Swapper", "(internal/reflectlite.Value).Len"], unfollowed := true, recurses := true, apart := false, narrowed := true }
def SplitOrderUptoSaid : Prop := splitOrderUptoRow.holds Try.pinned (OpenSpec.upto splitOrderSpec)

end Rows
end Go.Proofs.Ytemjgnpkhomofaa
