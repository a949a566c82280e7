/-
  No cell of these rows narrows 'for every input' (looked for: loops, veiled, ifaces, maps, wideKeys, modest, calm, conditions, laid).
  DERIVED. THE GIVEN ROWS OF THIS SEAT. 4 by the template 'for every input the law returns true; each argument reads behind the call as it read before'; 0 by the template 'total and deterministic' (their statements: YtaodcmppbacfbaaTotals.lean).
  GIVEN WITH THE SEED: the statements are not yours to turn. If you find one false, say at which input.
  Laid BY PROGRAM, IN A SANDBOX (cutbox-rows.mjs): the forced cells as the released guide's own fill.sh prints them over the translation 19a41799d7ac07d6… (all of the seat's roots in one cut). By AI agents, Wed Nov 11 2026. No macro, syntax, notation, axiom, sorry.
-/
import Derived.Test.YtaodcmppbacfbaaChecked
import GoSem.Claim
import GoSem.ClaimJoined
import GoSem.ClaimMapViews
import Derived.JoinedTies
import Derived.KernelRfl
namespace Go.Proofs.Ytaodcmppbacfbaa
/- THE CELL 'sum', in the pinned program and in every row, IS THE sha256 OF THE DUMP (.gsa) THAT YtaodcmppbacfbaaProg.lean LOADS. Nothing in Lean hashes anything: it is a label: what it is worth is what the hold of that sum in a sandbox is worth. -/
noncomputable def Try.pinned : Pinned := { name := "ytaodcmppbacfbaa", sum := "19a41799d7ac07d664fd469e8b3a18c644358f6697195dd16190fd6ce47574ce", checked := Try.checked }
namespace Rows
def none {H : Type} : Left H := { results := [], args := [] }

/-- 'ferretlaw10.SyntaxTimes': WHATEVER THE INPUT: true; the input reads as it did. -/
def syntaxTimesSpec : ChangeSpec := { name := "syntaxTimes", fn := fun _ => fun
  | [d1, d2, d3] => { results := [.lit (.bool true)], args := [d1, d2, d3] }
  | _ => none }
def syntaxTimesRow : OpenClaim := { program := "ytaodcmppbacfbaa", sum := "19a41799d7ac07d664fd469e8b3a18c644358f6697195dd16190fd6ce47574ce", func := "ferret/ferretlaw10.SyntaxTimes", spec := "syntaxTimes", inPlace := ["internal/bytealg.IndexByteString", "internal/reflectlite.ValueOf", "internal/reflectlite.Swapper", "(internal/reflectlite.Value).Len"], unfollowed := true, recurses := true, apart := false }
def SyntaxTimesSaid : Prop := syntaxTimesRow.holds Try.pinned (OpenSpec.ofChange syntaxTimesSpec)

/-- ITS FALSE NEIGHBOUR: 'it returns false'. Refute it at one input. -/
def syntaxTimesWrong : ChangeSpec := { name := "syntaxTimes", fn := fun _ => fun
  | [d1, d2, d3] => { results := [.lit (.bool false)], args := [d1, d2, d3] }
  | _ => none }
def SyntaxTimesWrongFalsely : Prop := syntaxTimesRow.holds Try.pinned (OpenSpec.ofChange syntaxTimesWrong)

/-- 'ferretlaw10.SyntaxGroups': WHATEVER THE INPUT: true; the input reads as it did. -/
def syntaxGroupsSpec : ChangeSpec := { name := "syntaxGroups", fn := fun _ => fun
  | [d] => { results := [.lit (.bool true)], args := [d] }
  | _ => none }
def syntaxGroupsRow : OpenClaim := { program := "ytaodcmppbacfbaa", sum := "19a41799d7ac07d664fd469e8b3a18c644358f6697195dd16190fd6ce47574ce", func := "ferret/ferretlaw10.SyntaxGroups", spec := "syntaxGroups", inPlace := ["internal/bytealg.IndexByteString", "internal/reflectlite.ValueOf", "internal/reflectlite.Swapper", "(internal/reflectlite.Value).Len"], unfollowed := true, recurses := true, apart := false }
def SyntaxGroupsSaid : Prop := syntaxGroupsRow.holds Try.pinned (OpenSpec.ofChange syntaxGroupsSpec)

/-- ITS FALSE NEIGHBOUR: 'it returns false'. Refute it at one input. -/
def syntaxGroupsWrong : ChangeSpec := { name := "syntaxGroups", fn := fun _ => fun
  | [d] => { results := [.lit (.bool false)], args := [d] }
  | _ => none }
def SyntaxGroupsWrongFalsely : Prop := syntaxGroupsRow.holds Try.pinned (OpenSpec.ofChange syntaxGroupsWrong)

/-- 'ferretlaw10.SyntaxEscapes': WHATEVER THE INPUT: true; the input reads as it did. -/
def syntaxEscapesSpec : ChangeSpec := { name := "syntaxEscapes", fn := fun _ => fun
  | [d] => { results := [.lit (.bool true)], args := [d] }
  | _ => none }
def syntaxEscapesRow : OpenClaim := { program := "ytaodcmppbacfbaa", sum := "19a41799d7ac07d664fd469e8b3a18c644358f6697195dd16190fd6ce47574ce", func := "ferret/ferretlaw10.SyntaxEscapes", spec := "syntaxEscapes", inPlace := ["internal/bytealg.IndexByteString", "internal/reflectlite.ValueOf", "internal/reflectlite.Swapper", "(internal/reflectlite.Value).Len"], unfollowed := true, recurses := true, apart := false }
def SyntaxEscapesSaid : Prop := syntaxEscapesRow.holds Try.pinned (OpenSpec.ofChange syntaxEscapesSpec)

/-- ITS FALSE NEIGHBOUR: 'it returns false'. Refute it at one input. -/
def syntaxEscapesWrong : ChangeSpec := { name := "syntaxEscapes", fn := fun _ => fun
  | [d] => { results := [.lit (.bool false)], args := [d] }
  | _ => none }
def SyntaxEscapesWrongFalsely : Prop := syntaxEscapesRow.holds Try.pinned (OpenSpec.ofChange syntaxEscapesWrong)

/-- 'ferretlaw10.SyntaxRanges': WHATEVER THE INPUT: true; the input reads as it did. -/
def syntaxRangesSpec : ChangeSpec := { name := "syntaxRanges", fn := fun _ => fun
  | [d1, d2, d3] => { results := [.lit (.bool true)], args := [d1, d2, d3] }
  | _ => none }
def syntaxRangesRow : OpenClaim := { program := "ytaodcmppbacfbaa", sum := "19a41799d7ac07d664fd469e8b3a18c644358f6697195dd16190fd6ce47574ce", func := "ferret/ferretlaw10.SyntaxRanges", spec := "syntaxRanges", inPlace := ["internal/bytealg.IndexByteString", "internal/reflectlite.ValueOf", "internal/reflectlite.Swapper", "(internal/reflectlite.Value).Len"], unfollowed := true, recurses := true, apart := false }
def SyntaxRangesSaid : Prop := syntaxRangesRow.holds Try.pinned (OpenSpec.ofChange syntaxRangesSpec)

/-- ITS FALSE NEIGHBOUR: 'it returns false'. Refute it at one input. -/
def syntaxRangesWrong : ChangeSpec := { name := "syntaxRanges", fn := fun _ => fun
  | [d1, d2, d3] => { results := [.lit (.bool false)], args := [d1, d2, d3] }
  | _ => none }
def SyntaxRangesWrongFalsely : Prop := syntaxRangesRow.holds Try.pinned (OpenSpec.ofChange syntaxRangesWrong)

/- THE SECOND FORM. 'bulk': how many values and letters a reading holds, each counted each time it is reached (what is shared counts as often as it is met; a slice's spare places count too). A statement '..UptoSaid' is the law's where the arguments, and the package variables that the reading takes, are together of bulk at most 1048576: NARROWER than '..Said'. Prove '..Said' where nothing that the law and all that it calls make is longer than what came in: it says more and counts as full. Else prove '..UptoSaid'. A law counts once. -/
mutual
def uptoBulk {H : Type} : DataW H → Nat
  | .lit (.string bytes) => bytes.length + 1
  | .lit _ => 1
  | .nil => 1
  | .ptr d => uptoBulk d + 1
  | .slice elems spare => uptoBulkAll elems + uptoBulkAll spare + 1
  | .agg parts => uptoBulkAll parts + 1
  | .iface _ d => uptoBulk d + 1
  | .map entries => uptoBulkEntries entries + 1
  | .held _ => 1
def uptoBulkAll {H : Type} : List (DataW H) → Nat
  | [] => 0
  | d :: r => uptoBulk d + uptoBulkAll r
def uptoBulkEntries {H : Type} : List (Lit × DataW H) → Nat
  | [] => 0
  | x :: r => uptoBulkEntry x + uptoBulkEntries r
def uptoBulkEntry {H : Type} : Lit × DataW H → Nat
  | (.string bytes, d) => bytes.length + uptoBulk d + 1
  | (_, d) => uptoBulk d + 1
 end
def uptoSmall : (H : Type) → List (DataW H) → Bool := fun _ ds => decide (uptoBulkAll ds ≤ 1048576)
def OpenSpec.upto (s : _root_.Go.ChangeSpec) : _root_.Go.OpenSpec := { _root_.Go.OpenSpec.ofChange s with cond := some uptoSmall }

/-- 'ferretlaw10.SyntaxTimes', WHERE WHAT IT READS IS OF BULK AT MOST 1048576: true; the input reads as it did. -/
def syntaxTimesUptoRow : OpenClaim := { program := "ytaodcmppbacfbaa", sum := "19a41799d7ac07d664fd469e8b3a18c644358f6697195dd16190fd6ce47574ce", func := "ferret/ferretlaw10.SyntaxTimes", spec := "syntaxTimes", inPlace := ["internal/bytealg.IndexByteString", "internal/reflectlite.ValueOf", "internal/reflectlite.Swapper", "(internal/reflectlite.Value).Len"], unfollowed := true, recurses := true, apart := false, narrowed := true }
def SyntaxTimesUptoSaid : Prop := syntaxTimesUptoRow.holds Try.pinned (OpenSpec.upto syntaxTimesSpec)

/-- 'ferretlaw10.SyntaxGroups', WHERE WHAT IT READS IS OF BULK AT MOST 1048576: true; the input reads as it did. -/
def syntaxGroupsUptoRow : OpenClaim := { program := "ytaodcmppbacfbaa", sum := "19a41799d7ac07d664fd469e8b3a18c644358f6697195dd16190fd6ce47574ce", func := "ferret/ferretlaw10.SyntaxGroups", spec := "syntaxGroups", inPlace := ["internal/bytealg.IndexByteString", "internal/reflectlite.ValueOf", "internal/reflectlite.Swapper", "(internal/reflectlite.Value).Len"], unfollowed := true, recurses := true, apart := false, narrowed := true }
def SyntaxGroupsUptoSaid : Prop := syntaxGroupsUptoRow.holds Try.pinned (OpenSpec.upto syntaxGroupsSpec)

/-- 'ferretlaw10.SyntaxEscapes', WHERE WHAT IT READS IS OF BULK AT MOST 1048576: true; the input reads as it did. -/
def syntaxEscapesUptoRow : OpenClaim := { program := "ytaodcmppbacfbaa", sum := "19a41799d7ac07d664fd469e8b3a18c644358f6697195dd16190fd6ce47574ce", func := "ferret/ferretlaw10.SyntaxEscapes", spec := "syntaxEscapes", inPlace := ["internal/bytealg.IndexByteString", "internal/reflectlite.ValueOf", "internal/reflectlite.Swapper", "(internal/reflectlite.Value).Len"], unfollowed := true, recurses := true, apart := false, narrowed := true }
def SyntaxEscapesUptoSaid : Prop := syntaxEscapesUptoRow.holds Try.pinned (OpenSpec.upto syntaxEscapesSpec)

/-- 'ferretlaw10.SyntaxRanges', WHERE WHAT IT READS IS OF BULK AT MOST 1048576: true; the input reads as it did. -/
def syntaxRangesUptoRow : OpenClaim := { program := "ytaodcmppbacfbaa", sum := "19a41799d7ac07d664fd469e8b3a18c644358f6697195dd16190fd6ce47574ce", func := "ferret/ferretlaw10.SyntaxRanges", spec := "syntaxRanges", inPlace := ["internal/bytealg.IndexByteString", "internal/reflectlite.ValueOf", "internal/reflectlite.Swapper", "(internal/reflectlite.Value).Len"], unfollowed := true, recurses := true, apart := false, narrowed := true }
def SyntaxRangesUptoSaid : Prop := syntaxRangesUptoRow.holds Try.pinned (OpenSpec.upto syntaxRangesSpec)

end Rows
end Go.Proofs.Ytaodcmppbacfbaa
