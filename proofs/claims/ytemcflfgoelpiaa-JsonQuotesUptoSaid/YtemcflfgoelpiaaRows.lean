/-
  No cell of these rows narrows 'for every input' (looked for: loops, veiled, ifaces, maps, wideKeys, modest, calm, conditions, laid).
  DERIVED. THE GIVEN ROWS OF THIS SEAT. 4 by the template 'for every input the law returns true; each argument reads behind the call as it read before'; 0 by the template 'total and deterministic' (their statements: YtemcflfgoelpiaaTotals.lean).
  GIVEN WITH THE SEED: the statements are not yours to turn. If you find one false, say at which input.
  Laid BY PROGRAM, IN A SANDBOX (cutbox-rows.mjs): the forced cells as the released guide's own fill.sh prints them over the translation e5e01cd6ad6efd9b… (all of the seat's roots in one cut). By AI agents, Wed Nov 11 2026. No macro, syntax, notation, axiom, sorry.
-/
import Derived.Test.YtemcflfgoelpiaaChecked
import GoSem.Claim
import GoSem.ClaimJoined
import GoSem.ClaimMapViews
import Derived.JoinedTies
import Derived.KernelRfl
namespace Go.Proofs.Ytemcflfgoelpiaa
/- THE CELL 'sum', in the pinned program and in every row, IS THE sha256 OF THE DUMP (.gsa) THAT YtemcflfgoelpiaaProg.lean LOADS. Nothing in Lean hashes anything: it is a label: what it is worth is what the hold of that sum in a sandbox is worth. -/
noncomputable def Try.pinned : Pinned := { name := "ytemcflfgoelpiaa", sum := "e5e01cd6ad6efd9bfd755446ca6980479c1312bf773f41acd4494f9bfbe461d5", checked := Try.checked }
namespace Rows
def none {H : Type} : Left H := { results := [], args := [] }

/-- 'ferretlaw22.JsonQuotes': WHATEVER THE INPUT: true; the input reads as it did. -/
def jsonQuotesSpec : ChangeSpec := { name := "jsonQuotes", fn := fun _ => fun
  | [d] => { results := [.lit (.bool true)], args := [d] }
  | _ => none }
def jsonQuotesRow : OpenClaim := { program := "ytemcflfgoelpiaa", sum := "e5e01cd6ad6efd9bfd755446ca6980479c1312bf773f41acd4494f9bfbe461d5", func := "ferret/ferretlaw22.JsonQuotes", spec := "jsonQuotes", inPlace := ["internal/abi.NoEscape", "internal/bytealg.IndexByteString"], unfollowed := true, recurses := true, apart := false }
def JsonQuotesSaid : Prop := jsonQuotesRow.holds Try.pinned (OpenSpec.ofChange jsonQuotesSpec)

/-- ITS FALSE NEIGHBOUR: 'it returns false'. Refute it at one input. -/
def jsonQuotesWrong : ChangeSpec := { name := "jsonQuotes", fn := fun _ => fun
  | [d] => { results := [.lit (.bool false)], args := [d] }
  | _ => none }
def JsonQuotesWrongFalsely : Prop := jsonQuotesRow.holds Try.pinned (OpenSpec.ofChange jsonQuotesWrong)

/-- 'ferretlaw22.JsonLists': WHATEVER THE INPUT: true; the input reads as it did. -/
def jsonListsSpec : ChangeSpec := { name := "jsonLists", fn := fun _ => fun
  | [d1, d2] => { results := [.lit (.bool true)], args := [d1, d2] }
  | _ => none }
def jsonListsRow : OpenClaim := { program := "ytemcflfgoelpiaa", sum := "e5e01cd6ad6efd9bfd755446ca6980479c1312bf773f41acd4494f9bfbe461d5", func := "ferret/ferretlaw22.JsonLists", spec := "jsonLists", inPlace := ["internal/abi.NoEscape", "internal/bytealg.IndexByteString"], unfollowed := true, recurses := true, apart := false }
def JsonListsSaid : Prop := jsonListsRow.holds Try.pinned (OpenSpec.ofChange jsonListsSpec)

/-- ITS FALSE NEIGHBOUR: 'it returns false'. Refute it at one input. -/
def jsonListsWrong : ChangeSpec := { name := "jsonLists", fn := fun _ => fun
  | [d1, d2] => { results := [.lit (.bool false)], args := [d1, d2] }
  | _ => none }
def JsonListsWrongFalsely : Prop := jsonListsRow.holds Try.pinned (OpenSpec.ofChange jsonListsWrong)

/-- 'ferretlaw22.JsonKeys': WHATEVER THE INPUT: true; the input reads as it did. -/
def jsonKeysSpec : ChangeSpec := { name := "jsonKeys", fn := fun _ => fun
  | [d1, d2] => { results := [.lit (.bool true)], args := [d1, d2] }
  | _ => none }
def jsonKeysRow : OpenClaim := { program := "ytemcflfgoelpiaa", sum := "e5e01cd6ad6efd9bfd755446ca6980479c1312bf773f41acd4494f9bfbe461d5", func := "ferret/ferretlaw22.JsonKeys", spec := "jsonKeys", inPlace := ["internal/abi.NoEscape", "internal/bytealg.IndexByteString", "internal/bytealg.MakeNoZero"], unfollowed := true, recurses := true, apart := false }
def JsonKeysSaid : Prop := jsonKeysRow.holds Try.pinned (OpenSpec.ofChange jsonKeysSpec)

/-- ITS FALSE NEIGHBOUR: 'it returns false'. Refute it at one input. -/
def jsonKeysWrong : ChangeSpec := { name := "jsonKeys", fn := fun _ => fun
  | [d1, d2] => { results := [.lit (.bool false)], args := [d1, d2] }
  | _ => none }
def JsonKeysWrongFalsely : Prop := jsonKeysRow.holds Try.pinned (OpenSpec.ofChange jsonKeysWrong)

/-- 'ferretlaw22.JsonNumbers': WHATEVER THE INPUT: true; the input reads as it did. -/
def jsonNumbersSpec : ChangeSpec := { name := "jsonNumbers", fn := fun _ => fun
  | [d] => { results := [.lit (.bool true)], args := [d] }
  | _ => none }
def jsonNumbersRow : OpenClaim := { program := "ytemcflfgoelpiaa", sum := "e5e01cd6ad6efd9bfd755446ca6980479c1312bf773f41acd4494f9bfbe461d5", func := "ferret/ferretlaw22.JsonNumbers", spec := "jsonNumbers", inPlace := ["internal/abi.NoEscape", "internal/bytealg.IndexByteString", "internal/bytealg.MakeNoZero"], unfollowed := true, recurses := true, apart := false }
def JsonNumbersSaid : Prop := jsonNumbersRow.holds Try.pinned (OpenSpec.ofChange jsonNumbersSpec)

/-- ITS FALSE NEIGHBOUR: 'it returns false'. Refute it at one input. -/
def jsonNumbersWrong : ChangeSpec := { name := "jsonNumbers", fn := fun _ => fun
  | [d] => { results := [.lit (.bool false)], args := [d] }
  | _ => none }
def JsonNumbersWrongFalsely : Prop := jsonNumbersRow.holds Try.pinned (OpenSpec.ofChange jsonNumbersWrong)

/- THE SECOND FORM. 'bulk': how many values and letters a reading holds, each counted each time it is reached (what is shared counts as often as it is met; a slice's spare places count too). A statement '..UptoSaid' is the law's where the arguments, and the package variables that the reading takes, are together of bulk at most 1048576: NARROWER than '..Said'. Prove '..Said' where nothing that the law and all that it calls make is longer than what came in: it says more and counts as full. Else prove '..UptoSaid'. A law counts once. -/
mutual
def uptoBulk {H : Type} : DataW H → Nat
  | .lit (.string bytes) => bytes.length + 1
  | .lit _ => 1
  | .nil => 1
  | .ptr d => uptoBulk d + 1
  | .slice elems spare => uptoBulkAll elems + uptoBulkAll spare + 1
  | .agg parts => uptoBulkAll parts + 1
  | .iface _ d => uptoBulk d + 1
  | .map entries => uptoBulkEntries entries + 1
  | .held _ => 1
def uptoBulkAll {H : Type} : List (DataW H) → Nat
  | [] => 0
  | d :: r => uptoBulk d + uptoBulkAll r
def uptoBulkEntries {H : Type} : List (Lit × DataW H) → Nat
  | [] => 0
  | x :: r => uptoBulkEntry x + uptoBulkEntries r
def uptoBulkEntry {H : Type} : Lit × DataW H → Nat
  | (.string bytes, d) => bytes.length + uptoBulk d + 1
  | (_, d) => uptoBulk d + 1
 end
def uptoSmall : (H : Type) → List (DataW H) → Bool := fun _ ds => decide (uptoBulkAll ds ≤ 1048576)
def OpenSpec.upto (s : _root_.Go.ChangeSpec) : _root_.Go.OpenSpec := { _root_.Go.OpenSpec.ofChange s with cond := some uptoSmall }

/-- 'ferretlaw22.JsonQuotes', WHERE WHAT IT READS IS OF BULK AT MOST 1048576: true; the input reads as it did. -/
def jsonQuotesUptoRow : OpenClaim := { program := "ytemcflfgoelpiaa", sum := "e5e01cd6ad6efd9bfd755446ca6980479c1312bf773f41acd4494f9bfbe461d5", func := "ferret/ferretlaw22.JsonQuotes", spec := "jsonQuotes", inPlace := ["internal/abi.NoEscape", "internal/bytealg.IndexByteString"], unfollowed := true, recurses := true, apart := false, narrowed := true }
def JsonQuotesUptoSaid : Prop := jsonQuotesUptoRow.holds Try.pinned (OpenSpec.upto jsonQuotesSpec)

/-- 'ferretlaw22.JsonLists', WHERE WHAT IT READS IS OF BULK AT MOST 1048576: true; the input reads as it did. -/
def jsonListsUptoRow : OpenClaim := { program := "ytemcflfgoelpiaa", sum := "e5e01cd6ad6efd9bfd755446ca6980479c1312bf773f41acd4494f9bfbe461d5", func := "ferret/ferretlaw22.JsonLists", spec := "jsonLists", inPlace := ["internal/abi.NoEscape", "internal/bytealg.IndexByteString"], unfollowed := true, recurses := true, apart := false, narrowed := true }
def JsonListsUptoSaid : Prop := jsonListsUptoRow.holds Try.pinned (OpenSpec.upto jsonListsSpec)

/-- 'ferretlaw22.JsonKeys', WHERE WHAT IT READS IS OF BULK AT MOST 1048576: true; the input reads as it did. -/
def jsonKeysUptoRow : OpenClaim := { program := "ytemcflfgoelpiaa", sum := "e5e01cd6ad6efd9bfd755446ca6980479c1312bf773f41acd4494f9bfbe461d5", func := "ferret/ferretlaw22.JsonKeys", spec := "jsonKeys", inPlace := ["internal/abi.NoEscape", "internal/bytealg.IndexByteString", "internal/bytealg.MakeNoZero"], unfollowed := true, recurses := true, apart := false, narrowed := true }
def JsonKeysUptoSaid : Prop := jsonKeysUptoRow.holds Try.pinned (OpenSpec.upto jsonKeysSpec)

/-- 'ferretlaw22.JsonNumbers', WHERE WHAT IT READS IS OF BULK AT MOST 1048576: true; the input reads as it did. -/
def jsonNumbersUptoRow : OpenClaim := { program := "ytemcflfgoelpiaa", sum := "e5e01cd6ad6efd9bfd755446ca6980479c1312bf773f41acd4494f9bfbe461d5", func := "ferret/ferretlaw22.JsonNumbers", spec := "jsonNumbers", inPlace := ["internal/abi.NoEscape", "internal/bytealg.IndexByteString", "internal/bytealg.MakeNoZero"], unfollowed := true, recurses := true, apart := false, narrowed := true }
def JsonNumbersUptoSaid : Prop := jsonNumbersUptoRow.holds Try.pinned (OpenSpec.upto jsonNumbersSpec)

end Rows
end Go.Proofs.Ytemcflfgoelpiaa
