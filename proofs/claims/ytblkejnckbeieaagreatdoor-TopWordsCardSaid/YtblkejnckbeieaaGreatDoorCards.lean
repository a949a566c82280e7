/-
  DERIVED. GIVEN WITH THE SEED: THE CARDS: each row of YtblkejnckbeieaaGreatDoorRows.lean that lists a variable, with what it lists TIED to the program's text (the seventh form; the later family's looks); each row that meets fmt, with fmt's text TOLD by the authors' own Lean function (tested against real Go, not proved from fmt's source: count such statements apart). THE CARD IS WHAT COUNTS. Prove the row's statement (the work); the ties are given (YtblkejnckbeieaaGreatDoorTie.lean); close each card by the builder's one call (the guide's Derived/Test/ToyasCard.lean, 'card_holds'). Laid BY PROGRAM, IN A SANDBOX (cutbox-door.mjs). By AI agents, Wed Nov 11 2026. No macro, syntax, notation, axiom, sorry.
-/
import Derived.Test.YtblkejnckbeieaaGreatDoorRows
import GoSem.ClaimSeven
namespace Go.Proofs.YtblkejnckbeieaaGreatDoor
namespace Rows

/-- THE TIED CARD OF 'ferrettop.TopWords'. -/
def topWordsCard : Claim7 := { stood := { row := topWordsRow, standIns := [], harness := (true, "19cbe747f952806fbd34e68f29e1e7635ba12384c52bd76c1ef916704f11d899"), looks := true }, kinds := [], alts := [], laidByText := true, laidKinds := [.data, .data, .data], laidTests := true, laidLooks := .later }
def TopWordsCardSaid : Prop := Claim7.holds Tryz.pinned (.plain (OpenSpec.ofChange topWordsSpec)) topWordsCard

/-- THE TIED CARD OF 'ferretlaw11.ShowSets'. -/
def showSetsCard : Claim7 := { stood := { row := showSetsRow, standIns := [], harness := (true, "19cbe747f952806fbd34e68f29e1e7635ba12384c52bd76c1ef916704f11d899"), looks := true }, kinds := [], alts := [], laidByText := true, laidKinds := [.data, .data, .data, .data, .pinned, .pinned], laidTests := true, laidLooks := .later }
def ShowSetsCardSaid : Prop := Claim7.holds Tryz.pinned (.plain (OpenSpec.ofChange showSetsSpec)) showSetsCard

/-- THE TIED CARD OF 'ferretlaw18.PrefixNext'. -/
def prefixNextCard : Claim7 := { stood := { row := prefixNextRow, standIns := [], harness := (true, "19cbe747f952806fbd34e68f29e1e7635ba12384c52bd76c1ef916704f11d899"), looks := true }, kinds := [], alts := [], laidByText := true, laidKinds := [.data, .data, .data], laidTests := true, laidLooks := .later }
def PrefixNextCardSaid : Prop := Claim7.holds Tryz.pinned (.plain (OpenSpec.ofChange prefixNextSpec)) prefixNextCard

/-- THE TIED CARD OF 'ferretlaw18.PrefixPlaces'. -/
def prefixPlacesCard : Claim7 := { stood := { row := prefixPlacesRow, standIns := [], harness := (true, "19cbe747f952806fbd34e68f29e1e7635ba12384c52bd76c1ef916704f11d899"), looks := true }, kinds := [], alts := [], laidByText := true, laidKinds := [.data, .data, .data], laidTests := true, laidLooks := .later }
def PrefixPlacesCardSaid : Prop := Claim7.holds Tryz.pinned (.plain (OpenSpec.ofChange prefixPlacesSpec)) prefixPlacesCard

/-- THE TIED CARD OF 'ferretlaw12.SimpleTimes'. -/
def simpleTimesCard : Claim7 := { stood := { row := simpleTimesRow, standIns := [], harness := (true, "19cbe747f952806fbd34e68f29e1e7635ba12384c52bd76c1ef916704f11d899"), looks := true }, kinds := [], alts := [], laidByText := true, laidKinds := [.data, .data, .data, .data, .pinned, .pinned], laidTests := true, laidLooks := .later }
def SimpleTimesCardSaid : Prop := Claim7.holds Tryz.pinned (.plain (OpenSpec.ofChange simpleTimesSpec)) simpleTimesCard

/-- THE TIED CARD OF 'ferretlaw12.SimpleFolds'. -/
def simpleFoldsCard : Claim7 := { stood := { row := simpleFoldsRow, standIns := [], harness := (true, "19cbe747f952806fbd34e68f29e1e7635ba12384c52bd76c1ef916704f11d899"), looks := true }, kinds := [], alts := [], laidByText := true, laidKinds := [.data, .data, .data, .data, .pinned, .pinned], laidTests := true, laidLooks := .later }
def SimpleFoldsCardSaid : Prop := Claim7.holds Tryz.pinned (.plain (OpenSpec.ofChange simpleFoldsSpec)) simpleFoldsCard

/-- THE SECOND FORM's CARD OF 'ferrettop.TopWords'. -/
def topWordsUptoCard : Claim7 := { stood := { row := topWordsUptoRow, standIns := [], harness := (true, "19cbe747f952806fbd34e68f29e1e7635ba12384c52bd76c1ef916704f11d899"), looks := true }, kinds := [], alts := [], laidByText := true, laidKinds := [.data, .data, .data], laidTests := true, laidLooks := .later }
def TopWordsUptoCardSaid : Prop := Claim7.holds Tryz.pinned (.plain (OpenSpec.upto topWordsSpec)) topWordsUptoCard

/-- THE SECOND FORM's CARD OF 'ferretlaw11.ShowSets'. -/
def showSetsUptoCard : Claim7 := { stood := { row := showSetsUptoRow, standIns := [], harness := (true, "19cbe747f952806fbd34e68f29e1e7635ba12384c52bd76c1ef916704f11d899"), looks := true }, kinds := [], alts := [], laidByText := true, laidKinds := [.data, .data, .data, .data, .pinned, .pinned], laidTests := true, laidLooks := .later }
def ShowSetsUptoCardSaid : Prop := Claim7.holds Tryz.pinned (.plain (OpenSpec.upto showSetsSpec)) showSetsUptoCard

/-- THE SECOND FORM's CARD OF 'ferretlaw18.PrefixNext'. -/
def prefixNextUptoCard : Claim7 := { stood := { row := prefixNextUptoRow, standIns := [], harness := (true, "19cbe747f952806fbd34e68f29e1e7635ba12384c52bd76c1ef916704f11d899"), looks := true }, kinds := [], alts := [], laidByText := true, laidKinds := [.data, .data, .data], laidTests := true, laidLooks := .later }
def PrefixNextUptoCardSaid : Prop := Claim7.holds Tryz.pinned (.plain (OpenSpec.upto prefixNextSpec)) prefixNextUptoCard

/-- THE SECOND FORM's CARD OF 'ferretlaw18.PrefixPlaces'. -/
def prefixPlacesUptoCard : Claim7 := { stood := { row := prefixPlacesUptoRow, standIns := [], harness := (true, "19cbe747f952806fbd34e68f29e1e7635ba12384c52bd76c1ef916704f11d899"), looks := true }, kinds := [], alts := [], laidByText := true, laidKinds := [.data, .data, .data], laidTests := true, laidLooks := .later }
def PrefixPlacesUptoCardSaid : Prop := Claim7.holds Tryz.pinned (.plain (OpenSpec.upto prefixPlacesSpec)) prefixPlacesUptoCard

/-- THE SECOND FORM's CARD OF 'ferretlaw12.SimpleTimes'. -/
def simpleTimesUptoCard : Claim7 := { stood := { row := simpleTimesUptoRow, standIns := [], harness := (true, "19cbe747f952806fbd34e68f29e1e7635ba12384c52bd76c1ef916704f11d899"), looks := true }, kinds := [], alts := [], laidByText := true, laidKinds := [.data, .data, .data, .data, .pinned, .pinned], laidTests := true, laidLooks := .later }
def SimpleTimesUptoCardSaid : Prop := Claim7.holds Tryz.pinned (.plain (OpenSpec.upto simpleTimesSpec)) simpleTimesUptoCard

/-- THE SECOND FORM's CARD OF 'ferretlaw12.SimpleFolds'. -/
def simpleFoldsUptoCard : Claim7 := { stood := { row := simpleFoldsUptoRow, standIns := [], harness := (true, "19cbe747f952806fbd34e68f29e1e7635ba12384c52bd76c1ef916704f11d899"), looks := true }, kinds := [], alts := [], laidByText := true, laidKinds := [.data, .data, .data, .data, .pinned, .pinned], laidTests := true, laidLooks := .later }
def SimpleFoldsUptoCardSaid : Prop := Claim7.holds Tryz.pinned (.plain (OpenSpec.upto simpleFoldsSpec)) simpleFoldsUptoCard
end Rows
end Go.Proofs.YtblkejnckbeieaaGreatDoor
