/-
  DERIVED. GIVEN WITH THE SEED: THE CARDS: each row of YtjfeepajlkckeaaGreatDoorRows.lean that lists a variable, with what it lists TIED to the program's text (the seventh form; the later family's looks); each row that meets fmt, with fmt's text TOLD by the authors' own Lean function (tested against real Go, not proved from fmt's source: count such statements apart). THE CARD IS WHAT COUNTS. Prove the row's statement (the work); the ties are given (YtjfeepajlkckeaaGreatDoorTie.lean); close each card by the builder's one call (the guide's Derived/Test/ToyasCard.lean, 'card_holds'). Laid BY PROGRAM, IN A SANDBOX (cutbox-door.mjs). By AI agents, Wed Nov 11 2026. No macro, syntax, notation, axiom, sorry.
-/
import Derived.Test.YtjfeepajlkckeaaGreatDoorRows
import GoSem.ClaimSeven
namespace Go.Proofs.YtjfeepajlkckeaaGreatDoor
namespace Rows

/-- THE TIED CARD OF 'ferretlaw11.ShowPlain'. -/
def showPlainCard : Claim7 := { stood := { row := showPlainRow, standIns := [], harness := (true, "4323bb7120c40acd284fbf257e30e73b97834f1b5f9bfffa04b87317be9cad78"), looks := true }, kinds := [], alts := [], laidByText := true, laidKinds := [.data, .data, .data, .data, .pinned, .pinned], laidTests := true, laidLooks := .later }
def ShowPlainCardSaid : Prop := Claim7.holds Tryz.pinned (.plain (OpenSpec.ofChange showPlainSpec)) showPlainCard

/-- THE TIED CARD OF 'ferretlaw11.ShowDeep'. -/
def showDeepCard : Claim7 := { stood := { row := showDeepRow, standIns := [], harness := (true, "4323bb7120c40acd284fbf257e30e73b97834f1b5f9bfffa04b87317be9cad78"), looks := true }, kinds := [], alts := [], laidByText := true, laidKinds := [.data, .data, .data, .data, .pinned, .pinned], laidTests := true, laidLooks := .later }
def ShowDeepCardSaid : Prop := Claim7.holds Tryz.pinned (.plain (OpenSpec.ofChange showDeepSpec)) showDeepCard

/-- THE SECOND FORM's CARD OF 'ferretlaw11.ShowPlain'. -/
def showPlainUptoCard : Claim7 := { stood := { row := showPlainUptoRow, standIns := [], harness := (true, "4323bb7120c40acd284fbf257e30e73b97834f1b5f9bfffa04b87317be9cad78"), looks := true }, kinds := [], alts := [], laidByText := true, laidKinds := [.data, .data, .data, .data, .pinned, .pinned], laidTests := true, laidLooks := .later }
def ShowPlainUptoCardSaid : Prop := Claim7.holds Tryz.pinned (.plain (OpenSpec.upto showPlainSpec)) showPlainUptoCard

/-- THE SECOND FORM's CARD OF 'ferretlaw11.ShowDeep'. -/
def showDeepUptoCard : Claim7 := { stood := { row := showDeepUptoRow, standIns := [], harness := (true, "4323bb7120c40acd284fbf257e30e73b97834f1b5f9bfffa04b87317be9cad78"), looks := true }, kinds := [], alts := [], laidByText := true, laidKinds := [.data, .data, .data, .data, .pinned, .pinned], laidTests := true, laidLooks := .later }
def ShowDeepUptoCardSaid : Prop := Claim7.holds Tryz.pinned (.plain (OpenSpec.upto showDeepSpec)) showDeepUptoCard
end Rows
end Go.Proofs.YtjfeepajlkckeaaGreatDoor
