/-
  DERIVED. GIVEN WITH THE SEED: THE CARDS: each row of YtgekkhkmgfbcdaaDoorRows.lean that lists a variable, with what it lists TIED to the program's text (the seventh form; the later family's looks); each row that meets fmt, with fmt's text TOLD by the authors' own Lean function (tested against real Go, not proved from fmt's source: count such statements apart). THE CARD IS WHAT COUNTS. Prove the row's statement (the work); the ties are given (YtgekkhkmgfbcdaaDoorTie.lean); close each card by the builder's one call (the guide's Derived/Test/ToyasCard.lean, 'card_holds'). Laid BY PROGRAM, IN A SANDBOX (cutbox-door.mjs). By AI agents, Wed Nov 11 2026. No macro, syntax, notation, axiom, sorry.
-/
import Derived.Test.YtgekkhkmgfbcdaaDoorRows
import GoSem.ClaimSeven
namespace Go.Proofs.YtgekkhkmgfbcdaaDoor
namespace Rows

/-- THE TIED CARD OF 'ferretlaw25.ArgsPacks'. -/
def argsPacksCard : Claim7 := { stood := { row := argsPacksRow, standIns := [], harness := (true, "0b72821ce3c4b6e3d5cba755eadf57ba8485ef7359ac1e1700c691e80ae20f0d"), looks := true }, kinds := [], alts := [], laidByText := true, laidKinds := [.data, .data, .data, .sentinel, .sentinel], laidTests := true, laidLooks := .later }
def ArgsPacksCardSaid : Prop := Claim7.holds Tryd.pinned (.plain (OpenSpec.ofChange argsPacksSpec)) argsPacksCard

/-- THE TIED CARD OF 'ferretlaw25.ArgsCut'. -/
def argsCutCard : Claim7 := { stood := { row := argsCutRow, standIns := [], harness := (true, "0b72821ce3c4b6e3d5cba755eadf57ba8485ef7359ac1e1700c691e80ae20f0d"), looks := true }, kinds := [], alts := [], laidByText := true, laidKinds := [.data, .data, .data, .sentinel, .sentinel], laidTests := true, laidLooks := .later }
def ArgsCutCardSaid : Prop := Claim7.holds Tryd.pinned (.plain (OpenSpec.ofChange argsCutSpec)) argsCutCard

/-- THE TIED CARD OF 'ferretlaw25.ArgsParses'. -/
def argsParsesCard : Claim7 := { stood := { row := argsParsesRow, standIns := [], harness := (true, "0b72821ce3c4b6e3d5cba755eadf57ba8485ef7359ac1e1700c691e80ae20f0d"), looks := true }, kinds := [], alts := [], laidByText := true, laidKinds := [.data, .data, .data, .sentinel, .sentinel], laidTests := true, laidLooks := .later }
def ArgsParsesCardSaid : Prop := Claim7.holds Tryd.pinned (.plain (OpenSpec.ofChange argsParsesSpec)) argsParsesCard

/-- THE TIED CARD OF 'ferretlaw25.ArgsShows'. -/
def argsShowsCard : Claim7 := { stood := { row := argsShowsRow, standIns := [], harness := (true, "0b72821ce3c4b6e3d5cba755eadf57ba8485ef7359ac1e1700c691e80ae20f0d"), looks := true }, kinds := [], alts := [], laidByText := true, laidKinds := [.data, .data, .data, .sentinel, .sentinel], laidTests := true, laidLooks := .later }
def ArgsShowsCardSaid : Prop := Claim7.holds Tryd.pinned (.plain (OpenSpec.ofChange argsShowsSpec)) argsShowsCard

/-- THE TIED CARD OF 'ferretlaw25.ArgsTwice'. -/
def argsTwiceCard : Claim7 := { stood := { row := argsTwiceRow, standIns := [], harness := (true, "0b72821ce3c4b6e3d5cba755eadf57ba8485ef7359ac1e1700c691e80ae20f0d"), looks := true }, kinds := [], alts := [], laidByText := true, laidKinds := [.data, .data, .data, .sentinel, .sentinel], laidTests := true, laidLooks := .later }
def ArgsTwiceCardSaid : Prop := Claim7.holds Tryd.pinned (.plain (OpenSpec.ofChange argsTwiceSpec)) argsTwiceCard

/-- THE SECOND FORM's CARD OF 'ferretlaw25.ArgsPacks'. -/
def argsPacksUptoCard : Claim7 := { stood := { row := argsPacksUptoRow, standIns := [], harness := (true, "0b72821ce3c4b6e3d5cba755eadf57ba8485ef7359ac1e1700c691e80ae20f0d"), looks := true }, kinds := [], alts := [], laidByText := true, laidKinds := [.data, .data, .data, .sentinel, .sentinel], laidTests := true, laidLooks := .later }
def ArgsPacksUptoCardSaid : Prop := Claim7.holds Tryd.pinned (.plain (OpenSpec.upto argsPacksSpec)) argsPacksUptoCard

/-- THE SECOND FORM's CARD OF 'ferretlaw25.ArgsCut'. -/
def argsCutUptoCard : Claim7 := { stood := { row := argsCutUptoRow, standIns := [], harness := (true, "0b72821ce3c4b6e3d5cba755eadf57ba8485ef7359ac1e1700c691e80ae20f0d"), looks := true }, kinds := [], alts := [], laidByText := true, laidKinds := [.data, .data, .data, .sentinel, .sentinel], laidTests := true, laidLooks := .later }
def ArgsCutUptoCardSaid : Prop := Claim7.holds Tryd.pinned (.plain (OpenSpec.upto argsCutSpec)) argsCutUptoCard

/-- THE SECOND FORM's CARD OF 'ferretlaw25.ArgsParses'. -/
def argsParsesUptoCard : Claim7 := { stood := { row := argsParsesUptoRow, standIns := [], harness := (true, "0b72821ce3c4b6e3d5cba755eadf57ba8485ef7359ac1e1700c691e80ae20f0d"), looks := true }, kinds := [], alts := [], laidByText := true, laidKinds := [.data, .data, .data, .sentinel, .sentinel], laidTests := true, laidLooks := .later }
def ArgsParsesUptoCardSaid : Prop := Claim7.holds Tryd.pinned (.plain (OpenSpec.upto argsParsesSpec)) argsParsesUptoCard

/-- THE SECOND FORM's CARD OF 'ferretlaw25.ArgsShows'. -/
def argsShowsUptoCard : Claim7 := { stood := { row := argsShowsUptoRow, standIns := [], harness := (true, "0b72821ce3c4b6e3d5cba755eadf57ba8485ef7359ac1e1700c691e80ae20f0d"), looks := true }, kinds := [], alts := [], laidByText := true, laidKinds := [.data, .data, .data, .sentinel, .sentinel], laidTests := true, laidLooks := .later }
def ArgsShowsUptoCardSaid : Prop := Claim7.holds Tryd.pinned (.plain (OpenSpec.upto argsShowsSpec)) argsShowsUptoCard

/-- THE SECOND FORM's CARD OF 'ferretlaw25.ArgsTwice'. -/
def argsTwiceUptoCard : Claim7 := { stood := { row := argsTwiceUptoRow, standIns := [], harness := (true, "0b72821ce3c4b6e3d5cba755eadf57ba8485ef7359ac1e1700c691e80ae20f0d"), looks := true }, kinds := [], alts := [], laidByText := true, laidKinds := [.data, .data, .data, .sentinel, .sentinel], laidTests := true, laidLooks := .later }
def ArgsTwiceUptoCardSaid : Prop := Claim7.holds Tryd.pinned (.plain (OpenSpec.upto argsTwiceSpec)) argsTwiceUptoCard
end Rows
end Go.Proofs.YtgekkhkmgfbcdaaDoor
