/-
  DERIVED. GIVEN WITH THE SEED: THE CARDS: each row of YtcpddggbigopjaaDoorRows.lean that lists a variable, with what it lists TIED to the program's text (the seventh form; the later family's looks); each row that meets fmt, with fmt's text TOLD by the authors' own Lean function (tested against real Go, not proved from fmt's source: count such statements apart). THE CARD IS WHAT COUNTS. Prove the row's statement (the work); the ties are given (YtcpddggbigopjaaDoorTie.lean); close each card by the builder's one call (the guide's Derived/Test/ToyasCard.lean, 'card_holds'). Laid BY PROGRAM, IN A SANDBOX (cutbox-door.mjs). By AI agents, Wed Nov 11 2026. No macro, syntax, notation, axiom, sorry.
-/
import Derived.Test.YtcpddggbigopjaaDoorRows
import GoSem.ClaimSeven
namespace Go.Proofs.YtcpddggbigopjaaDoor
namespace Rows

/-- THE TIED CARD OF 'ferretlaw06.TapeNumbers'. -/
def tapeNumbersCard : Claim7 := { stood := { row := tapeNumbersRow, standIns := [], harness := (true, "f2d4a739662e33e93225cc0685f05a9f1ab14b4201238dc4085398ca0d0487ad"), looks := false }, kinds := [], alts := [], laidByText := true, laidKinds := [.data, .pinned], laidTests := true, laidLooks := .later }
def TapeNumbersCardSaid : Prop := Claim7.holds Tryd.pinned (.plain (OpenSpec.ofChange tapeNumbersSpec)) tapeNumbersCard

/-- THE TIED CARD OF 'ferretlaw06.TapeFields'. -/
def tapeFieldsCard : Claim7 := { stood := { row := tapeFieldsRow, standIns := [], harness := (true, "f2d4a739662e33e93225cc0685f05a9f1ab14b4201238dc4085398ca0d0487ad"), looks := false }, kinds := [], alts := [], laidByText := true, laidKinds := [.data, .pinned], laidTests := true, laidLooks := .later }
def TapeFieldsCardSaid : Prop := Claim7.holds Tryd.pinned (.plain (OpenSpec.ofChange tapeFieldsSpec)) tapeFieldsCard

/-- THE TIED CARD OF 'ferretlaw06.TapeReads'. -/
def tapeReadsCard : Claim7 := { stood := { row := tapeReadsRow, standIns := [], harness := (true, "f2d4a739662e33e93225cc0685f05a9f1ab14b4201238dc4085398ca0d0487ad"), looks := false }, kinds := [], alts := [], laidByText := true, laidKinds := [.data, .pinned], laidTests := true, laidLooks := .later }
def TapeReadsCardSaid : Prop := Claim7.holds Tryd.pinned (.plain (OpenSpec.ofChange tapeReadsSpec)) tapeReadsCard

/-- THE TIED CARD OF 'ferretlaw06.TapeEnds'. -/
def tapeEndsCard : Claim7 := { stood := { row := tapeEndsRow, standIns := [], harness := (true, "f2d4a739662e33e93225cc0685f05a9f1ab14b4201238dc4085398ca0d0487ad"), looks := false }, kinds := [], alts := [], laidByText := true, laidKinds := [.data, .data, .data, .data, .pinned], laidTests := true, laidLooks := .later }
def TapeEndsCardSaid : Prop := Claim7.holds Tryd.pinned (.plain (OpenSpec.ofChange tapeEndsSpec)) tapeEndsCard

/-- THE TIED CARD OF 'ferretlaw06.TapeNames'. -/
def tapeNamesCard : Claim7 := { stood := { row := tapeNamesRow, standIns := [], harness := (true, "f2d4a739662e33e93225cc0685f05a9f1ab14b4201238dc4085398ca0d0487ad"), looks := false }, kinds := [], alts := [], laidByText := true, laidKinds := [.data, .data, .data, .data, .pinned], laidTests := true, laidLooks := .later }
def TapeNamesCardSaid : Prop := Claim7.holds Tryd.pinned (.plain (OpenSpec.ofChange tapeNamesSpec)) tapeNamesCard

/-- THE SECOND FORM's CARD OF 'ferretlaw06.TapeNumbers'. -/
def tapeNumbersUptoCard : Claim7 := { stood := { row := tapeNumbersUptoRow, standIns := [], harness := (true, "f2d4a739662e33e93225cc0685f05a9f1ab14b4201238dc4085398ca0d0487ad"), looks := false }, kinds := [], alts := [], laidByText := true, laidKinds := [.data, .pinned], laidTests := true, laidLooks := .later }
def TapeNumbersUptoCardSaid : Prop := Claim7.holds Tryd.pinned (.plain (OpenSpec.upto tapeNumbersSpec)) tapeNumbersUptoCard

/-- THE SECOND FORM's CARD OF 'ferretlaw06.TapeFields'. -/
def tapeFieldsUptoCard : Claim7 := { stood := { row := tapeFieldsUptoRow, standIns := [], harness := (true, "f2d4a739662e33e93225cc0685f05a9f1ab14b4201238dc4085398ca0d0487ad"), looks := false }, kinds := [], alts := [], laidByText := true, laidKinds := [.data, .pinned], laidTests := true, laidLooks := .later }
def TapeFieldsUptoCardSaid : Prop := Claim7.holds Tryd.pinned (.plain (OpenSpec.upto tapeFieldsSpec)) tapeFieldsUptoCard

/-- THE SECOND FORM's CARD OF 'ferretlaw06.TapeReads'. -/
def tapeReadsUptoCard : Claim7 := { stood := { row := tapeReadsUptoRow, standIns := [], harness := (true, "f2d4a739662e33e93225cc0685f05a9f1ab14b4201238dc4085398ca0d0487ad"), looks := false }, kinds := [], alts := [], laidByText := true, laidKinds := [.data, .pinned], laidTests := true, laidLooks := .later }
def TapeReadsUptoCardSaid : Prop := Claim7.holds Tryd.pinned (.plain (OpenSpec.upto tapeReadsSpec)) tapeReadsUptoCard

/-- THE SECOND FORM's CARD OF 'ferretlaw06.TapeEnds'. -/
def tapeEndsUptoCard : Claim7 := { stood := { row := tapeEndsUptoRow, standIns := [], harness := (true, "f2d4a739662e33e93225cc0685f05a9f1ab14b4201238dc4085398ca0d0487ad"), looks := false }, kinds := [], alts := [], laidByText := true, laidKinds := [.data, .data, .data, .data, .pinned], laidTests := true, laidLooks := .later }
def TapeEndsUptoCardSaid : Prop := Claim7.holds Tryd.pinned (.plain (OpenSpec.upto tapeEndsSpec)) tapeEndsUptoCard

/-- THE SECOND FORM's CARD OF 'ferretlaw06.TapeNames'. -/
def tapeNamesUptoCard : Claim7 := { stood := { row := tapeNamesUptoRow, standIns := [], harness := (true, "f2d4a739662e33e93225cc0685f05a9f1ab14b4201238dc4085398ca0d0487ad"), looks := false }, kinds := [], alts := [], laidByText := true, laidKinds := [.data, .data, .data, .data, .pinned], laidTests := true, laidLooks := .later }
def TapeNamesUptoCardSaid : Prop := Claim7.holds Tryd.pinned (.plain (OpenSpec.upto tapeNamesSpec)) tapeNamesUptoCard
end Rows
end Go.Proofs.YtcpddggbigopjaaDoor
