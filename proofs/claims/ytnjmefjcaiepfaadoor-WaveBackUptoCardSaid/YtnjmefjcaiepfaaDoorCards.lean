/-
  DERIVED. GIVEN WITH THE SEED: THE CARDS: each row of YtnjmefjcaiepfaaDoorRows.lean that lists a variable, with what it lists TIED to the program's text (the seventh form; the later family's looks); each row that meets fmt, with fmt's text TOLD by the authors' own Lean function (tested against real Go, not proved from fmt's source: count such statements apart). THE CARD IS WHAT COUNTS. Prove the row's statement (the work); the ties are given (YtnjmefjcaiepfaaDoorTie.lean); close each card by the builder's one call (the guide's Derived/Test/ToyasCard.lean, 'card_holds'). Laid BY PROGRAM, IN A SANDBOX (cutbox-door.mjs). By AI agents, Wed Nov 11 2026. No macro, syntax, notation, axiom, sorry.
-/
import Derived.Test.YtnjmefjcaiepfaaDoorRows
import GoSem.ClaimSeven
namespace Go.Proofs.YtnjmefjcaiepfaaDoor
namespace Rows

/-- THE TIED CARD OF 'ferretlaw17.WaveBack'. -/
def waveBackCard : Claim7 := { stood := { row := waveBackRow, standIns := [], harness := (true, "ec6519eeb98448111d36904334a28d2991a898edba950d5e311ff56c68ba4d61"), looks := false }, kinds := [], alts := [], laidByText := true, laidKinds := [.data, .data, .data], laidTests := true, laidLooks := .later }
def WaveBackCardSaid : Prop := Claim7.holds Tryd.pinned (.plain (OpenSpec.ofChange waveBackSpec)) waveBackCard

/-- THE TIED CARD OF 'ferretlaw17.WaveSelf'. -/
def waveSelfCard : Claim7 := { stood := { row := waveSelfRow, standIns := [], harness := (true, "ec6519eeb98448111d36904334a28d2991a898edba950d5e311ff56c68ba4d61"), looks := false }, kinds := [], alts := [], laidByText := true, laidKinds := [.data, .data, .data], laidTests := true, laidLooks := .later }
def WaveSelfCardSaid : Prop := Claim7.holds Tryd.pinned (.plain (OpenSpec.ofChange waveSelfSpec)) waveSelfCard

/-- THE TIED CARD OF 'ferretlaw17.WaveAgrees'. -/
def waveAgreesCard : Claim7 := { stood := { row := waveAgreesRow, standIns := [], harness := (true, "ec6519eeb98448111d36904334a28d2991a898edba950d5e311ff56c68ba4d61"), looks := false }, kinds := [], alts := [], laidByText := true, laidKinds := [.data, .data, .data], laidTests := true, laidLooks := .later }
def WaveAgreesCardSaid : Prop := Claim7.holds Tryd.pinned (.plain (OpenSpec.ofChange waveAgreesSpec)) waveAgreesCard

/-- THE TIED CARD OF 'ferretlaw17.WaveSums'. -/
def waveSumsCard : Claim7 := { stood := { row := waveSumsRow, standIns := [], harness := (true, "ec6519eeb98448111d36904334a28d2991a898edba950d5e311ff56c68ba4d61"), looks := false }, kinds := [], alts := [], laidByText := true, laidKinds := [.data, .data, .data], laidTests := true, laidLooks := .later }
def WaveSumsCardSaid : Prop := Claim7.holds Tryd.pinned (.plain (OpenSpec.ofChange waveSumsSpec)) waveSumsCard

/-- THE TIED CARD OF 'ferretlaw17.WaveShifts'. -/
def waveShiftsCard : Claim7 := { stood := { row := waveShiftsRow, standIns := [], harness := (true, "ec6519eeb98448111d36904334a28d2991a898edba950d5e311ff56c68ba4d61"), looks := false }, kinds := [], alts := [], laidByText := true, laidKinds := [.data, .data, .data], laidTests := true, laidLooks := .later }
def WaveShiftsCardSaid : Prop := Claim7.holds Tryd.pinned (.plain (OpenSpec.ofChange waveShiftsSpec)) waveShiftsCard

/-- THE TIED CARD OF 'ferretlaw17.WaveProducts'. -/
def waveProductsCard : Claim7 := { stood := { row := waveProductsRow, standIns := [], harness := (true, "ec6519eeb98448111d36904334a28d2991a898edba950d5e311ff56c68ba4d61"), looks := false }, kinds := [], alts := [], laidByText := true, laidKinds := [.data, .data, .data], laidTests := true, laidLooks := .later }
def WaveProductsCardSaid : Prop := Claim7.holds Tryd.pinned (.plain (OpenSpec.ofChange waveProductsSpec)) waveProductsCard

/-- THE TIED CARD OF 'ferretlaw17.WaveTurned'. -/
def waveTurnedCard : Claim7 := { stood := { row := waveTurnedRow, standIns := [], harness := (true, "ec6519eeb98448111d36904334a28d2991a898edba950d5e311ff56c68ba4d61"), looks := false }, kinds := [], alts := [], laidByText := true, laidKinds := [.data, .data, .data], laidTests := true, laidLooks := .later }
def WaveTurnedCardSaid : Prop := Claim7.holds Tryd.pinned (.plain (OpenSpec.ofChange waveTurnedSpec)) waveTurnedCard

/-- THE SECOND FORM's CARD OF 'ferretlaw17.WaveBack'. -/
def waveBackUptoCard : Claim7 := { stood := { row := waveBackUptoRow, standIns := [], harness := (true, "ec6519eeb98448111d36904334a28d2991a898edba950d5e311ff56c68ba4d61"), looks := false }, kinds := [], alts := [], laidByText := true, laidKinds := [.data, .data, .data], laidTests := true, laidLooks := .later }
def WaveBackUptoCardSaid : Prop := Claim7.holds Tryd.pinned (.plain (OpenSpec.upto waveBackSpec)) waveBackUptoCard

/-- THE SECOND FORM's CARD OF 'ferretlaw17.WaveSelf'. -/
def waveSelfUptoCard : Claim7 := { stood := { row := waveSelfUptoRow, standIns := [], harness := (true, "ec6519eeb98448111d36904334a28d2991a898edba950d5e311ff56c68ba4d61"), looks := false }, kinds := [], alts := [], laidByText := true, laidKinds := [.data, .data, .data], laidTests := true, laidLooks := .later }
def WaveSelfUptoCardSaid : Prop := Claim7.holds Tryd.pinned (.plain (OpenSpec.upto waveSelfSpec)) waveSelfUptoCard

/-- THE SECOND FORM's CARD OF 'ferretlaw17.WaveAgrees'. -/
def waveAgreesUptoCard : Claim7 := { stood := { row := waveAgreesUptoRow, standIns := [], harness := (true, "ec6519eeb98448111d36904334a28d2991a898edba950d5e311ff56c68ba4d61"), looks := false }, kinds := [], alts := [], laidByText := true, laidKinds := [.data, .data, .data], laidTests := true, laidLooks := .later }
def WaveAgreesUptoCardSaid : Prop := Claim7.holds Tryd.pinned (.plain (OpenSpec.upto waveAgreesSpec)) waveAgreesUptoCard

/-- THE SECOND FORM's CARD OF 'ferretlaw17.WaveSums'. -/
def waveSumsUptoCard : Claim7 := { stood := { row := waveSumsUptoRow, standIns := [], harness := (true, "ec6519eeb98448111d36904334a28d2991a898edba950d5e311ff56c68ba4d61"), looks := false }, kinds := [], alts := [], laidByText := true, laidKinds := [.data, .data, .data], laidTests := true, laidLooks := .later }
def WaveSumsUptoCardSaid : Prop := Claim7.holds Tryd.pinned (.plain (OpenSpec.upto waveSumsSpec)) waveSumsUptoCard

/-- THE SECOND FORM's CARD OF 'ferretlaw17.WaveShifts'. -/
def waveShiftsUptoCard : Claim7 := { stood := { row := waveShiftsUptoRow, standIns := [], harness := (true, "ec6519eeb98448111d36904334a28d2991a898edba950d5e311ff56c68ba4d61"), looks := false }, kinds := [], alts := [], laidByText := true, laidKinds := [.data, .data, .data], laidTests := true, laidLooks := .later }
def WaveShiftsUptoCardSaid : Prop := Claim7.holds Tryd.pinned (.plain (OpenSpec.upto waveShiftsSpec)) waveShiftsUptoCard

/-- THE SECOND FORM's CARD OF 'ferretlaw17.WaveProducts'. -/
def waveProductsUptoCard : Claim7 := { stood := { row := waveProductsUptoRow, standIns := [], harness := (true, "ec6519eeb98448111d36904334a28d2991a898edba950d5e311ff56c68ba4d61"), looks := false }, kinds := [], alts := [], laidByText := true, laidKinds := [.data, .data, .data], laidTests := true, laidLooks := .later }
def WaveProductsUptoCardSaid : Prop := Claim7.holds Tryd.pinned (.plain (OpenSpec.upto waveProductsSpec)) waveProductsUptoCard

/-- THE SECOND FORM's CARD OF 'ferretlaw17.WaveTurned'. -/
def waveTurnedUptoCard : Claim7 := { stood := { row := waveTurnedUptoRow, standIns := [], harness := (true, "ec6519eeb98448111d36904334a28d2991a898edba950d5e311ff56c68ba4d61"), looks := false }, kinds := [], alts := [], laidByText := true, laidKinds := [.data, .data, .data], laidTests := true, laidLooks := .later }
def WaveTurnedUptoCardSaid : Prop := Claim7.holds Tryd.pinned (.plain (OpenSpec.upto waveTurnedSpec)) waveTurnedUptoCard
end Rows
end Go.Proofs.YtnjmefjcaiepfaaDoor
