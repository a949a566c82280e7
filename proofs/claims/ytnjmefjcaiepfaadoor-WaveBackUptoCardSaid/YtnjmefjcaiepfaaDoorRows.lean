/-
  NARROWER THAN 'FOR EVERY INPUT', by the rows' own cells (each row's printed sentence says how): WaveBack: laid · WaveSelf: laid · WaveAgrees: laid · WaveSums: laid · WaveShifts: laid · WaveProducts: laid · WaveTurned: laid.
  DERIVED. THE GIVEN ROWS OF THIS SEAT. 7 by the template 'for every input the law returns true; each argument reads behind the call as it read before'; 0 by the template 'total and deterministic' (their statements: YtnjmefjcaiepfaaDoorTotals.lean).
  GIVEN WITH THE SEED: the statements are not yours to turn. If you find one false, say at which input.
  Laid BY PROGRAM, IN A SANDBOX (cutbox-rows.mjs): the forced cells as the released guide's own fill.sh prints them over the translation 3eeb4e583e4ba540… (all of the seat's roots in one cut). By AI agents, Wed Nov 11 2026. No macro, syntax, notation, axiom, sorry.
-/
import Derived.Test.YtnjmefjcaiepfaaDoorChecked
import GoSem.Claim
import GoSem.ClaimJoined
import GoSem.ClaimMapViews
import Derived.JoinedTies
import Derived.KernelRfl
namespace Go.Proofs.YtnjmefjcaiepfaaDoor
/- THE CELL 'sum', in the pinned program and in every row, IS THE sha256 OF THE DUMP (.gsa) THAT YtnjmefjcaiepfaaDoorProg.lean LOADS. Nothing in Lean hashes anything: it is a label: what it is worth is what the hold of that sum in a sandbox is worth. -/
noncomputable def Tryd.pinned : Pinned := { name := "ytnjmefjcaiepfaadoor", sum := "3eeb4e583e4ba5406dc337063a528c5715cc94b2fa028739cb379734c011753e", checked := Tryd.checked }
namespace Rows
def none {H : Type} : Left H := { results := [], args := [] }

/- WHAT THE LISTED PACKAGE-LEVEL VARIABLES READ AS WHEN THE CALL BEGINS. Each datum BY PROGRAM (the guide's laid-datum.mjs) off the statement by which the dump's own 'gosem.cut.vars' lays the variable. In a bare row this is a premise. The card (YtnjmefjcaiepfaaDoorCards.lean) ties it to the program's text. -/
def laid_math_sin {H : Type} : DataW H := .agg [.lit (.float .f64 4460209587652500685), .lit (.float .f64 13716528389658582877), .lit (.float .f64 4523617212962785441), .lit (.float .f64 13774824197404483331), .lit (.float .f64 4575957461383575504), .lit (.float .f64 13818544856648471880)]
def laid_math_cos {H : Type} : DataW H := .agg [.lit (.float .f64 13666448263388469915), .lit (.float .f64 4477121864728985349), .lit (.float .f64 13732177093698800582), .lit (.float .f64 4537941361668146421), .lit (.float .f64 13787419979223748497), .lit (.float .f64 4586165620538955083)]
def laid_math_mPi4 {H : Type} : DataW H := .agg [.lit (.int .u64 1), .lit (.int .u64 5040379952546458195), .lit (.int .u64 17892431488136887169), .lit (.int .u64 13169980181085364355), .lit (.int .u64 18204331823439776451), .lit (.int .u64 7946843935494350272), .lit (.int .u64 905889640498799673), .lit (.int .u64 18175356263134875261), .lit (.int .u64 15061281708168349961), .lit (.int .u64 15220161563773041794), .lit (.int .u64 8296664548579374057), .lit (.int .u64 4109744767560208502), .lit (.int .u64 4607516669194743839), .lit (.int .u64 16023283104648321598), .lit (.int .u64 15739233654134936430), .lit (.int .u64 11424645774684705882), .lit (.int .u64 16883842788696515318), .lit (.int .u64 8795094592981902804), .lit (.int .u64 15561835991111744016), .lit (.int .u64 12395701187267450711)]

/-- 'ferretlaw17.WaveBack': WHATEVER THE INPUT: true; the input reads as it did. -/
def waveBackSpec : ChangeSpec := { name := "waveBack", fn := fun _ => fun
  | [d1, d2, d3] => { results := [.lit (.bool true)], args := [d1, d2, d3] }
  | _ => none }
def waveBackRow : OpenClaim := { program := "ytnjmefjcaiepfaadoor", sum := "3eeb4e583e4ba5406dc337063a528c5715cc94b2fa028739cb379734c011753e", func := "ferret/ferretlaw17.WaveBack", spec := "waveBack", inPlace := ["math.Float64bits", "math.Float64frombits", "math/bits.Add64"], named := ["math._cos", "math._sin", "math.mPi4"], apart := false, laid := [("math._sin", laid_math_sin), ("math._cos", laid_math_cos), ("math.mPi4", laid_math_mPi4)] }
def WaveBackSaid : Prop := waveBackRow.holds Tryd.pinned (OpenSpec.ofChange waveBackSpec)

/-- ITS FALSE NEIGHBOUR: 'it returns false'. Refute it at one input. -/
def waveBackWrong : ChangeSpec := { name := "waveBack", fn := fun _ => fun
  | [d1, d2, d3] => { results := [.lit (.bool false)], args := [d1, d2, d3] }
  | _ => none }
def WaveBackWrongFalsely : Prop := waveBackRow.holds Tryd.pinned (OpenSpec.ofChange waveBackWrong)

/-- 'ferretlaw17.WaveSelf': WHATEVER THE INPUT: true; the input reads as it did. -/
def waveSelfSpec : ChangeSpec := { name := "waveSelf", fn := fun _ => fun
  | [d1, d2] => { results := [.lit (.bool true)], args := [d1, d2] }
  | _ => none }
def waveSelfRow : OpenClaim := { program := "ytnjmefjcaiepfaadoor", sum := "3eeb4e583e4ba5406dc337063a528c5715cc94b2fa028739cb379734c011753e", func := "ferret/ferretlaw17.WaveSelf", spec := "waveSelf", inPlace := ["math.Float64bits", "math.Float64frombits", "math/bits.Add64"], named := ["math._cos", "math._sin", "math.mPi4"], apart := false, laid := [("math._sin", laid_math_sin), ("math._cos", laid_math_cos), ("math.mPi4", laid_math_mPi4)] }
def WaveSelfSaid : Prop := waveSelfRow.holds Tryd.pinned (OpenSpec.ofChange waveSelfSpec)

/-- ITS FALSE NEIGHBOUR: 'it returns false'. Refute it at one input. -/
def waveSelfWrong : ChangeSpec := { name := "waveSelf", fn := fun _ => fun
  | [d1, d2] => { results := [.lit (.bool false)], args := [d1, d2] }
  | _ => none }
def WaveSelfWrongFalsely : Prop := waveSelfRow.holds Tryd.pinned (OpenSpec.ofChange waveSelfWrong)

/-- 'ferretlaw17.WaveAgrees': WHATEVER THE INPUT: true; the input reads as it did. -/
def waveAgreesSpec : ChangeSpec := { name := "waveAgrees", fn := fun _ => fun
  | [d1, d2] => { results := [.lit (.bool true)], args := [d1, d2] }
  | _ => none }
def waveAgreesRow : OpenClaim := { program := "ytnjmefjcaiepfaadoor", sum := "3eeb4e583e4ba5406dc337063a528c5715cc94b2fa028739cb379734c011753e", func := "ferret/ferretlaw17.WaveAgrees", spec := "waveAgrees", inPlace := ["math.Float64bits", "math.Float64frombits", "math/bits.Add64"], named := ["math._cos", "math._sin", "math.mPi4"], apart := false, laid := [("math._sin", laid_math_sin), ("math._cos", laid_math_cos), ("math.mPi4", laid_math_mPi4)] }
def WaveAgreesSaid : Prop := waveAgreesRow.holds Tryd.pinned (OpenSpec.ofChange waveAgreesSpec)

/-- ITS FALSE NEIGHBOUR: 'it returns false'. Refute it at one input. -/
def waveAgreesWrong : ChangeSpec := { name := "waveAgrees", fn := fun _ => fun
  | [d1, d2] => { results := [.lit (.bool false)], args := [d1, d2] }
  | _ => none }
def WaveAgreesWrongFalsely : Prop := waveAgreesRow.holds Tryd.pinned (OpenSpec.ofChange waveAgreesWrong)

/-- 'ferretlaw17.WaveSums': WHATEVER THE INPUT: true; the input reads as it did. -/
def waveSumsSpec : ChangeSpec := { name := "waveSums", fn := fun _ => fun
  | [d1, d2] => { results := [.lit (.bool true)], args := [d1, d2] }
  | _ => none }
def waveSumsRow : OpenClaim := { program := "ytnjmefjcaiepfaadoor", sum := "3eeb4e583e4ba5406dc337063a528c5715cc94b2fa028739cb379734c011753e", func := "ferret/ferretlaw17.WaveSums", spec := "waveSums", inPlace := ["math.Float64bits", "math.Float64frombits", "math/bits.Add64"], named := ["math._cos", "math._sin", "math.mPi4"], apart := false, laid := [("math._sin", laid_math_sin), ("math._cos", laid_math_cos), ("math.mPi4", laid_math_mPi4)] }
def WaveSumsSaid : Prop := waveSumsRow.holds Tryd.pinned (OpenSpec.ofChange waveSumsSpec)

/-- ITS FALSE NEIGHBOUR: 'it returns false'. Refute it at one input. -/
def waveSumsWrong : ChangeSpec := { name := "waveSums", fn := fun _ => fun
  | [d1, d2] => { results := [.lit (.bool false)], args := [d1, d2] }
  | _ => none }
def WaveSumsWrongFalsely : Prop := waveSumsRow.holds Tryd.pinned (OpenSpec.ofChange waveSumsWrong)

/-- 'ferretlaw17.WaveShifts': WHATEVER THE INPUT: true; the input reads as it did. -/
def waveShiftsSpec : ChangeSpec := { name := "waveShifts", fn := fun _ => fun
  | [d1, d2, d3] => { results := [.lit (.bool true)], args := [d1, d2, d3] }
  | _ => none }
def waveShiftsRow : OpenClaim := { program := "ytnjmefjcaiepfaadoor", sum := "3eeb4e583e4ba5406dc337063a528c5715cc94b2fa028739cb379734c011753e", func := "ferret/ferretlaw17.WaveShifts", spec := "waveShifts", inPlace := ["math.Float64bits", "math.Float64frombits", "math/bits.Add64"], named := ["math._cos", "math._sin", "math.mPi4"], apart := false, laid := [("math._sin", laid_math_sin), ("math._cos", laid_math_cos), ("math.mPi4", laid_math_mPi4)] }
def WaveShiftsSaid : Prop := waveShiftsRow.holds Tryd.pinned (OpenSpec.ofChange waveShiftsSpec)

/-- ITS FALSE NEIGHBOUR: 'it returns false'. Refute it at one input. -/
def waveShiftsWrong : ChangeSpec := { name := "waveShifts", fn := fun _ => fun
  | [d1, d2, d3] => { results := [.lit (.bool false)], args := [d1, d2, d3] }
  | _ => none }
def WaveShiftsWrongFalsely : Prop := waveShiftsRow.holds Tryd.pinned (OpenSpec.ofChange waveShiftsWrong)

/-- 'ferretlaw17.WaveProducts': WHATEVER THE INPUT: true; the input reads as it did. -/
def waveProductsSpec : ChangeSpec := { name := "waveProducts", fn := fun _ => fun
  | [d1, d2] => { results := [.lit (.bool true)], args := [d1, d2] }
  | _ => none }
def waveProductsRow : OpenClaim := { program := "ytnjmefjcaiepfaadoor", sum := "3eeb4e583e4ba5406dc337063a528c5715cc94b2fa028739cb379734c011753e", func := "ferret/ferretlaw17.WaveProducts", spec := "waveProducts", inPlace := ["math.Float64bits", "math.Float64frombits", "math/bits.Add64"], named := ["math._cos", "math._sin", "math.mPi4"], apart := false, laid := [("math._sin", laid_math_sin), ("math._cos", laid_math_cos), ("math.mPi4", laid_math_mPi4)] }
def WaveProductsSaid : Prop := waveProductsRow.holds Tryd.pinned (OpenSpec.ofChange waveProductsSpec)

/-- ITS FALSE NEIGHBOUR: 'it returns false'. Refute it at one input. -/
def waveProductsWrong : ChangeSpec := { name := "waveProducts", fn := fun _ => fun
  | [d1, d2] => { results := [.lit (.bool false)], args := [d1, d2] }
  | _ => none }
def WaveProductsWrongFalsely : Prop := waveProductsRow.holds Tryd.pinned (OpenSpec.ofChange waveProductsWrong)

/-- 'ferretlaw17.WaveTurned': WHATEVER THE INPUT: true; the input reads as it did. -/
def waveTurnedSpec : ChangeSpec := { name := "waveTurned", fn := fun _ => fun
  | [d1, d2] => { results := [.lit (.bool true)], args := [d1, d2] }
  | _ => none }
def waveTurnedRow : OpenClaim := { program := "ytnjmefjcaiepfaadoor", sum := "3eeb4e583e4ba5406dc337063a528c5715cc94b2fa028739cb379734c011753e", func := "ferret/ferretlaw17.WaveTurned", spec := "waveTurned", inPlace := ["math.Float64bits", "math.Float64frombits", "math/bits.Add64"], named := ["math._cos", "math._sin", "math.mPi4"], apart := false, laid := [("math._sin", laid_math_sin), ("math._cos", laid_math_cos), ("math.mPi4", laid_math_mPi4)] }
def WaveTurnedSaid : Prop := waveTurnedRow.holds Tryd.pinned (OpenSpec.ofChange waveTurnedSpec)

/-- ITS FALSE NEIGHBOUR: 'it returns false'. Refute it at one input. -/
def waveTurnedWrong : ChangeSpec := { name := "waveTurned", fn := fun _ => fun
  | [d1, d2] => { results := [.lit (.bool false)], args := [d1, d2] }
  | _ => none }
def WaveTurnedWrongFalsely : Prop := waveTurnedRow.holds Tryd.pinned (OpenSpec.ofChange waveTurnedWrong)

/- THE SECOND FORM. 'bulk': how many values and letters a reading holds, each counted each time it is reached (what is shared counts as often as it is met; a slice's spare places count too). A statement '..UptoSaid' is the law's where the arguments, and the package variables that the reading takes, are together of bulk at most 1048576: NARROWER than '..Said'. Prove '..Said' where nothing that the law and all that it calls make is longer than what came in: it says more and counts as full. Else prove '..UptoSaid'. A law counts once. -/
mutual
def uptoBulk {H : Type} : DataW H → Nat
  | .lit (.string bytes) => bytes.length + 1
  | .lit _ => 1
  | .nil => 1
  | .ptr d => uptoBulk d + 1
  | .slice elems spare => uptoBulkAll elems + uptoBulkAll spare + 1
  | .agg parts => uptoBulkAll parts + 1
  | .iface _ d => uptoBulk d + 1
  | .map entries => uptoBulkEntries entries + 1
  | .held _ => 1
def uptoBulkAll {H : Type} : List (DataW H) → Nat
  | [] => 0
  | d :: r => uptoBulk d + uptoBulkAll r
def uptoBulkEntries {H : Type} : List (Lit × DataW H) → Nat
  | [] => 0
  | x :: r => uptoBulkEntry x + uptoBulkEntries r
def uptoBulkEntry {H : Type} : Lit × DataW H → Nat
  | (.string bytes, d) => bytes.length + uptoBulk d + 1
  | (_, d) => uptoBulk d + 1
 end
def uptoSmall : (H : Type) → List (DataW H) → Bool := fun _ ds => decide (uptoBulkAll ds ≤ 1048576)
def OpenSpec.upto (s : _root_.Go.ChangeSpec) : _root_.Go.OpenSpec := { _root_.Go.OpenSpec.ofChange s with cond := some uptoSmall }

/-- 'ferretlaw17.WaveBack', WHERE WHAT IT READS IS OF BULK AT MOST 1048576: true; the input reads as it did. -/
def waveBackUptoRow : OpenClaim := { program := "ytnjmefjcaiepfaadoor", sum := "3eeb4e583e4ba5406dc337063a528c5715cc94b2fa028739cb379734c011753e", func := "ferret/ferretlaw17.WaveBack", spec := "waveBack", inPlace := ["math.Float64bits", "math.Float64frombits", "math/bits.Add64"], named := ["math._cos", "math._sin", "math.mPi4"], apart := false, laid := [("math._sin", laid_math_sin), ("math._cos", laid_math_cos), ("math.mPi4", laid_math_mPi4)], narrowed := true }
def WaveBackUptoSaid : Prop := waveBackUptoRow.holds Tryd.pinned (OpenSpec.upto waveBackSpec)

/-- 'ferretlaw17.WaveSelf', WHERE WHAT IT READS IS OF BULK AT MOST 1048576: true; the input reads as it did. -/
def waveSelfUptoRow : OpenClaim := { program := "ytnjmefjcaiepfaadoor", sum := "3eeb4e583e4ba5406dc337063a528c5715cc94b2fa028739cb379734c011753e", func := "ferret/ferretlaw17.WaveSelf", spec := "waveSelf", inPlace := ["math.Float64bits", "math.Float64frombits", "math/bits.Add64"], named := ["math._cos", "math._sin", "math.mPi4"], apart := false, laid := [("math._sin", laid_math_sin), ("math._cos", laid_math_cos), ("math.mPi4", laid_math_mPi4)], narrowed := true }
def WaveSelfUptoSaid : Prop := waveSelfUptoRow.holds Tryd.pinned (OpenSpec.upto waveSelfSpec)

/-- 'ferretlaw17.WaveAgrees', WHERE WHAT IT READS IS OF BULK AT MOST 1048576: true; the input reads as it did. -/
def waveAgreesUptoRow : OpenClaim := { program := "ytnjmefjcaiepfaadoor", sum := "3eeb4e583e4ba5406dc337063a528c5715cc94b2fa028739cb379734c011753e", func := "ferret/ferretlaw17.WaveAgrees", spec := "waveAgrees", inPlace := ["math.Float64bits", "math.Float64frombits", "math/bits.Add64"], named := ["math._cos", "math._sin", "math.mPi4"], apart := false, laid := [("math._sin", laid_math_sin), ("math._cos", laid_math_cos), ("math.mPi4", laid_math_mPi4)], narrowed := true }
def WaveAgreesUptoSaid : Prop := waveAgreesUptoRow.holds Tryd.pinned (OpenSpec.upto waveAgreesSpec)

/-- 'ferretlaw17.WaveSums', WHERE WHAT IT READS IS OF BULK AT MOST 1048576: true; the input reads as it did. -/
def waveSumsUptoRow : OpenClaim := { program := "ytnjmefjcaiepfaadoor", sum := "3eeb4e583e4ba5406dc337063a528c5715cc94b2fa028739cb379734c011753e", func := "ferret/ferretlaw17.WaveSums", spec := "waveSums", inPlace := ["math.Float64bits", "math.Float64frombits", "math/bits.Add64"], named := ["math._cos", "math._sin", "math.mPi4"], apart := false, laid := [("math._sin", laid_math_sin), ("math._cos", laid_math_cos), ("math.mPi4", laid_math_mPi4)], narrowed := true }
def WaveSumsUptoSaid : Prop := waveSumsUptoRow.holds Tryd.pinned (OpenSpec.upto waveSumsSpec)

/-- 'ferretlaw17.WaveShifts', WHERE WHAT IT READS IS OF BULK AT MOST 1048576: true; the input reads as it did. -/
def waveShiftsUptoRow : OpenClaim := { program := "ytnjmefjcaiepfaadoor", sum := "3eeb4e583e4ba5406dc337063a528c5715cc94b2fa028739cb379734c011753e", func := "ferret/ferretlaw17.WaveShifts", spec := "waveShifts", inPlace := ["math.Float64bits", "math.Float64frombits", "math/bits.Add64"], named := ["math._cos", "math._sin", "math.mPi4"], apart := false, laid := [("math._sin", laid_math_sin), ("math._cos", laid_math_cos), ("math.mPi4", laid_math_mPi4)], narrowed := true }
def WaveShiftsUptoSaid : Prop := waveShiftsUptoRow.holds Tryd.pinned (OpenSpec.upto waveShiftsSpec)

/-- 'ferretlaw17.WaveProducts', WHERE WHAT IT READS IS OF BULK AT MOST 1048576: true; the input reads as it did. -/
def waveProductsUptoRow : OpenClaim := { program := "ytnjmefjcaiepfaadoor", sum := "3eeb4e583e4ba5406dc337063a528c5715cc94b2fa028739cb379734c011753e", func := "ferret/ferretlaw17.WaveProducts", spec := "waveProducts", inPlace := ["math.Float64bits", "math.Float64frombits", "math/bits.Add64"], named := ["math._cos", "math._sin", "math.mPi4"], apart := false, laid := [("math._sin", laid_math_sin), ("math._cos", laid_math_cos), ("math.mPi4", laid_math_mPi4)], narrowed := true }
def WaveProductsUptoSaid : Prop := waveProductsUptoRow.holds Tryd.pinned (OpenSpec.upto waveProductsSpec)

/-- 'ferretlaw17.WaveTurned', WHERE WHAT IT READS IS OF BULK AT MOST 1048576: true; the input reads as it did. -/
def waveTurnedUptoRow : OpenClaim := { program := "ytnjmefjcaiepfaadoor", sum := "3eeb4e583e4ba5406dc337063a528c5715cc94b2fa028739cb379734c011753e", func := "ferret/ferretlaw17.WaveTurned", spec := "waveTurned", inPlace := ["math.Float64bits", "math.Float64frombits", "math/bits.Add64"], named := ["math._cos", "math._sin", "math.mPi4"], apart := false, laid := [("math._sin", laid_math_sin), ("math._cos", laid_math_cos), ("math.mPi4", laid_math_mPi4)], narrowed := true }
def WaveTurnedUptoSaid : Prop := waveTurnedUptoRow.holds Tryd.pinned (OpenSpec.upto waveTurnedSpec)

end Rows
end Go.Proofs.YtnjmefjcaiepfaaDoor
