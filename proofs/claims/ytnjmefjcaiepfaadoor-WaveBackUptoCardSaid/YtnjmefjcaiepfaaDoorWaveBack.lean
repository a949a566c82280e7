/-
  For every two lists of no more than the bound and every number the law WaveBack returns true and leaves what came in as it was.
  Conditions: none beyond the row's own.
-/
import Derived.Test.YtnjmefjcaiepfaaDoorCards
import Derived.Test.YtnjmefjcaiepfaaDoorTie
import Derived.WalkKit
import Derived.ProofKit
import Derived.OpenShut
import Derived.Deep.DeepHandedRow
import Derived.Deep.DeepWitnessRowRef
import Derived.Test.YtnjmefjcaiepfaaDoorRow
import Derived.Test.YtnjmefjcaiepfaaDoorOpenT
import Derived.Test.YtnjmefjcaiepfaaDoorWLaid
import Derived.Test.YtnjmefjcaiepfaaDoorOpenI
import Derived.Test.YtnjmefjcaiepfaaDoorBulk
import Derived.ChangeSlices
import Derived.SizedLaws
import Derived.Deep.CondSized
import Derived.Test.YtnjmefjcaiepfaaDoorWLC1
import Derived.Test.YtnjmefjcaiepfaaDoorWLC2
namespace Go.Proofs.YtnjmefjcaiepfaaDoor
open Go.ChangeShapes Go.WideShapes Go.ChangeAt Go.RowKit

section
variable {H : Type} {enc : TypeId × Value → H} {P : Program} {W : World}
theorem open_intsB {t e : TypeId} {v : Value} {d : DataW H} {p : List MemPlace} {ds : List (DataW H)} (ht : P.underlying t = some (.slice e)) (he : P.underlying e = some (.int .i64)) (hc1 : P.cellsOf e = 1)
    (hv : ∃ A n c, v = .slice A n c) (h : DataW.Trod enc P W 0 (fun _ => true) true t v d p) (hk : Rows.uptoSmall H ds = true) (hd : d ∈ ds) :
    ∃ A c, ∃ l : List Int, v = .slice A l.length c ∧ SeqAt Eint W W.heap.size A l ∧ l.length ≤ 1048576 ∧ ∀ x ∈ l, (Lit.int .i64 x).wf = true := by
  obtain ⟨A, n, c, rfl⟩ := hv
  obtain ⟨fuel, hf⟩ := h
  have hcs : (Value.slice A n c).cells.toList = [.slice A n c] := by simp [Value.cells]
  rw [hcs] at hf
  rcases open_ints ht he hc1 hf with ⟨hc, hx⟩ | ⟨a, len, cap, zs, hc, _, hl, hm, hzl, hx, hall, hwf⟩
  · simp only [List.cons.injEq, and_true, Value.slice.injEq] at hc
    obtain ⟨rfl, rfl, rfl⟩ := hc
    exact ⟨none, 0, [], rfl, SeqAt.nil_, by simp, fun x hx => by cases hx⟩
  · simp only [List.cons.injEq, and_true, Value.slice.injEq] at hc
    obtain ⟨rfl, rfl, rfl⟩ := hc
    simp only [Prod.mk.injEq] at hx
    obtain ⟨rfl, rfl⟩ := hx
    have hlen : n ≤ zs.length := by rw [hzl]; split <;> omega
    have htl : (zs.take n).length = n := by rw [List.length_take]; omega
    refine ⟨some a, c, zs.take n, by rw [htl], seqAt_ints fun i hi => ?_, ?_, fun x hx => hwf x (List.mem_of_mem_take hx)⟩
    · rw [htl] at hi
      rw [hall i (by omega), List.getD_eq_getElem?_getD, List.getD_eq_getElem?_getD, List.getElem?_take_of_lt hi]
    · rw [htl]
      exact bulk_list hk hd (.inr ⟨_, _, rfl, by unfold lits; rw [List.length_map, htl]⟩) (fun h => by cases h)
end
end Go.Proofs.YtnjmefjcaiepfaaDoor
namespace Go.Proofs.YtnjmefjcaiepfaaDoor
open Go.RowKit WaveP
theorem back_card (A : Option Addr) (c : Nat) (re : List Int) (A' : Option Addr) (c' : Nat) (im : List Int) (n : Int) (w : World) (ha : re.length ≤ 1048576) (hA : SeqAt Eint w w.heap.size A re) (hb : im.length ≤ 1048576) (hA' : SeqAt Eint w w.heap.size A' im) (hT : ∀ w', Below w.heap.size w w' → TabsW w') :
    Calls Tryd.prog 3 #[.slice A re.length c, .slice A' im.length c', .int .i64 n] w fun e w' => e = .returned (.bool true) ∧ Below w.heap.size w w' := by
  rcases Nat.lt_or_ge im.length re.length with h | h
  · exact back_law2 A A' c c' re im n w ha hb hA hA' hT h
  · exact back_law1 A A' c c' re im n w ha hb hA hA' hT h
end Go.Proofs.YtnjmefjcaiepfaaDoor
namespace Go.Proofs.YtnjmefjcaiepfaaDoor.waveBack
open Go.ChangeShapes Go.WideShapes Go.ChangeAt Go.RowKit

theorem own : ownKnob Tryd.prog.godebug = none := by kernel_rfl

set_option maxRecDepth 100000 in
/-- What the walk gives, for every argument and every world. -/
theorem contract (H : Type) (enc : TypeId × Value → H) (W : World) (base : Nat) (args : Array Value) (ds gs : List (DataW H)) (before : List MemPlace)
    (hval : ∀ (j : Nat) t v, Tryd.f3.params[j]? = some t → args[j]? = some v → Value.okWide Tryd.prog W .any base t v)
    (hW : DataW.Whole enc Tryd.prog Tryd.f3.params.toList Rows.waveBackSpec.vars false W args.toList ds gs before) (hk : Rows.uptoSmall H (ds ++ gs) = true) (hB : Base W) :
    Calls Tryd.prog 3 args W fun e W' => ∃ v, e = .returned v ∧ Rows.waveBackSpec.post enc Tryd.prog Tryd.f3 false true false false W args v W' := by
  have hW' := hW
  obtain ⟨p, q, hA0, hV, rfl, hfz, hnd⟩ := hW
  have hA : DataW.TrodAll enc Tryd.prog W 0 (fun _ => true) true Tryd.f3.params.toList args.toList ds p := hA0
  rw [Tryd.params3] at hA hval
  obtain ⟨v0, vs0, d0, ds0, p0, q0, hargs, rfl, rfl, h0, r0⟩ := trodAll_cons hA
  obtain ⟨v1, vs1, d1, ds1, p1, q1, rfl, rfl, rfl, h1, r1⟩ := trodAll_cons r0
  obtain ⟨v2, vs2, d2, ds2, p2, q2, rfl, rfl, rfl, h2, r2⟩ := trodAll_cons r1
  obtain ⟨rfl, rfl, rfl⟩ := trodAll_nil r2
  obtain rfl : args = #[v0, v1, v2] := by cases args; simp_all
  obtain ⟨rfl, rfl⟩ := trodVars_none hV
  obtain ⟨A0, c0, l0, rfl, hS0, hl0, hw0⟩ := open_intsB Tryd.underlying22 Tryd.underlying3 (by kernel_rfl) (okWide_slice Tryd.underlying22 (hval 0 22 v0 rfl rfl)) h0 hk (by simp)
  obtain ⟨A1, c1, l1, rfl, hS1, hl1, hw1⟩ := open_intsB Tryd.underlying22 Tryd.underlying3 (by kernel_rfl) (okWide_slice Tryd.underlying22 (hval 1 22 v1 rfl rfl)) h1 hk (by simp)
  obtain ⟨a2, rfl, rfl, rfl, w2⟩ := open_int Tryd.underlying3 (hval 2 3 v2 rfl rfl) h2
  clear hA0
  refine (back_card A0 c0 l0 A1 c1 l1 a2 W hl0 hS0 hl1 hS1 hB).mono fun e W' ⟨he, hb⟩ => ?_
  subst he
  exact ⟨_, rfl, law_post laidOut_ (by kernel_rfl) rfl rfl Tryd.underlying4 hW' rfl hb⟩

set_option maxRecDepth 100000 in
theorem reads (os : Os) {H : Type} (enc : TypeId × Value → H) : ∃ places, DataW.whole enc Tryd.prog ((laidWorld os).forCall (fun _ _ => 0) ⟨#[], #[.slice none 0 0, .slice none 0 0, .int .i64 0], []⟩).memory Tryd.f3.params.toList Rows.waveBackSpec.vars false (#[.slice none 0 0, .slice none 0 0, .int .i64 0] : Array Value).toList 8 = some ([.nil, .nil, .lit (.int .i64 0)], [], places) :=
  ⟨[], by kernel_rfl⟩

set_option maxRecDepth 100000 in
theorem lifted (os : Os) (started : os.Started) (H : Type) (enc : TypeId × Value → H) (F : Stop.Interp) :
    ReturnsInHanded {} Tryd.checked os 3 .any ((Rows.OpenSpec.upto Rows.waveBackSpec).preRow enc Tryd.prog Tryd.f3 Rows.waveBackUptoRow.domain false Rows.waveBackUptoRow.laid) (((Rows.OpenSpec.upto Rows.waveBackSpec).at F).post enc Tryd.prog Tryd.f3 false true false false) := by
  obtain ⟨places, hx⟩ := reads os enc
  refine returnsInHanded_of_row (C := Tryd.checked) (s := (Rows.OpenSpec.upto Rows.waveBackSpec)) own started (by kernel_rfl) Tryd.func3
    (witness_row_atRef (enc := enc) (C := Tryd.checked) false (laidWorld os) #[.slice none 0 0, .slice none 0 0, .int .i64 0] rfl (by kernel_rfl) (by kernel_rfl) (by kernel_rfl)
      (OpenSpec.preRow_of_cond 8 hx (by kernel_rfl) (fun k hk => by cases hk; kernel_rfl) (by kernel_rfl) (laid_met os _))) ?_
  intro W base args ds gs before hval hW _ hcond _ hL hsh _
  exact contract H enc W base args ds gs before hval hW (hcond _ rfl) (base_of_laid hL hsh)

theorem said : Rows.WaveBackUptoSaid :=
  OpenClaim.holds_of_cond 3 Tryd.f3 rfl rfl rfl rfl rfl rfl rfl ⟨rfl, rfl, rfl, rfl, rfl⟩ rfl rfl rfl rfl rfl (by kernel_rfl) Tryd.func3 (by kernel_rfl)
    (of_decide_eq_true (by kernel_rfl)) (by unfold Func.isWrapper; first | (rw [if_pos (by decide +kernel)]; kernel_rfl) | (rw [if_neg (by decide +kernel)]; exact ⟨rfl, rfl⟩))
    (fun os started H enc _ F => by rw [OpenClaim.pre_eq_preRow]; exact lifted os started H enc F)

/-- No parameter wants a stand-in; the program's own looks are off. -/
theorem plain (f : FuncId) (fn : Func) (hf : Tryd.pinned.checked.prog.funcNamed "ferret/ferretlaw17.WaveBack" = some f) (hfn : Tryd.pinned.checked.prog.funcs[f]? = some fn) :
    false = Tryd.pinned.checked.prog.looks [] ∧ ∀ (j : Nat) t, fn.params[j]? = some t → Tryd.pinned.checked.prog.wantsStandIn t = false := by
  obtain rfl : f = 3 := Option.some.inj ((show Tryd.prog.funcNamed "ferret/ferretlaw17.WaveBack" = some 3 by kernel_rfl).symm.trans hf) |>.symm
  obtain rfl : fn = Tryd.f3 := (Option.some.inj (Tryd.func3.symm.trans hfn)).symm
  refine ⟨by kernel_rfl, fun j t ht => ?_⟩
  rw [Tryd.params3] at ht
  have hm := Array.mem_of_getElem? ht
  simp only [List.mem_toArray, List.mem_cons, List.not_mem_nil, or_false, or_self] at hm
  first | (rcases hm with rfl | rfl | rfl) | (rcases hm with rfl | rfl) | (rcases hm with rfl)
  all_goals exact (show Tryd.prog.wantsStandIn _ = false by kernel_rfl)

/-- The tied card. -/
theorem proved : Rows.WaveBackUptoCardSaid :=
  Claim7.holds_tied_plain_at .later [] _ _ _ _ said (fun _ h => by cases h) (by kernel_rfl) (fun _ h => by cases h) waveBackUpto_row_tie rfl ⟨rfl, rfl⟩ (by kernel_rfl) rfl plain (by kernel_rfl)
#print axioms proved
end Go.Proofs.YtnjmefjcaiepfaaDoor.waveBack
