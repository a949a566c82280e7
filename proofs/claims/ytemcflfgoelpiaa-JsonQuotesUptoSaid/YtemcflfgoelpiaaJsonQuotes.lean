/-
  Any text quoted is as the document quotes it, and is read as that text: the law answers true of every text of bulk at most 1048576.
  Conditions: none beyond the row's own.
-/
import Derived.Test.YtemcflfgoelpiaaOpenP
import Derived.Test.YtemcflfgoelpiaaOpenT
import Derived.JoinedCond
import Derived.Test.YtemcflfgoelpiaaJsonQuotesLaw
namespace Go.Proofs.Ytemcflfgoelpiaa.jsonQuotes
open Go.ChangeShapes Go.WideShapes Go.ChangeAt Go.RowKit

set_option maxRecDepth 100000 in
theorem lifted (os : Os) (started : os.Started) (H : Type) (enc : TypeId × Value → H) (F : Stop.Interp) :
    ReturnsInHanded {} Try.checked os 3 .any ((Rows.OpenSpec.upto Rows.jsonQuotesSpec).pre6 enc Try.prog Try.f3 Rows.jsonQuotesUptoRow.domain false) (((Rows.OpenSpec.upto Rows.jsonQuotesSpec).at F).post enc Try.prog Try.f3 false true false false) := by
  refine returnsInHanded_of_cond_sized (C := Try.checked) (s := Rows.OpenSpec.upto Rows.jsonQuotesSpec) (k := Rows.uptoSmall) rfl ownKnob_ started (by kernel_rfl) Try.func3
    (OpenSpec.witness (enc := enc) (C := Try.checked) (s := Rows.OpenSpec.upto Rows.jsonQuotesSpec) (k := Rows.uptoSmall) rfl false ⟨#[], #[.string ⟨#[]⟩], []⟩ 8 (by kernel_rfl) (by kernel_rfl) (by kernel_rfl)
      (x := ([.lit (.string [])], [], [])) (by kernel_rfl) rfl (by kernel_rfl)) ?_
  intro W base args ds gs before hval0 hW _ hk hsz0 _
  have hval : ∀ (j : Nat) t v, Try.f3.params[j]? = some t → args[j]? = some v → Value.okWide Try.prog W .any base t v := hval0
  have hsz : (DataW.weightsEach Try.prog (Try.f3.params.toList ++ Rows.jsonQuotesSpec.plain.varTypes Try.prog) (ds ++ gs)).all (· ≤ reachBytes) = true := hsz0
  have hW' := hW
  obtain ⟨p, q, hA0, hV, rfl, hfz, hnd⟩ := hW
  have hA : DataW.TrodAll enc Try.prog W 0 (fun _ => true) true Try.f3.params.toList args.toList ds p := hA0
  rw [Try.params3] at hA hval hsz
  obtain ⟨v0, vs0, d0, ds0, p0, q0, hargs, rfl, rfl, h0, r0⟩ := trodAll_cons hA
  obtain ⟨rfl, rfl, rfl⟩ := trodAll_nil r0
  obtain rfl : args = #[v0] := by cases args; simp_all
  obtain ⟨rfl, rfl⟩ := trodVars_none hV
  obtain ⟨s0, rfl, hd0, rfl, _⟩ := open_text Try.underlying9 (okWide_string Try.underlying9 (hval 0 9 v0 rfl rfl)) h0
  subst hd0
  have hn0 : s0.size ≤ 1048576 := text_bulk hk (by simp)
  clear hA0 hval0
  refine (quotes_any s0 W hn0).mono fun e W' ⟨he, hb⟩ => ?_
  subst he
  exact ⟨_, rfl, law_post laidOut_ (by kernel_rfl) rfl rfl Try.underlying4 hW' rfl hb⟩

theorem over : Rows.jsonQuotesUptoRow.holds Try.pinned (Rows.OpenSpec.upto Rows.jsonQuotesSpec) :=
  OpenClaim.holds_of_cond 3 Try.f3 rfl rfl rfl rfl rfl rfl rfl ⟨rfl, rfl, rfl, rfl, rfl⟩ rfl rfl rfl rfl rfl (by kernel_rfl) Try.func3 (by kernel_rfl)
    (of_decide_eq_true (by kernel_rfl)) (by unfold Func.isWrapper; first | (rw [if_pos (by decide +kernel)]; kernel_rfl) | (rw [if_neg (by decide +kernel)]; exact ⟨rfl, rfl⟩))
    (fun os started H enc _ F => lifted os started H enc F)

theorem proved : Rows.JsonQuotesUptoSaid := over
#print axioms proved
end Go.Proofs.Ytemcflfgoelpiaa.jsonQuotes
