/-
  The law SetsTurned returns true for every list of ranges of bulk at most 1048576, and writes nothing that was there: its second row holds.
  Conditions: none beyond the row's own.
-/
import Derived.Test.YtapjkahpblbnmaaOpenR
import Derived.Test.YtapjkahpblbnmaaBulk
import Derived.JoinedCond
import Derived.Test.YtapjkahpblbnmaaTurnedLaw
namespace Go.Proofs.Ytapjkahpblbnmaa.setsTurned
open Go.ChangeShapes Go.WideShapes Go.ChangeAt Go.RowKit

set_option maxRecDepth 100000 in
theorem lifted (os : Os) (started : os.Started) (H : Type) (enc : TypeId × Value → H) (F : Stop.Interp) :
    ReturnsInHanded {} Try.checked os 3 .any ((Rows.OpenSpec.upto Rows.setsTurnedSpec).pre6 enc Try.prog Try.f3 Rows.setsTurnedUptoRow.domain false) (((Rows.OpenSpec.upto Rows.setsTurnedSpec).at F).post enc Try.prog Try.f3 false true false false) := by
  refine returnsInHanded_of_cond_sized (C := Try.checked) (s := Rows.OpenSpec.upto Rows.setsTurnedSpec) (k := Rows.uptoSmall) rfl ownKnob_ started (by kernel_rfl) Try.func3
    (OpenSpec.witness (enc := enc) (C := Try.checked) (s := Rows.OpenSpec.upto Rows.setsTurnedSpec) (k := Rows.uptoSmall) rfl false ⟨#[], #[.slice none 0 0], []⟩ 8 (by kernel_rfl) (by kernel_rfl) (by kernel_rfl)
      (x := ([.nil], [], [])) (by kernel_rfl) rfl (by kernel_rfl)) ?_
  intro W base args ds gs before hval0 hW _ hk hsz0 _
  have hval : ∀ (j : Nat) t v, Try.f3.params[j]? = some t → args[j]? = some v → Value.okWide Try.prog W .any base t v := hval0
  have hsz : (DataW.weightsEach Try.prog (Try.f3.params.toList ++ Rows.setsTurnedSpec.plain.varTypes Try.prog) (ds ++ gs)).all (· ≤ reachBytes) = true := hsz0
  have hW' := hW
  obtain ⟨p, q, hA0, hV, rfl, hfz, hnd⟩ := hW
  have hA : DataW.TrodAll enc Try.prog W 0 (fun _ => true) true Try.f3.params.toList args.toList ds p := hA0
  rw [Try.params3] at hA hval hsz
  obtain ⟨v0, vs0, d0, ds0, p0, q0, hargs, rfl, rfl, h0, r0⟩ := trodAll_cons hA
  obtain ⟨rfl, rfl, rfl⟩ := trodAll_nil r0
  obtain rfl : args = #[v0] := by cases args; simp_all
  obtain ⟨rfl, rfl⟩ := trodVars_none hV
  obtain ⟨A0, c0, l0, rfl, hS0, hl0, hd0, _⟩ := open_pairs Try.underlying22 Try.underlying30 (by kernel_rfl) rfl rfl rfl rfl (by kernel_rfl) Try.underlying3 (by kernel_rfl) (okWide_slice Try.underlying22 (hval 0 22 v0 rfl rfl)) h0 hsz (j := 0) rfl rfl
  have hb0 : l0.length ≤ 1048576 := bulk_list hk (by simp) (hd0.imp_left fun h => h.1) (fun h => by rcases hd0 with ⟨_, h0⟩ | ⟨_, _, h1, _⟩; exact h0; rw [h1] at h; cases h)
  clear hA0 hval0
  refine (turned_any A0 c0 l0 W hb0 hS0).mono fun e W' ⟨he, hb⟩ => ?_
  subst he
  exact ⟨_, rfl, law_post laidOut_ (by kernel_rfl) rfl rfl Try.underlying4 hW' rfl hb⟩

theorem over : Rows.setsTurnedUptoRow.holds Try.pinned (Rows.OpenSpec.upto Rows.setsTurnedSpec) :=
  OpenClaim.holds_of_cond 3 Try.f3 rfl rfl rfl rfl rfl rfl rfl ⟨rfl, rfl, rfl, rfl, rfl⟩ rfl rfl rfl rfl rfl (by kernel_rfl) Try.func3 (by kernel_rfl)
    (of_decide_eq_true (by kernel_rfl)) (by unfold Func.isWrapper; first | (rw [if_pos (by decide +kernel)]; kernel_rfl) | (rw [if_neg (by decide +kernel)]; exact ⟨rfl, rfl⟩))
    (fun os started H enc _ F => lifted os started H enc F)

theorem proved : Rows.SetsTurnedUptoSaid := over
#print axioms proved
end Go.Proofs.Ytapjkahpblbnmaa.setsTurned
