/-
  An object of any keys and any texts is read as it was written: the law answers true of every keys and texts.
  Conditions: none beyond the row's own.
-/
import Derived.Test.YtemcflfgoelpiaaOpenStrs2
import Derived.Test.YtemcflfgoelpiaaOpenR
import Derived.Test.YtemcflfgoelpiaaJsonKeysLaw
namespace Go.Proofs.Ytemcflfgoelpiaa.jsonKeys
open Go.ChangeShapes Go.WideShapes Go.ChangeAt Go.RowKit

set_option maxRecDepth 100000 in
theorem lifted (os : Os) (started : os.Started) (H : Type) (enc : TypeId × Value → H) :
    ReturnsInHanded {} Try.checked os 5 .any (Rows.jsonKeysSpec.pre6 enc Try.prog Try.f5 Rows.jsonKeysRow.domain false) (Rows.jsonKeysSpec.post enc Try.prog Try.f5 false true false false) := by
  refine returnsInHanded_of_change_sized (C := Try.checked) ownKnob_ started (by kernel_rfl) Try.func5
    (ChangeSpec.witness6 (enc := enc) (C := Try.checked) false ⟨#[], #[.slice none 0 0, .slice none 0 0], []⟩ 8 (by kernel_rfl) (by kernel_rfl) (by kernel_rfl) (by kernel_rfl)) ?_
  intro W base args ds gs before hval0 hW _ hsz0 _
  have hval : ∀ (j : Nat) t v, Try.f5.params[j]? = some t → args[j]? = some v → Value.okWide Try.prog W .any base t v := hval0
  have hsz : (DataW.weightsEach Try.prog (Try.f5.params.toList ++ Rows.jsonKeysSpec.plain.varTypes Try.prog) (ds ++ gs)).all (· ≤ reachBytes) = true := hsz0
  have hW' := hW
  obtain ⟨p, q, hA0, hV, rfl, hfz, hnd⟩ := hW
  have hA : DataW.TrodAll enc Try.prog W 0 (fun _ => true) true Try.f5.params.toList args.toList ds p := hA0
  rw [Try.params5] at hA hval hsz
  obtain ⟨v0, vs0, d0, ds0, p0, q0, hargs, rfl, rfl, h0, r0⟩ := trodAll_cons hA
  obtain ⟨v1, vs1, d1, ds1, p1, q1, rfl, rfl, rfl, h1, r1⟩ := trodAll_cons r0
  obtain ⟨rfl, rfl, rfl⟩ := trodAll_nil r1
  obtain rfl : args = #[v0, v1] := by cases args; simp_all
  obtain ⟨rfl, rfl⟩ := trodVars_none hV
  obtain ⟨A0, c0, l0, rfl, hx0, hS0, hk0, hm0⟩ := open_strs Try.underlying34 Try.underlying9 (by kernel_rfl) (okWide_slice Try.underlying34 (hval 0 34 v0 rfl rfl)) h0
  have hl0 : l0.length ≤ 9223372036854775807 := Nat.le_trans hk0 hm0
  obtain ⟨A1, c1, l1, rfl, hx1, hS1, hk1, hm1⟩ := open_strs Try.underlying34 Try.underlying9 (by kernel_rfl) (okWide_slice Try.underlying34 (hval 1 34 v1 rfl rfl)) h1
  have hl1 : l1.length ≤ 9223372036854775807 := Nat.le_trans hk1 hm1
  clear hA0 hval0
  refine (keys_any A0 A1 c0 c1 l0 l1 W hl0 hl1 hS0 hS1 (strs_sizes hsz (j := 0) rfl rfl Try.underlying34 hx0) (strs_sizes hsz (j := 1) rfl rfl Try.underlying34 hx1)).mono fun e W' ⟨he, hb⟩ => ?_
  subst he
  exact ⟨_, rfl, law_post laidOut_ (by kernel_rfl) rfl rfl Try.underlying4 hW' rfl hb⟩

theorem over : Rows.jsonKeysRow.holds Try.pinned (OpenSpec.ofChange Rows.jsonKeysSpec) :=
  OpenClaim.holds_of_wide 5 Try.f5 rfl rfl rfl rfl rfl rfl rfl ⟨rfl, rfl, rfl, rfl, rfl⟩ rfl rfl rfl rfl rfl (by kernel_rfl) Try.func5 (by kernel_rfl)
    (of_decide_eq_true (by kernel_rfl)) (by unfold Func.isWrapper; first | (rw [if_pos (by decide +kernel)]; kernel_rfl) | (rw [if_neg (by decide +kernel)]; exact ⟨rfl, rfl⟩))
    (fun os started H enc _ => lifted os started H enc)

theorem proved : Rows.JsonKeysSaid := over
#print axioms proved
end Go.Proofs.Ytemcflfgoelpiaa.jsonKeys
