/-
  The law SetsWork returns true for any two lists of at most 1048576 ranges and every number: their sets, and all that is made of them, are the document's; nothing that was there is written.
  Conditions: none beyond the row's own.
-/
import Derived.Test.YtapjkahpblbnmaaOpenR
import Derived.Test.YtapjkahpblbnmaaBulk
import Derived.JoinedCond
import Derived.Test.YtapjkahpblbnmaaWorkLaw
namespace Go.Proofs.Ytapjkahpblbnmaa.setsWork
open Go.ChangeShapes Go.WideShapes Go.ChangeAt Go.RowKit

set_option maxRecDepth 100000 in
theorem lifted (os : Os) (started : os.Started) (H : Type) (enc : TypeId × Value → H) (F : Stop.Interp) :
    ReturnsInHanded {} Try.checked os 7 .any ((Rows.OpenSpec.upto Rows.setsWorkSpec).pre6 enc Try.prog Try.f7 Rows.setsWorkUptoRow.domain false) (((Rows.OpenSpec.upto Rows.setsWorkSpec).at F).post enc Try.prog Try.f7 false true false false) := by
  refine returnsInHanded_of_cond_sized (C := Try.checked) (s := Rows.OpenSpec.upto Rows.setsWorkSpec) (k := Rows.uptoSmall) rfl ownKnob_ started (by kernel_rfl) Try.func7
    (OpenSpec.witness (enc := enc) (C := Try.checked) (s := Rows.OpenSpec.upto Rows.setsWorkSpec) (k := Rows.uptoSmall) rfl false ⟨#[], #[.slice none 0 0, .slice none 0 0, .int .i64 0], []⟩ 8 (by kernel_rfl) (by kernel_rfl) (by kernel_rfl)
      (x := ([.nil, .nil, .lit (.int .i64 0)], [], [])) (by kernel_rfl) rfl (by kernel_rfl)) ?_
  intro W base args ds gs before hval0 hW _ hk hsz0 _
  have hval : ∀ (j : Nat) t v, Try.f7.params[j]? = some t → args[j]? = some v → Value.okWide Try.prog W .any base t v := hval0
  have hsz : (DataW.weightsEach Try.prog (Try.f7.params.toList ++ Rows.setsWorkSpec.plain.varTypes Try.prog) (ds ++ gs)).all (· ≤ reachBytes) = true := hsz0
  have hW' := hW
  obtain ⟨p, q, hA0, hV, rfl, hfz, hnd⟩ := hW
  have hA : DataW.TrodAll enc Try.prog W 0 (fun _ => true) true Try.f7.params.toList args.toList ds p := hA0
  rw [Try.params7] at hA hval hsz
  obtain ⟨v0, vs0, d0, ds0, p0, q0, hargs, rfl, rfl, h0, r0⟩ := trodAll_cons hA
  obtain ⟨v1, vs1, d1, ds1, p1, q1, rfl, rfl, rfl, h1, r1⟩ := trodAll_cons r0
  obtain ⟨v2, vs2, d2, ds2, p2, q2, rfl, rfl, rfl, h2, r2⟩ := trodAll_cons r1
  obtain ⟨rfl, rfl, rfl⟩ := trodAll_nil r2
  obtain rfl : args = #[v0, v1, v2] := by cases args; simp_all
  obtain ⟨rfl, rfl⟩ := trodVars_none hV
  obtain ⟨a2, rfl, rfl, rfl, w2⟩ := open_int Try.underlying3 (hval 2 3 v2 rfl rfl) h2
  obtain ⟨A0, c0, l0, rfl, hS0, hl0, hd0, _⟩ := open_pairs Try.underlying22 Try.underlying30 (by kernel_rfl) rfl rfl rfl rfl (by kernel_rfl) Try.underlying3 (by kernel_rfl) (okWide_slice Try.underlying22 (hval 0 22 v0 rfl rfl)) h0 hsz (j := 0) rfl rfl
  obtain ⟨A1, c1, l1, rfl, hS1, hl1, hd1, _⟩ := open_pairs Try.underlying22 Try.underlying30 (by kernel_rfl) rfl rfl rfl rfl (by kernel_rfl) Try.underlying3 (by kernel_rfl) (okWide_slice Try.underlying22 (hval 1 22 v1 rfl rfl)) h1 hsz (j := 1) rfl rfl
  have hb0 : l0.length ≤ 1048576 := bulk_list hk (by simp) (hd0.imp_left fun h => h.1) (fun h => by rcases hd0 with ⟨_, h0⟩ | ⟨_, _, h1, _⟩; exact h0; rw [h1] at h; cases h)
  have hb1 : l1.length ≤ 1048576 := bulk_list hk (by simp) (hd1.imp_left fun h => h.1) (fun h => by rcases hd1 with ⟨_, h0⟩ | ⟨_, _, h1, _⟩; exact h0; rw [h1] at h; cases h)
  clear hA0 hval0
  refine (work_any A0 A1 c0 c1 l0 l1 a2 W hb0 hb1 hS0 hS1).mono fun e W' ⟨he, hb⟩ => ?_
  subst he
  exact ⟨_, rfl, law_post laidOut_ (by kernel_rfl) rfl rfl Try.underlying4 hW' rfl hb⟩

theorem over : Rows.setsWorkUptoRow.holds Try.pinned (Rows.OpenSpec.upto Rows.setsWorkSpec) :=
  OpenClaim.holds_of_cond 7 Try.f7 rfl rfl rfl rfl rfl rfl rfl ⟨rfl, rfl, rfl, rfl, rfl⟩ rfl rfl rfl rfl rfl (by kernel_rfl) Try.func7 (by kernel_rfl)
    (of_decide_eq_true (by kernel_rfl)) (by unfold Func.isWrapper; first | (rw [if_pos (by decide +kernel)]; kernel_rfl) | (rw [if_neg (by decide +kernel)]; exact ⟨rfl, rfl⟩))
    (fun os started H enc _ F => lifted os started H enc F)

theorem proved : Rows.SetsWorkUptoSaid := over
#print axioms proved
end Go.Proofs.Ytapjkahpblbnmaa.setsWork
