/- Sets told by what is in them: the contracts of Or and Same. -/
import Derived.Test.YtpidgcjioocmhaaSetFA
import Derived.Test.YtpidgcjioocmhaaSetsOps
namespace Go.Proofs.Ytpidgcjioocmhaa
open Go.RowKit SetPure

section
variable {W w w' : World} {L : List (Value × (Int → Bool))} {v u : Value} {f g : Int → Bool}
theorem hold_or (h : Hold W w L) (hv : (v, f) ∈ L) (hu : (u, g) ∈ L) : Calls Try.prog 19 #[v, u] w fun e w' => ∃ x, e = .returned x ∧ Hold W w' ((x, fun z => f z || g z) :: L) := by
  obtain ⟨s, h1, h2⟩ := h.get hv
  obtain ⟨t, k1, k2⟩ := h.get hu
  refine (set_or h1 k1).mono ?_
  rintro e w' ⟨x, o, rfl, ho, hp, hb⟩
  exact ⟨x, rfl, h.add hb (SetF.of_end ho hp fun z => by rw [← h2, ← k2]; simp [inB_iff])⟩
/-- Two sets that hold the same are the same. -/
theorem hold_same (h : Hold W w L) (hv : (v, f) ∈ L) (hu : (u, g) ∈ L) (e : ∀ z, inR z = true → f z = g z) : Calls Try.prog 16 #[v, u] w fun e w' => e = .returned (.bool true) ∧ Hold W w' L := by
  have k := h.get hv
  have k' := h.get hu
  obtain ⟨s, h1, h2⟩ := h.get hv
  obtain ⟨t, k1, k2⟩ := h.get hu
  refine (set_same h1 k1).mono ?_
  rintro e w' ⟨rfl, hb⟩
  refine ⟨ret_bool ?_, h.go hb⟩
  rw [decide_eq_true_eq]
  refine Canon.unique h1.canon k1.canon fun z => ?_
  rw [← inB_iff, ← inB_iff, h2, k2]
  constructor
  · intro hz; rw [← e z (k.inR hz)]; exact hz
  · intro hz; rw [e z (k'.inR hz)]; exact hz
end

end Go.Proofs.Ytpidgcjioocmhaa
