/- Chapter 13, the plain law of SplitTells: the scalar that a text's bytes are, and how many rows a text fits into. -/
import Derived.Test.YtemjgnpkhomofaaSplitHas
import Derived.Test.YtemjgnpkhomofaaSetFA
namespace Go.Proofs.Ytemjgnpkhomofaa
open SetPure
namespace UtfPure

def decT (v : Int) (l : List Int) : Int := l.foldl (fun v c => 64 * v + c % 64) v
def headM (n : Nat) (c : Int) : Int := if n = 2 then c % 32 else if n = 3 then c % 16 else c % 8
def decU (s : List Int) : Int := if s.length = 1 then s.getD 0 0 else decT (headM s.length (s.getD 0 0)) (s.drop 1)

theorem dec_enc {z : Int} (h0 : 0 ≤ z) (h1 : z ≤ 1114111) : decU (encU z) = z := by
  unfold encU
  repeat' split
  all_goals
    simp only [decU, decT, headM, List.length_cons, List.length_nil, List.getD_cons_zero, List.drop_succ_cons, List.drop_zero, List.foldl_cons, List.foldl_nil]
    try simp
    try omega

/-- The document's answer: the scalar whose bytes a text is; -1: none. -/
def refSc (s : List Int) : Int := if (1 ≤ s.length ∧ s.length ≤ 4) ∧ isScalar (decU s) = true ∧ encU (decU s) = s then decU s else -1

theorem scalar_bd {z : Int} (h : isScalar z = true) : 0 ≤ z ∧ z ≤ 1114111 := by
  simp only [isScalar, Bool.and_eq_true, decide_eq_true_eq] at h
  exact h.1
theorem refSc_enc {z : Int} (h : isScalar z = true) : refSc (encU z) = z := by
  obtain ⟨h0, h1⟩ := scalar_bd h
  have hd := dec_enc h0 h1
  have := enc_pos z
  unfold refSc
  rw [hd, if_pos ⟨by omega, h, rfl⟩]
theorem refSc_none {s : List Int} (h : ∀ z, isScalar z = true → s ≠ encU z) : refSc s = -1 := by
  unfold refSc
  rw [if_neg]
  rintro ⟨_, h1, h2⟩
  exact h _ h1 h2.symm

theorem tells_count {o l : List Rg} (hc : Canon o) (ho : ∀ z, inB o z = (inB l z && inR z)) (s : List Int) : countL (splitL o) s = if (decide (0 ≤ refSc s) && inB l (refSc s)) = true then 1 else 0 := by
  obtain ⟨s1, s2, s3⟩ := splitL_spec hc (Int.le_refl 0)
  have hL : ∀ q ∈ splitL o, Leaf q := fun q hq => (s1 q hq).1
  by_cases he : ∃ z, isScalar z = true ∧ s = encU z
  · obtain ⟨z, hz, rfl⟩ := he
    obtain ⟨h0, h1⟩ := scalar_bd hz
    rw [refSc_enc hz]
    have hoz := ho z
    rw [show inR z = true from (inR_iff z).2 ⟨h0, h1⟩, Bool.and_true] at hoz
    by_cases hl : inB l z = true
    · rw [if_pos (by simp [hl, h0])]
      exact count_one hL s2 ((s3 z).2 ⟨(inB_iff _ _).1 (hoz.trans hl), hz⟩)
    · rw [if_neg (by simp [hl])]
      refine count_zero hL fun y hy e => ?_
      obtain ⟨y1, y2⟩ := (s3 y).1 hy
      have hyb := scalar_bd y2
      obtain rfl := encU_inj h0 hyb.1 e
      exact hl (hoz.symm.trans ((inB_iff _ _).2 y1))
  · have hn : ∀ z, isScalar z = true → s ≠ encU z := fun z hz e => he ⟨z, hz, e⟩
    rw [refSc_none hn, if_neg (by simp)]
    exact count_zero hL fun y hy e => hn y ((s3 y).1 hy).2 e
theorem one_count {o l : List Rg} (hc : Canon o) (ho : ∀ z, inB o z = (inB l z && inR z)) {z : Int} (hz : isScalar z = true) : countL (splitL o) (encU z) = if inB l z = true then 1 else 0 := by
  rw [tells_count hc ho, refSc_enc hz]
  have := scalar_bd hz
  simp [this.1]

end UtfPure
end Go.Proofs.Ytemjgnpkhomofaa
