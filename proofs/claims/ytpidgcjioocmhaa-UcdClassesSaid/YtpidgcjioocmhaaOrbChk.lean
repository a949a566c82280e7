/- The orbits at the numbers that have one of their own, reckoned; elsewhere each number is alone: so both orbits are one, and each number in it has the same. -/
import Derived.Test.YtpidgcjioocmhaaOrbPure
namespace Go.Proofs.Ytpidgcjioocmhaa.OrbPure

def good (r : Int) : Bool := progOrb r == refOrb r && (progOrb r).all fun x => decide (0 ≤ x) && decide (x ≤ 1114111) && (progOrb x == progOrb r)
def span (a : Int) (n : Nat) : Bool := (List.range n).all fun k => good (a + k)
theorem of_span {a : Int} {n : Nat} (h : span a n = true) {r : Int} (h1 : a ≤ r) (h2 : r < a + n) : good r = true := by
  unfold span at h
  rw [List.all_eq_true] at h
  have := h (r - a).toNat (List.mem_range.2 (by omega))
  rwa [show a + ((r - a).toNat : Int) = r by omega] at this

theorem sp1 : span 65 26 = true := by decide +kernel
theorem sp2 : span 97 26 = true := by decide +kernel
theorem sp3 : span 192 23 = true := by decide +kernel
theorem sp4 : span 224 23 = true := by decide +kernel
theorem sp5 : span 216 7 = true := by decide +kernel
theorem sp6 : span 248 7 = true := by decide +kernel
theorem sp7 : span 913 17 = true := by decide +kernel
theorem sp8 : span 945 17 = true := by decide +kernel
theorem sp9 : span 931 7 = true := by decide +kernel
theorem sp10 : span 962 8 = true := by decide +kernel
theorem sp11 : span 1040 32 = true := by decide +kernel
theorem sp12 : span 1072 32 = true := by decide +kernel
theorem sp13 : span 66560 40 = true := by decide +kernel
theorem sp14 : span 66600 40 = true := by decide +kernel
theorem sp15 : span 8490 2 = true := by decide +kernel
theorem sp16 : span 383 1 = true := by decide +kernel
theorem sp17 : span 181 1 = true := by decide +kernel

def Special (r : Int) : Prop := (65 ≤ r ∧ r ≤ 90) ∨ (97 ≤ r ∧ r ≤ 122) ∨ (192 ≤ r ∧ r ≤ 214) ∨ (224 ≤ r ∧ r ≤ 246) ∨ (216 ≤ r ∧ r ≤ 222) ∨ (248 ≤ r ∧ r ≤ 254) ∨ (913 ≤ r ∧ r ≤ 929) ∨
  (945 ≤ r ∧ r ≤ 961) ∨ (931 ≤ r ∧ r ≤ 937) ∨ (962 ≤ r ∧ r ≤ 969) ∨ (1040 ≤ r ∧ r ≤ 1071) ∨ (1072 ≤ r ∧ r ≤ 1103) ∨ (66560 ≤ r ∧ r ≤ 66599) ∨ (66600 ≤ r ∧ r ≤ 66639) ∨ (8490 ≤ r ∧ r ≤ 8491) ∨ r = 383 ∨ r = 181

theorem good_special {r : Int} (h : Special r) : good r = true := by
  rcases h with h | h | h | h | h | h | h | h | h | h | h | h | h | h | h | h | h
  · exact of_span sp1 h.1 (by omega)
  · exact of_span sp2 h.1 (by omega)
  · exact of_span sp3 h.1 (by omega)
  · exact of_span sp4 h.1 (by omega)
  · exact of_span sp5 h.1 (by omega)
  · exact of_span sp6 h.1 (by omega)
  · exact of_span sp7 h.1 (by omega)
  · exact of_span sp8 h.1 (by omega)
  · exact of_span sp9 h.1 (by omega)
  · exact of_span sp10 h.1 (by omega)
  · exact of_span sp11 h.1 (by omega)
  · exact of_span sp12 h.1 (by omega)
  · exact of_span sp13 h.1 (by omega)
  · exact of_span sp14 h.1 (by omega)
  · exact of_span sp15 h.1 (by omega)
  · exact of_span sp16 (by omega) (by omega)
  · exact of_span sp17 (by omega) (by omega)

theorem ringMates {a b : Int} {i : Nat} (hi : i < 5) (ha : preR a i 3 = true) : Special a := by
  unfold Special
  obtain rfl | rfl | rfl | rfl | rfl : i = 0 ∨ i = 1 ∨ i = 2 ∨ i = 3 ∨ i = 4 := by omega
  all_goals
    simp [preR, ringAt, ringsL, List.range_succ] at ha
    omega

theorem inCaps {a : Int} (h : inL caps a = true) : (65 ≤ a ∧ a ≤ 90) ∨ (192 ≤ a ∧ a ≤ 214) ∨ (216 ≤ a ∧ a ≤ 222) ∨ (913 ≤ a ∧ a ≤ 929) ∨ (931 ≤ a ∧ a ≤ 937) ∨ (1040 ≤ a ∧ a ≤ 1071) := by
  simp [inL, caps] at h
  omega

theorem oneB_plain {r u : Int} (hr : ¬ Special r) (h : oneB r u = true) : u = r := by
  unfold oneB oneU at h
  simp only [Bool.or_eq_true, Bool.and_eq_true, beq_iff_eq, decide_eq_true_eq] at h
  rcases h with ((h | ⟨h1, h2⟩) | ⟨⟨h1, h2⟩, h3⟩) | h
  · omega
  · have := inCaps h2
    exact absurd (by unfold Special; omega) hr
  · exact absurd (by unfold Special; omega) hr
  · unfold rest at h
    rw [List.any_eq_true] at h
    obtain ⟨i, hi, h⟩ := h
    rw [Bool.and_eq_true] at h
    have hm : Special (min r u) ∧ Special (max r u) := ⟨ringMates (b := 0) (List.mem_range.1 hi) h.1, ringMates (b := 0) (List.mem_range.1 hi) h.2⟩
    rcases Int.le_total r u with hle | hle
    · rw [Int.min_eq_left hle] at hm; exact absurd hm.1 hr
    · rw [Int.max_eq_left hle] at hm; exact absurd hm.2 hr

theorem hit_plain {r t u : Int} (hr : ¬ Special r) (h : hit r t u = true) : t = r := by
  unfold hit at h
  simp only [Bool.or_eq_true, Bool.and_eq_true, beq_iff_eq] at h
  rcases h with h | ⟨⟨_, h1⟩, h2⟩
  · exact h
  · have := oneB_plain hr h1
    subst this
    exact oneB_plain hr h2

theorem inner_ne {r t : Int} (hr : ¬ Special r) (ht : t ≠ r) (out : List Int) (l : List Int) : l.foldl (fun out u => if hit r t u then addL out t else out) out = out := by
  induction l with
  | nil => rfl
  | cons u l ih =>
    have : hit r t u = false := by
      cases h : hit r t u with
      | false => rfl
      | true => exact absurd (hit_plain hr h) ht
    simp only [List.foldl_cons, this, Bool.false_eq_true, if_false]
    exact ih
theorem inner_eq (r : Int) (l : List Int) : l.foldl (fun out u => if hit r r u then addL out r else out) [r] = [r] := by
  induction l with
  | nil => rfl
  | cons u l ih => simp only [List.foldl_cons, hit, beq_self_eq_true, Bool.true_or, if_true, addL, Int.lt_irrefl, if_false] at ih ⊢; exact ih
theorem inner_first (r : Int) (u : Int) (l : List Int) : (u :: l).foldl (fun out u => if hit r r u then addL out r else out) [] = [r] := by
  simp only [List.foldl_cons, hit, beq_self_eq_true, Bool.true_or, if_true, addL]
  have := inner_eq r l
  simp only [hit, beq_self_eq_true, Bool.true_or, if_true] at this
  exact this

theorem outer_plain {r : Int} (hr : ¬ Special r) : refOrb r = [r] := by
  have hi : ∀ t out, inner r t out 20 = (triesL r).foldl (fun out u => if hit r t u then addL out t else out) out := fun t out => rfl
  have ho : refOrb r = (triesL r).foldl (fun out t => inner r t out 20) [] := rfl
  have step : ∀ (l : List Int) (out : List Int), (out = [] ∨ out = [r]) → l.foldl (fun out t => inner r t out 20) out = if out = [r] ∨ r ∈ l then [r] else [] := by
    intro l
    induction l with
    | nil => intro out h; rcases h with rfl | rfl <;> simp
    | cons t l ih =>
      intro out h
      rw [List.foldl_cons]
      by_cases ht : t = r
      · subst ht
        have : inner t t out 20 = [t] := by
          rw [hi]
          rcases h with rfl | rfl
          · exact inner_first t _ _
          · exact inner_eq t _
        rw [this, ih [t] (.inr rfl)]
        simp
      · rw [hi, inner_ne hr ht, ih out h]
        have : (r ∈ t :: l) ↔ r ∈ l := by simp [Ne.symm ht]
        simp only [this]
  rw [ho, step _ _ (.inl rfl)]
  simp [triesL]

theorem prog_plain {r : Int} (hr : ¬ Special r) : progOrb r = [r] := by
  unfold Special at hr
  have h1 : ringFind ringsL r = none := by
    simp only [ringFind, ringsL, List.mem_cons, List.not_mem_nil, or_false]
    repeat rw [if_neg (by omega)]
  have h2 : shiftFind shiftsL r = [r] := by
    simp only [shiftFind, shiftsL]
    repeat rw [if_neg (by omega)]
  unfold progOrb
  rw [h1, h2]; rfl

theorem orbits {r : Int} (h0 : 0 ≤ r) (h1 : r ≤ 1114111) : progOrb r = refOrb r ∧ ∀ x ∈ progOrb r, 0 ≤ x ∧ x ≤ 1114111 ∧ progOrb x = progOrb r := by
  by_cases hr : Special r
  · have := good_special hr
    unfold good at this
    simp only [Bool.and_eq_true, beq_iff_eq, List.all_eq_true, decide_eq_true_eq] at this
    exact ⟨this.1, fun x hx => ⟨(this.2 x hx).1.1, (this.2 x hx).1.2, (this.2 x hx).2⟩⟩
  · rw [prog_plain hr, outer_plain hr]
    refine ⟨rfl, fun x hx => ?_⟩
    obtain rfl : x = r := by simpa using hx
    exact ⟨h0, h1, prog_plain hr⟩

end Go.Proofs.Ytpidgcjioocmhaa.OrbPure
