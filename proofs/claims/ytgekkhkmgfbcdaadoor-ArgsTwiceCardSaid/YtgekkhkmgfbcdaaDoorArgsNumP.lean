/- Chapter 25: a value's number, in plain Lean: the document's rule and the program's are one. -/
import Derived.Test.YtgekkhkmgfbcdaaDoorArgsOneP
import Derived.Lib.Strings
import Derived.Lib.AtoiAllCases
namespace Go.Proofs.YtgekkhkmgfbcdaaDoor.ArgsP
open Go.Lib

/-- The digits behind a sign. -/
def magL (x : List UInt8) : List UInt8 := if x.head? = some 45 then x.tail else x
theorem magL_neg (r : List UInt8) : magL (45 :: r) = r := by unfold magL; simp
/-- A value's number. -/
def numL (x : List UInt8) : Option Int :=
  let d := magL x
  if d = [] ∨ 18 < d.length ∨ (d.head? = some 48 ∧ 1 < x.length) ∨ ¬ (∀ c ∈ d, isDig c = true) then none
  else some (if x.head? = some 45 then -(dval d : Int) else dval d)

theorem trim_mag (x : List UInt8) : trimPrefix x [45] = magL x := by
  unfold trimPrefix magL hasPrefix
  cases x with
  | nil => rfl
  | cons c r =>
    by_cases h : c = 45
    · subst h; simp [List.isPrefixOf]
    · have h' : ¬ (45 : UInt8) = c := fun e => h e.symm
      simp [List.isPrefixOf, h, h']
theorem dec_head {u : Nat} : ∃ c, (decDigits u).head? = some c ∧ isDig c = true := by
  obtain ⟨h1, _, h3, _⟩ := dec_props u
  cases h : decDigits u with
  | nil => exact absurd h h3
  | cons c r => exact ⟨c, rfl, h1 c (by rw [h]; exact List.mem_cons_self)⟩

theorem numL_some {x : List UInt8} {n : Int} (h : numL x = some n) : atoiAll x = .ok n ∧ itoa n = x ∧ (magL x).length ≤ 18 := by
  unfold numL at h
  simp only at h
  split at h
  · cases h
  · rename_i hc
    injection h with h
    have h1 : magL x ≠ [] := fun e => hc (Or.inl e)
    have h2 : (magL x).length ≤ 18 := by rcases Nat.lt_or_ge 18 (magL x).length with h' | h'; exact absurd (Or.inr (Or.inl h')) hc; exact h'
    have h3 : ∀ c ∈ magL x, isDig c = true := Classical.not_not.1 fun e => hc (Or.inr (Or.inr (Or.inr e)))
    have h4 : (magL x).head? = some 48 → x.length ≤ 1 := fun e => by
      rcases Nat.lt_or_ge 1 x.length with h' | h'
      · exact absurd (Or.inr (Or.inr (Or.inl ⟨e, h'⟩))) hc
      · exact h'
    have hlt : dval (magL x) < 1000000000000000000 := by
      have := dval_lt h3
      have h5 : 10 ^ (magL x).length ≤ 10 ^ 18 := Nat.pow_le_pow_right (by omega) h2
      omega
    refine ⟨?_, ?_, h2⟩
    all_goals
      by_cases hm : x.head? = some 45
      · rw [if_pos hm] at h
        obtain ⟨r, rfl⟩ : ∃ r, x = 45 :: r := by cases x with | nil => cases hm | cons c r => injection hm with hm; subst hm; exact ⟨r, rfl⟩
        have hmag : magL (45 :: r) = r := magL_neg r
        rw [hmag] at h1 h2 h3 h4 hlt h
        have hr : 1 ≤ r.length := by cases r with | nil => exact absurd rfl h1 | cons a b => simp
        have hd := dec_of_digits r.length r rfl h1 h3 (fun e => by have := h4 e; rw [List.length_cons] at this; omega)
        have hp : 1 ≤ dval r := by
          obtain ⟨c, hc1⟩ : ∃ c, r.head? = some c := by cases r with | nil => exact absurd rfl h1 | cons a b => exact ⟨a, rfl⟩
          have hdg := isDig_iff.1 (h3 c (List.mem_of_mem_head? hc1))
          refine dval_pos hc1 ?_
          rcases Nat.lt_or_ge 48 c.toNat with h' | h'
          · exact h'
          · have : c = 48 := UInt8.toNat_inj.1 (by show c.toNat = 48; omega)
            subst this
            have := h4 hc1
            rw [List.length_cons] at this
            omega
        subst h
        first
          | (have := atoi_neg hlt; rw [hd] at this; exact this)
          | (rw [itoa_neg _ hp, hd])
      · rw [if_neg hm] at h
        have hmag : magL x = x := by unfold magL; rw [if_neg hm]
        rw [hmag] at h1 h2 h3 h4 hlt h
        have hd := dec_of_digits x.length x rfl h1 h3 (fun e => by
          have h5 := h4 e
          cases x with | nil => exact absurd rfl h1 | cons a b => simp at h5 ⊢; exact h5)
        subst h
        first
          | (have := atoi_dec hlt; rw [hd] at this; exact this)
          | (rw [itoa_nonneg, hd])
theorem numL_of {x : List UInt8} {n : Int} (hi : itoa n = x) (hl : (magL x).length ≤ 18) : numL x = some n := by
  have key : magL x = decDigits n.natAbs ∧ (x.head? = some 45 ↔ n < 0) ∧ (n < 0 ∨ x = decDigits n.natAbs) := by
    by_cases hn : n < 0
    · have e : x = 45 :: decDigits n.natAbs := by rw [← hi]; unfold itoa; rw [if_pos hn]
      subst e
      exact ⟨magL_neg _, ⟨fun _ => hn, fun _ => rfl⟩, Or.inl hn⟩
    · have e : x = decDigits n.natAbs := by rw [← hi]; unfold itoa; rw [if_neg hn]; congr 1; omega
      obtain ⟨c, hc, hd⟩ := dec_head (u := n.natAbs)
      have hne : x.head? ≠ some 45 := by
        rw [e, hc]
        intro h
        injection h with h
        subst h
        exact absurd hd (by decide)
      exact ⟨by unfold magL; rw [if_neg hne]; exact e, ⟨fun h => absurd h hne, fun h => absurd h hn⟩, Or.inr e⟩
  obtain ⟨k1, k2, k3⟩ := key
  obtain ⟨p1, p2, p3, p4⟩ := dec_props n.natAbs
  unfold numL
  simp only
  rw [if_neg, k1, p2]
  · congr 1
    by_cases hn : n < 0
    · rw [if_pos (k2.2 hn)]; omega
    · rw [if_neg (fun h => hn (k2.1 h))]; omega
  · rw [k1] at hl ⊢
    rintro (h | h | ⟨h, h'⟩ | h)
    · exact p3 h
    · omega
    · have h0 := p4 h
      rcases k3 with hn | e
      · omega
      · rw [e, h0] at h'
        simp [decDigits] at h'
    · exact h p1

theorem atoi_bound' {d : List UInt8} {v : Int} (h : atoiAll d = .ok v) : -9223372036854775808 ≤ v ∧ v ≤ 9223372036854775807 := atoiAll_bounds h

end Go.Proofs.YtgekkhkmgfbcdaaDoor.ArgsP
