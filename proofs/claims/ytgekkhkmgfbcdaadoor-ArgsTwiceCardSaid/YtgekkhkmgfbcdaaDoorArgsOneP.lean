/- Chapter 25: the program's way to the one text that is packed ahead, in plain Lean. -/
import Derived.Test.YtgekkhkmgfbcdaaDoorArgsP
import Derived.Lib.IndexMore
namespace Go.Proofs.YtgekkhkmgfbcdaaDoor.ArgsP
open Go.Lib

/-- A colon among the first eight bytes: what stands ahead of it. -/
def Found (s a : List UInt8) : Prop := a.length ≤ 7 ∧ s.take a.length = a ∧ s[a.length]? = some 58 ∧ ∀ j, j < a.length → s[j]? ≠ some 58

theorem occ_one {s : List UInt8} {c : UInt8} {i : Nat} : occAt s [c] i = true ↔ s[i]? = some c := by
  unfold occAt
  rw [← List.head?_drop]
  cases s.drop i with
  | nil => simp
  | cons x l =>
    simp only [List.isPrefixOf, List.head?_cons, Option.some.injEq, Bool.and_true, beq_iff_eq]
    exact ⟨fun h => h.symm, fun h => h.symm⟩

theorem cut_found {s a r : List UInt8} (h : cut (s.take 8) [58] = (a, r, true)) : Found s a := by
  unfold cut at h
  split at h
  · rename_i h0
    rcases index_spec (s.take 8) [58] with ⟨h1, _⟩ | ⟨i, h1, h2, h3, h4⟩
    · omega
    · rw [h1] at h
      have hoc := occ_one.1 h3
      have hi : i < (s.take 8).length := by
        rcases Nat.lt_or_ge i (s.take 8).length with h' | h'
        · exact h'
        · rw [List.getElem?_eq_none h'] at hoc; cases hoc
      have hi8 : i < 8 ∧ i < s.length := by rw [List.length_take] at hi; omega
      have ha : a = s.take i := by
        have := (Prod.mk.inj h).1
        rw [← this]
        simp [List.take_take]; omega
      have hl : a.length = i := by rw [ha, List.length_take]; omega
      refine ⟨by omega, by rw [hl, ha], ?_, fun j hj he => ?_⟩
      · rw [hl]; rw [List.getElem?_take] at hoc; rw [if_pos hi8.1] at hoc; exact hoc
      · rw [hl] at hj
        have hx : occAt (s.take 8) [58] j = true := occ_one.2 (by rw [List.getElem?_take, if_pos (by omega)]; exact he)
        rw [h4 j hj] at hx
        cases hx
  · have := (Prod.mk.inj (Prod.mk.inj h).2).2
    cases this
theorem cut_not {s a r : List UInt8} (h : cut (s.take 8) [58] = (a, r, false)) : oneL s = none := by
  unfold cut at h
  split at h
  · have := (Prod.mk.inj (Prod.mk.inj h).2).2
    cases this
  · rename_i h0
    rcases index_spec (s.take 8) [58] with ⟨_, h2⟩ | ⟨i, h1, _⟩
    · cases ho : oneL s with
      | none => rfl
      | some p =>
        obtain ⟨k, n⟩ := p
        obtain ⟨_, hk7, hl, _, _, h58, _⟩ := oneL_some ho
        have := h2 k (by rw [List.length_take]; omega)
        have hx : occAt (s.take 8) [58] k = true := occ_one.2 (by rw [List.getElem?_take, if_pos (by omega)]; exact h58)
        rw [this] at hx
        cases hx
    · omega

theorem one_inv {s a : List UInt8} {k n : Nat} (hf : Found s a) (h : oneL s = some (k, n)) : AheadA s a n ∧ k = a.length ∧ n < 10000000 := by
  obtain ⟨ha, hk⟩ := ahead_of_oneL h
  obtain ⟨h1, h2, h3, h4, h5, h6, h7, h8⟩ := oneL_some h
  obtain ⟨f1, f2, f3, f4⟩ := hf
  have hka : k = a.length := by
    rcases Nat.lt_trichotomy k a.length with hlt | he | hgt
    · exact absurd h6 (f4 k hlt)
    · exact he
    · have hd := digs_all 7 s
      rw [← h4] at hd
      have hm : (58 : UInt8) ∈ s.take k := List.mem_of_getElem? (i := a.length) (by rw [List.getElem?_take, if_pos hgt]; exact f3)
      have := hd 58 hm
      exact absurd this (by decide)
  have hak : s.take k = a := by rw [hka]; exact f2
  rw [hak] at ha
  refine ⟨ha, hka, ?_⟩
  have hd := digs_all 7 s
  rw [← h4, hak] at hd
  have hl := dval_lt hd
  rw [h5, hak]
  have : 10 ^ a.length ≤ 10 ^ 7 := Nat.pow_le_pow_right (by omega) f1
  omega

/-- The program's tests, one behind the other. -/
theorem one_atoi {s a : List UInt8} (hf : Found s a) (h : ∀ n, atoiAll a ≠ .ok n) : oneL s = none := by
  cases ho : oneL s with
  | none => rfl
  | some p =>
    obtain ⟨⟨e, _⟩, _, hn⟩ := one_inv hf ho
    exact absurd (by rw [e]; exact atoi_dec (by omega)) (h p.2)
theorem one_itoa {s a : List UInt8} {v : Int} (hf : Found s a) (h : atoiAll a = .ok v) (hi : itoa v ≠ a ∨ v < 0) : oneL s = none := by
  cases ho : oneL s with
  | none => rfl
  | some p =>
    obtain ⟨⟨e, _⟩, _, hn⟩ := one_inv hf ho
    rw [e, atoi_dec (by omega)] at h
    injection h with h
    subst h
    rcases hi with hi | hi
    · rw [itoa_nonneg] at hi; exact absurd e.symm hi
    · omega
theorem one_long {s a : List UInt8} {v : Nat} (hf : Found s a) (hi : itoa v = a) (h : s.length ≤ v + (a.length + 1) ∨ s[a.length + 1 + v]? ≠ some 44) : oneL s = none := by
  cases ho : oneL s with
  | none => rfl
  | some p =>
    obtain ⟨⟨e, _, _, _, h5, h6⟩, _, hn⟩ := one_inv hf ho
    rw [itoa_nonneg, e] at hi
    have : v = p.2 := by rw [← (dec_props v).2.1, ← (dec_props p.2).2.1, hi]
    rw [← this] at h5 h6
    rcases h with h | h
    · omega
    · exact absurd h6 h
theorem one_yes {s a : List UInt8} {v : Nat} (hf : Found s a) (hi : itoa v = a) (h : v + (a.length + 1) < s.length) (h44 : s[a.length + 1 + v]? = some 44) : oneL s = some (a.length, v) := by
  rw [itoa_nonneg] at hi
  exact oneL_of_ahead ⟨hi.symm, hf.1, hf.2.1, hf.2.2.1, by omega, h44⟩

/-- A number of few bytes is small. -/
theorem parse_bound (d : List UInt8) : ∀ (a u : Nat), parseUint10 a d = .ok u → u < (a + 1) * 10 ^ d.length := by
  induction d with
  | nil => intro a u h; unfold parseUint10 at h; injection h with h; subst h; simp
  | cons c d ih =>
    intro a u h
    unfold parseUint10 at h
    split at h
    · rename_i hc
      split at h
      · cases h
      split at h
      · cases h
      have h1 := ih _ _ h
      have h3 : (a * 10 + (c.toNat - 48) + 1) * 10 ^ d.length ≤ (10 * (a + 1)) * 10 ^ d.length := Nat.mul_le_mul_right _ (by omega)
      have h4 : (a + 1) * 10 ^ (c :: d).length = (10 * (a + 1)) * 10 ^ d.length := by rw [List.length_cons, Nat.pow_succ, Nat.mul_comm (10 ^ d.length) 10, ← Nat.mul_assoc, Nat.mul_comm (a + 1) 10]
      omega
    · cases h
theorem atoi_bound {d : List UInt8} {v : Int} (h : atoiAll d = .ok v) (h8 : d.length ≤ 8) : -100000000 < v ∧ v < 100000000 := by
  have hp : 10 ^ d.length ≤ 10 ^ 8 := Nat.pow_le_pow_right (by omega) h8
  unfold atoiAll at h
  split at h
  · cases h
  · rename_i c r
    have hm : ∀ (l : List UInt8) u, l.length ≤ 8 → parseMag l = .ok u → u < 100000000 := by
      intro l u hl hu
      unfold parseMag at hu
      split at hu
      · cases hu
      · have := parse_bound l 0 u hu
        have h9 : 10 ^ l.length ≤ 10 ^ 8 := Nat.pow_le_pow_right (by omega) hl
        omega
    simp only at h
    split at h
    · cases h
    · cases h
    · rename_i u hu
      have hu8 : u < 100000000 := by
        refine hm _ u ?_ hu
        split
        · simp at h8; omega
        · exact h8
      split at h
      · cases h
      split at h
      · cases h
      injection h with h
      split at h <;> omega

end Go.Proofs.YtgekkhkmgfbcdaaDoor.ArgsP
