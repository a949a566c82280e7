/- How often a word's bytes stand at a text's places: counts, and the products that tell them. -/
import Derived.Test.YtnjmefjcaiepfaaDoorWConv
namespace Go.Proofs.YtnjmefjcaiepfaaDoor.WaveP

def cntN : Nat → (Nat → Bool) → Nat
  | 0, _ => 0
  | n + 1, q => cntN n q + (if q n then 1 else 0)
theorem cntN_succ (n : Nat) (q : Nat → Bool) : cntN (n + 1) q = cntN n q + (if q n then 1 else 0) := rfl
theorem cntN_le (n : Nat) (q : Nat → Bool) : cntN n q ≤ n := by
  induction n with
  | zero => exact Nat.le_refl _
  | succ n ih => rw [cntN_succ]; split <;> omega
theorem cntN_congr {n : Nat} {p q : Nat → Bool} (h : ∀ i, i < n → p i = q i) : cntN n p = cntN n q := by
  induction n with
  | zero => rfl
  | succ n ih => rw [cntN_succ, cntN_succ, ih fun i hi => h i (by omega), h n (by omega)]
theorem cntN_none {n : Nat} {q : Nat → Bool} (h : ∀ i, i < n → q i = false) : cntN n q = 0 := by
  induction n with
  | zero => rfl
  | succ n ih => rw [cntN_succ, ih fun i hi => h i (by omega), h n (by omega)]; rfl
theorem cntN_or {n : Nat} {p q : Nat → Bool} (h : ∀ i, i < n → ¬ (p i = true ∧ q i = true)) : cntN n (fun i => p i || q i) = cntN n p + cntN n q := by
  induction n with
  | zero => rfl
  | succ n ih =>
    rw [cntN_succ, cntN_succ, cntN_succ, ih fun i hi => h i (by omega)]
    have := h n (by omega)
    cases hp : p n <;> cases hq : q n <;> simp_all <;> omega
theorem cntN_pos {n : Nat} {q : Nat → Bool} : 0 < cntN n q ↔ ∃ i, i < n ∧ q i = true := by
  induction n with
  | zero => simp [cntN]
  | succ n ih =>
    rw [cntN_succ]
    constructor
    · intro h
      by_cases hq : q n = true
      · exact ⟨n, by omega, hq⟩
      · rw [if_neg hq, Nat.add_zero] at h
        obtain ⟨i, h1, h2⟩ := ih.1 h
        exact ⟨i, by omega, h2⟩
    · rintro ⟨i, h1, h2⟩
      by_cases hi : i = n
      · subst hi; rw [if_pos h2]; omega
      · have := ih.2 ⟨i, by omega, h2⟩
        omega
theorem cntN_all {n : Nat} {q : Nat → Bool} : cntN n q = n ↔ ∀ i, i < n → q i = true := by
  induction n with
  | zero => simp [cntN]
  | succ n ih =>
    rw [cntN_succ]
    have hle := cntN_le n q
    constructor
    · intro h i hi
      by_cases hq : q n = true
      · rw [if_pos hq] at h
        by_cases e : i = n
        · subst e; exact hq
        · exact ih.1 (by omega) i (by omega)
      · rw [if_neg hq] at h; omega
    · intro h
      rw [if_pos (h n (by omega)), ih.2 fun i hi => h i (by omega)]
theorem cntN_add (n m : Nat) (q : Nat → Bool) : cntN (n + m) q = cntN n q + cntN m (fun i => q (n + i)) := by
  induction m with
  | zero => rfl
  | succ m ih => rw [← Nat.add_assoc, cntN_succ, ih, cntN_succ, Nat.add_assoc]

/-! ### The product of two rows of marks -/
theorem smI_congr {n : Nat} {f g : Nat → Int} (h : ∀ i, i < n → f i = g i) : smI n f = smI n g := by
  induction n with
  | zero => rfl
  | succ n ih =>
    show smI n f + f n = smI n g + g n
    rw [ih fun i hi => h i (by omega), h n (by omega)]
theorem smI_none {n : Nat} {f : Nat → Int} (h : ∀ i, i < n → f i = 0) : smI n f = 0 := by
  induction n with
  | zero => rfl
  | succ n ih =>
    show smI n f + f n = 0
    rw [ih fun i hi => h i (by omega), h n (by omega), Int.add_zero]
theorem smI_add (n m : Nat) (f : Nat → Int) : smI (n + m) f = smI n f + smI m (fun i => f (n + i)) := by
  induction m with
  | zero => show smI n f = smI n f + 0; omega
  | succ m ih =>
    show smI (n + m) f + f (n + m) = smI n f + (smI m (fun i => f (n + i)) + f (n + m))
    rw [ih]; omega
theorem smI_cnt (n : Nat) (q : Nat → Bool) : smI n (fun i => if q i then 1 else 0) = (cntN n q : Int) := by
  induction n with
  | zero => rfl
  | succ n ih =>
    show smI n _ + (if q n then 1 else 0) = _
    rw [ih, cntN_succ]
    split <;> simp
/-- A text's marks from a place on, so many; a word's the other way round. -/
def mkT (T : Nat → Nat) (c o n i : Nat) : Int := if i < n ∧ T (o + i) = c then 1 else 0
def mkW (W : Nat → Nat) (c n i : Nat) : Int := if i < n ∧ W (n - 1 - i) = c then 1 else 0
theorem mkT_abs (T : Nat → Nat) (c o n i : Nat) : (mkT T c o n i).natAbs ≤ 256 := by unfold mkT; split <;> decide
theorem mkW_abs (W : Nat → Nat) (c n i : Nat) : (mkW W c n i).natAbs ≤ 256 := by unfold mkW; split <;> decide
theorem mkT_far (T : Nat → Nat) (c o n i : Nat) (h : n ≤ i) : mkT T c o n i = 0 := by unfold mkT; rw [if_neg (by omega)]
theorem mkW_far (W : Nat → Nat) (c n i : Nat) (h : n ≤ i) : mkW W c n i = 0 := by unfold mkW; rw [if_neg (by omega)]
theorem cv_marks (T W : Nat → Nat) (c o ls lw p : Nat) (h : p + lw ≤ ls) (h0 : 0 < lw) :
    cvI (mkT T c o ls) (mkW W c lw) (p + lw - 1) = (cntN lw (fun k => T (o + p + k) == c && W k == c) : Int) := by
  unfold cvI
  rw [show p + lw - 1 + 1 = p + lw by omega, smI_add, smI_none fun i hi => by
    show mkT T c o ls i * mkW W c lw (p + lw - 1 - i) = 0
    rw [mkW_far W c lw _ (by omega), Int.mul_zero], Int.zero_add, ← smI_cnt]
  refine smI_congr fun k hk => ?_
  show mkT T c o ls (p + k) * mkW W c lw (p + lw - 1 - (p + k)) = _
  unfold mkT mkW
  rw [show lw - 1 - (p + lw - 1 - (p + k)) = k by omega, show o + (p + k) = o + p + k by omega]
  by_cases h1 : T (o + p + k) = c
  · by_cases h2 : W k = c
    · rw [if_pos ⟨by omega, h1⟩, if_pos ⟨by omega, h2⟩, if_pos (by simp [h1, h2])]; rfl
    · rw [if_neg (c := p + lw - 1 - (p + k) < lw ∧ W k = c) (fun h => h2 h.2), Int.mul_zero, if_neg (by simp [h2])]
  · rw [if_neg (fun h => h1 h.2), Int.zero_mul, if_neg (by simp [h1])]

/-! ### The counts by the bytes that were seen -/
def seenB (W : Nat → Nat) (k c : Nat) : Bool := decide (0 < cntN k (fun j => W j == c))
theorem seenB_iff {W : Nat → Nat} {k c : Nat} : seenB W k c = true ↔ ∃ j, j < k ∧ W j = c := by
  unfold seenB
  rw [decide_eq_true_iff, cntN_pos]
  simp
theorem seenB_succ (W : Nat → Nat) (k c : Nat) : seenB W (k + 1) c = (seenB W k c || W k == c) := by
  rw [Bool.eq_iff_iff, Bool.or_eq_true, seenB_iff, seenB_iff, beq_iff_eq]
  constructor
  · rintro ⟨j, h1, h2⟩
    by_cases e : j = k
    · subst e; exact .inr h2
    · exact .inl ⟨j, by omega, h2⟩
  · rintro (⟨j, h1, h2⟩ | h)
    · exact ⟨j, by omega, h2⟩
    · exact ⟨k, by omega, h⟩
/-- Of the bytes that were seen among the word's first k, how many agree at p. -/
def agN (T W : Nat → Nat) (lw k p : Nat) : Nat := cntN lw (fun j => T (p + j) == W j && seenB W k (W j))
/-- How many agree at p. -/
def agree (T W : Nat → Nat) (lw p : Nat) : Nat := cntN lw (fun j => T (p + j) == W j)
def agC (T W : Nat → Nat) (lw c p : Nat) : Nat := cntN lw (fun j => T (p + j) == c && W j == c)
theorem agN_zero (T W : Nat → Nat) (lw p : Nat) : agN T W lw 0 p = 0 := cntN_none fun i _ => by
  have : seenB W 0 (W i) = false := by unfold seenB; simp [cntN]
  rw [this, Bool.and_false]
theorem agN_seen {T W : Nat → Nat} {lw k p : Nat} (h : seenB W k (W k) = true) : agN T W lw (k + 1) p = agN T W lw k p := cntN_congr fun i _ => by
  rw [seenB_succ]
  by_cases e : W k = W i
  · rw [← e, h]; rfl
  · have : (W k == W i) = false := by simp [e]
    rw [this, Bool.or_false]
theorem agN_new {T W : Nat → Nat} {lw k p : Nat} (h : seenB W k (W k) = false) : agN T W lw (k + 1) p = agN T W lw k p + agC T W lw (W k) p := by
  unfold agN agC
  rw [← cntN_or]
  · refine cntN_congr fun i _ => ?_
    rw [seenB_succ]
    by_cases e : W k = W i
    · rw [← e, h]; simp
    · have e1 : (W k == W i) = false := by simp [e]
      have e2 : (W i == W k) = false := by simp; exact fun h => e h.symm
      rw [e1, e2, Bool.or_false, Bool.and_false, Bool.or_false]
  · rintro i _ ⟨h1, h2⟩
    simp only [Bool.and_eq_true, beq_iff_eq] at h1 h2
    rw [h2.2, h] at h1
    exact absurd h1.2 (by decide)
theorem agN_end (T W : Nat → Nat) (lw p : Nat) : agN T W lw lw p = agree T W lw p := cntN_congr fun i hi => by
  rw [seenB_iff.2 ⟨i, hi, rfl⟩, Bool.and_true]
end Go.Proofs.YtnjmefjcaiepfaaDoor.WaveP
