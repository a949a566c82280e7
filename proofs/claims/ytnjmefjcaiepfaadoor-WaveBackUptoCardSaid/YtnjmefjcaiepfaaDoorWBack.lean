/- Products of transforms, and the way back. -/
import Derived.Test.YtnjmefjcaiepfaaDoorWIdeal
namespace Go.Proofs.YtnjmefjcaiepfaaDoor.WaveP
open Cx

/-- The product's numbers. -/
def cv (a b : Nat → Cx) (m : Nat) : Cx := sm (m + 1) fun i => a i * b (m - i)
section
variable {Z : Nat → Cx} {t : Rat}
theorem F_mul (h : Roots Z t) (l : Nat) (a b : Nat → Cx) (k : Nat) (hl : l ≤ 12) (hab : ∀ i j, i < 2 ^ l → j < 2 ^ l → 2 ^ l ≤ i + j → a i * b j = zero) :
    F Z l a k * F Z l b k = F Z l (cv a b) k := by
  rw [F_sum h l a k hl, F_sum h l b k hl, F_sum h l _ k hl]
  generalize 2 ^ l = N at hab ⊢
  generalize Z l = z
  have e1 : ∀ i, i < N → (a i * pow z (i * k)) * sm N (fun j => b j * pow z (j * k)) = sm N fun m => if i ≤ m then a i * b (m - i) * pow z (m * k) else zero := fun i hi => by
    have s1 : (a i * pow z (i * k)) * sm N (fun j => b j * pow z (j * k)) = sm N fun j => a i * b j * pow z ((i + j) * k) := by
      rw [sm_mul]
      refine sm_congr fun j _ => ?_
      rw [Nat.add_mul, pow_add]
      apply Cx.ext' <;> simp only [mul_re, mul_im] <;> grind
    rw [s1]
    have s2 := sm_shift (N - i) i (fun m => if i ≤ m then a i * b (m - i) * pow z (m * k) else zero) fun j hj => if_neg (by omega)
    rw [show i + (N - i) = N by omega] at s2
    rw [s2]
    have s3 := sm_more (N - i) i (fun j => a i * b j * pow z ((i + j) * k)) fun j h1 h2 => by
      show a i * b j * _ = zero
      rw [hab i j hi (by omega) (by omega), zero_mul]
    rw [show N - i + i = N by omega] at s3
    rw [s3]
    refine sm_congr fun j _ => ?_
    show _ = if i ≤ i + j then _ else _
    rw [if_pos (by omega), Nat.add_sub_cancel_left]
  rw [sm_mul_r, sm_congr e1, sm_swap]
  refine sm_congr fun m hm => ?_
  have s4 := sm_more (m + 1) (N - (m + 1)) (fun i => if i ≤ m then a i * b (m - i) * pow z (m * k) else zero) fun i h1 _ => if_neg (by omega)
  rw [show m + 1 + (N - (m + 1)) = N by omega] at s4
  show sm N (fun i => if i ≤ m then a i * b (m - i) * pow z (m * k) else zero) = _
  rw [s4]
  unfold cv
  rw [sm_mul_r]
  refine sm_congr fun i hi => ?_
  rw [if_pos (by omega)]

def S (l : Nat) (y : Cx) : Cx := sm (2 ^ l) fun k => pow y k
theorem S_succ (l : Nat) (y : Cx) : S (l + 1) y = (one + y) * S l (y * y) := by
  unfold S
  rw [Nat.pow_succ, Nat.mul_comm, sm_two, add_mul, one_mul, sm_mul]
  congr 1
  · refine sm_congr fun k _ => ?_
    rw [pow_mul, pow_succ, pow_one]
  · refine sm_congr fun k _ => ?_
    rw [pow_succ, pow_mul, pow_succ, pow_one, mul_comm]
theorem S_one (l : Nat) : S l one = ⟨(2 ^ l : Nat), 0⟩ := by
  unfold S
  rw [sm_congr (g := fun _ => one) fun k _ => one_pow k]
  generalize 2 ^ l = n
  induction n with
  | zero => rfl
  | succ n ih =>
    rw [sm_succ, ih]
    have : ((n + 1 : Nat) : Rat) = (n : Rat) + 1 := by simp
    apply Cx.ext' <;> simp only [add_re, add_im, one_re, one_im, this] <;> grind
theorem S_bd (l : Nat) {y : Cx} (hy : Bd y 1) : Bd (S l y) ((2 ^ l : Nat) : Rat) := by
  have := Bd.sm (n := 2 ^ l) (f := fun k => pow y k) (R := 1) fun k _ => hy.pow k
  exact this.mono (by grind)
theorem pow4 (l : Nat) : ((4 ^ l : Nat) : Rat) = ((2 ^ l : Nat) : Rat) * ((2 ^ l : Nat) : Rat) := by
  rw [← Rat.natCast_mul, ← Nat.mul_pow]
/-- A factor near one changes the sum little. -/
theorem S_near (l : Nat) {y u : Cx} {d : Rat} (hy : Bd y 1) (hu : Bd u 1) (hd : Bd (u - one) d) : Bd (S l (y * u) - S l y) (((4 ^ l : Nat) : Rat) * d) := by
  have e : S l (y * u) - S l y = sm (2 ^ l) fun k => pow y k * (pow u k - one) := by
    unfold S
    have e1 : ∀ k, pow y k * (pow u k - one) + pow y k = pow (y * u) k := fun k => by
      rw [mul_pow]
      apply Cx.ext' <;> simp only [mul_re, mul_im, add_re, add_im, sub_re, sub_im, one_re, one_im] <;> grind
    rw [sm_congr (f := fun k => pow (y * u) k) fun k _ => (e1 k).symm, sm_add]
    apply Cx.ext' <;> simp only [add_re, add_im, sub_re, sub_im] <;> grind
  rw [e]
  have hd0 := hd.1
  have key : ∀ k, k < 2 ^ l → Bd (pow y k * (pow u k - one)) (((2 ^ l : Nat) : Rat) * d) := fun k hk => by
    refine ((hy.pow k).mul (pow_near hu hd k)).mono ?_
    have : (k : Rat) ≤ ((2 ^ l : Nat) : Rat) := by exact_mod_cast Nat.le_of_lt hk
    have := Rat.mul_le_mul_of_nonneg_right this hd0
    grind
  refine (Bd.sm key).mono ?_
  rw [pow4]
  grind
theorem S_small (h : Roots Z t) : ∀ l, l ≤ 12 → ∀ d, 0 < d → d < 2 ^ l → Bd (S l (pow (Z l) d)) (8 * ((4 ^ l : Nat) : Rat) * t) := by
  intro l
  induction l with
  | zero => intro _ d h0 h1; simp at h1; omega
  | succ l ih =>
    intro hl d h0 h1
    rw [Nat.pow_succ] at h1
    have ht := h.t0
    have hz : pow (Z (l + 1)) d * pow (Z (l + 1)) d = pow (Z l) d := by rw [← pow_add, h.pow_next (l := l) (by omega)]; congr 1; omega
    have b1 : Bd (one + pow (Z (l + 1)) d) 2 := (Bd.one_.add ((h.bd (l + 1) (by omega)).pow d)).mono (by decide +kernel)
    have h4 : ((4 ^ (l + 1) : Nat) : Rat) = 4 * ((4 ^ l : Nat) : Rat) := by rw [Nat.pow_succ, Rat.natCast_mul]; grind
    have p4 : 0 ≤ ((4 ^ l : Nat) : Rat) := by exact_mod_cast Nat.zero_le _
    have p4t : 0 ≤ ((4 ^ l : Nat) : Rat) * t := Rat.mul_nonneg p4 ht
    rw [S_succ, hz]
    by_cases hd : d < 2 ^ l
    · refine (b1.mul (ih (by omega) d h0 hd)).mono ?_
      rw [h4]
      grind
    · by_cases he : d = 2 ^ l
      · subst he
        rw [h.pow_half l (by omega), add_comm]
        refine (h.half.mul (S_bd l ((h.bd l (by omega)).pow _))).mono ?_
        rw [h4, pow4]
        have q1 : 1 ≤ 2 ^ l := Nat.one_le_two_pow
        have q2 : (1 : Rat) ≤ ((2 ^ l : Nat) : Rat) := by exact_mod_cast q1
        have q3 : 0 ≤ ((2 ^ l : Nat) : Rat) * t := Rat.mul_nonneg (by grind) ht
        have q4 := Rat.mul_le_mul_of_nonneg_right q2 q3
        grind
      · obtain ⟨d', rfl⟩ : ∃ d', d = d' + 2 ^ l := ⟨d - 2 ^ l, by omega⟩
        have hb := ih (by omega) d' (by omega) (by omega)
        have hp : pow (Z l) (d' + 2 ^ l) = pow (Z l) d' * Z 0 := by rw [pow_add, h.pow_full l (by omega)]
        have hn := S_near l ((h.bd l (by omega)).pow d') (h.bd 0 (by omega)) h.zero_near
        rw [hp]
        generalize S l (pow (Z l) d') = s at hb hn
        have e : S l (pow (Z l) d' * Z 0) = (S l (pow (Z l) d' * Z 0) - s) + s := by
          apply Cx.ext' <;> simp only [add_re, add_im, sub_re, sub_im] <;> grind
        rw [e]
        refine (b1.mul (hn.add hb)).mono ?_
        rw [h4]
        grind
theorem S_conj (l : Nat) (y : Cx) : S l (conj y) = conj (S l y) := by
  unfold S
  rw [sm_conj]
  exact sm_congr fun k _ => (conj_pow y k).symm

/-- There and back: the numbers, so many times. -/
theorem F_back (h : Roots Z t) {V : Rat} (hV : 0 ≤ V) (l : Nat) (c : Nat → Cx) (m : Nat) (hl : l ≤ 12) (hm : m < 2 ^ l) (hc : ∀ j, j < 2 ^ l → Bd (c j) V) :
    Bd (F (fun l => conj (Z l)) l (F Z l c) m - ⟨(2 ^ l : Nat), 0⟩ * c m) (600000000000 * V * t) := by
  have ht := h.t0
  have hvt : 0 ≤ V * t := Rat.mul_nonneg hV ht
  have hn : 2 ^ l ≤ 4096 := by
    have := Nat.pow_le_pow_right (show 1 ≤ 2 by omega) hl
    simpa using this
  have hn4 : 4 ^ l ≤ 16777216 := by
    have := Nat.pow_le_pow_right (show 1 ≤ 4 by omega) hl
    simpa using this
  rw [F_sum h.conj l _ m hl]
  have e1 : sm (2 ^ l) (fun k => F Z l c k * pow (conj (Z l)) (k * m)) = sm (2 ^ l) fun j => c j * S l (pow (Z l) j * pow (conj (Z l)) m) := by
    rw [sm_congr (g := fun k => sm (2 ^ l) fun j => c j * pow (pow (Z l) j * pow (conj (Z l)) m) k) fun k _ => by
      rw [F_sum h l c k hl, sm_mul_r]
      refine sm_congr fun j _ => ?_
      rw [mul_pow, ← pow_mul, ← pow_mul, Nat.mul_comm k m, mul_assoc], sm_swap]
    refine sm_congr fun j _ => ?_
    unfold S
    rw [sm_mul]
  rw [e1]
  have hmm : pow (Z l) m * pow (conj (Z l)) m = one := by rw [← mul_pow, h.unit l hl, one_pow]
  have hsplit : sm (2 ^ l) (fun j => c j * S l (pow (Z l) j * pow (conj (Z l)) m)) - ⟨(2 ^ l : Nat), 0⟩ * c m
      = sm (2 ^ l) fun j => if j = m then zero else c j * S l (pow (Z l) j * pow (conj (Z l)) m) := by
    have s1 := sm_add (2 ^ l) (fun j => if j = m then zero else c j * S l (pow (Z l) j * pow (conj (Z l)) m)) (fun j => if j = m then ⟨(2 ^ l : Nat), 0⟩ * c m else zero)
    have s2 := sm_one hm (fun j => if j = m then (⟨(2 ^ l : Nat), 0⟩ : Cx) * c m else zero) fun j _ hne => if_neg hne
    simp only [if_true] at s2
    have s3 : sm (2 ^ l) (fun j => c j * S l (pow (Z l) j * pow (conj (Z l)) m)) = sm (2 ^ l) fun j => (if j = m then zero else c j * S l (pow (Z l) j * pow (conj (Z l)) m)) + (if j = m then ⟨(2 ^ l : Nat), 0⟩ * c m else zero) :=
      sm_congr fun j _ => by
        by_cases he : j = m
        · subst he
          rw [if_pos rfl, if_pos rfl, zero_add, hmm, S_one, mul_comm]
        · rw [if_neg he, if_neg he, add_zero]
    rw [s3, s1, s2]
    apply Cx.ext' <;> simp only [add_re, add_im, sub_re, sub_im] <;> grind
  rw [hsplit]
  have key : ∀ j, j < 2 ^ l → Bd (if j = m then zero else c j * S l (pow (Z l) j * pow (conj (Z l)) m)) (134217728 * (V * t)) := fun j hj => by
    by_cases he : j = m
    · rw [if_pos he]; exact Bd.zero_.mono (by grind)
    · rw [if_neg he]
      have hS : Bd (S l (pow (Z l) j * pow (conj (Z l)) m)) (8 * ((4 ^ l : Nat) : Rat) * t) := by
        rcases Nat.lt_or_ge j m with hlt | hge
        · have e : pow (Z l) j * pow (conj (Z l)) m = conj (pow (Z l) (m - j)) := by
            rw [show m = j + (m - j) by omega, pow_add, ← mul_assoc, ← mul_pow, h.unit l hl, one_pow, one_mul, conj_pow]
            congr 1; omega
          rw [e, S_conj]
          exact (S_small h l hl _ (by omega) (by omega)).conj
        · have e : pow (Z l) j * pow (conj (Z l)) m = pow (Z l) (j - m) := by
            rw [show j = (j - m) + m by omega, pow_add, mul_assoc, hmm, mul_one]
            congr 1; omega
          rw [e]
          exact S_small h l hl _ (by omega) (by omega)
      refine ((hc j hj).mul hS).mono ?_
      have q : ((4 ^ l : Nat) : Rat) ≤ 16777216 := by exact_mod_cast hn4
      have q2 := Rat.mul_le_mul_of_nonneg_right q hvt
      grind
  refine (Bd.sm key).mono ?_
  have q : ((2 ^ l : Nat) : Rat) ≤ 4096 := by exact_mod_cast hn
  have q2 := Rat.mul_le_mul_of_nonneg_right q hvt
  grind
end

end Go.Proofs.YtnjmefjcaiepfaaDoor.WaveP
