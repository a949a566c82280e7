/- The transform by exact sums, over any near roots of one. -/
import Derived.Test.YtnjmefjcaiepfaaDoorWCx
namespace Go.Proofs.YtnjmefjcaiepfaaDoor.WaveP
open Cx

def sm : Nat → (Nat → Cx) → Cx
  | 0, _ => zero
  | n + 1, f => sm n f + f n
theorem sm_zero (f : Nat → Cx) : sm 0 f = zero := rfl
theorem sm_succ (n : Nat) (f : Nat → Cx) : sm (n + 1) f = sm n f + f n := rfl
theorem sm_congr {n : Nat} {f g : Nat → Cx} (h : ∀ j, j < n → f j = g j) : sm n f = sm n g := by
  induction n with
  | zero => rfl
  | succ n ih => rw [sm_succ, sm_succ, ih fun j hj => h j (by omega), h n (by omega)]
theorem add4 (a b c d : Cx) : a + b + (c + d) = a + c + (b + d) := by rw [add_assoc, ← add_assoc b, add_comm b c, add_assoc c, ← add_assoc]
theorem sm_add (n : Nat) (f g : Nat → Cx) : sm n (fun j => f j + g j) = sm n f + sm n g := by
  induction n with
  | zero => rw [sm_zero, sm_zero, sm_zero, zero_add]
  | succ n ih => rw [sm_succ, ih, sm_succ, sm_succ, add4]
theorem sm_mul (n : Nat) (c : Cx) (f : Nat → Cx) : c * sm n f = sm n fun j => c * f j := by
  induction n with
  | zero => rw [sm_zero, sm_zero, mul_zero]
  | succ n ih => rw [sm_succ, sm_succ, mul_add, ih]
theorem sm_mul_r (n : Nat) (c : Cx) (f : Nat → Cx) : sm n f * c = sm n fun j => f j * c := by
  rw [mul_comm, sm_mul]
  exact sm_congr fun j _ => mul_comm _ _
theorem sm_none (n : Nat) : sm n (fun _ => zero) = zero := by
  induction n with
  | zero => rfl
  | succ n ih => rw [sm_succ, ih, zero_add]
theorem sm_swap (n m : Nat) (f : Nat → Nat → Cx) : sm n (fun i => sm m (f i)) = sm m fun j => sm n fun i => f i j := by
  induction n with
  | zero => rw [sm_zero]; exact (sm_none m).symm
  | succ n ih => rw [sm_succ, ih, ← sm_add]; exact sm_congr fun j _ => (sm_succ n _).symm
theorem sm_conj (n : Nat) (f : Nat → Cx) : conj (sm n f) = sm n fun j => conj (f j) := by
  induction n with
  | zero => exact conj_zero
  | succ n ih => rw [sm_succ, sm_succ, conj_add, ih]
theorem sm_two (n : Nat) (f : Nat → Cx) : sm (2 * n) f = sm n (fun j => f (2 * j)) + sm n (fun j => f (2 * j + 1)) := by
  induction n with
  | zero => rw [Nat.mul_zero, sm_zero, sm_zero, sm_zero, zero_add]
  | succ n ih =>
    rw [show 2 * (n + 1) = 2 * n + 1 + 1 by omega, sm_succ, sm_succ, ih, sm_succ, sm_succ, add_assoc, add_assoc, add_assoc]
    congr 1
    rw [← add_assoc, ← add_assoc, add_comm (sm n _)]
theorem Bd.sm {n : Nat} {f : Nat → Cx} {R : Rat} (h : ∀ j, j < n → Bd (f j) R) : Bd (WaveP.sm n f) (n * R) := by
  induction n with
  | zero => exact Bd.zero_.mono (by simp)
  | succ n ih =>
    rw [sm_succ]
    refine ((ih fun j hj => h j (by omega)).add (h n (by omega))).mono ?_
    have : ((n + 1 : Nat) : Rat) = (n : Rat) + 1 := by simp
    rw [this]
    grind
/-- A term alone. -/
theorem sm_one {n m : Nat} (hm : m < n) (f : Nat → Cx) (h : ∀ j, j < n → j ≠ m → f j = zero) : sm n f = f m := by
  induction n with
  | zero => omega
  | succ n ih =>
    rw [sm_succ]
    by_cases e : m = n
    · subst e
      rw [sm_congr (g := fun _ => zero) fun j hj => h j (by omega) (by omega), sm_none, zero_add]
    · rw [ih (by omega) fun j hj hne => h j (by omega) hne, h n (by omega) (by omega), add_zero]
/-- Terms further on. -/
theorem sm_shift (n i : Nat) (f : Nat → Cx) (h : ∀ j, j < i → f j = zero) : sm (i + n) f = sm n fun j => f (i + j) := by
  induction n with
  | zero =>
    rw [Nat.add_zero, sm_zero, sm_congr (g := fun _ => zero) h, sm_none]
  | succ n ih => rw [← Nat.add_assoc, sm_succ, ih, sm_succ]
theorem sm_more (n m : Nat) (f : Nat → Cx) (h : ∀ j, n ≤ j → j < n + m → f j = zero) : sm (n + m) f = sm n f := by
  induction m with
  | zero => rfl
  | succ m ih => rw [← Nat.add_assoc, sm_succ, ih fun j h1 h2 => h j h1 (by omega), h (n + m) (by omega) (by omega), add_zero]

/-- Near roots of one: each is the next one's square, all have size one, and the first is near -1. -/
structure Roots (Z : Nat → Cx) (t : Rat) : Prop where
  sq : ∀ l, l < 12 → Z l = Z (l + 1) * Z (l + 1)
  bd : ∀ l, l ≤ 12 → Bd (Z l) 1
  unit : ∀ l, l ≤ 12 → Z l * conj (Z l) = one
  t0 : 0 ≤ t
  t1 : t ≤ 1
  half : Bd (Z 1 + one) t

section
variable {Z : Nat → Cx} {t : Rat}
theorem Roots.conj (h : Roots Z t) : Roots (fun l => conj (Z l)) t := by
  refine ⟨fun l hl => ?_, fun l hl => (h.bd l hl).conj, fun l hl => ?_, h.t0, h.t1, ?_⟩
  · show Cx.conj (Z l) = _
    rw [h.sq l hl, conj_mul]
  · show Cx.conj (Z l) * Cx.conj (Cx.conj (Z l)) = one
    rw [conj_conj, mul_comm, h.unit l hl]
  · have := h.half.conj
    rw [conj_add, conj_one] at this
    exact this
theorem Roots.pow_next (h : Roots Z t) {l : Nat} (hl : l < 12) (k : Nat) : pow (Z l) k = pow (Z (l + 1)) (2 * k) := by
  rw [pow_mul, pow_succ, pow_one, ← h.sq l hl]
/-- The half turn. -/
theorem Roots.pow_half (h : Roots Z t) : ∀ l, l < 12 → pow (Z (l + 1)) (2 ^ l) = Z 1 := by
  intro l
  induction l with
  | zero => intro _; rw [Nat.pow_zero, pow_one]
  | succ l ih =>
    intro hl
    rw [Nat.pow_succ, Nat.mul_comm, ← h.pow_next (by omega)]
    exact ih (by omega)
theorem Roots.pow_full (h : Roots Z t) : ∀ l, l ≤ 12 → pow (Z l) (2 ^ l) = Z 0 := by
  intro l hl
  cases l with
  | zero => rw [Nat.pow_zero, pow_one]
  | succ l =>
    rw [Nat.pow_succ, pow_mul, h.pow_half l (by omega), h.sq 0 (by omega), pow_succ, pow_one]
theorem Roots.zero_near (h : Roots Z t) : Bd (Z 0 - one) (3 * t) := by
  have e : Z 0 - one = (Z 1 + one) * (Z 1 - one) := by
    rw [h.sq 0 (by omega)]
    apply Cx.ext' <;> simp only [mul_re, mul_im, add_re, add_im, sub_re, sub_im, one_re, one_im] <;> grind
  rw [e]
  have h1 : Bd (Z 1 - one) (1 + 1) := (h.bd 1 (by omega)).sub Bd.one_
  exact (h.half.mul h1).mono (by have := h.t0; grind)
theorem pow_near {x : Cx} {d : Rat} (hx : Bd x 1) (hd : Bd (x - one) d) (n : Nat) : Bd (pow x n - one) (n * d) := by
  induction n with
  | zero =>
    rw [pow_zero, sub_self]
    exact Bd.zero_.mono (by simp)
  | succ n ih =>
    have e : pow x (n + 1) - one = pow x n * (x - one) + (pow x n - one) := by
      rw [pow_succ]
      apply Cx.ext' <;> simp only [mul_re, mul_im, add_re, add_im, sub_re, sub_im, one_re, one_im] <;> grind
    rw [e]
    have h1 := (hx.pow n).mul hd
    refine (h1.add ih).mono ?_
    have : ((n + 1 : Nat) : Rat) = (n : Rat) + 1 := by simp
    rw [this]
    grind

/-- The transform of 2^l numbers, at the place k. -/
def F (Z : Nat → Cx) : Nat → (Nat → Cx) → Nat → Cx
  | 0, x, _ => x 0
  | l + 1, x, k => F Z l (fun j => x (2 * j)) k + pow (Z (l + 1)) k * F Z l (fun j => x (2 * j + 1)) k
theorem F_zero (x : Nat → Cx) (k : Nat) : F Z 0 x k = x 0 := rfl
theorem F_succ (l : Nat) (x : Nat → Cx) (k : Nat) : F Z (l + 1) x k = F Z l (fun j => x (2 * j)) k + pow (Z (l + 1)) k * F Z l (fun j => x (2 * j + 1)) k := rfl
theorem F_sum (h : Roots Z t) : ∀ (l : Nat) (x : Nat → Cx) (k : Nat), l ≤ 12 → F Z l x k = sm (2 ^ l) fun j => x j * pow (Z l) (j * k) := by
  intro l
  induction l with
  | zero =>
    intro x k _
    rw [F_zero, Nat.pow_zero, sm_succ, sm_zero, zero_add, Nat.zero_mul, pow_zero, mul_one]
  | succ l ih =>
    intro x k hl
    rw [F_succ, ih _ k (by omega), ih _ k (by omega), Nat.pow_succ, Nat.mul_comm (2 ^ l) 2, sm_two, sm_mul]
    congr 1
    · refine sm_congr fun j _ => ?_
      rw [h.pow_next (by omega), Nat.mul_assoc]
    · refine sm_congr fun j _ => ?_
      rw [h.pow_next (l := l) (by omega) (j * k), ← mul_assoc, mul_comm (pow (Z (l + 1)) k), mul_assoc, ← pow_add]
      congr 2
      rw [Nat.add_mul, Nat.one_mul, Nat.add_comm, Nat.mul_assoc]
theorem F_congr : ∀ (l : Nat) {x y : Nat → Cx} (k : Nat), (∀ j, j < 2 ^ l → x j = y j) → F Z l x k = F Z l y k := by
  intro l
  induction l with
  | zero => intro x y k h; exact h 0 (by simp)
  | succ l ih =>
    intro x y k h
    rw [Nat.pow_succ] at h
    rw [F_succ, F_succ, ih k fun j hj => h (2 * j) (by omega), ih k fun j hj => h (2 * j + 1) (by omega)]
theorem F_bd (h : Roots Z t) {V : Rat} : ∀ (l : Nat) (x : Nat → Cx) (k : Nat), l ≤ 12 → (∀ j, j < 2 ^ l → Bd (x j) V) → Bd (F Z l x k) ((2 ^ l : Nat) * V) := by
  intro l x k hl hx
  rw [F_sum h l x k hl]
  refine Bd.sm fun j hj => ?_
  have := (hx j hj).mul ((h.bd l hl).pow (j * k))
  exact this.mono (by grind)
/-- A whole turn further on. -/
theorem F_turn (h : Roots Z t) {V : Rat} (hV : 0 ≤ V) (l : Nat) (x : Nat → Cx) (k : Nat) (hl : l ≤ 12) (hx : ∀ j, j < 2 ^ l → Bd (x j) V) : Bd (F Z l x (k + 2 ^ l) - F Z l x k) (50331648 * V * t) := by
  rw [F_sum h l x _ hl, F_sum h l x k hl]
  have e : sm (2 ^ l) (fun j => x j * pow (Z l) (j * (k + 2 ^ l))) - sm (2 ^ l) (fun j => x j * pow (Z l) (j * k)) = sm (2 ^ l) fun j => x j * (pow (Z l) (j * k) * (pow (Z 0) j - one)) := by
    have e1 : ∀ j, x j * (pow (Z l) (j * k) * (pow (Z 0) j - one)) + x j * pow (Z l) (j * k) = x j * pow (Z l) (j * (k + 2 ^ l)) := fun j => by
      rw [Nat.mul_add, pow_add, Nat.mul_comm j (2 ^ l), pow_mul (Z l) (2 ^ l), h.pow_full l hl]
      apply Cx.ext' <;> simp only [mul_re, mul_im, add_re, add_im, sub_re, sub_im, one_re, one_im] <;> grind
    rw [sm_congr (f := fun j => x j * pow (Z l) (j * (k + 2 ^ l))) fun j _ => (e1 j).symm, sm_add]
    apply Cx.ext' <;> simp only [add_re, add_im, sub_re, sub_im] <;> grind
  rw [e]
  have h2 : 2 ^ l ≤ 4096 := by
    have := Nat.pow_le_pow_right (show 1 ≤ 2 by omega) hl
    simpa using this
  have ht := h.t0
  have hvt : 0 ≤ V * t := Rat.mul_nonneg hV ht
  have h4 : ∀ n : Nat, n ≤ 4096 → (n : Rat) ≤ 4096 := fun n hn => by exact_mod_cast hn
  have key : ∀ j, j < 2 ^ l → Bd (x j * (pow (Z l) (j * k) * (pow (Z 0) j - one))) (12288 * (V * t)) := fun j hj => by
    have a1 := pow_near (h.bd 0 (by omega)) h.zero_near j
    have a2 := (hx j hj).mul (((h.bd l hl).pow (j * k)).mul a1)
    refine a2.mono ?_
    have a3 := h4 j (by omega)
    have a4 : (j : Rat) * (V * t) ≤ 4096 * (V * t) := Rat.mul_le_mul_of_nonneg_right a3 hvt
    grind
  refine (Bd.sm key).mono ?_
  have a3 := h4 _ h2
  have a4 : ((2 ^ l : Nat) : Rat) * (V * t) ≤ 4096 * (V * t) := Rat.mul_le_mul_of_nonneg_right a3 hvt
  grind
/-- The step of two halves: the second half of the places is told by the first one's. -/
theorem F_half (h : Roots Z t) {V : Rat} (hV : 0 ≤ V) (l : Nat) (x : Nat → Cx) (k : Nat) (hl : l < 12) (hx : ∀ j, j < 2 ^ (l + 1) → Bd (x j) V) :
    Bd (F Z (l + 1) x (k + 2 ^ l) - (F Z l (fun j => x (2 * j)) k - pow (Z (l + 1)) k * F Z l (fun j => x (2 * j + 1)) k)) (150000000 * V * t) := by
  have he : ∀ j, j < 2 ^ l → Bd (x (2 * j)) V := fun j hj => hx _ (by rw [Nat.pow_succ]; omega)
  have ho : ∀ j, j < 2 ^ l → Bd (x (2 * j + 1)) V := fun j hj => hx _ (by rw [Nat.pow_succ]; omega)
  have t1 := F_turn h hV l _ k (by omega) he
  have t2 := F_turn h hV l _ k (by omega) ho
  have b2 := F_bd h l _ k (by omega) ho
  rw [F_succ, pow_add, h.pow_half l hl]
  generalize F Z l (fun j => x (2 * j)) (k + 2 ^ l) = a' at t1 ⊢
  generalize F Z l (fun j => x (2 * j)) k = a at t1 ⊢
  generalize F Z l (fun j => x (2 * j + 1)) (k + 2 ^ l) = b' at t2 ⊢
  generalize F Z l (fun j => x (2 * j + 1)) k = b at t2 b2 ⊢
  have hw := (h.bd (l + 1) (by omega)).pow k
  generalize pow (Z (l + 1)) k = w at hw ⊢
  have e : a' + w * Z 1 * b' - (a - w * b) = (a' - a) + (w * (Z 1 * (b' - b)) + w * ((Z 1 + one) * b)) := by
    apply Cx.ext' <;> simp only [mul_re, mul_im, add_re, add_im, sub_re, sub_im, one_re, one_im] <;> grind
  rw [e]
  have c1 := hw.mul ((h.bd 1 (by omega)).mul t2)
  have c2 := hw.mul (h.half.mul b2)
  refine (t1.add (c1.add c2)).mono ?_
  have h2 : 2 ^ l ≤ 4096 := by
    have := Nat.pow_le_pow_right (show 1 ≤ 2 by omega) (Nat.le_of_lt hl)
    simpa using this
  have h4 : ((2 ^ l : Nat) : Rat) ≤ 4096 := by exact_mod_cast h2
  have hvt : 0 ≤ V * t := Rat.mul_nonneg hV h.t0
  have a4 : ((2 ^ l : Nat) : Rat) * (V * t) ≤ 4096 * (V * t) := Rat.mul_le_mul_of_nonneg_right h4 hvt
  grind
end

end Go.Proofs.YtnjmefjcaiepfaaDoor.WaveP
