/- Complex numbers over the rationals, and bounds of their size. -/
namespace Go.Proofs.YtnjmefjcaiepfaaDoor.WaveP

structure Cx where
  re : Rat
  im : Rat
theorem Cx.ext' {x y : Cx} (h1 : x.re = y.re) (h2 : x.im = y.im) : x = y := by cases x; cases y; simp_all
namespace Cx
def add (x y : Cx) : Cx := ⟨x.re + y.re, x.im + y.im⟩
def sub (x y : Cx) : Cx := ⟨x.re - y.re, x.im - y.im⟩
def mul (x y : Cx) : Cx := ⟨x.re * y.re - x.im * y.im, x.re * y.im + x.im * y.re⟩
instance : Add Cx := ⟨add⟩
instance : Sub Cx := ⟨sub⟩
instance : Mul Cx := ⟨mul⟩
def zero : Cx := ⟨0, 0⟩
def one : Cx := ⟨1, 0⟩
def conj (x : Cx) : Cx := ⟨x.re, -x.im⟩
theorem add_re (x y : Cx) : (x + y).re = x.re + y.re := rfl
theorem add_im (x y : Cx) : (x + y).im = x.im + y.im := rfl
theorem sub_re (x y : Cx) : (x - y).re = x.re - y.re := rfl
theorem sub_im (x y : Cx) : (x - y).im = x.im - y.im := rfl
theorem mul_re (x y : Cx) : (x * y).re = x.re * y.re - x.im * y.im := rfl
theorem mul_im (x y : Cx) : (x * y).im = x.re * y.im + x.im * y.re := rfl
theorem zero_re : zero.re = 0 := rfl
theorem zero_im : zero.im = 0 := rfl
theorem one_re : one.re = 1 := rfl
theorem one_im : one.im = 0 := rfl
theorem mul_assoc (x y z : Cx) : x * y * z = x * (y * z) := by apply ext' <;> simp only [mul_re, mul_im] <;> grind
theorem mul_comm (x y : Cx) : x * y = y * x := by apply ext' <;> simp only [mul_re, mul_im] <;> grind
theorem add_assoc (x y z : Cx) : x + y + z = x + (y + z) := by apply ext' <;> simp only [add_re, add_im] <;> grind
theorem add_comm (x y : Cx) : x + y = y + x := by apply ext' <;> simp only [add_re, add_im] <;> grind
theorem mul_add (x y z : Cx) : x * (y + z) = x * y + x * z := by apply ext' <;> simp only [mul_re, mul_im, add_re, add_im] <;> grind
theorem add_mul (x y z : Cx) : (x + y) * z = x * z + y * z := by apply ext' <;> simp only [mul_re, mul_im, add_re, add_im] <;> grind
theorem mul_sub (x y z : Cx) : x * (y - z) = x * y - x * z := by apply ext' <;> simp only [mul_re, mul_im, sub_re, sub_im] <;> grind
theorem zero_add (x : Cx) : zero + x = x := by apply ext' <;> simp only [add_re, add_im, zero_re, zero_im] <;> grind
theorem add_zero (x : Cx) : x + zero = x := by apply ext' <;> simp only [add_re, add_im, zero_re, zero_im] <;> grind
theorem mul_zero (x : Cx) : x * zero = zero := by apply ext' <;> simp only [mul_re, mul_im, zero_re, zero_im] <;> grind
theorem zero_mul (x : Cx) : zero * x = zero := by apply ext' <;> simp only [mul_re, mul_im, zero_re, zero_im] <;> grind
theorem one_mul (x : Cx) : one * x = x := by apply ext' <;> simp only [mul_re, mul_im, one_re, one_im] <;> grind
theorem mul_one (x : Cx) : x * one = x := by apply ext' <;> simp only [mul_re, mul_im, one_re, one_im] <;> grind
theorem sub_self (x : Cx) : x - x = zero := by apply ext' <;> simp only [sub_re, sub_im, zero_re, zero_im] <;> grind
theorem conj_mul (x y : Cx) : conj (x * y) = conj x * conj y := by apply ext' <;> simp only [conj, mul_re, mul_im] <;> grind
theorem conj_add (x y : Cx) : conj (x + y) = conj x + conj y := by apply ext' <;> simp only [conj, add_re, add_im] <;> grind
theorem conj_conj (x : Cx) : conj (conj x) = x := by apply ext' <;> simp only [conj] <;> grind
theorem conj_one : conj one = one := by apply ext' <;> simp only [conj, one] <;> grind
theorem conj_zero : conj zero = zero := by apply ext' <;> simp only [conj, zero] <;> grind
def pow (x : Cx) : Nat → Cx
  | 0 => one
  | n + 1 => pow x n * x
theorem pow_zero (x : Cx) : pow x 0 = one := rfl
theorem pow_succ (x : Cx) (n : Nat) : pow x (n + 1) = pow x n * x := rfl
theorem pow_one (x : Cx) : pow x 1 = x := by rw [pow_succ, pow_zero, one_mul]
theorem pow_add (x : Cx) (m n : Nat) : pow x (m + n) = pow x m * pow x n := by
  induction n with
  | zero => rw [Nat.add_zero, pow_zero, mul_one]
  | succ n ih => rw [← Nat.add_assoc, pow_succ, ih, pow_succ, mul_assoc]
theorem pow_mul (x : Cx) (m n : Nat) : pow x (m * n) = pow (pow x m) n := by
  induction n with
  | zero => rfl
  | succ n ih => rw [Nat.mul_succ, pow_add, ih, pow_succ]
theorem one_pow (n : Nat) : pow one n = one := by
  induction n with
  | zero => rfl
  | succ n ih => rw [pow_succ, ih, one_mul]
theorem mul_pow (x y : Cx) (n : Nat) : pow (x * y) n = pow x n * pow y n := by
  induction n with
  | zero => rw [pow_zero, pow_zero, pow_zero, one_mul]
  | succ n ih => rw [pow_succ, ih, pow_succ, pow_succ, mul_assoc, mul_assoc, ← mul_assoc (pow y n), mul_comm (pow y n) x, mul_assoc]
theorem conj_pow (x : Cx) (n : Nat) : conj (pow x n) = pow (conj x) n := by
  induction n with
  | zero => exact conj_one
  | succ n ih => rw [pow_succ, conj_mul, ih, pow_succ]
end Cx

theorem sq_nonneg (a : Rat) : 0 ≤ a * a := by
  rcases Rat.le_total (a := 0) (b := a) with h | h
  · exact Rat.mul_nonneg h h
  · have : 0 ≤ (-a) * (-a) := Rat.mul_nonneg (by grind) (by grind)
    grind
/-- From squares to sizes. -/
theorem le_of_sq {a b : Rat} (hb : 0 ≤ b) (h : a * a ≤ b * b) : a ≤ b := by
  rcases Rat.le_total (a := a) (b := b) with h1 | h1
  · exact h1
  · rcases Rat.le_total (a := a) (b := 0) with h2 | h2
    · grind
    · have h3 : 0 ≤ (a - b) := by grind
      have h4 : 0 ≤ (a - b) * (a + b) := Rat.mul_nonneg h3 (by grind)
      have h5 : (a - b) * (a + b) = 0 := by grind
      have h6 := Rat.mul_eq_zero.1 h5
      grind

/-- The number's size is at most R. -/
def Bd (z : Cx) (R : Rat) : Prop := 0 ≤ R ∧ z.re * z.re + z.im * z.im ≤ R * R
theorem Bd.mono {z : Cx} {R S : Rat} (h : Bd z R) (hs : R ≤ S) : Bd z S := by
  obtain ⟨h0, h1⟩ := h
  have h2 : 0 ≤ (S - R) * (S + R) := Rat.mul_nonneg (by grind) (by grind)
  exact ⟨by grind, by grind⟩
theorem Bd.zero_ : Bd Cx.zero 0 := ⟨by decide +kernel, by simp only [Cx.zero]; decide +kernel⟩
theorem Bd.one_ : Bd Cx.one 1 := ⟨by decide +kernel, by simp only [Cx.one]; decide +kernel⟩
/-- The two numbers' product of coordinates. -/
theorem Bd.dot {x y : Cx} {R S : Rat} (hx : Bd x R) (hy : Bd y S) : x.re * y.re + x.im * y.im ≤ R * S := by
  obtain ⟨r0, r1⟩ := hx
  obtain ⟨s0, s1⟩ := hy
  refine le_of_sq (Rat.mul_nonneg r0 s0) ?_
  have h1 := sq_nonneg (x.re * y.im - x.im * y.re)
  have h2 : (x.re * x.re + x.im * x.im) * (y.re * y.re + y.im * y.im) ≤ (R * R) * (y.re * y.re + y.im * y.im) := Rat.mul_le_mul_of_nonneg_right r1 (by have := sq_nonneg y.re; have := sq_nonneg y.im; grind)
  have h3 : (R * R) * (y.re * y.re + y.im * y.im) ≤ (R * R) * (S * S) := Rat.mul_le_mul_of_nonneg_left s1 (sq_nonneg R)
  grind
theorem Bd.add {x y : Cx} {R S : Rat} (hx : Bd x R) (hy : Bd y S) : Bd (x + y) (R + S) := by
  have h := hx.dot hy
  obtain ⟨r0, r1⟩ := hx
  obtain ⟨s0, s1⟩ := hy
  refine ⟨by grind, ?_⟩
  rw [Cx.add_re, Cx.add_im]
  grind
theorem Bd.neg {x : Cx} {R : Rat} (hx : Bd x R) : Bd ⟨-x.re, -x.im⟩ R := ⟨hx.1, by have := hx.2; grind⟩
theorem Bd.sub {x y : Cx} {R S : Rat} (hx : Bd x R) (hy : Bd y S) : Bd (x - y) (R + S) := by
  have h := hx.add hy.neg
  have e : x + ⟨-y.re, -y.im⟩ = x - y := by apply Cx.ext' <;> simp only [Cx.add_re, Cx.add_im, Cx.sub_re, Cx.sub_im] <;> grind
  rwa [e] at h
theorem Bd.mul {x y : Cx} {R S : Rat} (hx : Bd x R) (hy : Bd y S) : Bd (x * y) (R * S) := by
  obtain ⟨r0, r1⟩ := hx
  obtain ⟨s0, s1⟩ := hy
  refine ⟨Rat.mul_nonneg r0 s0, ?_⟩
  rw [Cx.mul_re, Cx.mul_im]
  have h2 : (x.re * x.re + x.im * x.im) * (y.re * y.re + y.im * y.im) ≤ (R * R) * (y.re * y.re + y.im * y.im) := Rat.mul_le_mul_of_nonneg_right r1 (by have := sq_nonneg y.re; have := sq_nonneg y.im; grind)
  have h3 : (R * R) * (y.re * y.re + y.im * y.im) ≤ (R * R) * (S * S) := Rat.mul_le_mul_of_nonneg_left s1 (sq_nonneg R)
  grind
theorem Bd.conj {x : Cx} {R : Rat} (hx : Bd x R) : Bd x.conj R := ⟨hx.1, by have := hx.2; simp only [Cx.conj]; grind⟩
theorem Bd.re {x : Cx} {R : Rat} (hx : Bd x R) : -R ≤ x.re ∧ x.re ≤ R := by
  have h := sq_nonneg x.im
  have h2 : x.re ≤ R := le_of_sq hx.1 (by have := hx.2; grind)
  have h3 : -x.re ≤ R := le_of_sq hx.1 (by have := hx.2; grind)
  exact ⟨by grind, h2⟩
theorem Bd.im {x : Cx} {R : Rat} (hx : Bd x R) : -R ≤ x.im ∧ x.im ≤ R := by
  have h := sq_nonneg x.re
  have h2 : x.im ≤ R := le_of_sq hx.1 (by have := hx.2; grind)
  have h3 : -x.im ≤ R := le_of_sq hx.1 (by have := hx.2; grind)
  exact ⟨by grind, h2⟩
theorem sq_le {a d : Rat} (h1 : -d ≤ a) (h2 : a ≤ d) : a * a ≤ d * d := by
  have : 0 ≤ (d - a) * (d + a) := Rat.mul_nonneg (by grind) (by grind)
  grind
/-- Of two small coordinates. -/
theorem Bd.of_parts {z : Cx} {d : Rat} (hd : 0 ≤ d) (h1 : -d ≤ z.re) (h2 : z.re ≤ d) (h3 : -d ≤ z.im) (h4 : z.im ≤ d) : Bd z (3 / 2 * d) := by
  have a := sq_le h1 h2
  have b := sq_le h3 h4
  have c := sq_nonneg d
  exact ⟨by grind, by grind⟩
theorem Bd.pow {x : Cx} (hx : Bd x 1) (n : Nat) : Bd (Cx.pow x n) 1 := by
  induction n with
  | zero => exact Bd.one_
  | succ n ih =>
    have := ih.mul hx
    rw [show (1 : Rat) * 1 = 1 by decide +kernel] at this
    exact this

end Go.Proofs.YtnjmefjcaiepfaaDoor.WaveP
