/- Doubles as rational numbers: what the operations give, and how near. -/
import Derived.Test.YtnjmefjcaiepfaaDoorWRnd
namespace Go.Proofs.YtnjmefjcaiepfaaDoor.WaveP

def sg (w : Nat) : Bool := Nat.ble 9223372036854775808 w
def rg (w : Nat) : Nat := w % 9223372036854775808
/-- A word of a number. -/
def fin (w : Nat) : Bool := Nat.blt w 18446744073709551616 && Nat.blt (rg w) infR
def wd (neg : Bool) (r : Nat) : Nat := bif neg then 9223372036854775808 + r else r
theorem fin_iff {w : Nat} : fin w = true ↔ w < 18446744073709551616 ∧ rg w < infR := by
  unfold fin; rw [blt_eq, blt_eq]; simp
theorem sg_wd {neg : Bool} {r : Nat} (h : r < infR) : sg (wd neg r) = neg := by
  unfold infR at h
  cases neg
  · exact ble_f (by show ¬ _ ≤ r; omega)
  · exact ble_t (by show _ ≤ _ + r; omega)
theorem rg_wd {neg : Bool} {r : Nat} (h : r < infR) : rg (wd neg r) = r := by
  unfold infR at h
  cases neg
  · show r % _ = r; omega
  · show (_ + r) % _ = r; omega
theorem fin_wd {neg : Bool} {r : Nat} (h : r < infR) : fin (wd neg r) = true := by
  rw [fin_iff, rg_wd h]
  unfold infR at h ⊢
  refine ⟨?_, h⟩
  cases neg
  · show r < _; omega
  · show _ + r < _; omega
theorem word_wd (neg : Bool) (r : Nat) : fmt.word neg r = wd neg r := by cases neg <;> rfl
theorem read_fin {w : Nat} (h : fin w = true) : fmt.read w = .number (sg w) (mg (rg w)) ((pl (rg w) : Int) - 1074) := by
  obtain ⟨h1, h2⟩ := fin_iff.1 h
  unfold Ieee.Format.read
  have e1 : fmt.signWeight = 9223372036854775808 := by decide +kernel
  have e2 : fmt.binade = 4503599627370496 := by decide +kernel
  have e3 : fmt.infRung = infR := by decide +kernel
  have e4 : fmt.leastPlace = -1074 := rfl
  dsimp only
  rw [e1, e2, e3, e4]
  have hs : (w / 9223372036854775808 % 2 == 1) = sg w := by
    unfold sg
    rw [ble_eq, Bool.eq_iff_iff, decide_eq_true_iff, beq_iff_eq]
    omega
  rw [hs]
  show (if rg w < _ then _ else _) = _
  by_cases hl : rg w < 4503599627370496
  · rw [if_pos hl]
    have : mg (rg w) = rg w := by unfold mg; rw [ble_f (by omega), cond_false]
    have hp : pl (rg w) = 0 := by unfold pl; omega
    rw [this, hp]
    rfl
  · rw [if_neg hl]
    show (if rg w < infR then _ else _) = _
    rw [if_pos h2]
    have : mg (rg w) = 4503599627370496 + rg w % 4503599627370496 := by unfold mg; rw [ble_t (by omega), cond_true]
    rw [this]
    have hp : (-1074 : Int) + ((rg w / 4503599627370496 - 1 : Nat) : Int) = (pl (rg w) : Int) - 1074 := by unfold pl; omega
    rw [← hp]
    rfl

/-- The least place. -/
def c74 : Nat := 1074
def e0 : Rat := 1 / ((2 ^ c74 : Nat) : Rat)
def sn (b : Bool) : Rat := if b then -1 else 1
def val (w : Nat) : Rat := sn (sg w) * ((un (rg w) : Nat) : Rat) * e0

theorem pw_pos (n : Nat) : (0 : Rat) < ((2 ^ n : Nat) : Rat) := by exact_mod_cast Nat.two_pow_pos n
theorem inv_pos {a : Rat} (h : 0 < a) : 0 < 1 / a := by
  rw [Rat.div_def, Rat.one_mul]
  exact Rat.inv_pos.2 h
theorem e0_pos : 0 < e0 := inv_pos (pw_pos _)
theorem e0_mul : e0 * ((2 ^ c74 : Nat) : Rat) = 1 := Rat.div_mul_cancel (Rat.ne_of_gt (pw_pos c74))
theorem mul_le_cancel {a b c : Rat} (hc : 0 < c) (h : a * c ≤ b * c) : a ≤ b := by
  rcases Rat.le_total (a := a) (b := b) with h1 | h1
  · exact h1
  · rcases Rat.le_total (a := c * (a - b)) (b := 0) with h2 | h2
    · have h3 : 0 ≤ c * (a - b) := Rat.mul_nonneg (Rat.le_of_lt hc) (by grind)
      have h4 : c * (a - b) = 0 := by grind
      rcases Rat.mul_eq_zero.1 h4 with h5 | h5
      · rw [h5] at hc; exact absurd hc (Rat.lt_irrefl)
      · grind
    · have h4 : c * (a - b) = 0 := by grind
      rcases Rat.mul_eq_zero.1 h4 with h5 | h5
      · rw [h5] at hc; exact absurd hc (Rat.lt_irrefl)
      · grind

/-- The rounded number and the true one, in units of the least place. -/
theorem rnd_val {mag p b : Nat} {q : Rat} (hq : q * ((2 ^ b : Nat) : Rat) = (mag : Rat) * ((2 ^ p : Nat) : Rat)) (hf : rnd mag p b < infR) :
    0 ≤ q ∧ ((un (rnd mag p b) : Nat) : Rat) - q ≤ q / 9007199254740992 + 1 / 2 ∧ q - ((un (rnd mag p b) : Nat) : Rat) ≤ q / 9007199254740992 + 1 / 2 := by
  have hB := pw_pos b
  have hm : (0 : Rat) ≤ (mag : Rat) := by exact_mod_cast Nat.zero_le mag
  have hq0 : 0 ≤ q := by
    refine mul_le_cancel hB ?_
    rw [hq]
    have := Rat.mul_nonneg hm (Rat.le_of_lt (pw_pos p))
    grind
  refine ⟨hq0, ?_⟩
  by_cases h0 : mag = 0
  · subst h0
    have : q = 0 := by
      have h1 : q * ((2 ^ b : Nat) : Rat) = 0 := by rw [hq]; simp
      rcases Rat.mul_eq_zero.1 h1 with h2 | h2
      · exact h2
      · exact absurd h2 (Rat.ne_of_gt hB)
    subst this
    rw [rnd_zero, un_low (by decide)]
    exact ⟨by decide +kernel, by decide +kernel⟩
  · obtain ⟨l, k, e, i1, i2, i3⟩ := rnd_near h0 hf
    rw [e]
    have c1 : 2 * (((k * 2 ^ l : Nat) : Rat) * ((2 ^ b : Nat) : Rat)) ≤ 2 * (q * ((2 ^ b : Nat) : Rat)) + ((2 ^ l : Nat) : Rat) * ((2 ^ b : Nat) : Rat) := by
      rw [hq]
      have i1' : 2 * (k * 2 ^ l * 2 ^ b) ≤ 2 * (mag * 2 ^ p) + 2 ^ l * 2 ^ b := by rw [Nat.mul_assoc k, ← Nat.pow_add]; exact i1
      exact_mod_cast i1'
    have c2 : 2 * (q * ((2 ^ b : Nat) : Rat)) ≤ 2 * (((k * 2 ^ l : Nat) : Rat) * ((2 ^ b : Nat) : Rat)) + ((2 ^ l : Nat) : Rat) * ((2 ^ b : Nat) : Rat) := by
      rw [hq]
      have i2' : 2 * (mag * 2 ^ p) ≤ 2 * (k * 2 ^ l * 2 ^ b) + 2 ^ l * 2 ^ b := by rw [Nat.mul_assoc k, ← Nat.pow_add]; exact i2
      exact_mod_cast i2'
    have c3 : ((2 ^ l : Nat) : Rat) ≤ q / 4503599627370496 + 1 := by
      rcases i3 with h | h
      · subst h
        have : ((2 ^ 0 : Nat) : Rat) = 1 := by simp
        rw [this]
        grind
      · refine mul_le_cancel hB ?_
        have h' : (((2 ^ l : Nat) : Rat) * ((2 ^ b : Nat) : Rat)) * 4503599627370496 ≤ q * ((2 ^ b : Nat) : Rat) := by
          rw [hq]
          rw [Nat.pow_add] at h
          exact_mod_cast h
        grind
    generalize ((k * 2 ^ l : Nat) : Rat) = X at c1 c2 ⊢
    generalize ((2 ^ l : Nat) : Rat) = L at c1 c2 c3
    have d1 : 2 * X ≤ 2 * q + L := mul_le_cancel hB (by grind)
    have d2 : 2 * q ≤ 2 * X + L := mul_le_cancel hB (by grind)
    constructor <;> grind

end Go.Proofs.YtnjmefjcaiepfaaDoor.WaveP
