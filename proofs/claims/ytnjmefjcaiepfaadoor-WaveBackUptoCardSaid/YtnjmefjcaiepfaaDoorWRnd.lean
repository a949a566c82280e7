/- Words of doubles: what rounding to a word does, in whole numbers. -/
import Ieee.Arith
namespace Go.Proofs.YtnjmefjcaiepfaaDoor.WaveP

abbrev fmt : Ieee.Format := Ieee.double
/-- The rung of infinity. -/
def infR : Nat := 9218868437227405312
/-- The rung of mag * 2^(p - b), counted in units of the least place. -/
def rnd (mag p b : Nat) : Nat :=
  bif Nat.beq mag 0 then 0 else
  bif Nat.ble (p + Nat.log2 mag - (b + 52) + b) p then min ((p + Nat.log2 mag - (b + 52)) * 4503599627370496 + mag * 2 ^ (p - (p + Nat.log2 mag - (b + 52) + b))) infR
  else
    let last := p + Nat.log2 mag - (b + 52)
    let gap := 2 ^ (last + b - p)
    let low := mag / gap
    let rest := mag % gap
    min (last * 4503599627370496 + (low + (bif (Nat.blt gap (2 * rest)) || (Nat.beq gap (2 * rest) && Nat.beq (low % 2) 1) then 1 else 0))) infR

theorem blt_eq (a b : Nat) : Nat.blt a b = decide (a < b) := by
  rw [Bool.eq_iff_iff, decide_eq_true_iff]
  show Nat.ble (a + 1) b = true ↔ _
  rw [Nat.ble_eq]
  exact Iff.rfl
theorem beq_eq (a b : Nat) : Nat.beq a b = decide (a = b) := by
  rw [Bool.eq_iff_iff, decide_eq_true_iff]
  exact ⟨Nat.eq_of_beq_eq_true, fun h => by rw [h]; exact Nat.beq_refl b⟩
theorem ble_eq (a b : Nat) : Nat.ble a b = decide (a ≤ b) := by
  rw [Bool.eq_iff_iff, decide_eq_true_iff, Nat.ble_eq]
theorem ble_t {a b : Nat} (h : a ≤ b) : Nat.ble a b = true := by rw [ble_eq, decide_eq_true h]
theorem ble_f {a b : Nat} (h : ¬ a ≤ b) : Nat.ble a b = false := by rw [ble_eq, decide_eq_false h]
theorem blt_t {a b : Nat} (h : a < b) : Nat.blt a b = true := by rw [blt_eq, decide_eq_true h]
theorem blt_f {a b : Nat} (h : ¬ a < b) : Nat.blt a b = false := by rw [blt_eq, decide_eq_false h]
theorem beq_t {a b : Nat} (h : a = b) : Nat.beq a b = true := by rw [beq_eq, decide_eq_true h]
theorem beq_f {a b : Nat} (h : ¬ a = b) : Nat.beq a b = false := by rw [beq_eq, decide_eq_false h]
theorem toNat_bif (a : Bool) : a.toNat = bif a then 1 else 0 := by cases a <;> rfl
theorem cut_zero (neg : Bool) (n : Nat) : Ieee.Toward.even.cut neg n 0 = n := by
  unfold Ieee.Toward.cut
  simp [Nat.mod_one]
theorem cut_some (neg : Bool) (n d : Nat) (hd : d ≤ n.log2 + 2) : Ieee.Toward.even.cut neg n d = n / 2 ^ d + (bif (Nat.blt (2 ^ d) (2 * (n % 2 ^ d))) || (Nat.beq (2 ^ d) (2 * (n % 2 ^ d)) && Nat.beq (n / 2 ^ d % 2) 1) then 1 else 0) := by
  unfold Ieee.Toward.cut
  simp only [Nat.min_eq_left hd, Nat.one_shiftLeft, toNat_bif]
  congr 2
  rw [blt_eq, beq_eq, beq_eq]
  rfl
/-- Past so many digits the whole is dropped. -/
theorem cut_far (neg : Bool) (n d : Nat) (hd : n.log2 + 2 < d) : Ieee.Toward.even.cut neg n d = 0 := by
  unfold Ieee.Toward.cut
  have h1 := Nat.lt_log2_self (n := n)
  have h2 : (2 : Nat) ^ (n.log2 + 2) = 2 ^ (n.log2 + 1) * 2 := Nat.pow_succ ..
  simp only [Nat.min_eq_right (Nat.le_of_lt hd), Nat.one_shiftLeft, toNat_bif]
  have h3 : n / 2 ^ (n.log2 + 2) = 0 := Nat.div_eq_of_lt (by omega)
  have h4 : n % 2 ^ (n.log2 + 2) = n := Nat.mod_eq_of_lt (by omega)
  rw [h3, h4]
  have h5 : (2 ^ (n.log2 + 2) < 2 * n) = False := by simp; omega
  simp [h5]
theorem last_eq (place : Int) (p b L : Nat) (h : place = (p : Int) - b - 1074) : max (place + (L : Int) - (52 : Int)) (-1074) = ((p + L - (b + 52) : Nat) : Int) - 1074 := by omega
theorem nearest_eq (neg : Bool) (mag p b : Nat) (place : Int) (h : place = (p : Int) - b - 1074) : fmt.nearest neg mag place = fmt.word neg (rnd mag p b) := by
  unfold Ieee.Format.nearest rnd
  by_cases h0 : mag = 0
  · subst h0; simp
  · have hb0 : Nat.beq mag 0 = false := beq_f h0
    rw [if_neg h0, hb0, cond_false]
    obtain ⟨L, hL⟩ : ∃ L, mag.log2 = L := ⟨_, rfl⟩
    have hlast : max (place + (mag.log2 : Int) - (fmt.fractionBits : Nat)) fmt.leastPlace = ((p + L - (b + 52) : Nat) : Int) - 1074 := by
      rw [hL]
      exact last_eq place p b L h
    have e1 : (fmt.leastPlace) = -1074 := rfl
    have e2 : fmt.binade = 4503599627370496 := rfl
    have e3 : fmt.infRung = infR := by decide +kernel
    rw [hlast, e1, e2, e3, hL]
    obtain ⟨l, hl⟩ : ∃ l, p + L - (b + 52) = l := ⟨_, rfl⟩
    rw [hl]
    have e4 : ((l : Int) - 1074 - -1074).toNat = l := by omega
    dsimp only
    rw [e4]
    by_cases hle : l + b ≤ p
    · have hb1 : Nat.ble (l + b) p = true := ble_t hle
      rw [hb1, cond_true]
      rw [show (place - ((l : Int) - 1074)).toNat = p - (l + b) by omega, show ((l : Int) - 1074 - place).toNat = 0 by omega, cut_zero, Nat.shiftLeft_eq]
    · have hb1 : Nat.ble (l + b) p = false := ble_f hle
      rw [hb1, cond_false]
      rw [show (place - ((l : Int) - 1074)).toNat = 0 by omega, show ((l : Int) - 1074 - place).toNat = l + b - p by omega, Nat.shiftLeft_zero]
      by_cases hd : l + b - p ≤ mag.log2 + 2
      · rw [cut_some neg mag _ hd]
      · rw [cut_far neg mag _ (by omega)]
        have hlt := Nat.lt_log2_self (n := mag)
        have hp : 2 ^ (mag.log2 + 2) ≤ 2 ^ (l + b - p) := Nat.pow_le_pow_right (by omega) (by omega)
        have h2 : (2 : Nat) ^ (mag.log2 + 2) = 2 ^ (mag.log2 + 1) * 2 := Nat.pow_succ ..
        have h3 : mag / 2 ^ (l + b - p) = 0 := Nat.div_eq_of_lt (by omega)
        have h4 : mag % 2 ^ (l + b - p) = mag := Nat.mod_eq_of_lt (by omega)
        rw [h3, h4]
        have h5 : Nat.blt (2 ^ (l + b - p)) (2 * mag) = false := blt_f (by omega)
        have h6 : Nat.beq (2 ^ (l + b - p)) (2 * mag) = false := beq_f (by omega)
        rw [h5, h6]
        simp

/-- A rung's digits, and its place above the least. -/
def mg (r : Nat) : Nat := bif Nat.ble 4503599627370496 r then 4503599627370496 + r % 4503599627370496 else r
def pl (r : Nat) : Nat := r / 4503599627370496 - 1
/-- A rung's number, in units of the least place. -/
def un (r : Nat) : Nat := mg r * 2 ^ pl r
theorem un_low {r : Nat} (h : r < 4503599627370496) : un r = r := by
  unfold un mg pl
  have : Nat.ble 4503599627370496 r = false := ble_f (by omega)
  rw [this, cond_false, Nat.div_eq_of_lt h]
  simp
theorem un_high {l k : Nat} (h0 : 4503599627370496 ≤ k) (h1 : k ≤ 9007199254740992) : un (l * 4503599627370496 + k) = k * 2 ^ l := by
  unfold un mg pl
  have : Nat.ble 4503599627370496 (l * 4503599627370496 + k) = true := ble_t (by omega)
  rw [this, cond_true]
  rcases Nat.lt_or_ge k 9007199254740992 with h2 | h2
  · have e1 : (l * 4503599627370496 + k) % 4503599627370496 = k - 4503599627370496 := by omega
    have e2 : (l * 4503599627370496 + k) / 4503599627370496 = l + 1 := by omega
    rw [e1, e2, show 4503599627370496 + (k - 4503599627370496) = k by omega, Nat.add_sub_cancel]
  · have e1 : (l * 4503599627370496 + k) % 4503599627370496 = 0 := by omega
    have e2 : (l * 4503599627370496 + k) / 4503599627370496 = l + 2 := by omega
    rw [e1, e2, show l + 2 - 1 = l + 1 by omega, Nat.pow_succ, Nat.add_zero, Nat.mul_comm (2 ^ l) 2, ← Nat.mul_assoc, show 4503599627370496 * 2 = k by omega]

theorem p53 (d : Nat) : 2 ^ (53 + d) = 9007199254740992 * 2 ^ d := by rw [Nat.pow_add]
theorem p52 (d : Nat) : 2 ^ (52 + d) = 4503599627370496 * 2 ^ d := by rw [Nat.pow_add]
theorem low_few {L d low G rest mag : Nat} (hG : 2 ^ d = G) (hdm : G * low + rest = mag) (hhigh : mag < 2 ^ (L + 1)) (h3 : L + 1 ≤ 53 + d) : low < 9007199254740992 := by
  have a1 : 2 ^ (L + 1) ≤ 2 ^ (53 + d) := Nat.pow_le_pow_right (by omega) h3
  rw [p53, hG] at a1
  rcases Nat.lt_or_ge low 9007199254740992 with h | h
  · exact h
  · have : G * 9007199254740992 ≤ G * low := Nat.mul_le_mul_left _ h
    have c : G * 9007199254740992 = 9007199254740992 * G := Nat.mul_comm _ _
    omega
theorem low_many {d p low G rest mag : Nat} (hG : 2 ^ d = G) (hdm : G * low + rest = mag) (hml : rest < G) (h : 2 ^ (p + d) * 4503599627370496 ≤ mag * 2 ^ p) : 4503599627370496 ≤ low := by
  rw [Nat.pow_add, hG, Nat.mul_assoc, Nat.mul_comm (2 ^ p)] at h
  have h' := Nat.le_of_mul_le_mul_right h (Nat.two_pow_pos p)
  rcases Nat.lt_or_ge low 4503599627370496 with h2 | h2
  · exfalso
    have h3 := Nat.mul_le_mul_left G (Nat.succ_le_of_lt h2)
    rw [Nat.succ_eq_add_one, Nat.mul_add, Nat.mul_one] at h3
    omega
  · exact h2
theorem min_of_lt {a b : Nat} (h : min a b < b) : min a b = a := by
  rcases Nat.lt_or_ge a b with h1 | h1
  · exact Nat.min_eq_left (Nat.le_of_lt h1)
  · rw [Nat.min_eq_right h1] at h; exact absurd h (Nat.lt_irrefl _)
theorem rnd_zero (p b : Nat) : rnd 0 p b = 0 := rfl
/-- What rounding does: a rung of so many digits, off by no more than half of the last one. -/
theorem rnd_form {mag p b : Nat} (h0 : mag ≠ 0) : ∃ l k, rnd mag p b = min (l * 4503599627370496 + k) infR ∧ k ≤ 9007199254740992 ∧ (l = 0 ∨ 4503599627370496 ≤ k) ∧ l = p + mag.log2 - (b + 52) ∧
    2 * (k * 2 ^ (l + b)) ≤ 2 * (mag * 2 ^ p) + 2 ^ (l + b) ∧ 2 * (mag * 2 ^ p) ≤ 2 * (k * 2 ^ (l + b)) + 2 ^ (l + b) ∧ (l = 0 ∨ 2 ^ (l + b) * 4503599627370496 ≤ mag * 2 ^ p) := by
  have hlow := Nat.log2_self_le h0
  have hhigh := Nat.lt_log2_self (n := mag)
  unfold rnd
  have hb0 : Nat.beq mag 0 = false := beq_f h0
  rw [hb0, cond_false]
  obtain ⟨L, hL⟩ : ∃ L, mag.log2 = L := ⟨_, rfl⟩
  rw [hL] at hlow hhigh ⊢
  obtain ⟨l, hl⟩ : ∃ l, p + L - (b + 52) = l := ⟨_, rfl⟩
  rw [hl]
  have hl0 : l = 0 ∨ 2 ^ (l + b) * 4503599627370496 ≤ mag * 2 ^ p := by
    rcases Nat.eq_zero_or_pos l with h | h
    · exact .inl h
    · right
      have e : 2 ^ (l + b) * 4503599627370496 = 2 ^ L * 2 ^ p := by
        rw [Nat.mul_comm, ← p52, ← Nat.pow_add, show 52 + (l + b) = L + p by omega]
      rw [e]
      exact Nat.mul_le_mul_right _ hlow
  by_cases hle : l + b ≤ p
  · have hb1 : Nat.ble (l + b) p = true := ble_t hle
    rw [hb1, cond_true]
    have e1 : mag * 2 ^ (p - (l + b)) * 2 ^ (l + b) = mag * 2 ^ p := by rw [Nat.mul_assoc, ← Nat.pow_add]; congr 2; omega
    have hk1 : mag * 2 ^ (p - (l + b)) < 9007199254740992 := by
      have a1 : mag * 2 ^ (p - (l + b)) < 2 ^ (L + 1) * 2 ^ (p - (l + b)) := Nat.mul_lt_mul_of_pos_right hhigh (Nat.two_pow_pos _)
      have a2 : 2 ^ (L + 1) * 2 ^ (p - (l + b)) ≤ 2 ^ (53 + 0) := by rw [← Nat.pow_add]; exact Nat.pow_le_pow_right (by omega) (by omega)
      rw [p53] at a2
      omega
    have hk2 : l = 0 ∨ 4503599627370496 ≤ mag * 2 ^ (p - (l + b)) := by
      rcases hl0 with h2 | h2
      · exact .inl h2
      · right
        rw [← e1] at h2
        have h3 : 2 ^ (l + b) * 4503599627370496 ≤ 2 ^ (l + b) * (mag * 2 ^ (p - (l + b))) := by rw [Nat.mul_comm (2 ^ (l + b)) (mag * _)]; exact h2
        exact Nat.le_of_mul_le_mul_left h3 (Nat.two_pow_pos _)
    exact ⟨l, mag * 2 ^ (p - (l + b)), rfl, Nat.le_of_lt hk1, hk2, rfl, by rw [e1]; exact Nat.le_add_right _ _, by rw [e1]; exact Nat.le_add_right _ _, hl0⟩
  · have hb1 : Nat.ble (l + b) p = false := ble_f hle
    rw [hb1, cond_false]
    dsimp only
    obtain ⟨d, hd⟩ : ∃ d, l + b = p + d := ⟨l + b - p, by omega⟩
    have hLd : L + 1 ≤ 53 + d := by clear hl0 hlow hhigh; omega
    rw [show l + b - p = d by omega]
    obtain ⟨up, hup, hup1⟩ : ∃ up : Nat, (bif (Nat.blt (2 ^ d) (2 * (mag % 2 ^ d))) || (Nat.beq (2 ^ d) (2 * (mag % 2 ^ d)) && Nat.beq (mag / 2 ^ d % 2) 1) then 1 else 0) = up ∧ ((up = 1 ∧ 2 ^ d ≤ 2 * (mag % 2 ^ d)) ∨ (up = 0 ∧ 2 * (mag % 2 ^ d) ≤ 2 ^ d)) := by
      refine ⟨_, rfl, ?_⟩
      rw [blt_eq, beq_eq, beq_eq]
      rcases Nat.lt_trichotomy (2 ^ d) (2 * (mag % 2 ^ d)) with h1 | h1 | h1
      · left
        rw [decide_eq_true h1]
        exact ⟨rfl, by omega⟩
      · rw [decide_eq_false (by omega), decide_eq_true h1]
        by_cases h2 : mag / 2 ^ d % 2 = 1
        · left; rw [decide_eq_true h2]; exact ⟨rfl, by omega⟩
        · right; rw [decide_eq_false h2]; exact ⟨rfl, by omega⟩
      · right
        rw [decide_eq_false (by omega), decide_eq_false (by omega)]
        exact ⟨rfl, by omega⟩
    rw [hup]
    have hdm := Nat.div_add_mod mag (2 ^ d)
    have hml := Nat.mod_lt mag (Nat.two_pow_pos d)
    generalize mag / 2 ^ d = low at hdm ⊢
    generalize mag % 2 ^ d = rest at hup1 hdm hml
    generalize hG : 2 ^ d = G at hdm hup1 hml
    have hk1 : low < 9007199254740992 := low_few hG hdm hhigh hLd
    have hk2 : l = 0 ∨ 4503599627370496 ≤ low := by
      rcases hl0 with h | h
      · exact .inl h
      · right
        exact low_many hG hdm hml (by rw [hd] at h; exact h)
    have hupl : up ≤ 1 := by rcases hup1 with ⟨h, _⟩ | ⟨h, _⟩ <;> omega
    have e1 : 2 * ((low + up) * (2 ^ p * G)) = (2 * ((low + up) * G)) * 2 ^ p := by ac_rfl
    have e2 : 2 * (mag * 2 ^ p) + 2 ^ p * G = (2 * mag + G) * 2 ^ p := by rw [Nat.add_mul, Nat.mul_assoc, Nat.mul_comm (2 ^ p) G]
    have e3 : 2 * ((low + up) * (2 ^ p * G)) + 2 ^ p * G = (2 * ((low + up) * G) + G) * 2 ^ p := by rw [e1, Nat.mul_comm (2 ^ p) G]; exact (Nat.add_mul _ _ _).symm
    have e4 : 2 * (mag * 2 ^ p) = (2 * mag) * 2 ^ p := by ac_rfl
    have e5 : (low + up) * G = G * low + up * G := by rw [Nat.add_mul, Nat.mul_comm]
    refine ⟨l, low + up, rfl, by clear hup1 hdm hml; omega, by clear hup1 hdm hml; omega, rfl, ?_, ?_, hl0⟩
    · rw [hd, Nat.pow_add, hG, e1, e2]
      refine Nat.mul_le_mul_right _ ?_
      rw [e5]
      rcases hup1 with ⟨rfl, h⟩ | ⟨rfl, h⟩ <;> omega
    · rw [hd, Nat.pow_add, hG, e3, e4]
      refine Nat.mul_le_mul_right _ ?_
      rw [e5]
      rcases hup1 with ⟨rfl, h⟩ | ⟨rfl, h⟩ <;> omega

/-- Below infinity the number differs by no more than half of the last place. -/
theorem rnd_near {mag p b : Nat} (h0 : mag ≠ 0) (hf : rnd mag p b < infR) : ∃ l k, un (rnd mag p b) = k * 2 ^ l ∧ 2 * (k * 2 ^ (l + b)) ≤ 2 * (mag * 2 ^ p) + 2 ^ (l + b) ∧ 2 * (mag * 2 ^ p) ≤ 2 * (k * 2 ^ (l + b)) + 2 ^ (l + b) ∧
    (l = 0 ∨ 2 ^ (l + b) * 4503599627370496 ≤ mag * 2 ^ p) := by
  obtain ⟨l, k, e, k1, k2, _, i1, i2, i3⟩ := rnd_form (p := p) (b := b) h0
  rw [e] at hf
  have hmin := min_of_lt hf
  rw [e, hmin]
  refine ⟨l, k, ?_, i1, i2, i3⟩
  rcases Nat.lt_or_ge k 4503599627370496 with h | h
  · rcases k2 with h2 | h2
    · rw [h2, Nat.zero_mul, Nat.zero_add, un_low h, Nat.pow_zero, Nat.mul_one]
    · exact absurd h (Nat.not_lt.2 h2)
  · exact un_high h k1
theorem rnd_fin {mag p b : Nat} (h : mag = 0 ∨ p + mag.log2 < b + 2000) : rnd mag p b < infR := by
  by_cases h0 : mag = 0
  · subst h0; rw [rnd_zero]; decide
  · obtain ⟨l, k, e, k1, _, hl, _⟩ := rnd_form (p := p) (b := b) h0
    rw [e]
    have hl2 : l < 2000 := by rcases h with h | h; exact absurd h h0; omega
    refine Nat.lt_of_le_of_lt (Nat.min_le_left _ _) ?_
    unfold infR
    omega

end Go.Proofs.YtnjmefjcaiepfaaDoor.WaveP
