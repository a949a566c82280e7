/- Words of doubles: what rounding to a word does, in whole numbers.
  Doubles as rational numbers: what the operations give, and how near.
  Sums and products of doubles: the words, and how near they are.
  How near sums and products of doubles are.
  Quotients of doubles, and whole numbers as doubles.
  The program's sine and cosine over words, and a near root of one.
  Complex numbers over the rationals, and bounds of their size.
  The transform by exact sums, over any near roots of one.
  Products of transforms, and the way back. -/
import Ieee.Arith
namespace Go.Proofs.YtblkejnckbeieaaGreatDoor.WaveP

abbrev fmt : Ieee.Format := Ieee.double
/-- The rung of infinity. -/
def infR : Nat := 9218868437227405312
/-- The rung of mag * 2^(p - b), counted in units of the least place. -/
def rnd (mag p b : Nat) : Nat :=
  bif Nat.beq mag 0 then 0 else
  bif Nat.ble (p + Nat.log2 mag - (b + 52) + b) p then min ((p + Nat.log2 mag - (b + 52)) * 4503599627370496 + mag * 2 ^ (p - (p + Nat.log2 mag - (b + 52) + b))) infR
  else
    let last := p + Nat.log2 mag - (b + 52)
    let gap := 2 ^ (last + b - p)
    let low := mag / gap
    let rest := mag % gap
    min (last * 4503599627370496 + (low + (bif (Nat.blt gap (2 * rest)) || (Nat.beq gap (2 * rest) && Nat.beq (low % 2) 1) then 1 else 0))) infR

theorem blt_eq (a b : Nat) : Nat.blt a b = decide (a < b) := by
  rw [Bool.eq_iff_iff, decide_eq_true_iff]
  show Nat.ble (a + 1) b = true ↔ _
  rw [Nat.ble_eq]
  exact Iff.rfl
theorem beq_eq (a b : Nat) : Nat.beq a b = decide (a = b) := by
  rw [Bool.eq_iff_iff, decide_eq_true_iff]
  exact ⟨Nat.eq_of_beq_eq_true, fun h => by rw [h]; exact Nat.beq_refl b⟩
theorem ble_eq (a b : Nat) : Nat.ble a b = decide (a ≤ b) := by
  rw [Bool.eq_iff_iff, decide_eq_true_iff, Nat.ble_eq]
theorem ble_t {a b : Nat} (h : a ≤ b) : Nat.ble a b = true := by rw [ble_eq, decide_eq_true h]
theorem ble_f {a b : Nat} (h : ¬ a ≤ b) : Nat.ble a b = false := by rw [ble_eq, decide_eq_false h]
theorem blt_t {a b : Nat} (h : a < b) : Nat.blt a b = true := by rw [blt_eq, decide_eq_true h]
theorem blt_f {a b : Nat} (h : ¬ a < b) : Nat.blt a b = false := by rw [blt_eq, decide_eq_false h]
theorem beq_t {a b : Nat} (h : a = b) : Nat.beq a b = true := by rw [beq_eq, decide_eq_true h]
theorem beq_f {a b : Nat} (h : ¬ a = b) : Nat.beq a b = false := by rw [beq_eq, decide_eq_false h]
theorem toNat_bif (a : Bool) : a.toNat = bif a then 1 else 0 := by cases a <;> rfl
theorem cut_zero (neg : Bool) (n : Nat) : Ieee.Toward.even.cut neg n 0 = n := by
  unfold Ieee.Toward.cut
  simp [Nat.mod_one]
theorem cut_some (neg : Bool) (n d : Nat) (hd : d ≤ n.log2 + 2) : Ieee.Toward.even.cut neg n d = n / 2 ^ d + (bif (Nat.blt (2 ^ d) (2 * (n % 2 ^ d))) || (Nat.beq (2 ^ d) (2 * (n % 2 ^ d)) && Nat.beq (n / 2 ^ d % 2) 1) then 1 else 0) := by
  unfold Ieee.Toward.cut
  simp only [Nat.min_eq_left hd, Nat.one_shiftLeft, toNat_bif]
  congr 2
  rw [blt_eq, beq_eq, beq_eq]
  rfl
/-- Past so many digits the whole is dropped. -/
theorem cut_far (neg : Bool) (n d : Nat) (hd : n.log2 + 2 < d) : Ieee.Toward.even.cut neg n d = 0 := by
  unfold Ieee.Toward.cut
  have h1 := Nat.lt_log2_self (n := n)
  have h2 : (2 : Nat) ^ (n.log2 + 2) = 2 ^ (n.log2 + 1) * 2 := Nat.pow_succ ..
  simp only [Nat.min_eq_right (Nat.le_of_lt hd), Nat.one_shiftLeft, toNat_bif]
  have h3 : n / 2 ^ (n.log2 + 2) = 0 := Nat.div_eq_of_lt (by omega)
  have h4 : n % 2 ^ (n.log2 + 2) = n := Nat.mod_eq_of_lt (by omega)
  rw [h3, h4]
  have h5 : (2 ^ (n.log2 + 2) < 2 * n) = False := by simp; omega
  simp [h5]
theorem last_eq (place : Int) (p b L : Nat) (h : place = (p : Int) - b - 1074) : max (place + (L : Int) - (52 : Int)) (-1074) = ((p + L - (b + 52) : Nat) : Int) - 1074 := by omega
theorem nearest_eq (neg : Bool) (mag p b : Nat) (place : Int) (h : place = (p : Int) - b - 1074) : fmt.nearest neg mag place = fmt.word neg (rnd mag p b) := by
  unfold Ieee.Format.nearest rnd
  by_cases h0 : mag = 0
  · subst h0; simp
  · have hb0 : Nat.beq mag 0 = false := beq_f h0
    rw [if_neg h0, hb0, cond_false]
    obtain ⟨L, hL⟩ : ∃ L, mag.log2 = L := ⟨_, rfl⟩
    have hlast : max (place + (mag.log2 : Int) - (fmt.fractionBits : Nat)) fmt.leastPlace = ((p + L - (b + 52) : Nat) : Int) - 1074 := by
      rw [hL]
      exact last_eq place p b L h
    have e1 : (fmt.leastPlace) = -1074 := rfl
    have e2 : fmt.binade = 4503599627370496 := rfl
    have e3 : fmt.infRung = infR := by decide +kernel
    rw [hlast, e1, e2, e3, hL]
    obtain ⟨l, hl⟩ : ∃ l, p + L - (b + 52) = l := ⟨_, rfl⟩
    rw [hl]
    have e4 : ((l : Int) - 1074 - -1074).toNat = l := by omega
    dsimp only
    rw [e4]
    by_cases hle : l + b ≤ p
    · have hb1 : Nat.ble (l + b) p = true := ble_t hle
      rw [hb1, cond_true]
      rw [show (place - ((l : Int) - 1074)).toNat = p - (l + b) by omega, show ((l : Int) - 1074 - place).toNat = 0 by omega, cut_zero, Nat.shiftLeft_eq]
    · have hb1 : Nat.ble (l + b) p = false := ble_f hle
      rw [hb1, cond_false]
      rw [show (place - ((l : Int) - 1074)).toNat = 0 by omega, show ((l : Int) - 1074 - place).toNat = l + b - p by omega, Nat.shiftLeft_zero]
      by_cases hd : l + b - p ≤ mag.log2 + 2
      · rw [cut_some neg mag _ hd]
      · rw [cut_far neg mag _ (by omega)]
        have hlt := Nat.lt_log2_self (n := mag)
        have hp : 2 ^ (mag.log2 + 2) ≤ 2 ^ (l + b - p) := Nat.pow_le_pow_right (by omega) (by omega)
        have h2 : (2 : Nat) ^ (mag.log2 + 2) = 2 ^ (mag.log2 + 1) * 2 := Nat.pow_succ ..
        have h3 : mag / 2 ^ (l + b - p) = 0 := Nat.div_eq_of_lt (by omega)
        have h4 : mag % 2 ^ (l + b - p) = mag := Nat.mod_eq_of_lt (by omega)
        rw [h3, h4]
        have h5 : Nat.blt (2 ^ (l + b - p)) (2 * mag) = false := blt_f (by omega)
        have h6 : Nat.beq (2 ^ (l + b - p)) (2 * mag) = false := beq_f (by omega)
        rw [h5, h6]
        simp

/-- A rung's digits, and its place above the least. -/
def mg (r : Nat) : Nat := bif Nat.ble 4503599627370496 r then 4503599627370496 + r % 4503599627370496 else r
def pl (r : Nat) : Nat := r / 4503599627370496 - 1
/-- A rung's number, in units of the least place. -/
def un (r : Nat) : Nat := mg r * 2 ^ pl r
theorem un_low {r : Nat} (h : r < 4503599627370496) : un r = r := by
  unfold un mg pl
  have : Nat.ble 4503599627370496 r = false := ble_f (by omega)
  rw [this, cond_false, Nat.div_eq_of_lt h]
  simp
theorem un_high {l k : Nat} (h0 : 4503599627370496 ≤ k) (h1 : k ≤ 9007199254740992) : un (l * 4503599627370496 + k) = k * 2 ^ l := by
  unfold un mg pl
  have : Nat.ble 4503599627370496 (l * 4503599627370496 + k) = true := ble_t (by omega)
  rw [this, cond_true]
  rcases Nat.lt_or_ge k 9007199254740992 with h2 | h2
  · have e1 : (l * 4503599627370496 + k) % 4503599627370496 = k - 4503599627370496 := by omega
    have e2 : (l * 4503599627370496 + k) / 4503599627370496 = l + 1 := by omega
    rw [e1, e2, show 4503599627370496 + (k - 4503599627370496) = k by omega, Nat.add_sub_cancel]
  · have e1 : (l * 4503599627370496 + k) % 4503599627370496 = 0 := by omega
    have e2 : (l * 4503599627370496 + k) / 4503599627370496 = l + 2 := by omega
    rw [e1, e2, show l + 2 - 1 = l + 1 by omega, Nat.pow_succ, Nat.add_zero, Nat.mul_comm (2 ^ l) 2, ← Nat.mul_assoc, show 4503599627370496 * 2 = k by omega]

theorem p53 (d : Nat) : 2 ^ (53 + d) = 9007199254740992 * 2 ^ d := by rw [Nat.pow_add]
theorem p52 (d : Nat) : 2 ^ (52 + d) = 4503599627370496 * 2 ^ d := by rw [Nat.pow_add]
theorem low_few {L d low G rest mag : Nat} (hG : 2 ^ d = G) (hdm : G * low + rest = mag) (hhigh : mag < 2 ^ (L + 1)) (h3 : L + 1 ≤ 53 + d) : low < 9007199254740992 := by
  have a1 : 2 ^ (L + 1) ≤ 2 ^ (53 + d) := Nat.pow_le_pow_right (by omega) h3
  rw [p53, hG] at a1
  rcases Nat.lt_or_ge low 9007199254740992 with h | h
  · exact h
  · have : G * 9007199254740992 ≤ G * low := Nat.mul_le_mul_left _ h
    have c : G * 9007199254740992 = 9007199254740992 * G := Nat.mul_comm _ _
    omega
theorem low_many {d p low G rest mag : Nat} (hG : 2 ^ d = G) (hdm : G * low + rest = mag) (hml : rest < G) (h : 2 ^ (p + d) * 4503599627370496 ≤ mag * 2 ^ p) : 4503599627370496 ≤ low := by
  rw [Nat.pow_add, hG, Nat.mul_assoc, Nat.mul_comm (2 ^ p)] at h
  have h' := Nat.le_of_mul_le_mul_right h (Nat.two_pow_pos p)
  rcases Nat.lt_or_ge low 4503599627370496 with h2 | h2
  · exfalso
    have h3 := Nat.mul_le_mul_left G (Nat.succ_le_of_lt h2)
    rw [Nat.succ_eq_add_one, Nat.mul_add, Nat.mul_one] at h3
    omega
  · exact h2
theorem min_of_lt {a b : Nat} (h : min a b < b) : min a b = a := by
  rcases Nat.lt_or_ge a b with h1 | h1
  · exact Nat.min_eq_left (Nat.le_of_lt h1)
  · rw [Nat.min_eq_right h1] at h; exact absurd h (Nat.lt_irrefl _)
theorem rnd_zero (p b : Nat) : rnd 0 p b = 0 := rfl
/-- What rounding does: a rung of so many digits, off by no more than half of the last one. -/
theorem rnd_form {mag p b : Nat} (h0 : mag ≠ 0) : ∃ l k, rnd mag p b = min (l * 4503599627370496 + k) infR ∧ k ≤ 9007199254740992 ∧ (l = 0 ∨ 4503599627370496 ≤ k) ∧ l = p + mag.log2 - (b + 52) ∧
    2 * (k * 2 ^ (l + b)) ≤ 2 * (mag * 2 ^ p) + 2 ^ (l + b) ∧ 2 * (mag * 2 ^ p) ≤ 2 * (k * 2 ^ (l + b)) + 2 ^ (l + b) ∧ (l = 0 ∨ 2 ^ (l + b) * 4503599627370496 ≤ mag * 2 ^ p) := by
  have hlow := Nat.log2_self_le h0
  have hhigh := Nat.lt_log2_self (n := mag)
  unfold rnd
  have hb0 : Nat.beq mag 0 = false := beq_f h0
  rw [hb0, cond_false]
  obtain ⟨L, hL⟩ : ∃ L, mag.log2 = L := ⟨_, rfl⟩
  rw [hL] at hlow hhigh ⊢
  obtain ⟨l, hl⟩ : ∃ l, p + L - (b + 52) = l := ⟨_, rfl⟩
  rw [hl]
  have hl0 : l = 0 ∨ 2 ^ (l + b) * 4503599627370496 ≤ mag * 2 ^ p := by
    rcases Nat.eq_zero_or_pos l with h | h
    · exact .inl h
    · right
      have e : 2 ^ (l + b) * 4503599627370496 = 2 ^ L * 2 ^ p := by
        rw [Nat.mul_comm, ← p52, ← Nat.pow_add, show 52 + (l + b) = L + p by omega]
      rw [e]
      exact Nat.mul_le_mul_right _ hlow
  by_cases hle : l + b ≤ p
  · have hb1 : Nat.ble (l + b) p = true := ble_t hle
    rw [hb1, cond_true]
    have e1 : mag * 2 ^ (p - (l + b)) * 2 ^ (l + b) = mag * 2 ^ p := by rw [Nat.mul_assoc, ← Nat.pow_add]; congr 2; omega
    have hk1 : mag * 2 ^ (p - (l + b)) < 9007199254740992 := by
      have a1 : mag * 2 ^ (p - (l + b)) < 2 ^ (L + 1) * 2 ^ (p - (l + b)) := Nat.mul_lt_mul_of_pos_right hhigh (Nat.two_pow_pos _)
      have a2 : 2 ^ (L + 1) * 2 ^ (p - (l + b)) ≤ 2 ^ (53 + 0) := by rw [← Nat.pow_add]; exact Nat.pow_le_pow_right (by omega) (by omega)
      rw [p53] at a2
      omega
    have hk2 : l = 0 ∨ 4503599627370496 ≤ mag * 2 ^ (p - (l + b)) := by
      rcases hl0 with h2 | h2
      · exact .inl h2
      · right
        rw [← e1] at h2
        have h3 : 2 ^ (l + b) * 4503599627370496 ≤ 2 ^ (l + b) * (mag * 2 ^ (p - (l + b))) := by rw [Nat.mul_comm (2 ^ (l + b)) (mag * _)]; exact h2
        exact Nat.le_of_mul_le_mul_left h3 (Nat.two_pow_pos _)
    exact ⟨l, mag * 2 ^ (p - (l + b)), rfl, Nat.le_of_lt hk1, hk2, rfl, by rw [e1]; exact Nat.le_add_right _ _, by rw [e1]; exact Nat.le_add_right _ _, hl0⟩
  · have hb1 : Nat.ble (l + b) p = false := ble_f hle
    rw [hb1, cond_false]
    dsimp only
    obtain ⟨d, hd⟩ : ∃ d, l + b = p + d := ⟨l + b - p, by omega⟩
    have hLd : L + 1 ≤ 53 + d := by clear hl0 hlow hhigh; omega
    rw [show l + b - p = d by omega]
    obtain ⟨up, hup, hup1⟩ : ∃ up : Nat, (bif (Nat.blt (2 ^ d) (2 * (mag % 2 ^ d))) || (Nat.beq (2 ^ d) (2 * (mag % 2 ^ d)) && Nat.beq (mag / 2 ^ d % 2) 1) then 1 else 0) = up ∧ ((up = 1 ∧ 2 ^ d ≤ 2 * (mag % 2 ^ d)) ∨ (up = 0 ∧ 2 * (mag % 2 ^ d) ≤ 2 ^ d)) := by
      refine ⟨_, rfl, ?_⟩
      rw [blt_eq, beq_eq, beq_eq]
      rcases Nat.lt_trichotomy (2 ^ d) (2 * (mag % 2 ^ d)) with h1 | h1 | h1
      · left
        rw [decide_eq_true h1]
        exact ⟨rfl, by omega⟩
      · rw [decide_eq_false (by omega), decide_eq_true h1]
        by_cases h2 : mag / 2 ^ d % 2 = 1
        · left; rw [decide_eq_true h2]; exact ⟨rfl, by omega⟩
        · right; rw [decide_eq_false h2]; exact ⟨rfl, by omega⟩
      · right
        rw [decide_eq_false (by omega), decide_eq_false (by omega)]
        exact ⟨rfl, by omega⟩
    rw [hup]
    have hdm := Nat.div_add_mod mag (2 ^ d)
    have hml := Nat.mod_lt mag (Nat.two_pow_pos d)
    generalize mag / 2 ^ d = low at hdm ⊢
    generalize mag % 2 ^ d = rest at hup1 hdm hml
    generalize hG : 2 ^ d = G at hdm hup1 hml
    have hk1 : low < 9007199254740992 := low_few hG hdm hhigh hLd
    have hk2 : l = 0 ∨ 4503599627370496 ≤ low := by
      rcases hl0 with h | h
      · exact .inl h
      · right
        exact low_many hG hdm hml (by rw [hd] at h; exact h)
    have hupl : up ≤ 1 := by rcases hup1 with ⟨h, _⟩ | ⟨h, _⟩ <;> omega
    have e1 : 2 * ((low + up) * (2 ^ p * G)) = (2 * ((low + up) * G)) * 2 ^ p := by ac_rfl
    have e2 : 2 * (mag * 2 ^ p) + 2 ^ p * G = (2 * mag + G) * 2 ^ p := by rw [Nat.add_mul, Nat.mul_assoc, Nat.mul_comm (2 ^ p) G]
    have e3 : 2 * ((low + up) * (2 ^ p * G)) + 2 ^ p * G = (2 * ((low + up) * G) + G) * 2 ^ p := by rw [e1, Nat.mul_comm (2 ^ p) G]; exact (Nat.add_mul _ _ _).symm
    have e4 : 2 * (mag * 2 ^ p) = (2 * mag) * 2 ^ p := by ac_rfl
    have e5 : (low + up) * G = G * low + up * G := by rw [Nat.add_mul, Nat.mul_comm]
    refine ⟨l, low + up, rfl, by clear hup1 hdm hml; omega, by clear hup1 hdm hml; omega, rfl, ?_, ?_, hl0⟩
    · rw [hd, Nat.pow_add, hG, e1, e2]
      refine Nat.mul_le_mul_right _ ?_
      rw [e5]
      rcases hup1 with ⟨rfl, h⟩ | ⟨rfl, h⟩ <;> omega
    · rw [hd, Nat.pow_add, hG, e3, e4]
      refine Nat.mul_le_mul_right _ ?_
      rw [e5]
      rcases hup1 with ⟨rfl, h⟩ | ⟨rfl, h⟩ <;> omega

/-- Below infinity the number differs by no more than half of the last place. -/
theorem rnd_near {mag p b : Nat} (h0 : mag ≠ 0) (hf : rnd mag p b < infR) : ∃ l k, un (rnd mag p b) = k * 2 ^ l ∧ 2 * (k * 2 ^ (l + b)) ≤ 2 * (mag * 2 ^ p) + 2 ^ (l + b) ∧ 2 * (mag * 2 ^ p) ≤ 2 * (k * 2 ^ (l + b)) + 2 ^ (l + b) ∧
    (l = 0 ∨ 2 ^ (l + b) * 4503599627370496 ≤ mag * 2 ^ p) := by
  obtain ⟨l, k, e, k1, k2, _, i1, i2, i3⟩ := rnd_form (p := p) (b := b) h0
  rw [e] at hf
  have hmin := min_of_lt hf
  rw [e, hmin]
  refine ⟨l, k, ?_, i1, i2, i3⟩
  rcases Nat.lt_or_ge k 4503599627370496 with h | h
  · rcases k2 with h2 | h2
    · rw [h2, Nat.zero_mul, Nat.zero_add, un_low h, Nat.pow_zero, Nat.mul_one]
    · exact absurd h (Nat.not_lt.2 h2)
  · exact un_high h k1
theorem rnd_fin {mag p b : Nat} (h : mag = 0 ∨ p + mag.log2 < b + 2000) : rnd mag p b < infR := by
  by_cases h0 : mag = 0
  · subst h0; rw [rnd_zero]; decide
  · obtain ⟨l, k, e, k1, _, hl, _⟩ := rnd_form (p := p) (b := b) h0
    rw [e]
    have hl2 : l < 2000 := by rcases h with h | h; exact absurd h h0; omega
    refine Nat.lt_of_le_of_lt (Nat.min_le_left _ _) ?_
    unfold infR
    omega

end Go.Proofs.YtblkejnckbeieaaGreatDoor.WaveP

namespace Go.Proofs.YtblkejnckbeieaaGreatDoor.WaveP

def sg (w : Nat) : Bool := Nat.ble 9223372036854775808 w
def rg (w : Nat) : Nat := w % 9223372036854775808
/-- A word of a number. -/
def fin (w : Nat) : Bool := Nat.blt w 18446744073709551616 && Nat.blt (rg w) infR
def wd (neg : Bool) (r : Nat) : Nat := bif neg then 9223372036854775808 + r else r
theorem fin_iff {w : Nat} : fin w = true ↔ w < 18446744073709551616 ∧ rg w < infR := by
  unfold fin; rw [blt_eq, blt_eq]; simp
theorem sg_wd {neg : Bool} {r : Nat} (h : r < infR) : sg (wd neg r) = neg := by
  unfold infR at h
  cases neg
  · exact ble_f (by show ¬ _ ≤ r; omega)
  · exact ble_t (by show _ ≤ _ + r; omega)
theorem rg_wd {neg : Bool} {r : Nat} (h : r < infR) : rg (wd neg r) = r := by
  unfold infR at h
  cases neg
  · show r % _ = r; omega
  · show (_ + r) % _ = r; omega
theorem fin_wd {neg : Bool} {r : Nat} (h : r < infR) : fin (wd neg r) = true := by
  rw [fin_iff, rg_wd h]
  unfold infR at h ⊢
  refine ⟨?_, h⟩
  cases neg
  · show r < _; omega
  · show _ + r < _; omega
theorem word_wd (neg : Bool) (r : Nat) : fmt.word neg r = wd neg r := by cases neg <;> rfl
theorem read_fin {w : Nat} (h : fin w = true) : fmt.read w = .number (sg w) (mg (rg w)) ((pl (rg w) : Int) - 1074) := by
  obtain ⟨h1, h2⟩ := fin_iff.1 h
  unfold Ieee.Format.read
  have e1 : fmt.signWeight = 9223372036854775808 := by decide +kernel
  have e2 : fmt.binade = 4503599627370496 := by decide +kernel
  have e3 : fmt.infRung = infR := by decide +kernel
  have e4 : fmt.leastPlace = -1074 := rfl
  dsimp only
  rw [e1, e2, e3, e4]
  have hs : (w / 9223372036854775808 % 2 == 1) = sg w := by
    unfold sg
    rw [ble_eq, Bool.eq_iff_iff, decide_eq_true_iff, beq_iff_eq]
    omega
  rw [hs]
  show (if rg w < _ then _ else _) = _
  by_cases hl : rg w < 4503599627370496
  · rw [if_pos hl]
    have : mg (rg w) = rg w := by unfold mg; rw [ble_f (by omega), cond_false]
    have hp : pl (rg w) = 0 := by unfold pl; omega
    rw [this, hp]
    rfl
  · rw [if_neg hl]
    show (if rg w < infR then _ else _) = _
    rw [if_pos h2]
    have : mg (rg w) = 4503599627370496 + rg w % 4503599627370496 := by unfold mg; rw [ble_t (by omega), cond_true]
    rw [this]
    have hp : (-1074 : Int) + ((rg w / 4503599627370496 - 1 : Nat) : Int) = (pl (rg w) : Int) - 1074 := by unfold pl; omega
    rw [← hp]
    rfl

/-- The least place. -/
def c74 : Nat := 1074
def e0 : Rat := 1 / ((2 ^ c74 : Nat) : Rat)
def sn (b : Bool) : Rat := if b then -1 else 1
def val (w : Nat) : Rat := sn (sg w) * ((un (rg w) : Nat) : Rat) * e0

theorem pw_pos (n : Nat) : (0 : Rat) < ((2 ^ n : Nat) : Rat) := by exact_mod_cast Nat.two_pow_pos n
theorem inv_pos {a : Rat} (h : 0 < a) : 0 < 1 / a := by
  rw [Rat.div_def, Rat.one_mul]
  exact Rat.inv_pos.2 h
theorem e0_pos : 0 < e0 := inv_pos (pw_pos _)
theorem e0_mul : e0 * ((2 ^ c74 : Nat) : Rat) = 1 := Rat.div_mul_cancel (Rat.ne_of_gt (pw_pos c74))
theorem mul_le_cancel {a b c : Rat} (hc : 0 < c) (h : a * c ≤ b * c) : a ≤ b := by
  rcases Rat.le_total (a := a) (b := b) with h1 | h1
  · exact h1
  · rcases Rat.le_total (a := c * (a - b)) (b := 0) with h2 | h2
    · have h3 : 0 ≤ c * (a - b) := Rat.mul_nonneg (Rat.le_of_lt hc) (by grind)
      have h4 : c * (a - b) = 0 := by grind
      rcases Rat.mul_eq_zero.1 h4 with h5 | h5
      · rw [h5] at hc; exact absurd hc (Rat.lt_irrefl)
      · grind
    · have h4 : c * (a - b) = 0 := by grind
      rcases Rat.mul_eq_zero.1 h4 with h5 | h5
      · rw [h5] at hc; exact absurd hc (Rat.lt_irrefl)
      · grind

/-- The rounded number and the true one, in units of the least place. -/
theorem rnd_val {mag p b : Nat} {q : Rat} (hq : q * ((2 ^ b : Nat) : Rat) = (mag : Rat) * ((2 ^ p : Nat) : Rat)) (hf : rnd mag p b < infR) :
    0 ≤ q ∧ ((un (rnd mag p b) : Nat) : Rat) - q ≤ q / 9007199254740992 + 1 / 2 ∧ q - ((un (rnd mag p b) : Nat) : Rat) ≤ q / 9007199254740992 + 1 / 2 := by
  have hB := pw_pos b
  have hm : (0 : Rat) ≤ (mag : Rat) := by exact_mod_cast Nat.zero_le mag
  have hq0 : 0 ≤ q := by
    refine mul_le_cancel hB ?_
    rw [hq]
    have := Rat.mul_nonneg hm (Rat.le_of_lt (pw_pos p))
    grind
  refine ⟨hq0, ?_⟩
  by_cases h0 : mag = 0
  · subst h0
    have : q = 0 := by
      have h1 : q * ((2 ^ b : Nat) : Rat) = 0 := by rw [hq]; simp
      rcases Rat.mul_eq_zero.1 h1 with h2 | h2
      · exact h2
      · exact absurd h2 (Rat.ne_of_gt hB)
    subst this
    rw [rnd_zero, un_low (by decide)]
    exact ⟨by decide +kernel, by decide +kernel⟩
  · obtain ⟨l, k, e, i1, i2, i3⟩ := rnd_near h0 hf
    rw [e]
    have c1 : 2 * (((k * 2 ^ l : Nat) : Rat) * ((2 ^ b : Nat) : Rat)) ≤ 2 * (q * ((2 ^ b : Nat) : Rat)) + ((2 ^ l : Nat) : Rat) * ((2 ^ b : Nat) : Rat) := by
      rw [hq]
      have i1' : 2 * (k * 2 ^ l * 2 ^ b) ≤ 2 * (mag * 2 ^ p) + 2 ^ l * 2 ^ b := by rw [Nat.mul_assoc k, ← Nat.pow_add]; exact i1
      exact_mod_cast i1'
    have c2 : 2 * (q * ((2 ^ b : Nat) : Rat)) ≤ 2 * (((k * 2 ^ l : Nat) : Rat) * ((2 ^ b : Nat) : Rat)) + ((2 ^ l : Nat) : Rat) * ((2 ^ b : Nat) : Rat) := by
      rw [hq]
      have i2' : 2 * (mag * 2 ^ p) ≤ 2 * (k * 2 ^ l * 2 ^ b) + 2 ^ l * 2 ^ b := by rw [Nat.mul_assoc k, ← Nat.pow_add]; exact i2
      exact_mod_cast i2'
    have c3 : ((2 ^ l : Nat) : Rat) ≤ q / 4503599627370496 + 1 := by
      rcases i3 with h | h
      · subst h
        have : ((2 ^ 0 : Nat) : Rat) = 1 := by simp
        rw [this]
        grind
      · refine mul_le_cancel hB ?_
        have h' : (((2 ^ l : Nat) : Rat) * ((2 ^ b : Nat) : Rat)) * 4503599627370496 ≤ q * ((2 ^ b : Nat) : Rat) := by
          rw [hq]
          rw [Nat.pow_add] at h
          exact_mod_cast h
        grind
    generalize ((k * 2 ^ l : Nat) : Rat) = X at c1 c2 ⊢
    generalize ((2 ^ l : Nat) : Rat) = L at c1 c2 c3
    have d1 : 2 * X ≤ 2 * q + L := mul_le_cancel hB (by grind)
    have d2 : 2 * q ≤ 2 * X + L := mul_le_cancel hB (by grind)
    constructor <;> grind

end Go.Proofs.YtblkejnckbeieaaGreatDoor.WaveP

namespace Go.Proofs.YtblkejnckbeieaaGreatDoor.WaveP

def mulN (x y : Nat) : Nat := wd (sg x ^^ sg y) (rnd (mg (rg x) * mg (rg y)) (pl (rg x) + pl (rg y)) c74)
def addS (s : Bool) (r1 : Nat) (t : Bool) (r2 : Nat) : Nat :=
  bif s == t then wd s (rnd (mg r1 * 2 ^ (pl r1 - min (pl r1) (pl r2)) + mg r2 * 2 ^ (pl r2 - min (pl r1) (pl r2))) (min (pl r1) (pl r2)) 0)
  else bif Nat.ble (mg r1 * 2 ^ (pl r1 - min (pl r1) (pl r2))) (mg r2 * 2 ^ (pl r2 - min (pl r1) (pl r2))) then
    bif Nat.beq (mg r1 * 2 ^ (pl r1 - min (pl r1) (pl r2))) (mg r2 * 2 ^ (pl r2 - min (pl r1) (pl r2))) then wd false 0
    else wd t (rnd (mg r2 * 2 ^ (pl r2 - min (pl r1) (pl r2)) - mg r1 * 2 ^ (pl r1 - min (pl r1) (pl r2))) (min (pl r1) (pl r2)) 0)
  else wd s (rnd (mg r1 * 2 ^ (pl r1 - min (pl r1) (pl r2)) - mg r2 * 2 ^ (pl r2 - min (pl r1) (pl r2))) (min (pl r1) (pl r2)) 0)
def addN (x y : Nat) : Nat := addS (sg x) (rg x) (sg y) (rg y)
def subN (x y : Nat) : Nat := addS (sg x) (rg x) (!sg y) (rg y)

theorem mul_eq {x y : Nat} (hx : fin x = true) (hy : fin y = true) : fmt.mul x y = some (mulN x y) := by
  unfold Ieee.Format.mul
  rw [read_fin hx, read_fin hy]
  show some (fmt.nearest (sg x ^^ sg y) (mg (rg x) * mg (rg y)) (((pl (rg x) : Int) - 1074) + ((pl (rg y) : Int) - 1074))) = _
  rw [nearest_eq (p := pl (rg x) + pl (rg y)) (b := c74) _ _ _ (by unfold c74; omega), word_wd]
  rfl
theorem sum_eq (s : Bool) (r1 : Nat) (t : Bool) (r2 : Nat) :
    ((Ieee.Datum.number s (mg r1) ((pl r1 : Int) - 1074)).sum (.number t (mg r2) ((pl r2 : Int) - 1074))).map fmt.write = some (addS s r1 t r2) := by
  unfold Ieee.Datum.sum addS
  obtain ⟨p, hp⟩ : ∃ p, min (pl r1) (pl r2) = p := ⟨_, rfl⟩
  have hb : min ((pl r1 : Int) - 1074) ((pl r2 : Int) - 1074) = (p : Int) - 1074 := by omega
  have e1 : ((pl r1 : Int) - 1074 - ((p : Int) - 1074)).toNat = pl r1 - p := by omega
  have e2 : ((pl r2 : Int) - 1074 - ((p : Int) - 1074)).toNat = pl r2 - p := by omega
  dsimp only
  rw [hb, e1, e2, hp]
  obtain ⟨a, ha⟩ : ∃ a, mg r1 * 2 ^ (pl r1 - p) = a := ⟨_, rfl⟩
  obtain ⟨b, hbb⟩ : ∃ b, mg r2 * 2 ^ (pl r2 - p) = b := ⟨_, rfl⟩
  have s1 : Ieee.signed s (mg r1) (pl r1 - p) = if s then -(a : Int) else a := by unfold Ieee.signed; rw [Nat.shiftLeft_eq, ha]
  have s2 : Ieee.signed t (mg r2) (pl r2 - p) = if t then -(b : Int) else b := by unfold Ieee.signed; rw [Nat.shiftLeft_eq, hbb]
  rw [s1, s2, ha, hbb]
  have key : ∀ (neg : Bool) (m : Nat), (some (Ieee.Datum.number neg m ((p : Int) - 1074))).map fmt.write = some (wd neg (rnd m p 0)) := fun neg m => by
    show some (fmt.nearest neg m ((p : Int) - 1074)) = _
    rw [nearest_eq (p := p) (b := 0) _ _ _ (by omega), word_wd]
  rw [key]
  congr 1
  clear ha hbb s1 s2 e1 e2 hb hp
  obtain ⟨T, hT⟩ : ∃ T : Int, (if s = true then -(a : Int) else a) + (if t = true then -(b : Int) else b) = T := ⟨_, rfl⟩
  rw [hT]
  have fin' : ∀ (neg : Bool) (m : Nat), (if T = 0 then s && t else decide (T < 0)) = neg → T.natAbs = m → wd (if T = 0 then s && t else decide (T < 0)) (rnd T.natAbs p 0) = wd neg (rnd m p 0) := fun neg m h1 h2 => by rw [h1, h2]
  cases s <;> cases t
  · simp only [Bool.false_eq_true, if_false] at hT
    rw [show (false == false) = true from rfl, cond_true]
    refine fin' _ _ ?_ (by omega)
    by_cases h0 : T = 0
    · rw [if_pos h0]; rfl
    · rw [if_neg h0]; exact decide_eq_false (by omega)
  · simp only [Bool.false_eq_true, if_false, if_true] at hT
    rw [show (false == true) = false from rfl, cond_false]
    by_cases hab : a ≤ b
    · rw [ble_t hab, cond_true]
      by_cases he : a = b
      · rw [beq_t he, cond_true]
        have h0 : T = 0 := by omega
        exact fin' false 0 (by rw [if_pos h0]; rfl) (by omega)
      · rw [beq_f he, cond_false]
        exact fin' true _ (by rw [if_neg (by omega)]; exact decide_eq_true (by omega)) (by omega)
    · rw [ble_f hab, cond_false]
      exact fin' false _ (by rw [if_neg (by omega)]; exact decide_eq_false (by omega)) (by omega)
  · simp only [Bool.false_eq_true, if_false, if_true] at hT
    rw [show (true == false) = false from rfl, cond_false]
    by_cases hab : a ≤ b
    · rw [ble_t hab, cond_true]
      by_cases he : a = b
      · rw [beq_t he, cond_true]
        have h0 : T = 0 := by omega
        exact fin' false 0 (by rw [if_pos h0]; rfl) (by omega)
      · rw [beq_f he, cond_false]
        exact fin' false _ (by rw [if_neg (by omega)]; exact decide_eq_false (by omega)) (by omega)
    · rw [ble_f hab, cond_false]
      exact fin' true _ (by rw [if_neg (by omega)]; exact decide_eq_true (by omega)) (by omega)
  · simp only [if_true] at hT
    rw [show (true == true) = true from rfl, cond_true]
    refine fin' _ _ ?_ (by omega)
    by_cases h0 : T = 0
    · rw [if_pos h0]; rfl
    · rw [if_neg h0]; exact decide_eq_true (by omega)
theorem add_eq {x y : Nat} (hx : fin x = true) (hy : fin y = true) : fmt.add x y = some (addN x y) := by
  unfold Ieee.Format.add
  rw [read_fin hx, read_fin hy]
  exact sum_eq _ _ _ _
theorem sub_eq {x y : Nat} (hx : fin x = true) (hy : fin y = true) : fmt.sub x y = some (subN x y) := by
  unfold Ieee.Format.sub
  rw [read_fin hx, read_fin hy]
  exact sum_eq _ _ _ _

end Go.Proofs.YtblkejnckbeieaaGreatDoor.WaveP

namespace Go.Proofs.YtblkejnckbeieaaGreatDoor.WaveP

def c900 : Nat := 900
/-- A bound that nothing comes near. -/
def big : Rat := ((2 ^ c900 : Nat) : Rat)
/-- The word is a number within c of T. -/
def Nr (r : Nat) (T c : Rat) : Prop := fin r = true ∧ val r - T ≤ c ∧ T - val r ≤ c
theorem val_wd {neg : Bool} {r : Nat} (h : r < infR) : val (wd neg r) = sn neg * ((un r : Nat) : Rat) * e0 := by unfold val; rw [sg_wd h, rg_wd h]
theorem sn_sq (b : Bool) : sn b * sn b = 1 := by cases b <;> decide +kernel
theorem sn_cases (b : Bool) : sn b = 1 ∨ sn b = -1 := by cases b; exact .inl rfl; exact .inr rfl
theorem sn_xor (a b : Bool) : sn (a ^^ b) = sn a * sn b := by cases a <;> cases b <;> decide +kernel
theorem sn_not (b : Bool) : sn (!b) = -sn b := by cases b <;> decide +kernel

theorem wd_near {neg : Bool} {m p b : Nat} {q T M : Rat} (hq : q * ((2 ^ b : Nat) : Rat) = (m : Rat) * ((2 ^ p : Nat) : Rat)) (hT : T = sn neg * q * e0) (h1 : -M ≤ T) (h2 : T ≤ M) (hM : M ≤ big) :
    Nr (wd neg (rnd m p b)) T (M / 9007199254740992 + e0) := by
  have he := e0_pos
  have hm : (0 : Rat) ≤ (m : Rat) := by exact_mod_cast Nat.zero_le m
  have hq0 : 0 ≤ q := by
    refine mul_le_cancel (pw_pos b) ?_
    rw [hq]
    have := Rat.mul_nonneg hm (Rat.le_of_lt (pw_pos p))
    grind
  have hqe : q * e0 ≤ M := by rcases sn_cases neg with h | h <;> rw [h] at hT <;> grind
  have hf : rnd m p b < infR := by
    apply rnd_fin
    by_cases h0 : m = 0
    · exact .inl h0
    · right
      have g1 : q ≤ big * ((2 ^ c74 : Nat) : Rat) := by
        have : q * e0 * ((2 ^ c74 : Nat) : Rat) ≤ big * ((2 ^ c74 : Nat) : Rat) := Rat.mul_le_mul_of_nonneg_right (by grind) (Rat.le_of_lt (pw_pos _))
        have e1 := e0_mul
        have e2 : q * e0 * ((2 ^ c74 : Nat) : Rat) = q := by rw [Rat.mul_assoc, e1, Rat.mul_one]
        rw [e2] at this
        exact this
      have g2 : (m : Rat) * ((2 ^ p : Nat) : Rat) ≤ big * ((2 ^ c74 : Nat) : Rat) * ((2 ^ b : Nat) : Rat) := by
        rw [← hq]
        exact Rat.mul_le_mul_of_nonneg_right g1 (Rat.le_of_lt (pw_pos _))
      have g3 : m * 2 ^ p ≤ 2 ^ c900 * 2 ^ c74 * 2 ^ b := by
        unfold big at g2
        exact_mod_cast g2
      have g4 : 2 ^ m.log2 * 2 ^ p ≤ m * 2 ^ p := Nat.mul_le_mul_right _ (Nat.log2_self_le h0)
      have g5 : 2 ^ (m.log2 + p) ≤ 2 ^ (c900 + c74 + b) := by
        rw [Nat.pow_add, Nat.pow_add, Nat.pow_add]
        exact Nat.le_trans g4 g3
      have g6 := (Nat.pow_le_pow_iff_right (show 1 < 2 by decide)).1 g5
      unfold c900 at g6
      unfold c74 at g6
      omega
  obtain ⟨_, a1, a2⟩ := rnd_val hq hf
  refine ⟨fin_wd hf, ?_⟩
  rw [val_wd hf, hT]
  have b1 := Rat.mul_le_mul_of_nonneg_right a1 (Rat.le_of_lt he)
  have b2 := Rat.mul_le_mul_of_nonneg_right a2 (Rat.le_of_lt he)
  generalize ((un (rnd m p b) : Nat) : Rat) = X at b1 b2 ⊢
  rcases sn_cases neg with h | h <;> rw [h] <;> constructor <;> grind

theorem un_cast (r : Nat) : ((un r : Nat) : Rat) = (mg r : Rat) * ((2 ^ pl r : Nat) : Rat) := by unfold un; exact_mod_cast rfl
theorem mul_near {x y : Nat} {M : Rat} (hx : fin x = true) (hy : fin y = true) (h1 : -M ≤ val x * val y) (h2 : val x * val y ≤ M) (hM : M ≤ big) :
    fmt.mul x y = some (mulN x y) ∧ Nr (mulN x y) (val x * val y) (M / 9007199254740992 + e0) := by
  refine ⟨mul_eq hx hy, wd_near (q := ((un (rg x) : Nat) : Rat) * ((un (rg y) : Nat) : Rat) * e0) ?_ ?_ h1 h2 hM⟩
  · rw [Rat.mul_assoc, e0_mul, Rat.mul_one, un_cast, un_cast]
    have : ((mg (rg x) * mg (rg y) : Nat) : Rat) = (mg (rg x) : Rat) * (mg (rg y) : Rat) := by exact_mod_cast rfl
    have h3 : ((2 ^ (pl (rg x) + pl (rg y)) : Nat) : Rat) = ((2 ^ pl (rg x) : Nat) : Rat) * ((2 ^ pl (rg y) : Nat) : Rat) := by rw [Nat.pow_add]; exact_mod_cast rfl
    rw [this, h3]
    grind
  · unfold val
    rw [sn_xor]
    grind
theorem un_at {r p : Nat} (h : p ≤ pl r) : ((un r : Nat) : Rat) = ((mg r * 2 ^ (pl r - p) : Nat) : Rat) * ((2 ^ p : Nat) : Rat) := by
  have : un r = mg r * 2 ^ (pl r - p) * 2 ^ p := by unfold un; rw [Nat.mul_assoc, ← Nat.pow_add]; congr 2; omega
  rw [this]
  exact_mod_cast rfl
theorem addS_near (s : Bool) (r1 : Nat) (t : Bool) (r2 : Nat) {M T : Rat} (hT : T = (sn s * ((un r1 : Nat) : Rat) + sn t * ((un r2 : Nat) : Rat)) * e0) (h1 : -M ≤ T) (h2 : T ≤ M) (hM : M ≤ big) :
    Nr (addS s r1 t r2) T (M / 9007199254740992 + e0) := by
  unfold addS
  obtain ⟨p, hp⟩ : ∃ p, min (pl r1) (pl r2) = p := ⟨_, rfl⟩
  rw [un_at (p := p) (show p ≤ pl r1 by omega), un_at (p := p) (show p ≤ pl r2 by omega)] at hT
  rw [hp]
  generalize mg r1 * 2 ^ (pl r1 - p) = a at hT ⊢
  generalize mg r2 * 2 ^ (pl r2 - p) = b at hT ⊢
  have h20 : ((2 ^ 0 : Nat) : Rat) = 1 := by simp
  have step : ∀ (neg : Bool) (m : Nat), T = sn neg * ((m : Rat) * ((2 ^ p : Nat) : Rat)) * e0 → Nr (wd neg (rnd m p 0)) T (M / 9007199254740992 + e0) := fun neg m h =>
    wd_near (q := (m : Rat) * ((2 ^ p : Nat) : Rat)) (by rw [h20]; grind) h h1 h2 hM
  have hsub : ∀ x y : Nat, x ≤ y → ((y - x : Nat) : Rat) = (y : Rat) - (x : Rat) := fun x y h => by
    have : y = (y - x) + x := by omega
    have h3 : (y : Rat) = ((y - x : Nat) : Rat) + (x : Rat) := by exact_mod_cast this
    grind
  generalize ((2 ^ p : Nat) : Rat) = P at hT step
  by_cases hst : s = t
  · subst hst
    rw [beq_self_eq_true, cond_true]
    refine step _ _ ?_
    have : ((a + b : Nat) : Rat) = (a : Rat) + (b : Rat) := by exact_mod_cast rfl
    rw [this, hT]
    grind
  · have hts : sn t = -sn s := by cases s <;> cases t <;> first | exact absurd rfl hst | decide +kernel
    rw [show (s == t) = false by cases s <;> cases t <;> first | exact absurd rfl hst | rfl, cond_false]
    rw [hts] at hT
    by_cases hab : a ≤ b
    · rw [ble_t hab, cond_true]
      by_cases he : a = b
      · rw [beq_t he, cond_true]
        subst he
        have h0 : T = 0 := by rw [hT]; grind
        have := step false 0 (by rw [h0]; simp)
        rwa [rnd_zero] at this
      · rw [beq_f he, cond_false]
        refine step _ _ ?_
        rw [hsub a b hab, hT, hts]
        grind
    · rw [ble_f hab, cond_false]
      refine step _ _ ?_
      rw [hsub b a (by omega), hT]
      grind
theorem add_near {x y : Nat} {M : Rat} (hx : fin x = true) (hy : fin y = true) (h1 : -M ≤ val x + val y) (h2 : val x + val y ≤ M) (hM : M ≤ big) :
    fmt.add x y = some (addN x y) ∧ Nr (addN x y) (val x + val y) (M / 9007199254740992 + e0) :=
  ⟨add_eq hx hy, addS_near _ _ _ _ (by unfold val; grind) h1 h2 hM⟩
theorem sub_near {x y : Nat} {M : Rat} (hx : fin x = true) (hy : fin y = true) (h1 : -M ≤ val x - val y) (h2 : val x - val y ≤ M) (hM : M ≤ big) :
    fmt.sub x y = some (subN x y) ∧ Nr (subN x y) (val x - val y) (M / 9007199254740992 + e0) :=
  ⟨sub_eq hx hy, addS_near _ _ _ _ (by unfold val; rw [sn_not]; grind) h1 h2 hM⟩

end Go.Proofs.YtblkejnckbeieaaGreatDoor.WaveP

namespace Go.Proofs.YtblkejnckbeieaaGreatDoor.WaveP

/-- So many digits more in front of a division. -/
def more (m n : Nat) : Nat := 54 + n.log2 - m.log2
def quo (m n : Nat) : Nat := 2 * (m * 2 ^ more m n / n) + (bif Nat.beq (m * 2 ^ more m n % n) 0 then 0 else 1)
def divN (x y : Nat) : Nat := wd (sg x ^^ sg y) (rnd (quo (mg (rg x)) (mg (rg y))) (pl (rg x) + c74) (pl (rg y) + more (mg (rg x)) (mg (rg y)) + 1))
theorem div_eq {x y : Nat} (hx : fin x = true) (hy : fin y = true) (h0 : mg (rg y) ≠ 0) : fmt.div x y = some (divN x y) := by
  unfold Ieee.Format.div
  rw [read_fin hx, read_fin hy]
  unfold Ieee.Datum.quotient
  dsimp only
  rw [if_neg h0]
  have hmore : fmt.fractionBits + 2 + (mg (rg y)).log2 - (mg (rg x)).log2 = more (mg (rg x)) (mg (rg y)) := rfl
  rw [hmore, Nat.shiftLeft_eq]
  have hq : 2 * (mg (rg x) * 2 ^ more (mg (rg x)) (mg (rg y)) / mg (rg y)) + (mg (rg x) * 2 ^ more (mg (rg x)) (mg (rg y)) % mg (rg y) != 0).toNat = quo (mg (rg x)) (mg (rg y)) := by
    unfold quo
    congr 1
    rw [toNat_bif, bne, beq_eq]
    by_cases h : mg (rg x) * 2 ^ more (mg (rg x)) (mg (rg y)) % mg (rg y) = 0
    · rw [h]; rfl
    · rw [decide_eq_false h, beq_eq_false_iff_ne.2 h]; rfl
  rw [hq]
  show some (fmt.nearest _ _ _) = _
  rw [nearest_eq (p := pl (rg x) + c74) (b := pl (rg y) + more (mg (rg x)) (mg (rg y)) + 1) _ _ _ (by unfold c74; omega), word_wd]
  rfl
theorem quo_near {m n : Nat} (hm : m ≠ 0) (hn : n ≠ 0) : 2 ^ 54 ≤ quo m n ∧ quo m n * n ≤ 2 * (m * 2 ^ more m n) + n ∧ 2 * (m * 2 ^ more m n) ≤ quo m n * n + n := by
  obtain ⟨d, hd⟩ : ∃ d, m * 2 ^ more m n = d := ⟨_, rfl⟩
  have h1 := Nat.div_add_mod d n
  have h2 := Nat.mod_lt d (Nat.pos_of_ne_zero hn)
  have hbig : n * 2 ^ 53 ≤ d := by
    have a1 := Nat.log2_self_le hm
    have a2 := Nat.lt_log2_self (n := n)
    have a3 : 2 ^ (n.log2 + 1) * 2 ^ 53 ≤ 2 ^ m.log2 * 2 ^ more m n := by
      rw [← Nat.pow_add, ← Nat.pow_add]
      exact Nat.pow_le_pow_right (by decide) (by unfold more; omega)
    have a4 : n * 2 ^ 53 ≤ 2 ^ (n.log2 + 1) * 2 ^ 53 := Nat.mul_le_mul_right _ (Nat.le_of_lt a2)
    have a5 : 2 ^ m.log2 * 2 ^ more m n ≤ m * 2 ^ more m n := Nat.mul_le_mul_right _ a1
    rw [← hd]
    exact Nat.le_trans a4 (Nat.le_trans a3 a5)
  have hq : 2 ^ 53 ≤ d / n := by
    rw [Nat.le_div_iff_mul_le (Nat.pos_of_ne_zero hn), Nat.mul_comm]
    exact hbig
  have e54 : (2 : Nat) ^ 54 = 2 ^ 53 * 2 := Nat.pow_succ ..
  unfold quo
  rw [hd]
  generalize d / n = k at h1 hq
  generalize d % n = r at h1 h2
  have e1 : (2 * k + (bif Nat.beq r 0 then 0 else 1)) * n = 2 * (n * k) + (bif Nat.beq r 0 then 0 else 1) * n := by rw [Nat.add_mul, Nat.mul_assoc, Nat.mul_comm k n]
  rw [e1]
  refine ⟨by omega, ?_⟩
  by_cases h : r = 0
  · rw [beq_t h, cond_true]; omega
  · rw [beq_f h, cond_false]; omega

theorem div_near {x y : Nat} {T M : Rat} (hx : fin x = true) (hy : fin y = true) (h0 : mg (rg y) ≠ 0) (hT : T * val y = val x) (h1 : -M ≤ T) (h2 : T ≤ M) (hM : M + M ≤ big) :
    fmt.div x y = some (divN x y) ∧ Nr (divN x y) T (M / 2251799813685248 + e0) := by
  refine ⟨div_eq hx hy h0, ?_⟩
  have he := e0_pos
  have hM0 : 0 ≤ M := by grind
  have hun : ∀ r, ((un r : Nat) : Rat) = (mg r : Rat) * ((2 ^ pl r : Nat) : Rat) := un_cast
  by_cases hm0 : mg (rg x) = 0
  · -- the nought
    have hvx : val x = 0 := by unfold val; rw [hun, hm0]; grind
    have hvy : val y ≠ 0 := by
      intro h
      unfold val at h
      rw [hun] at h
      have g1 : (mg (rg y) : Rat) ≠ 0 := by exact_mod_cast h0
      have g2 := Rat.ne_of_gt (pw_pos (pl (rg y)))
      rcases Rat.mul_eq_zero.1 h with h3 | h3
      · rcases Rat.mul_eq_zero.1 h3 with h4 | h4
        · rcases sn_cases (sg y) with h5 | h5 <;> rw [h5] at h4 <;> exact absurd h4 (by decide +kernel)
        · rcases Rat.mul_eq_zero.1 h4 with h5 | h5
          · exact g1 h5
          · exact g2 h5
      · rw [h3] at he; exact absurd he Rat.lt_irrefl
    have hT0 : T = 0 := by
      rw [hvx] at hT
      rcases Rat.mul_eq_zero.1 hT with h | h
      · exact h
      · exact absurd h hvy
    have hq0 : quo (mg (rg x)) (mg (rg y)) = 0 := by unfold quo; rw [hm0]; simp
    unfold divN
    rw [hq0, rnd_zero]
    refine ⟨fin_wd (by decide), ?_⟩
    rw [val_wd (by decide), un_low (by decide), hT0]
    have : M / 2251799813685248 = M * (1 / 2251799813685248) := by grind
    constructor <;> grind
  · obtain ⟨q1, q2, q3⟩ := quo_near hm0 h0
    obtain ⟨mo, hmo⟩ : ∃ mo, more (mg (rg x)) (mg (rg y)) = mo := ⟨_, rfl⟩
    unfold divN
    rw [hmo] at q2 q3 ⊢
    generalize quo (mg (rg x)) (mg (rg y)) = Q at q1 q2 q3 ⊢
    have hyr : (0 : Rat) < (mg (rg y) : Rat) := by exact_mod_cast Nat.pos_of_ne_zero h0
    -- the true number, and the one that is rounded
    obtain ⟨q, hq⟩ : ∃ q : Rat, q * ((2 ^ (pl (rg y) + mo + 1) : Nat) : Rat) = (Q : Rat) * ((2 ^ (pl (rg x) + c74) : Nat) : Rat) :=
      ⟨(Q : Rat) * ((2 ^ (pl (rg x) + c74) : Nat) : Rat) / ((2 ^ (pl (rg y) + mo + 1) : Nat) : Rat), Rat.div_mul_cancel (Rat.ne_of_gt (pw_pos _))⟩
    have p1 : ((2 ^ (pl (rg y) + mo + 1) : Nat) : Rat) = ((2 ^ pl (rg y) : Nat) : Rat) * ((2 ^ mo : Nat) : Rat) * 2 := by rw [Nat.pow_succ, Nat.pow_add]; exact_mod_cast rfl
    have p2 : ((2 ^ (pl (rg x) + c74) : Nat) : Rat) = ((2 ^ pl (rg x) : Nat) : Rat) * ((2 ^ c74 : Nat) : Rat) := by rw [Nat.pow_add]; exact_mod_cast rfl
    have r2 : (Q : Rat) * (mg (rg y) : Rat) ≤ 2 * ((mg (rg x) : Rat) * ((2 ^ mo : Nat) : Rat)) + (mg (rg y) : Rat) := by exact_mod_cast q2
    have r3 : 2 * ((mg (rg x) : Rat) * ((2 ^ mo : Nat) : Rat)) ≤ (Q : Rat) * (mg (rg y) : Rat) + (mg (rg y) : Rat) := by exact_mod_cast q3
    have q1' : 18014398509481984 ≤ Q := q1
    have r1 : (18014398509481984 : Rat) ≤ (Q : Rat) := by exact_mod_cast q1'
    have hv : T * (sn (sg y) * ((mg (rg y) : Rat) * ((2 ^ pl (rg y) : Nat) : Rat))) = sn (sg x) * ((mg (rg x) : Rat) * ((2 ^ pl (rg x) : Nat) : Rat)) := by
      unfold val at hT
      rw [hun, hun] at hT
      have := Rat.ne_of_gt he
      have h3 : (T * (sn (sg y) * ((mg (rg y) : Rat) * ((2 ^ pl (rg y) : Nat) : Rat))) - sn (sg x) * ((mg (rg x) : Rat) * ((2 ^ pl (rg x) : Nat) : Rat))) * e0 = 0 := by grind
      rcases Rat.mul_eq_zero.1 h3 with h4 | h4
      · grind
      · exact absurd h4 this
    obtain ⟨s, hs⟩ : ∃ s, sn (sg x ^^ sg y) = s := ⟨_, rfl⟩
    have hss : s * s = 1 := by rw [← hs]; exact sn_sq _
    have hsx : s * sn (sg y) = sn (sg x) := by rw [← hs, sn_xor]; have := sn_sq (sg y); grind
    have hsp : s = 1 ∨ s = -1 := by rw [← hs]; exact sn_cases _
    have hsy : sn (sg y) = 1 ∨ sn (sg y) = -1 := sn_cases _
    have hbig : M + M ≤ big := hM
    have c1 := e0_mul
    have x1 := pw_pos (pl (rg y))
    have x2 := pw_pos mo
    have x3 := pw_pos (pl (rg x))
    have key : ∀ (hg0 : 0 ≤ q * e0) (hgt : (q * e0 - s * T) * 18014398509481984 ≤ q * e0) (hgt2 : (s * T - q * e0) * 18014398509481984 ≤ q * e0),
        Nr (wd (sg x ^^ sg y) (rnd Q (pl (rg x) + c74) (pl (rg y) + mo + 1))) T (M / 2251799813685248 + e0) := fun hg0 hgt hgt2 => by
      have hTs : T = s * (s * T) := by grind
      have hst : -M ≤ s * T ∧ s * T ≤ M := by rcases hsp with h | h <;> rw [h] <;> constructor <;> grind
      obtain ⟨t1, t2⟩ := hst
      have n := wd_near (neg := sg x ^^ sg y) (m := Q) (p := pl (rg x) + c74) (b := pl (rg y) + mo + 1) (q := q) (T := s * q * e0) (M := M + M) hq (by rw [hs]) (by rcases hsp with h | h <;> rw [h] <;> grind) (by rcases hsp with h | h <;> rw [h] <;> grind) hbig
      obtain ⟨n1, n2, n3⟩ := n
      refine ⟨n1, ?_, ?_⟩
      · rcases hsp with h | h <;> rw [h] at n2 n3 hTs hgt hgt2 t1 t2 <;> grind
      · rcases hsp with h | h <;> rw [h] at n2 n3 hTs hgt hgt2 t1 t2 <;> grind
    rw [p1, p2] at hq
    generalize (mg (rg y) : Rat) = ny at *
    generalize (mg (rg x) : Rat) = nx at *
    generalize ((2 ^ pl (rg y) : Nat) : Rat) = A at *
    generalize ((2 ^ pl (rg x) : Nat) : Rat) = B at *
    generalize ((2 ^ mo : Nat) : Rat) = D at *
    generalize ((2 ^ c74 : Nat) : Rat) = E at *
    generalize (Q : Rat) = QQ at *
    obtain ⟨g, hg⟩ : ∃ g, q * e0 = g := ⟨_, rfl⟩
    obtain ⟨t, ht⟩ : ∃ t, s * T = t := ⟨_, rfl⟩
    rw [hg, ht] at key
    have k1 : g * (A * D * 2) = QQ * B := by rw [← hg]; grind
    have k2 : t * (ny * A) = nx * B := by
      rcases hsp with h | h <;> rcases hsy with h' | h' <;> rw [h, h'] at hsx <;> rw [h'] at hv <;> rw [← hsx] at hv <;> rw [h] at ht <;> rw [← ht] <;> grind
    have hAD : 0 < A * D * 2 := Rat.mul_pos (Rat.mul_pos x1 x2) (by decide +kernel)
    have hB0 : 0 ≤ B := Rat.le_of_lt x3
    have w1 := Rat.mul_le_mul_of_nonneg_right r2 hB0
    have w2 := Rat.mul_le_mul_of_nonneg_right r3 hB0
    have w3 := Rat.mul_le_mul_of_nonneg_right r1 hB0
    have k3 : (g - t) * (A * D * 2) * ny = (QQ * ny - 2 * (nx * D)) * B := by
      have e1 : g * (A * D * 2) * ny = QQ * B * ny := by rw [k1]
      have e2 : t * (ny * A) * (D * 2) = nx * B * (D * 2) := by rw [k2]
      grind
    have k4 : (g - t) * (A * D * 2) ≤ B := mul_le_cancel hyr (by rw [k3]; grind)
    have k5 : (t - g) * (A * D * 2) ≤ B := mul_le_cancel hyr (by
      have : (t - g) * (A * D * 2) * ny = -((g - t) * (A * D * 2) * ny) := by grind
      rw [this, k3]; grind)
    refine key ?_ ?_ ?_
    · refine mul_le_cancel hAD ?_
      rw [k1]
      have : 0 ≤ QQ * B := Rat.mul_nonneg (by grind) hB0
      grind
    · refine mul_le_cancel hAD ?_
      rw [k1]
      grind
    · refine mul_le_cancel hAD ?_
      rw [k1]
      grind

end Go.Proofs.YtblkejnckbeieaaGreatDoor.WaveP

namespace Go.Proofs.YtblkejnckbeieaaGreatDoor.WaveP

/-- A number that is worked out first. -/
def strict {α : Type} (n : Nat) (k : Nat → α) : α := match n with
  | 0 => k 0
  | m + 1 => k (m + 1)
theorem strict_eq {α : Type} (n : Nat) (k : Nat → α) : strict n k = k n := by cases n <;> rfl
def mulO (x y : Nat) : Option Nat := bif fin x && fin y then strict (mulN x y) some else none
def addO (x y : Nat) : Option Nat := bif fin x && fin y then strict (addN x y) some else none
def subO (x y : Nat) : Option Nat := bif fin x && fin y then strict (subN x y) some else none
def divO (x y : Nat) : Option Nat := bif fin x && (fin y && !Nat.beq (mg (rg y)) 0) then strict (divN x y) some else none
theorem bif_some {α : Type} {b : Bool} {x : Option α} {r : α} (h : (bif b then x else none) = some r) : b = true ∧ x = some r := by
  cases b
  · cases h
  · exact ⟨rfl, h⟩
theorem and_t {a b : Bool} (h : (a && b) = true) : a = true ∧ b = true := by cases a <;> cases b <;> first | (cases h; done) | exact ⟨rfl, rfl⟩
theorem mulO_some {x y r : Nat} (h : mulO x y = some r) : fmt.mul x y = some r := by
  obtain ⟨h1, h2⟩ := bif_some h
  obtain ⟨hx, hy⟩ := and_t h1
  rw [strict_eq] at h2
  rw [mul_eq hx hy]; exact h2
theorem addO_some {x y r : Nat} (h : addO x y = some r) : fmt.add x y = some r := by
  obtain ⟨h1, h2⟩ := bif_some h
  obtain ⟨hx, hy⟩ := and_t h1
  rw [strict_eq] at h2
  rw [add_eq hx hy]; exact h2
theorem subO_some {x y r : Nat} (h : subO x y = some r) : fmt.sub x y = some r := by
  obtain ⟨h1, h2⟩ := bif_some h
  obtain ⟨hx, hy⟩ := and_t h1
  rw [strict_eq] at h2
  rw [sub_eq hx hy]; exact h2
theorem divO_some {x y r : Nat} (h : divO x y = some r) : fmt.div x y = some r := by
  obtain ⟨h1, h2⟩ := bif_some h
  obtain ⟨hx, h3⟩ := and_t h1
  obtain ⟨hy, h4⟩ := and_t h3
  rw [strict_eq] at h2
  rw [div_eq hx hy (fun e => by rw [beq_t e] at h4; cases h4)]; exact h2
/-- A polynomial, its first number ahead. -/
def poly (z : Nat) : List Nat → Nat → Option Nat
  | [], acc => some acc
  | c :: cs, acc => (mulO acc z).bind fun m => (addO m c).bind fun a => poly z cs a
/-- The word of a whole number. -/
def natW (n : Nat) : Nat := rnd n c74 0
/-- A number cut to a whole one. -/
def truncN (x : Nat) : Nat := bif Nat.ble 1074 (pl (rg x)) then mg (rg x) * 2 ^ (pl (rg x) - 1074) else mg (rg x) / 2 ^ (1074 - pl (rg x))
def cosT : List Nat := [4477121864728985349, 13732177093698800582, 4537941361668146421, 13787419979223748497, 4586165620538955083]
def sinT : List Nat := [13716528389658582877, 4523617212962785441, 13774824197404483331, 4575957461383575504, 13818544856648471880]
def kern (z : Nat) : Option (Nat × Nat) :=
  (mulO z z).bind fun zz =>
  (mulO 4602678819172646912 zz).bind fun h =>
  (subO 4607182418800017408 h).bind fun h1 =>
  (mulO zz zz).bind fun z4 =>
  (poly zz cosT 13666448263388469915).bind fun pc =>
  (mulO z4 pc).bind fun mc =>
  (addO h1 mc).bind fun c =>
  (mulO z zz).bind fun z3 =>
  (poly zz sinT 4460209587652500685).bind fun ps =>
  (mulO z3 ps).bind fun ms =>
  (addO z ms).bind fun s => some (s, c)
/-- What is left over of so many eighths. -/
def left (x y j : Nat) : Option (Nat × Nat) :=
  (mulO y 4605249456957292544).bind fun a =>
  (subO x a).bind fun x1 =>
  (mulO y 4495793288086814720).bind fun b =>
  (subO x1 b).bind fun x2 =>
  (mulO y 4388835458085048688).bind fun c =>
  (subO x2 c).bind fun z => some (j, z)
/-- How many eighths, and what is left over. -/
def reduce (x : Nat) : Option (Nat × Nat) :=
  (mulO x 4608412980311869571).bind fun m =>
  strict (truncN m) fun t =>
  bif Nat.beq (t % 2) 1 then
    (addO (natW t) 4607182418800017408).bind fun y => left x y (t + 1)
  else left x (natW t) t
/-- The sine and the cosine of a word above nought and below a whole turn's half. -/
def sincosP (x : Nat) : Option (Nat × Nat) :=
  (reduce x).bind fun p => (kern p.2).bind fun q =>
  bif Nat.beq p.1 0 then some (q.1, q.2)
  else bif Nat.beq p.1 2 then some (q.2, wd (!sg q.1) (rg q.1))
  else bif Nat.beq p.1 4 then some (wd (!sg q.1) (rg q.1), wd (!sg q.2) (rg q.2))
  else none
/-- The angle's word: so many of 2^l parts of a turn. -/
def angle (k l : Nat) : Option Nat := (mulO 4618760256179416344 (natW k)).bind fun a => divO a (natW (2 ^ l))

/-- The near root: its parts over zr. -/
def zu : Nat := 972276023905897739692434485
def zp : Int := 2 ^ 200 - (zu : Int) * zu
def zq : Int := 2 * (zu : Int) * 2 ^ 100
def zr : Nat := 2 ^ 200 + zu * zu
def c964 : Nat := 964
def c1024 : Nat := 1024
def sval (w : Nat) : Int := bif sg w then -((un (rg w) : Nat) : Int) else ((un (rg w) : Nat) : Int)
def force {α : Type} (x : Int) (k : Int → α) : α := match x with
  | .ofNat n => strict n fun n => k (.ofNat n)
  | .negSucc n => strict n fun n => k (.negSucc n)
def closeI (w : Nat) (P : Int) : Bool := Nat.ble (sval w - P * ((2 ^ c964 : Nat) : Int)).natAbs (2 ^ c1024)
/-- From the place k on, n places. -/
def chkT : Nat → Nat → Int → Int → Bool
  | 0, _, _, _ => true
  | n + 1, k, P, Q =>
    (match (angle k 12).bind sincosP with
      | some (s, c) => closeI c P && closeI s Q
      | none => false) &&
    force ((P * zp - Q * zq) / (zr : Int)) fun P' => force ((P * zq + Q * zp) / (zr : Int)) fun Q' => chkT n (k + 1) P' Q'
/-- So many places further on. -/
def zgo : Nat → Int → Int → (Int → Int → Bool) → Bool
  | 0, P, Q, k => k P Q
  | n + 1, P, Q, k => force ((P * zp - Q * zq) / (zr : Int)) fun P' => force ((P * zq + Q * zp) / (zr : Int)) fun Q' => zgo n P' Q' k
/-- The places 128 b + 1 and on. -/
def blk (b n : Nat) : Bool := zgo (128 * b + 1) (2 ^ 110) 0 fun P Q => chkT n (128 * b + 1) P Q
/-- The angles of fewer parts are angles of 4096. -/
def chkL : Nat → Nat → Nat → Bool
  | _, _, 0 => true
  | l, k, n + 1 => (match angle k l, angle (k * 2 ^ (12 - l)) 12 with
    | some a, some b => Nat.beq a b
    | _, _ => false) && chkL l (k + 1) n
end Go.Proofs.YtblkejnckbeieaaGreatDoor.WaveP

namespace Go.Proofs.YtblkejnckbeieaaGreatDoor.WaveP

structure CxW where
  re : Rat
  im : Rat
theorem CxW.ext' {x y : CxW} (h1 : x.re = y.re) (h2 : x.im = y.im) : x = y := by cases x; cases y; simp_all
namespace CxW
def add (x y : CxW) : CxW := ⟨x.re + y.re, x.im + y.im⟩
def sub (x y : CxW) : CxW := ⟨x.re - y.re, x.im - y.im⟩
def mul (x y : CxW) : CxW := ⟨x.re * y.re - x.im * y.im, x.re * y.im + x.im * y.re⟩
instance : Add CxW := ⟨add⟩
instance : Sub CxW := ⟨sub⟩
instance : Mul CxW := ⟨mul⟩
def zero : CxW := ⟨0, 0⟩
def one : CxW := ⟨1, 0⟩
def conj (x : CxW) : CxW := ⟨x.re, -x.im⟩
theorem add_re (x y : CxW) : (x + y).re = x.re + y.re := rfl
theorem add_im (x y : CxW) : (x + y).im = x.im + y.im := rfl
theorem sub_re (x y : CxW) : (x - y).re = x.re - y.re := rfl
theorem sub_im (x y : CxW) : (x - y).im = x.im - y.im := rfl
theorem mul_re (x y : CxW) : (x * y).re = x.re * y.re - x.im * y.im := rfl
theorem mul_im (x y : CxW) : (x * y).im = x.re * y.im + x.im * y.re := rfl
theorem zero_re : zero.re = 0 := rfl
theorem zero_im : zero.im = 0 := rfl
theorem one_re : one.re = 1 := rfl
theorem one_im : one.im = 0 := rfl
theorem mul_assoc (x y z : CxW) : x * y * z = x * (y * z) := by apply ext' <;> simp only [mul_re, mul_im] <;> grind
theorem mul_comm (x y : CxW) : x * y = y * x := by apply ext' <;> simp only [mul_re, mul_im] <;> grind
theorem add_assoc (x y z : CxW) : x + y + z = x + (y + z) := by apply ext' <;> simp only [add_re, add_im] <;> grind
theorem add_comm (x y : CxW) : x + y = y + x := by apply ext' <;> simp only [add_re, add_im] <;> grind
theorem mul_add (x y z : CxW) : x * (y + z) = x * y + x * z := by apply ext' <;> simp only [mul_re, mul_im, add_re, add_im] <;> grind
theorem add_mul (x y z : CxW) : (x + y) * z = x * z + y * z := by apply ext' <;> simp only [mul_re, mul_im, add_re, add_im] <;> grind
theorem mul_sub (x y z : CxW) : x * (y - z) = x * y - x * z := by apply ext' <;> simp only [mul_re, mul_im, sub_re, sub_im] <;> grind
theorem zero_add (x : CxW) : zero + x = x := by apply ext' <;> simp only [add_re, add_im, zero_re, zero_im] <;> grind
theorem add_zero (x : CxW) : x + zero = x := by apply ext' <;> simp only [add_re, add_im, zero_re, zero_im] <;> grind
theorem mul_zero (x : CxW) : x * zero = zero := by apply ext' <;> simp only [mul_re, mul_im, zero_re, zero_im] <;> grind
theorem zero_mul (x : CxW) : zero * x = zero := by apply ext' <;> simp only [mul_re, mul_im, zero_re, zero_im] <;> grind
theorem one_mul (x : CxW) : one * x = x := by apply ext' <;> simp only [mul_re, mul_im, one_re, one_im] <;> grind
theorem mul_one (x : CxW) : x * one = x := by apply ext' <;> simp only [mul_re, mul_im, one_re, one_im] <;> grind
theorem sub_self (x : CxW) : x - x = zero := by apply ext' <;> simp only [sub_re, sub_im, zero_re, zero_im] <;> grind
theorem conj_mul (x y : CxW) : conj (x * y) = conj x * conj y := by apply ext' <;> simp only [conj, mul_re, mul_im] <;> grind
theorem conj_add (x y : CxW) : conj (x + y) = conj x + conj y := by apply ext' <;> simp only [conj, add_re, add_im] <;> grind
theorem conj_conj (x : CxW) : conj (conj x) = x := by apply ext' <;> simp only [conj] <;> grind
theorem conj_one : conj one = one := by apply ext' <;> simp only [conj, one] <;> grind
theorem conj_zero : conj zero = zero := by apply ext' <;> simp only [conj, zero] <;> grind
def pow (x : CxW) : Nat → CxW
  | 0 => one
  | n + 1 => pow x n * x
theorem pow_zero (x : CxW) : pow x 0 = one := rfl
theorem pow_succ (x : CxW) (n : Nat) : pow x (n + 1) = pow x n * x := rfl
theorem pow_one (x : CxW) : pow x 1 = x := by rw [pow_succ, pow_zero, one_mul]
theorem pow_add (x : CxW) (m n : Nat) : pow x (m + n) = pow x m * pow x n := by
  induction n with
  | zero => rw [Nat.add_zero, pow_zero, mul_one]
  | succ n ih => rw [← Nat.add_assoc, pow_succ, ih, pow_succ, mul_assoc]
theorem pow_mul (x : CxW) (m n : Nat) : pow x (m * n) = pow (pow x m) n := by
  induction n with
  | zero => rfl
  | succ n ih => rw [Nat.mul_succ, pow_add, ih, pow_succ]
theorem one_pow (n : Nat) : pow one n = one := by
  induction n with
  | zero => rfl
  | succ n ih => rw [pow_succ, ih, one_mul]
theorem mul_pow (x y : CxW) (n : Nat) : pow (x * y) n = pow x n * pow y n := by
  induction n with
  | zero => rw [pow_zero, pow_zero, pow_zero, one_mul]
  | succ n ih => rw [pow_succ, ih, pow_succ, pow_succ, mul_assoc, mul_assoc, ← mul_assoc (pow y n), mul_comm (pow y n) x, mul_assoc]
theorem conj_pow (x : CxW) (n : Nat) : conj (pow x n) = pow (conj x) n := by
  induction n with
  | zero => exact conj_one
  | succ n ih => rw [pow_succ, conj_mul, ih, pow_succ]
end CxW

theorem sq_nonneg (a : Rat) : 0 ≤ a * a := by
  rcases Rat.le_total (a := 0) (b := a) with h | h
  · exact Rat.mul_nonneg h h
  · have : 0 ≤ (-a) * (-a) := Rat.mul_nonneg (by grind) (by grind)
    grind
/-- From squares to sizes. -/
theorem le_of_sq {a b : Rat} (hb : 0 ≤ b) (h : a * a ≤ b * b) : a ≤ b := by
  rcases Rat.le_total (a := a) (b := b) with h1 | h1
  · exact h1
  · rcases Rat.le_total (a := a) (b := 0) with h2 | h2
    · grind
    · have h3 : 0 ≤ (a - b) := by grind
      have h4 : 0 ≤ (a - b) * (a + b) := Rat.mul_nonneg h3 (by grind)
      have h5 : (a - b) * (a + b) = 0 := by grind
      have h6 := Rat.mul_eq_zero.1 h5
      grind

/-- The number's size is at most R. -/
def Bd (z : CxW) (R : Rat) : Prop := 0 ≤ R ∧ z.re * z.re + z.im * z.im ≤ R * R
theorem Bd.mono {z : CxW} {R S : Rat} (h : Bd z R) (hs : R ≤ S) : Bd z S := by
  obtain ⟨h0, h1⟩ := h
  have h2 : 0 ≤ (S - R) * (S + R) := Rat.mul_nonneg (by grind) (by grind)
  exact ⟨by grind, by grind⟩
theorem Bd.zero_ : Bd CxW.zero 0 := ⟨by decide +kernel, by simp only [CxW.zero]; decide +kernel⟩
theorem Bd.one_ : Bd CxW.one 1 := ⟨by decide +kernel, by simp only [CxW.one]; decide +kernel⟩
/-- The two numbers' product of coordinates. -/
theorem Bd.dot {x y : CxW} {R S : Rat} (hx : Bd x R) (hy : Bd y S) : x.re * y.re + x.im * y.im ≤ R * S := by
  obtain ⟨r0, r1⟩ := hx
  obtain ⟨s0, s1⟩ := hy
  refine le_of_sq (Rat.mul_nonneg r0 s0) ?_
  have h1 := sq_nonneg (x.re * y.im - x.im * y.re)
  have h2 : (x.re * x.re + x.im * x.im) * (y.re * y.re + y.im * y.im) ≤ (R * R) * (y.re * y.re + y.im * y.im) := Rat.mul_le_mul_of_nonneg_right r1 (by have := sq_nonneg y.re; have := sq_nonneg y.im; grind)
  have h3 : (R * R) * (y.re * y.re + y.im * y.im) ≤ (R * R) * (S * S) := Rat.mul_le_mul_of_nonneg_left s1 (sq_nonneg R)
  grind
theorem Bd.add {x y : CxW} {R S : Rat} (hx : Bd x R) (hy : Bd y S) : Bd (x + y) (R + S) := by
  have h := hx.dot hy
  obtain ⟨r0, r1⟩ := hx
  obtain ⟨s0, s1⟩ := hy
  refine ⟨by grind, ?_⟩
  rw [CxW.add_re, CxW.add_im]
  grind
theorem Bd.neg {x : CxW} {R : Rat} (hx : Bd x R) : Bd ⟨-x.re, -x.im⟩ R := ⟨hx.1, by have := hx.2; grind⟩
theorem Bd.sub {x y : CxW} {R S : Rat} (hx : Bd x R) (hy : Bd y S) : Bd (x - y) (R + S) := by
  have h := hx.add hy.neg
  have e : x + ⟨-y.re, -y.im⟩ = x - y := by apply CxW.ext' <;> simp only [CxW.add_re, CxW.add_im, CxW.sub_re, CxW.sub_im] <;> grind
  rwa [e] at h
theorem Bd.mul {x y : CxW} {R S : Rat} (hx : Bd x R) (hy : Bd y S) : Bd (x * y) (R * S) := by
  obtain ⟨r0, r1⟩ := hx
  obtain ⟨s0, s1⟩ := hy
  refine ⟨Rat.mul_nonneg r0 s0, ?_⟩
  rw [CxW.mul_re, CxW.mul_im]
  have h2 : (x.re * x.re + x.im * x.im) * (y.re * y.re + y.im * y.im) ≤ (R * R) * (y.re * y.re + y.im * y.im) := Rat.mul_le_mul_of_nonneg_right r1 (by have := sq_nonneg y.re; have := sq_nonneg y.im; grind)
  have h3 : (R * R) * (y.re * y.re + y.im * y.im) ≤ (R * R) * (S * S) := Rat.mul_le_mul_of_nonneg_left s1 (sq_nonneg R)
  grind
theorem Bd.conj {x : CxW} {R : Rat} (hx : Bd x R) : Bd x.conj R := ⟨hx.1, by have := hx.2; simp only [CxW.conj]; grind⟩
theorem Bd.re {x : CxW} {R : Rat} (hx : Bd x R) : -R ≤ x.re ∧ x.re ≤ R := by
  have h := sq_nonneg x.im
  have h2 : x.re ≤ R := le_of_sq hx.1 (by have := hx.2; grind)
  have h3 : -x.re ≤ R := le_of_sq hx.1 (by have := hx.2; grind)
  exact ⟨by grind, h2⟩
theorem Bd.im {x : CxW} {R : Rat} (hx : Bd x R) : -R ≤ x.im ∧ x.im ≤ R := by
  have h := sq_nonneg x.re
  have h2 : x.im ≤ R := le_of_sq hx.1 (by have := hx.2; grind)
  have h3 : -x.im ≤ R := le_of_sq hx.1 (by have := hx.2; grind)
  exact ⟨by grind, h2⟩
theorem sq_le {a d : Rat} (h1 : -d ≤ a) (h2 : a ≤ d) : a * a ≤ d * d := by
  have : 0 ≤ (d - a) * (d + a) := Rat.mul_nonneg (by grind) (by grind)
  grind
/-- Of two small coordinates. -/
theorem Bd.of_parts {z : CxW} {d : Rat} (hd : 0 ≤ d) (h1 : -d ≤ z.re) (h2 : z.re ≤ d) (h3 : -d ≤ z.im) (h4 : z.im ≤ d) : Bd z (3 / 2 * d) := by
  have a := sq_le h1 h2
  have b := sq_le h3 h4
  have c := sq_nonneg d
  exact ⟨by grind, by grind⟩
theorem Bd.pow {x : CxW} (hx : Bd x 1) (n : Nat) : Bd (CxW.pow x n) 1 := by
  induction n with
  | zero => exact Bd.one_
  | succ n ih =>
    have := ih.mul hx
    rw [show (1 : Rat) * 1 = 1 by decide +kernel] at this
    exact this

end Go.Proofs.YtblkejnckbeieaaGreatDoor.WaveP

namespace Go.Proofs.YtblkejnckbeieaaGreatDoor.WaveP
open CxW

def sm : Nat → (Nat → CxW) → CxW
  | 0, _ => zero
  | n + 1, f => sm n f + f n
theorem sm_zero (f : Nat → CxW) : sm 0 f = zero := rfl
theorem sm_succ (n : Nat) (f : Nat → CxW) : sm (n + 1) f = sm n f + f n := rfl
theorem sm_congr {n : Nat} {f g : Nat → CxW} (h : ∀ j, j < n → f j = g j) : sm n f = sm n g := by
  induction n with
  | zero => rfl
  | succ n ih => rw [sm_succ, sm_succ, ih fun j hj => h j (by omega), h n (by omega)]
theorem add4 (a b c d : CxW) : a + b + (c + d) = a + c + (b + d) := by rw [add_assoc, ← add_assoc b, add_comm b c, add_assoc c, ← add_assoc]
theorem sm_add (n : Nat) (f g : Nat → CxW) : sm n (fun j => f j + g j) = sm n f + sm n g := by
  induction n with
  | zero => rw [sm_zero, sm_zero, sm_zero, zero_add]
  | succ n ih => rw [sm_succ, ih, sm_succ, sm_succ, add4]
theorem sm_mul (n : Nat) (c : CxW) (f : Nat → CxW) : c * sm n f = sm n fun j => c * f j := by
  induction n with
  | zero => rw [sm_zero, sm_zero, mul_zero]
  | succ n ih => rw [sm_succ, sm_succ, mul_add, ih]
theorem sm_mul_r (n : Nat) (c : CxW) (f : Nat → CxW) : sm n f * c = sm n fun j => f j * c := by
  rw [mul_comm, sm_mul]
  exact sm_congr fun j _ => mul_comm _ _
theorem sm_none (n : Nat) : sm n (fun _ => zero) = zero := by
  induction n with
  | zero => rfl
  | succ n ih => rw [sm_succ, ih, zero_add]
theorem sm_swap (n m : Nat) (f : Nat → Nat → CxW) : sm n (fun i => sm m (f i)) = sm m fun j => sm n fun i => f i j := by
  induction n with
  | zero => rw [sm_zero]; exact (sm_none m).symm
  | succ n ih => rw [sm_succ, ih, ← sm_add]; exact sm_congr fun j _ => (sm_succ n _).symm
theorem sm_conj (n : Nat) (f : Nat → CxW) : conj (sm n f) = sm n fun j => conj (f j) := by
  induction n with
  | zero => exact conj_zero
  | succ n ih => rw [sm_succ, sm_succ, conj_add, ih]
theorem sm_two (n : Nat) (f : Nat → CxW) : sm (2 * n) f = sm n (fun j => f (2 * j)) + sm n (fun j => f (2 * j + 1)) := by
  induction n with
  | zero => rw [Nat.mul_zero, sm_zero, sm_zero, sm_zero, zero_add]
  | succ n ih =>
    rw [show 2 * (n + 1) = 2 * n + 1 + 1 by omega, sm_succ, sm_succ, ih, sm_succ, sm_succ, add_assoc, add_assoc, add_assoc]
    congr 1
    rw [← add_assoc, ← add_assoc, add_comm (sm n _)]
theorem Bd.sm {n : Nat} {f : Nat → CxW} {R : Rat} (h : ∀ j, j < n → Bd (f j) R) : Bd (WaveP.sm n f) (n * R) := by
  induction n with
  | zero => exact Bd.zero_.mono (by simp)
  | succ n ih =>
    rw [sm_succ]
    refine ((ih fun j hj => h j (by omega)).add (h n (by omega))).mono ?_
    have : ((n + 1 : Nat) : Rat) = (n : Rat) + 1 := by simp
    rw [this]
    grind
/-- A term alone. -/
theorem sm_one {n m : Nat} (hm : m < n) (f : Nat → CxW) (h : ∀ j, j < n → j ≠ m → f j = zero) : sm n f = f m := by
  induction n with
  | zero => omega
  | succ n ih =>
    rw [sm_succ]
    by_cases e : m = n
    · subst e
      rw [sm_congr (g := fun _ => zero) fun j hj => h j (by omega) (by omega), sm_none, zero_add]
    · rw [ih (by omega) fun j hj hne => h j (by omega) hne, h n (by omega) (by omega), add_zero]
/-- Terms further on. -/
theorem sm_shift (n i : Nat) (f : Nat → CxW) (h : ∀ j, j < i → f j = zero) : sm (i + n) f = sm n fun j => f (i + j) := by
  induction n with
  | zero =>
    rw [Nat.add_zero, sm_zero, sm_congr (g := fun _ => zero) h, sm_none]
  | succ n ih => rw [← Nat.add_assoc, sm_succ, ih, sm_succ]
theorem sm_more (n m : Nat) (f : Nat → CxW) (h : ∀ j, n ≤ j → j < n + m → f j = zero) : sm (n + m) f = sm n f := by
  induction m with
  | zero => rfl
  | succ m ih => rw [← Nat.add_assoc, sm_succ, ih fun j h1 h2 => h j h1 (by omega), h (n + m) (by omega) (by omega), add_zero]

/-- Near roots of one: each is the next one's square, all have size one, and the first is near -1. -/
structure Roots (Z : Nat → CxW) (t : Rat) : Prop where
  sq : ∀ l, l < 12 → Z l = Z (l + 1) * Z (l + 1)
  bd : ∀ l, l ≤ 12 → Bd (Z l) 1
  unit : ∀ l, l ≤ 12 → Z l * conj (Z l) = one
  t0 : 0 ≤ t
  t1 : t ≤ 1
  half : Bd (Z 1 + one) t

section
variable {Z : Nat → CxW} {t : Rat}
theorem Roots.conj (h : Roots Z t) : Roots (fun l => conj (Z l)) t := by
  refine ⟨fun l hl => ?_, fun l hl => (h.bd l hl).conj, fun l hl => ?_, h.t0, h.t1, ?_⟩
  · show CxW.conj (Z l) = _
    rw [h.sq l hl, conj_mul]
  · show CxW.conj (Z l) * CxW.conj (CxW.conj (Z l)) = one
    rw [conj_conj, mul_comm, h.unit l hl]
  · have := h.half.conj
    rw [conj_add, conj_one] at this
    exact this
theorem Roots.pow_next (h : Roots Z t) {l : Nat} (hl : l < 12) (k : Nat) : pow (Z l) k = pow (Z (l + 1)) (2 * k) := by
  rw [pow_mul, pow_succ, pow_one, ← h.sq l hl]
/-- The half turn. -/
theorem Roots.pow_half (h : Roots Z t) : ∀ l, l < 12 → pow (Z (l + 1)) (2 ^ l) = Z 1 := by
  intro l
  induction l with
  | zero => intro _; rw [Nat.pow_zero, pow_one]
  | succ l ih =>
    intro hl
    rw [Nat.pow_succ, Nat.mul_comm, ← h.pow_next (by omega)]
    exact ih (by omega)
theorem Roots.pow_full (h : Roots Z t) : ∀ l, l ≤ 12 → pow (Z l) (2 ^ l) = Z 0 := by
  intro l hl
  cases l with
  | zero => rw [Nat.pow_zero, pow_one]
  | succ l =>
    rw [Nat.pow_succ, pow_mul, h.pow_half l (by omega), h.sq 0 (by omega), pow_succ, pow_one]
theorem Roots.zero_near (h : Roots Z t) : Bd (Z 0 - one) (3 * t) := by
  have e : Z 0 - one = (Z 1 + one) * (Z 1 - one) := by
    rw [h.sq 0 (by omega)]
    apply CxW.ext' <;> simp only [mul_re, mul_im, add_re, add_im, sub_re, sub_im, one_re, one_im] <;> grind
  rw [e]
  have h1 : Bd (Z 1 - one) (1 + 1) := (h.bd 1 (by omega)).sub Bd.one_
  exact (h.half.mul h1).mono (by have := h.t0; grind)
theorem pow_near {x : CxW} {d : Rat} (hx : Bd x 1) (hd : Bd (x - one) d) (n : Nat) : Bd (pow x n - one) (n * d) := by
  induction n with
  | zero =>
    rw [pow_zero, sub_self]
    exact Bd.zero_.mono (by simp)
  | succ n ih =>
    have e : pow x (n + 1) - one = pow x n * (x - one) + (pow x n - one) := by
      rw [pow_succ]
      apply CxW.ext' <;> simp only [mul_re, mul_im, add_re, add_im, sub_re, sub_im, one_re, one_im] <;> grind
    rw [e]
    have h1 := (hx.pow n).mul hd
    refine (h1.add ih).mono ?_
    have : ((n + 1 : Nat) : Rat) = (n : Rat) + 1 := by simp
    rw [this]
    grind

/-- The transform of 2^l numbers, at the place k. -/
def F (Z : Nat → CxW) : Nat → (Nat → CxW) → Nat → CxW
  | 0, x, _ => x 0
  | l + 1, x, k => F Z l (fun j => x (2 * j)) k + pow (Z (l + 1)) k * F Z l (fun j => x (2 * j + 1)) k
theorem F_zero (x : Nat → CxW) (k : Nat) : F Z 0 x k = x 0 := rfl
theorem F_succ (l : Nat) (x : Nat → CxW) (k : Nat) : F Z (l + 1) x k = F Z l (fun j => x (2 * j)) k + pow (Z (l + 1)) k * F Z l (fun j => x (2 * j + 1)) k := rfl
theorem F_sum (h : Roots Z t) : ∀ (l : Nat) (x : Nat → CxW) (k : Nat), l ≤ 12 → F Z l x k = sm (2 ^ l) fun j => x j * pow (Z l) (j * k) := by
  intro l
  induction l with
  | zero =>
    intro x k _
    rw [F_zero, Nat.pow_zero, sm_succ, sm_zero, zero_add, Nat.zero_mul, pow_zero, mul_one]
  | succ l ih =>
    intro x k hl
    rw [F_succ, ih _ k (by omega), ih _ k (by omega), Nat.pow_succ, Nat.mul_comm (2 ^ l) 2, sm_two, sm_mul]
    congr 1
    · refine sm_congr fun j _ => ?_
      rw [h.pow_next (by omega), Nat.mul_assoc]
    · refine sm_congr fun j _ => ?_
      rw [h.pow_next (l := l) (by omega) (j * k), ← mul_assoc, mul_comm (pow (Z (l + 1)) k), mul_assoc, ← pow_add]
      congr 2
      rw [Nat.add_mul, Nat.one_mul, Nat.add_comm, Nat.mul_assoc]
theorem F_congr : ∀ (l : Nat) {x y : Nat → CxW} (k : Nat), (∀ j, j < 2 ^ l → x j = y j) → F Z l x k = F Z l y k := by
  intro l
  induction l with
  | zero => intro x y k h; exact h 0 (by simp)
  | succ l ih =>
    intro x y k h
    rw [Nat.pow_succ] at h
    rw [F_succ, F_succ, ih k fun j hj => h (2 * j) (by omega), ih k fun j hj => h (2 * j + 1) (by omega)]
theorem F_bd (h : Roots Z t) {V : Rat} : ∀ (l : Nat) (x : Nat → CxW) (k : Nat), l ≤ 12 → (∀ j, j < 2 ^ l → Bd (x j) V) → Bd (F Z l x k) ((2 ^ l : Nat) * V) := by
  intro l x k hl hx
  rw [F_sum h l x k hl]
  refine Bd.sm fun j hj => ?_
  have := (hx j hj).mul ((h.bd l hl).pow (j * k))
  exact this.mono (by grind)
/-- A whole turn further on. -/
theorem F_turn (h : Roots Z t) {V : Rat} (hV : 0 ≤ V) (l : Nat) (x : Nat → CxW) (k : Nat) (hl : l ≤ 12) (hx : ∀ j, j < 2 ^ l → Bd (x j) V) : Bd (F Z l x (k + 2 ^ l) - F Z l x k) (50331648 * V * t) := by
  rw [F_sum h l x _ hl, F_sum h l x k hl]
  have e : sm (2 ^ l) (fun j => x j * pow (Z l) (j * (k + 2 ^ l))) - sm (2 ^ l) (fun j => x j * pow (Z l) (j * k)) = sm (2 ^ l) fun j => x j * (pow (Z l) (j * k) * (pow (Z 0) j - one)) := by
    have e1 : ∀ j, x j * (pow (Z l) (j * k) * (pow (Z 0) j - one)) + x j * pow (Z l) (j * k) = x j * pow (Z l) (j * (k + 2 ^ l)) := fun j => by
      rw [Nat.mul_add, pow_add, Nat.mul_comm j (2 ^ l), pow_mul (Z l) (2 ^ l), h.pow_full l hl]
      apply CxW.ext' <;> simp only [mul_re, mul_im, add_re, add_im, sub_re, sub_im, one_re, one_im] <;> grind
    rw [sm_congr (f := fun j => x j * pow (Z l) (j * (k + 2 ^ l))) fun j _ => (e1 j).symm, sm_add]
    apply CxW.ext' <;> simp only [add_re, add_im, sub_re, sub_im] <;> grind
  rw [e]
  have h2 : 2 ^ l ≤ 4096 := by
    have := Nat.pow_le_pow_right (show 1 ≤ 2 by omega) hl
    simpa using this
  have ht := h.t0
  have hvt : 0 ≤ V * t := Rat.mul_nonneg hV ht
  have h4 : ∀ n : Nat, n ≤ 4096 → (n : Rat) ≤ 4096 := fun n hn => by exact_mod_cast hn
  have key : ∀ j, j < 2 ^ l → Bd (x j * (pow (Z l) (j * k) * (pow (Z 0) j - one))) (12288 * (V * t)) := fun j hj => by
    have a1 := pow_near (h.bd 0 (by omega)) h.zero_near j
    have a2 := (hx j hj).mul (((h.bd l hl).pow (j * k)).mul a1)
    refine a2.mono ?_
    have a3 := h4 j (by omega)
    have a4 : (j : Rat) * (V * t) ≤ 4096 * (V * t) := Rat.mul_le_mul_of_nonneg_right a3 hvt
    grind
  refine (Bd.sm key).mono ?_
  have a3 := h4 _ h2
  have a4 : ((2 ^ l : Nat) : Rat) * (V * t) ≤ 4096 * (V * t) := Rat.mul_le_mul_of_nonneg_right a3 hvt
  grind
/-- The step of two halves: the second half of the places is told by the first one's. -/
theorem F_half (h : Roots Z t) {V : Rat} (hV : 0 ≤ V) (l : Nat) (x : Nat → CxW) (k : Nat) (hl : l < 12) (hx : ∀ j, j < 2 ^ (l + 1) → Bd (x j) V) :
    Bd (F Z (l + 1) x (k + 2 ^ l) - (F Z l (fun j => x (2 * j)) k - pow (Z (l + 1)) k * F Z l (fun j => x (2 * j + 1)) k)) (150000000 * V * t) := by
  have he : ∀ j, j < 2 ^ l → Bd (x (2 * j)) V := fun j hj => hx _ (by rw [Nat.pow_succ]; omega)
  have ho : ∀ j, j < 2 ^ l → Bd (x (2 * j + 1)) V := fun j hj => hx _ (by rw [Nat.pow_succ]; omega)
  have t1 := F_turn h hV l _ k (by omega) he
  have t2 := F_turn h hV l _ k (by omega) ho
  have b2 := F_bd h l _ k (by omega) ho
  rw [F_succ, pow_add, h.pow_half l hl]
  generalize F Z l (fun j => x (2 * j)) (k + 2 ^ l) = a' at t1 ⊢
  generalize F Z l (fun j => x (2 * j)) k = a at t1 ⊢
  generalize F Z l (fun j => x (2 * j + 1)) (k + 2 ^ l) = b' at t2 ⊢
  generalize F Z l (fun j => x (2 * j + 1)) k = b at t2 b2 ⊢
  have hw := (h.bd (l + 1) (by omega)).pow k
  generalize pow (Z (l + 1)) k = w at hw ⊢
  have e : a' + w * Z 1 * b' - (a - w * b) = (a' - a) + (w * (Z 1 * (b' - b)) + w * ((Z 1 + one) * b)) := by
    apply CxW.ext' <;> simp only [mul_re, mul_im, add_re, add_im, sub_re, sub_im, one_re, one_im] <;> grind
  rw [e]
  have c1 := hw.mul ((h.bd 1 (by omega)).mul t2)
  have c2 := hw.mul (h.half.mul b2)
  refine (t1.add (c1.add c2)).mono ?_
  have h2 : 2 ^ l ≤ 4096 := by
    have := Nat.pow_le_pow_right (show 1 ≤ 2 by omega) (Nat.le_of_lt hl)
    simpa using this
  have h4 : ((2 ^ l : Nat) : Rat) ≤ 4096 := by exact_mod_cast h2
  have hvt : 0 ≤ V * t := Rat.mul_nonneg hV h.t0
  have a4 : ((2 ^ l : Nat) : Rat) * (V * t) ≤ 4096 * (V * t) := Rat.mul_le_mul_of_nonneg_right h4 hvt
  grind
end

end Go.Proofs.YtblkejnckbeieaaGreatDoor.WaveP

namespace Go.Proofs.YtblkejnckbeieaaGreatDoor.WaveP
open CxW

/-- The product's numbers. -/
def cv (a b : Nat → CxW) (m : Nat) : CxW := sm (m + 1) fun i => a i * b (m - i)
section
variable {Z : Nat → CxW} {t : Rat}
theorem F_mul (h : Roots Z t) (l : Nat) (a b : Nat → CxW) (k : Nat) (hl : l ≤ 12) (hab : ∀ i j, i < 2 ^ l → j < 2 ^ l → 2 ^ l ≤ i + j → a i * b j = zero) :
    F Z l a k * F Z l b k = F Z l (cv a b) k := by
  rw [F_sum h l a k hl, F_sum h l b k hl, F_sum h l _ k hl]
  generalize 2 ^ l = N at hab ⊢
  generalize Z l = z
  have e1 : ∀ i, i < N → (a i * pow z (i * k)) * sm N (fun j => b j * pow z (j * k)) = sm N fun m => if i ≤ m then a i * b (m - i) * pow z (m * k) else zero := fun i hi => by
    have s1 : (a i * pow z (i * k)) * sm N (fun j => b j * pow z (j * k)) = sm N fun j => a i * b j * pow z ((i + j) * k) := by
      rw [sm_mul]
      refine sm_congr fun j _ => ?_
      rw [Nat.add_mul, pow_add]
      apply CxW.ext' <;> simp only [mul_re, mul_im] <;> grind
    rw [s1]
    have s2 := sm_shift (N - i) i (fun m => if i ≤ m then a i * b (m - i) * pow z (m * k) else zero) fun j hj => if_neg (by omega)
    rw [show i + (N - i) = N by omega] at s2
    rw [s2]
    have s3 := sm_more (N - i) i (fun j => a i * b j * pow z ((i + j) * k)) fun j h1 h2 => by
      show a i * b j * _ = zero
      rw [hab i j hi (by omega) (by omega), zero_mul]
    rw [show N - i + i = N by omega] at s3
    rw [s3]
    refine sm_congr fun j _ => ?_
    show _ = if i ≤ i + j then _ else _
    rw [if_pos (by omega), Nat.add_sub_cancel_left]
  rw [sm_mul_r, sm_congr e1, sm_swap]
  refine sm_congr fun m hm => ?_
  have s4 := sm_more (m + 1) (N - (m + 1)) (fun i => if i ≤ m then a i * b (m - i) * pow z (m * k) else zero) fun i h1 _ => if_neg (by omega)
  rw [show m + 1 + (N - (m + 1)) = N by omega] at s4
  show sm N (fun i => if i ≤ m then a i * b (m - i) * pow z (m * k) else zero) = _
  rw [s4]
  unfold cv
  rw [sm_mul_r]
  refine sm_congr fun i hi => ?_
  rw [if_pos (by omega)]

def S (l : Nat) (y : CxW) : CxW := sm (2 ^ l) fun k => pow y k
theorem S_succ (l : Nat) (y : CxW) : S (l + 1) y = (one + y) * S l (y * y) := by
  unfold S
  rw [Nat.pow_succ, Nat.mul_comm, sm_two, add_mul, one_mul, sm_mul]
  congr 1
  · refine sm_congr fun k _ => ?_
    rw [pow_mul, pow_succ, pow_one]
  · refine sm_congr fun k _ => ?_
    rw [pow_succ, pow_mul, pow_succ, pow_one, mul_comm]
theorem S_one (l : Nat) : S l one = ⟨(2 ^ l : Nat), 0⟩ := by
  unfold S
  rw [sm_congr (g := fun _ => one) fun k _ => one_pow k]
  generalize 2 ^ l = n
  induction n with
  | zero => rfl
  | succ n ih =>
    rw [sm_succ, ih]
    have : ((n + 1 : Nat) : Rat) = (n : Rat) + 1 := by simp
    apply CxW.ext' <;> simp only [add_re, add_im, one_re, one_im, this] <;> grind
theorem S_bd (l : Nat) {y : CxW} (hy : Bd y 1) : Bd (S l y) ((2 ^ l : Nat) : Rat) := by
  have := Bd.sm (n := 2 ^ l) (f := fun k => pow y k) (R := 1) fun k _ => hy.pow k
  exact this.mono (by grind)
theorem pow4 (l : Nat) : ((4 ^ l : Nat) : Rat) = ((2 ^ l : Nat) : Rat) * ((2 ^ l : Nat) : Rat) := by
  rw [← Rat.natCast_mul, ← Nat.mul_pow]
/-- A factor near one changes the sum little. -/
theorem S_near (l : Nat) {y u : CxW} {d : Rat} (hy : Bd y 1) (hu : Bd u 1) (hd : Bd (u - one) d) : Bd (S l (y * u) - S l y) (((4 ^ l : Nat) : Rat) * d) := by
  have e : S l (y * u) - S l y = sm (2 ^ l) fun k => pow y k * (pow u k - one) := by
    unfold S
    have e1 : ∀ k, pow y k * (pow u k - one) + pow y k = pow (y * u) k := fun k => by
      rw [mul_pow]
      apply CxW.ext' <;> simp only [mul_re, mul_im, add_re, add_im, sub_re, sub_im, one_re, one_im] <;> grind
    rw [sm_congr (f := fun k => pow (y * u) k) fun k _ => (e1 k).symm, sm_add]
    apply CxW.ext' <;> simp only [add_re, add_im, sub_re, sub_im] <;> grind
  rw [e]
  have hd0 := hd.1
  have key : ∀ k, k < 2 ^ l → Bd (pow y k * (pow u k - one)) (((2 ^ l : Nat) : Rat) * d) := fun k hk => by
    refine ((hy.pow k).mul (pow_near hu hd k)).mono ?_
    have : (k : Rat) ≤ ((2 ^ l : Nat) : Rat) := by exact_mod_cast Nat.le_of_lt hk
    have := Rat.mul_le_mul_of_nonneg_right this hd0
    grind
  refine (Bd.sm key).mono ?_
  rw [pow4]
  grind
theorem S_small (h : Roots Z t) : ∀ l, l ≤ 12 → ∀ d, 0 < d → d < 2 ^ l → Bd (S l (pow (Z l) d)) (8 * ((4 ^ l : Nat) : Rat) * t) := by
  intro l
  induction l with
  | zero => intro _ d h0 h1; simp at h1; omega
  | succ l ih =>
    intro hl d h0 h1
    rw [Nat.pow_succ] at h1
    have ht := h.t0
    have hz : pow (Z (l + 1)) d * pow (Z (l + 1)) d = pow (Z l) d := by rw [← pow_add, h.pow_next (l := l) (by omega)]; congr 1; omega
    have b1 : Bd (one + pow (Z (l + 1)) d) 2 := (Bd.one_.add ((h.bd (l + 1) (by omega)).pow d)).mono (by decide +kernel)
    have h4 : ((4 ^ (l + 1) : Nat) : Rat) = 4 * ((4 ^ l : Nat) : Rat) := by rw [Nat.pow_succ, Rat.natCast_mul]; grind
    have p4 : 0 ≤ ((4 ^ l : Nat) : Rat) := by exact_mod_cast Nat.zero_le _
    have p4t : 0 ≤ ((4 ^ l : Nat) : Rat) * t := Rat.mul_nonneg p4 ht
    rw [S_succ, hz]
    by_cases hd : d < 2 ^ l
    · refine (b1.mul (ih (by omega) d h0 hd)).mono ?_
      rw [h4]
      grind
    · by_cases he : d = 2 ^ l
      · subst he
        rw [h.pow_half l (by omega), add_comm]
        refine (h.half.mul (S_bd l ((h.bd l (by omega)).pow _))).mono ?_
        rw [h4, pow4]
        have q1 : 1 ≤ 2 ^ l := Nat.one_le_two_pow
        have q2 : (1 : Rat) ≤ ((2 ^ l : Nat) : Rat) := by exact_mod_cast q1
        have q3 : 0 ≤ ((2 ^ l : Nat) : Rat) * t := Rat.mul_nonneg (by grind) ht
        have q4 := Rat.mul_le_mul_of_nonneg_right q2 q3
        grind
      · obtain ⟨d', rfl⟩ : ∃ d', d = d' + 2 ^ l := ⟨d - 2 ^ l, by omega⟩
        have hb := ih (by omega) d' (by omega) (by omega)
        have hp : pow (Z l) (d' + 2 ^ l) = pow (Z l) d' * Z 0 := by rw [pow_add, h.pow_full l (by omega)]
        have hn := S_near l ((h.bd l (by omega)).pow d') (h.bd 0 (by omega)) h.zero_near
        rw [hp]
        generalize S l (pow (Z l) d') = s at hb hn
        have e : S l (pow (Z l) d' * Z 0) = (S l (pow (Z l) d' * Z 0) - s) + s := by
          apply CxW.ext' <;> simp only [add_re, add_im, sub_re, sub_im] <;> grind
        rw [e]
        refine (b1.mul (hn.add hb)).mono ?_
        rw [h4]
        grind
theorem S_conj (l : Nat) (y : CxW) : S l (conj y) = conj (S l y) := by
  unfold S
  rw [sm_conj]
  exact sm_congr fun k _ => (conj_pow y k).symm

/-- There and back: the numbers, so many times. -/
theorem F_back (h : Roots Z t) {V : Rat} (hV : 0 ≤ V) (l : Nat) (c : Nat → CxW) (m : Nat) (hl : l ≤ 12) (hm : m < 2 ^ l) (hc : ∀ j, j < 2 ^ l → Bd (c j) V) :
    Bd (F (fun l => conj (Z l)) l (F Z l c) m - ⟨(2 ^ l : Nat), 0⟩ * c m) (600000000000 * V * t) := by
  have ht := h.t0
  have hvt : 0 ≤ V * t := Rat.mul_nonneg hV ht
  have hn : 2 ^ l ≤ 4096 := by
    have := Nat.pow_le_pow_right (show 1 ≤ 2 by omega) hl
    simpa using this
  have hn4 : 4 ^ l ≤ 16777216 := by
    have := Nat.pow_le_pow_right (show 1 ≤ 4 by omega) hl
    simpa using this
  rw [F_sum h.conj l _ m hl]
  have e1 : sm (2 ^ l) (fun k => F Z l c k * pow (conj (Z l)) (k * m)) = sm (2 ^ l) fun j => c j * S l (pow (Z l) j * pow (conj (Z l)) m) := by
    rw [sm_congr (g := fun k => sm (2 ^ l) fun j => c j * pow (pow (Z l) j * pow (conj (Z l)) m) k) fun k _ => by
      rw [F_sum h l c k hl, sm_mul_r]
      refine sm_congr fun j _ => ?_
      rw [mul_pow, ← pow_mul, ← pow_mul, Nat.mul_comm k m, mul_assoc], sm_swap]
    refine sm_congr fun j _ => ?_
    unfold S
    rw [sm_mul]
  rw [e1]
  have hmm : pow (Z l) m * pow (conj (Z l)) m = one := by rw [← mul_pow, h.unit l hl, one_pow]
  have hsplit : sm (2 ^ l) (fun j => c j * S l (pow (Z l) j * pow (conj (Z l)) m)) - ⟨(2 ^ l : Nat), 0⟩ * c m
      = sm (2 ^ l) fun j => if j = m then zero else c j * S l (pow (Z l) j * pow (conj (Z l)) m) := by
    have s1 := sm_add (2 ^ l) (fun j => if j = m then zero else c j * S l (pow (Z l) j * pow (conj (Z l)) m)) (fun j => if j = m then ⟨(2 ^ l : Nat), 0⟩ * c m else zero)
    have s2 := sm_one hm (fun j => if j = m then (⟨(2 ^ l : Nat), 0⟩ : CxW) * c m else zero) fun j _ hne => if_neg hne
    simp only [if_true] at s2
    have s3 : sm (2 ^ l) (fun j => c j * S l (pow (Z l) j * pow (conj (Z l)) m)) = sm (2 ^ l) fun j => (if j = m then zero else c j * S l (pow (Z l) j * pow (conj (Z l)) m)) + (if j = m then ⟨(2 ^ l : Nat), 0⟩ * c m else zero) :=
      sm_congr fun j _ => by
        by_cases he : j = m
        · subst he
          rw [if_pos rfl, if_pos rfl, zero_add, hmm, S_one, mul_comm]
        · rw [if_neg he, if_neg he, add_zero]
    rw [s3, s1, s2]
    apply CxW.ext' <;> simp only [add_re, add_im, sub_re, sub_im] <;> grind
  rw [hsplit]
  have key : ∀ j, j < 2 ^ l → Bd (if j = m then zero else c j * S l (pow (Z l) j * pow (conj (Z l)) m)) (134217728 * (V * t)) := fun j hj => by
    by_cases he : j = m
    · rw [if_pos he]; exact Bd.zero_.mono (by grind)
    · rw [if_neg he]
      have hS : Bd (S l (pow (Z l) j * pow (conj (Z l)) m)) (8 * ((4 ^ l : Nat) : Rat) * t) := by
        rcases Nat.lt_or_ge j m with hlt | hge
        · have e : pow (Z l) j * pow (conj (Z l)) m = conj (pow (Z l) (m - j)) := by
            rw [show m = j + (m - j) by omega, pow_add, ← mul_assoc, ← mul_pow, h.unit l hl, one_pow, one_mul, conj_pow]
            congr 1; omega
          rw [e, S_conj]
          exact (S_small h l hl _ (by omega) (by omega)).conj
        · have e : pow (Z l) j * pow (conj (Z l)) m = pow (Z l) (j - m) := by
            rw [show j = (j - m) + m by omega, pow_add, mul_assoc, hmm, mul_one]
            congr 1; omega
          rw [e]
          exact S_small h l hl _ (by omega) (by omega)
      refine ((hc j hj).mul hS).mono ?_
      have q : ((4 ^ l : Nat) : Rat) ≤ 16777216 := by exact_mod_cast hn4
      have q2 := Rat.mul_le_mul_of_nonneg_right q hvt
      grind
  refine (Bd.sm key).mono ?_
  have q : ((2 ^ l : Nat) : Rat) ≤ 4096 := by exact_mod_cast hn
  have q2 := Rat.mul_le_mul_of_nonneg_right q hvt
  grind
end

end Go.Proofs.YtblkejnckbeieaaGreatDoor.WaveP
