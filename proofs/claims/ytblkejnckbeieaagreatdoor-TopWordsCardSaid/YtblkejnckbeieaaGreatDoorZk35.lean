/- Rounding a word to the nearest whole number, by its bits; the word as a whole number.
  Products of whole numbers' rows, as sums over the complex numbers.
  The walk of points: numbers as points, as many as a transform has.
  The walk of math.Round.
  The walk of Transform the way back.
  The division by a complex number that is a power of two.
  How near the division by a power of two is.
  The walk of product: the numbers of the product of two rows that fit.
  How often a word's bytes stand at a text's places: counts, and the products that tell them.
  The walk of marks: 1 where a byte stands. -/
import Derived.Test.YtblkejnckbeieaaGreatDoorZk30
import Derived.Test.YtblkejnckbeieaaGreatDoorZk34
import Derived.Laws.FloatArith
import Derived.Laws.BitsAllLaws
import Derived.Laws.Externs
import Derived.Laws.ComplexQuo
namespace Go.Proofs.YtblkejnckbeieaaGreatDoor.WaveP

theorem cut_int {neg : Bool} {m n d : Nat} (h : m = n * 2 ^ d) : Ieee.Toward.zero.cut neg m d = n := by
  unfold Ieee.Toward.cut
  show m / (1 <<< min d (m.log2 + 2)) + 0 = n
  rw [Nat.add_zero, Nat.one_shiftLeft]
  by_cases hd : d ≤ m.log2 + 2
  · rw [Nat.min_eq_left hd, h, Nat.mul_div_cancel _ (Nat.two_pow_pos d)]
  · have hm : m < 2 ^ (m.log2 + 1) := Nat.lt_log2_self
    have h2 : 2 ^ (m.log2 + 1) ≤ 2 ^ d := Nat.pow_le_pow_right (by decide) (by omega)
    have hn : n = 0 := by
      rcases Nat.eq_zero_or_pos n with h0 | h0
      · exact h0
      · have : 2 ^ d ≤ n * 2 ^ d := Nat.le_mul_of_pos_left _ h0
        omega
    subst hn
    rw [Nat.zero_mul] at h
    subst h
    rw [Nat.zero_div]

/-- The word of a whole number, as an integer. -/
theorem toInt_word {w n : Nat} (hf : fin w = true) (hn : un (rg w) = n * 2 ^ c74) (hs : n < 4611686018427387904) :
    floatToIntVal .f64 w .i64 = some (if sg w then -(n : Int) else (n : Int)) := by
  unfold floatToIntVal
  have hd : FloatKind.f64.decode w = .number (sg w) (mg (rg w)) ((pl (rg w) : Int) - 1074) := read_fin hf
  have hcut : Ieee.Toward.zero.cut (sg w) (mg (rg w) <<< (((pl (rg w) : Int) - 1074)).toNat) (-((pl (rg w) : Int) - 1074)).toNat = n := by
    unfold un at hn
    have hc : c74 = 1074 := rfl
    rcases Nat.lt_or_ge (pl (rg w)) 1074 with h | h
    · have e1 : (((pl (rg w) : Int) - 1074)).toNat = 0 := by omega
      have e2 : (-((pl (rg w) : Int) - 1074)).toNat = 1074 - pl (rg w) := by omega
      rw [e1, e2, Nat.shiftLeft_zero]
      apply cut_int
      have e3 : c74 = (1074 - pl (rg w)) + pl (rg w) := by omega
      rw [e3, Nat.pow_add, ← Nat.mul_assoc] at hn
      exact Nat.eq_of_mul_eq_mul_right (Nat.two_pow_pos _) hn
    · have e1 : (((pl (rg w) : Int) - 1074)).toNat = pl (rg w) - 1074 := by omega
      have e2 : (-((pl (rg w) : Int) - 1074)).toNat = 0 := by omega
      rw [e1, e2]
      apply cut_int
      rw [Nat.shiftLeft_eq, Nat.pow_zero, Nat.mul_one]
      have e3 : pl (rg w) = (pl (rg w) - 1074) + c74 := by omega
      rw [e3, Nat.pow_add, ← Nat.mul_assoc] at hn
      exact Nat.eq_of_mul_eq_mul_right (Nat.two_pow_pos _) hn
  have ht : (FloatKind.f64.decode w).toInt .zero = some (if sg w then -(n : Int) else (n : Int)) := by
    rw [hd]
    unfold Ieee.Datum.toInt Ieee.Datum.integral
    dsimp only
    rw [hcut]
    unfold Ieee.signed
    rw [Nat.shiftLeft_zero]
  rw [ht]
  dsimp only
  have hmin : IntKind.i64.min = -9223372036854775808 := by decide +kernel
  have hmax : IntKind.i64.max = 9223372036854775807 := by decide +kernel
  rw [hmin, hmax, if_pos]
  split <;> omega

theorem val_abs {w : Nat} : ((un (rg w) : Nat) : Rat) * e0 = if sg w then -val w else val w := by
  unfold val sn
  cases sg w <;> simp <;> grind
/-- The whole number that is next to a word's size. -/
theorem near_abs {w : Nat} {c : Int} (h1 : val w - (c : Rat) ≤ 1 / 4) (h2 : (c : Rat) - val w ≤ 1 / 4) :
    4 * un (rg w) ≤ (4 * c.natAbs + 1) * 2 ^ c74 ∧ 4 * c.natAbs * 2 ^ c74 ≤ 4 * un (rg w) + 2 ^ c74 ∧ (c.natAbs = 0 ∨ (c = if sg w then -(c.natAbs : Int) else (c.natAbs : Int))) := by
  have he := e0_pos
  have hu0 : 0 ≤ ((un (rg w) : Nat) : Rat) * e0 := Rat.mul_nonneg (by exact_mod_cast Nat.zero_le _) (Rat.le_of_lt he)
  have key : ((un (rg w) : Nat) : Rat) * e0 - (c.natAbs : Rat) ≤ 1 / 4 ∧ (c.natAbs : Rat) - ((un (rg w) : Nat) : Rat) * e0 ≤ 1 / 4 ∧ (c.natAbs = 0 ∨ (c = if sg w then -(c.natAbs : Int) else (c.natAbs : Int))) := by
    rcases Int.natAbs_eq c with hc | hc
    · have hcr : (c : Rat) = (c.natAbs : Rat) := by
        have := congrArg (fun x : Int => (x : Rat)) hc
        rw [Rat.intCast_natCast] at this
        exact this
      rw [hcr] at h1 h2
      have hn : (0 : Rat) ≤ (c.natAbs : Rat) := by exact_mod_cast Nat.zero_le _
      by_cases h0 : c.natAbs = 0
      · rw [h0] at h1 h2 ⊢
        have e : ((0 : Nat) : Rat) = 0 := rfl
        rw [e] at h1 h2 ⊢
        rw [val_abs]
        refine ⟨?_, ?_, .inl rfl⟩ <;> split <;> grind
      · have h1n : (1 : Rat) ≤ (c.natAbs : Rat) := by exact_mod_cast (show 1 ≤ c.natAbs by omega)
        have hs : sg w = false := by
          cases hsg : sg w
          · rfl
          · have hv : ((un (rg w) : Nat) : Rat) * e0 = -val w := by rw [val_abs, hsg]; rfl
            exfalso; grind
        have hv : ((un (rg w) : Nat) : Rat) * e0 = val w := by rw [val_abs, hs]; rfl
        rw [hv, hs]
        exact ⟨h1, h2, .inr hc⟩
    · have hcr : (c : Rat) = -(c.natAbs : Rat) := by
        have := congrArg (fun x : Int => (x : Rat)) hc
        rw [Rat.intCast_neg, Rat.intCast_natCast] at this
        exact this
      rw [hcr] at h1 h2
      have hn : (0 : Rat) ≤ (c.natAbs : Rat) := by exact_mod_cast Nat.zero_le _
      by_cases h0 : c.natAbs = 0
      · rw [h0] at h1 h2 ⊢
        have e : ((0 : Nat) : Rat) = 0 := rfl
        rw [e] at h1 h2 ⊢
        rw [val_abs]
        refine ⟨?_, ?_, .inl rfl⟩ <;> split <;> grind
      · have h1n : (1 : Rat) ≤ (c.natAbs : Rat) := by exact_mod_cast (show 1 ≤ c.natAbs by omega)
        have hs : sg w = true := by
          cases hsg : sg w
          · have hv : ((un (rg w) : Nat) : Rat) * e0 = val w := by rw [val_abs, hsg]; rfl
            exfalso; grind
          · rfl
        have hv : ((un (rg w) : Nat) : Rat) * e0 = -val w := by rw [val_abs, hs]; rfl
        rw [hv, hs]
        exact ⟨by grind, by grind, .inr hc⟩
  obtain ⟨k1, k2, k3⟩ := key
  have hp := pw_pos c74
  have hm := e0_mul
  generalize hP : ((2 ^ c74 : Nat) : Rat) = P at hp hm
  have m1 : (((un (rg w) : Nat) : Rat) * e0 - (c.natAbs : Rat)) * P ≤ 1 / 4 * P := Rat.mul_le_mul_of_nonneg_right k1 (Rat.le_of_lt hp)
  have m2 : ((c.natAbs : Rat) - ((un (rg w) : Nat) : Rat) * e0) * P ≤ 1 / 4 * P := Rat.mul_le_mul_of_nonneg_right k2 (Rat.le_of_lt hp)
  have hue : ((un (rg w) : Nat) : Rat) * e0 * P = ((un (rg w) : Nat) : Rat) := by rw [Rat.mul_assoc, hm, Rat.mul_one]
  refine ⟨?_, ?_, k3⟩
  · have : (4 : Rat) * ((un (rg w) : Nat) : Rat) ≤ (4 * (c.natAbs : Rat) + 1) * P := by grind
    rw [← hP] at this
    exact_mod_cast this
  · have : 4 * (c.natAbs : Rat) * P ≤ 4 * ((un (rg w) : Nat) : Rat) + P := by grind
    rw [← hP] at this
    exact_mod_cast this

theorem mid_round {P Q G h m a q : Nat} (hP : P = Q * G) (hG : G = 2 * h) (hq : 4503599627370496 = q * G) (hQ : 0 < Q) (hh : 0 < h) (m1 : 4503599627370496 ≤ m) (m2 : m < 9007199254740992)
    (k1 : 4 * (m * Q) ≤ (4 * a + 1) * P) (k2 : 4 * a * P ≤ 4 * (m * Q) + P) : (m + h) / G = a ∧ 4503599627370496 ≤ a * G ∧ a * G ≤ 9007199254740992 := by
  have e1 : 4 * (m * Q) = 4 * m * Q := by rw [Nat.mul_assoc]
  have e2 : (4 * a + 1) * P = (4 * a + 1) * G * Q := by rw [hP, Nat.mul_comm Q G, Nat.mul_assoc]
  have e3 : 4 * a * P = 4 * a * G * Q := by rw [hP, Nat.mul_comm Q G, Nat.mul_assoc (4 * a)]
  have e4 : 4 * (m * Q) + P = (4 * m + G) * Q := by rw [hP, Nat.add_mul, e1, Nat.mul_comm Q G]
  rw [e1, e2] at k1
  rw [e3, e4] at k2
  have j1 := Nat.le_of_mul_le_mul_right k1 hQ
  have j2 := Nat.le_of_mul_le_mul_right k2 hQ
  have j3 : (4 * a + 1) * G = 4 * (a * G) + G := by rw [Nat.add_mul, Nat.mul_assoc, Nat.one_mul]
  have j4 : 4 * a * G = 4 * (a * G) := by rw [Nat.mul_assoc]
  rw [j3] at j1
  rw [j4] at j2
  have hd : (m + h) / G = a := by
    apply Nat.div_eq_of_lt_le
    · omega
    · rw [Nat.add_mul, Nat.one_mul]; omega
  have a1 : q ≤ a := by
    refine Nat.le_of_lt_succ (Nat.lt_of_mul_lt_mul_right (a := G) ?_)
    rw [Nat.succ_mul]; omega
  have a2 : a ≤ 2 * q := by
    refine Nat.le_of_lt_succ (Nat.lt_of_mul_lt_mul_right (a := G) ?_)
    rw [Nat.succ_mul, Nat.mul_assoc]; omega
  refine ⟨hd, ?_, ?_⟩
  · rw [hq]; exact Nat.mul_le_mul_right _ a1
  · have := Nat.mul_le_mul_right G a2
    rw [Nat.mul_assoc] at this
    omega
theorem mid_bits {r e G h a q m : Nat} (hr : r = (e - 1) * 4503599627370496 + m) (hq : 4503599627370496 = q * G) (hG : 0 < G) (hd : (m + h) / G = a) : (r + h) / G * G = (e - 1) * 4503599627370496 + a * G := by
  have e1 : r + h = (m + h) + ((e - 1) * q) * G := by rw [hr, hq, Nat.mul_assoc]; omega
  rw [e1, Nat.add_mul_div_right _ _ hG, hd, Nat.add_mul, hq, Nat.mul_assoc]
  omega
/-- The word's rounding, by its exponent. -/
def rndW (w : Nat) : Nat :=
  if rg w / 4503599627370496 < 1023 then (if rg w / 4503599627370496 = 1022 then wd (sg w) 4607182418800017408 else wd (sg w) 0)
  else wd (sg w) ((rg w + 2 ^ (1074 - rg w / 4503599627370496)) / 2 ^ (1075 - rg w / 4503599627370496) * 2 ^ (1075 - rg w / 4503599627370496))
def c1020 : Nat := 1020
theorem un_one : un 4607182418800017408 = 1 * 2 ^ c74 := by decide +kernel
theorem round_word {w : Nat} {c : Int} (hf : fin w = true) (h1 : val w - (c : Rat) ≤ 1 / 4) (h2 : (c : Rat) - val w ≤ 1 / 4) (hc : c.natAbs ≤ 1125899906842624) :
    rg w / 4503599627370496 < 1075 ∧ floatToIntVal .f64 (rndW w) .i64 = some c := by
  obtain ⟨k1, k2, k3⟩ := near_abs h1 h2
  have hP : ∃ P, P = 2 ^ c74 := ⟨_, rfl⟩
  obtain ⟨a, ha⟩ : ∃ a, a = c.natAbs := ⟨_, rfl⟩
  rw [← ha] at k1 k2 k3 hc
  have hfin : ∀ r, fin (wd (sg w) r) = true → r < infR → un r = a * 2 ^ c74 → floatToIntVal .f64 (wd (sg w) r) .i64 = some c := fun r h hr hu => by
    have := toInt_word (w := wd (sg w) r) (n := a) h (by rw [rg_wd hr]; exact hu) (by omega)
    rw [this, sg_wd hr]
    rcases k3 with h0 | h0
    · have : c = 0 := by omega
      rw [h0, this]; cases sg w <;> rfl
    · rw [← h0]
  obtain ⟨f1, f2⟩ := fin_iff.1 hf
  unfold infR at f2
  unfold rndW
  obtain ⟨e, he⟩ : ∃ e, e = rg w / 4503599627370496 := ⟨_, rfl⟩
  obtain ⟨m, hm⟩ : ∃ m, m = mg (rg w) := ⟨_, rfl⟩
  have hun : un (rg w) = m * 2 ^ (e - 1) := by unfold un pl; rw [hm, he]
  rw [hun] at k1 k2
  rw [← he]
  by_cases he1 : e < 1023
  · refine ⟨by omega, ?_⟩
    rw [if_pos he1]
    have hm2 : m < 9007199254740992 := by
      rw [hm]; unfold mg
      rw [ble_eq]
      by_cases h : 4503599627370496 ≤ rg w
      · rw [decide_eq_true h, cond_true]; omega
      · rw [decide_eq_false h, cond_false]; omega
    by_cases he2 : e = 1022
    · rw [if_pos he2]
      have hm1 : 4503599627370496 ≤ m := by
        rw [hm]; unfold mg
        rw [ble_t (by omega), cond_true]; omega
      have hpw : 2 ^ c74 = 2 ^ (e - 1) * 9007199254740992 := by rw [he2]; decide +kernel
      rw [hpw] at k1 k2
      have hq := Nat.two_pow_pos (e - 1)
      generalize 2 ^ (e - 1) = Q at k1 k2 hq
      have j1 : 4 * m ≤ (4 * a + 1) * 9007199254740992 := by
        refine Nat.le_of_mul_le_mul_right (c := Q) ?_ hq
        rw [Nat.mul_assoc, Nat.mul_assoc, Nat.mul_comm 9007199254740992 Q]; exact k1
      have j2 : 4 * a * 9007199254740992 ≤ 4 * m + 9007199254740992 := by
        refine Nat.le_of_mul_le_mul_right (c := Q) ?_ hq
        rw [Nat.add_mul, Nat.mul_assoc (4 * a), Nat.mul_assoc 4 m, Nat.mul_comm 9007199254740992 Q]; exact k2
      have ha1 : a = 1 := by omega
      exact hfin _ (fin_wd (by decide)) (by decide) (by rw [ha1]; exact un_one)
    · rw [if_neg he2]
      have hle : 2 ^ (e - 1) ≤ 2 ^ c1020 := Nat.pow_le_pow_right (by decide) (by unfold c1020; omega)
      have hpw : 2 ^ c74 = 2 ^ c1020 * 18014398509481984 := by decide +kernel
      rw [hpw] at k1 k2
      have hq := Nat.two_pow_pos c1020
      have hmq : m * 2 ^ (e - 1) ≤ m * 2 ^ c1020 := Nat.mul_le_mul_left _ hle
      generalize 2 ^ c1020 = Q at k1 k2 hq hmq
      have j2 : 4 * a * 18014398509481984 ≤ 4 * m + 18014398509481984 := by
        refine Nat.le_of_mul_le_mul_right (c := Q) ?_ hq
        rw [Nat.add_mul, Nat.mul_assoc (4 * a), Nat.mul_assoc 4 m, Nat.mul_comm 18014398509481984 Q]
        exact Nat.le_trans k2 (Nat.add_le_add_right (Nat.mul_le_mul_left 4 hmq) _)
      have ha1 : a = 0 := by omega
      exact hfin _ (fin_wd (by decide)) (by decide) (by rw [ha1, Nat.zero_mul]; rfl)
  · have hm1 : 4503599627370496 ≤ m ∧ m < 9007199254740992 ∧ rg w = (e - 1) * 4503599627370496 + m := by
      rw [hm]; unfold mg
      rw [ble_t (by omega), cond_true]; omega
    obtain ⟨hm1, hm2, hr⟩ := hm1
    have hQ := Nat.two_pow_pos (e - 1)
    by_cases he2 : e < 1075
    · refine ⟨he2, ?_⟩
      rw [if_neg he1]
      have hP : 2 ^ c74 = 2 ^ (e - 1) * 2 ^ (1075 - e) := by rw [← Nat.pow_add]; congr 1; unfold c74; omega
      have hG : 2 ^ (1075 - e) = 2 * 2 ^ (1074 - e) := by rw [show 1075 - e = (1074 - e) + 1 by omega, Nat.pow_succ, Nat.mul_comm]
      have hq : 4503599627370496 = 2 ^ (e - 1023) * 2 ^ (1075 - e) := by rw [← Nat.pow_add, show e - 1023 + (1075 - e) = 52 by omega]
      have hh := Nat.two_pow_pos (1074 - e)
      have hG0 := Nat.two_pow_pos (1075 - e)
      obtain ⟨i1, i2, i3⟩ := mid_round hP hG hq hQ hh hm1 hm2 k1 k2
      rw [mid_bits hr hq hG0 i1]
      have hlt : (e - 1) * 4503599627370496 + a * 2 ^ (1075 - e) < infR := by unfold infR; omega
      refine hfin _ (fin_wd hlt) hlt ?_
      rw [un_high i2 i3, Nat.mul_assoc, hP, Nat.mul_comm (2 ^ (1075 - e))]
    · exfalso
      have hle : 2 ^ c74 ≤ 2 ^ (e - 1) := Nat.pow_le_pow_right (by decide) (by unfold c74; omega)
      have h3 := Nat.mul_le_mul hm1 hle
      have hp0 := Nat.two_pow_pos c74
      generalize 2 ^ c74 = P at k1 hle h3 hp0
      have h4 : 4 * (4503599627370496 * P) ≤ (4 * a + 1) * P := Nat.le_trans (Nat.mul_le_mul_left 4 h3) k1
      rw [← Nat.mul_assoc] at h4
      have := Nat.le_of_mul_le_mul_right h4 hp0
      omega
end Go.Proofs.YtblkejnckbeieaaGreatDoor.WaveP

namespace Go.Proofs.YtblkejnckbeieaaGreatDoor.WaveP
open CxW

def smI : Nat → (Nat → Int) → Int
  | 0, _ => 0
  | n + 1, f => smI n f + f n
/-- The product's number at m. -/
def cvI (a b : Nat → Int) (m : Nat) : Int := smI (m + 1) fun i => a i * b (m - i)
def toC (x : Int) : CxW := ⟨(x : Rat), 0⟩
theorem toC_zero : toC 0 = CxW.zero := rfl
theorem toC_mul (x y : Int) : toC x * toC y = toC (x * y) := by
  apply CxW.ext' <;> simp only [toC, mul_re, mul_im, Rat.intCast_mul] <;> grind
theorem sm_toC (n : Nat) (f : Nat → Int) : sm n (fun i => toC (f i)) = toC (smI n f) := by
  induction n with
  | zero => rfl
  | succ n ih =>
    rw [sm_succ, ih]
    show _ = toC (smI n f + f n)
    apply CxW.ext' <;> simp only [toC, add_re, add_im, Rat.intCast_add] <;> grind
theorem cv_toC (a b : Nat → Int) (m : Nat) : cv (fun i => toC (a i)) (fun i => toC (b i)) m = toC (cvI a b m) := by
  unfold cv cvI
  rw [← sm_toC]
  exact sm_congr fun j _ => toC_mul _ _
theorem smI_bound (f : Nat → Int) (la B : Nat) (h : ∀ i, (f i).natAbs ≤ B) (h0 : ∀ i, la ≤ i → f i = 0) : ∀ n, (smI n f).natAbs ≤ min n la * B := by
  intro n
  induction n with
  | zero => simp [smI]
  | succ n ih =>
    show (smI n f + f n).natAbs ≤ _
    by_cases hn : la ≤ n
    · rw [h0 n hn, Int.add_zero]
      refine Nat.le_trans ih (Nat.mul_le_mul_right _ (by omega))
    · have := h n
      have e : min (n + 1) la = min n la + 1 := by omega
      rw [e, Nat.add_mul, Nat.one_mul]
      omega
theorem cvI_bound {a b : Nat → Int} {la : Nat} (ha : ∀ i, (a i).natAbs ≤ 256) (hb : ∀ i, (b i).natAbs ≤ 256) (h0 : ∀ i, la ≤ i → a i = 0) (hla : la ≤ 4096) (m : Nat) : (cvI a b m).natAbs ≤ 268435456 := by
  have h := smI_bound (fun i => a i * b (m - i)) la 65536 (fun i => by
    rw [Int.natAbs_mul]
    exact Nat.mul_le_mul (ha i) (hb _)) (fun i hi => by show a i * b (m - i) = 0; rw [h0 i hi, Int.zero_mul]) (m + 1)
  refine Nat.le_trans h ?_
  have : min (m + 1) la ≤ 4096 := by omega
  exact Nat.mul_le_mul_right 65536 this
theorem toC_bd {x : Int} {B : Nat} (h : x.natAbs ≤ B) : Bd (toC x) (B : Rat) := by
  have h1 : x ≤ (B : Int) := by omega
  have h2 : -(B : Int) ≤ x := by omega
  have h3 : (x : Rat) ≤ (B : Rat) := by
    have : ((x : Int) : Rat) ≤ (((B : Nat) : Int) : Rat) := by exact_mod_cast h1
    rwa [Rat.intCast_natCast] at this
  have h4 : -(B : Rat) ≤ (x : Rat) := by
    have : ((-(B : Int) : Int) : Rat) ≤ ((x : Int) : Rat) := by exact_mod_cast h2
    rwa [Rat.intCast_neg, Rat.intCast_natCast] at this
  have h0 : (0 : Rat) ≤ (B : Rat) := by exact_mod_cast Nat.zero_le B
  refine ⟨h0, ?_⟩
  have := sq_le h4 h3
  show (x : Rat) * (x : Rat) + 0 * 0 ≤ _
  grind

def EA : Rat := 4096 * (396 * (256 * uu))
theorem el_forth {L : Nat} (hL : L ≤ 12) : El 0 256 L ≤ EA := by
  have h := el_le (E0 := 0) (V0 := 256) hL (by decide +kernel)
  have hn : ((2 ^ L : Nat) : Rat) ≤ 4096 := by
    have : 2 ^ L ≤ 2 ^ 12 := Nat.pow_le_pow_right (by decide) hL
    exact_mod_cast this
  have h2 := Rat.mul_le_mul_of_nonneg_right hn (show (0 : Rat) ≤ 0 + 396 * (256 * uu) by decide +kernel)
  unfold EA
  grind
def V28 : Rat := 268435456
def V40 : Rat := 1099511627776
section
variable {Z : Nat → CxW} {L : Nat} {A B : Nat → Int} {la lb : Nat}
/-- What stands before the product. -/
structure Fits (A B : Nat → Int) (la lb L : Nat) : Prop where
  hL : L ≤ 12
  a1 : ∀ i, (A i).natAbs ≤ 256
  b1 : ∀ i, (B i).natAbs ≤ 256
  a0 : ∀ i, la ≤ i → A i = 0
  b0 : ∀ i, lb ≤ i → B i = 0
  la1 : la ≤ 4096
  all : la + lb ≤ 2 ^ L + 1
theorem Fits.bdA (h : Fits A B la lb L) (j : Nat) : Bd (toC (A j)) 256 := toC_bd (h.a1 j)
theorem Fits.bdB (h : Fits A B la lb L) (j : Nat) : Bd (toC (B j)) 256 := toC_bd (h.b1 j)
theorem Fits.mul0 (h : Fits A B la lb L) (i j : Nat) (_hi : i < 2 ^ L) (_hj : j < 2 ^ L) (hs : 2 ^ L ≤ i + j) : toC (A i) * toC (B j) = CxW.zero := by
  rw [toC_mul, ← toC_zero]
  congr 1
  have := h.all
  rcases Nat.lt_or_ge i la with h1 | h1
  · rw [h.b0 j (by omega), Int.mul_zero]
  · rw [h.a0 i h1, Int.zero_mul]
theorem Fits.bdF {X : Nat → Int} (hL : L ≤ 12) (hZ : Roots Z tau) (h : ∀ i, (X i).natAbs ≤ 256) (p : Nat) : Bd (F Z L (fun i => toC (X i)) p) 1048576 := by
  have := F_bd hZ L (fun i => toC (X i)) p hL (V := 256) (fun j _ => toC_bd (h j))
  refine this.mono ?_
  have hn : ((2 ^ L : Nat) : Rat) ≤ 4096 := by
    have : 2 ^ L ≤ 2 ^ 12 := Nat.pow_le_pow_right (by decide) hL
    exact_mod_cast this
  have h2 := Rat.mul_le_mul_of_nonneg_right hn (show (0 : Rat) ≤ 256 by decide +kernel)
  grind
/-- The words' product at one place. -/
theorem Fits.prod (h : Fits A B la lb L) (hZ : Roots Z tau) {p a b c d : Nat} (ha : Nc a b (F Z L (fun i => toC (A i)) p) (El 0 256 L)) (hb : Nc c d (F Z L (fun i => toC (B i)) p) (El 0 256 L)) :
    ∃ ac bd ad bc re im, Prod a b c d ac bd ad bc re im ∧ Nc re im (F Z L (fun i => toC (cvI A B i)) p) (1 / 6) := by
  obtain ⟨ac, bd, ad, bc, re, im, hP, hN⟩ := prod_of (R := 1048576) (E := EA) (ha.mono (el_forth h.hL)) (hb.mono (el_forth h.hL)) (Fits.bdF h.hL hZ h.a1 p) (Fits.bdF h.hL hZ h.b1 p) (by decide +kernel) (by decide +kernel) (by decide +kernel)
  refine ⟨ac, bd, ad, bc, re, im, hP, ?_⟩
  rw [F_mul hZ L _ _ p h.hL h.mul0] at hN
  have e : cv (fun i => toC (A i)) (fun i => toC (B i)) = fun i => toC (cvI A B i) := funext fun m => cv_toC A B m
  rw [e] at hN
  exact hN.mono (by decide +kernel)
theorem Fits.bdC (h : Fits A B la lb L) (j : Nat) : Bd (toC (cvI A B j)) V28 := toC_bd (cvI_bound h.a1 h.b1 h.a0 h.la1 j)
theorem Fits.bdX (h : Fits A B la lb L) (hZ : Roots Z tau) (p : Nat) : Bd (F Z L (fun i => toC (cvI A B i)) p) V40 := by
  have := F_bd hZ L (fun i => toC (cvI A B i)) p h.hL (V := V28) (fun j _ => h.bdC j)
  refine this.mono ?_
  have hn : ((2 ^ L : Nat) : Rat) ≤ 4096 := by
    have : 2 ^ L ≤ 2 ^ 12 := Nat.pow_le_pow_right (by decide) h.hL
    exact_mod_cast this
  have h2 := Rat.mul_le_mul_of_nonneg_right hn (show (0 : Rat) ≤ V28 by decide +kernel)
  have h3 : 4096 * V28 = V40 := by decide +kernel
  grind
/-- What comes back, ahead of the division. -/
theorem Fits.back (h : Fits A B la lb L) (hZ : Roots Z tau) {m a b : Nat} {r : Rat} (hm : m < 2 ^ L) (hr0 : 0 ≤ r) (hr1 : r ≤ 1) (hr : r * ((2 ^ L : Nat) : Rat) = 1)
    (hN : Nc a b (F (fun l => conj (Z l)) L (F Z L fun i => toC (cvI A B i)) m) (El (1 / 6) V40 L)) :
    (-(11 / 50) ≤ val a * r - (cvI A B m : Rat) ∧ val a * r - (cvI A B m : Rat) ≤ 11 / 50) ∧ (-(2 * V40) ≤ val a ∧ val a ≤ 2 * V40) ∧ (-(2 * V40) ≤ val b ∧ val b ≤ 2 * V40) := by
  have hb := back_of hZ (V := V28) h.hL hm (by decide +kernel) (fun j _ => h.bdC j) hN
  obtain ⟨⟨p1, p2⟩, _, ⟨p3, p4⟩, p5, p6⟩ := back_parts (V := V28) (T := 600000000000 * V28 * tau) h.hL (by decide +kernel) hr0 hr1 hr (h.bdC m) (by decide +kernel) hb rfl (by decide +kernel)
  have hD : 1 / 6 + 396 * (V40 * uu) + 600000000000 * V28 * tau ≤ 11 / 50 := by decide +kernel
  have hV : 4096 * (V28 + (1 / 6 + 396 * (V40 * uu) + 600000000000 * V28 * tau)) ≤ 2 * V40 := by decide +kernel
  generalize 1 / 6 + 396 * (V40 * uu) + 600000000000 * V28 * tau = D at *
  have e : (toC (cvI A B m)).re = (cvI A B m : Rat) := rfl
  rw [e] at p1 p2
  refine ⟨⟨by grind, by grind⟩, ⟨by grind, by grind⟩, by grind, by grind⟩
/-- The rounded word is the number. -/
theorem Fits.whole (h : Fits A B la lb L) {m a e : Nat} {r : Rat} (h1 : -(11 / 50) ≤ val a * r - (cvI A B m : Rat)) (h2 : val a * r - (cvI A B m : Rat) ≤ 11 / 50) (hN : Nr e (val a * r) (22 * (2 * V40 * uu))) :
    rg e / 4503599627370496 < 1075 ∧ floatToIntVal .f64 (rndW e) .i64 = some (cvI A B m) := by
  obtain ⟨f, n1, n2⟩ := hN
  have hs : 11 / 50 + 22 * (2 * V40 * uu) ≤ 1 / 4 := by decide +kernel
  have hb := cvI_bound h.a1 h.b1 h.a0 h.la1 m
  exact round_word f (by grind) (by grind) (by omega)
end
end Go.Proofs.YtblkejnckbeieaaGreatDoor.WaveP

namespace Go.Proofs.YtblkejnckbeieaaGreatDoor
open Go.RowKit WaveP
open Go in
theorem run_store_complex3 (P : Program) (w : World) (a : Addr) (m : Mode) (k : FloatKind) (x y : Nat) : (store a (.complex k x y) m).run P w = stored P w a (.complex k x y) m := run_store P w a _ m rfl
attribute [local go_sem] run_store_complex3

def wI (x : Int) : Nat := floatOfInt .f64 x
/-- The points' words. -/
def ptF (m : Nat) (f : Nat → Int) (j : Nat) : Nat × Nat := if j < m then (wI (f j), 0) else (0, 0)
theorem wI_all : ∀ n : Nat, n < 257 → (fin (wI (n : Int)) = true ∧ val (wI (n : Int)) = (n : Rat)) ∧ (fin (wI (-(n : Int))) = true ∧ val (wI (-(n : Int))) = -(n : Rat)) := by decide +kernel
theorem wI_val {x : Int} (h : x.natAbs ≤ 256) : fin (wI x) = true ∧ val (wI x) = (x : Rat) := by
  obtain ⟨h1, h2⟩ := wI_all x.natAbs (by omega)
  rcases Int.natAbs_eq x with e | e
  · rw [← e] at h1
    refine ⟨h1.1, h1.2.trans ?_⟩
    have := congrArg (fun x : Int => (x : Rat)) e
    rw [Rat.intCast_natCast] at this
    exact this.symm
  · rw [← e] at h2
    refine ⟨h2.1, h2.2.trans ?_⟩
    have := congrArg (fun x : Int => (x : Rat)) e
    rw [Rat.intCast_neg, Rat.intCast_natCast] at this
    exact this.symm
theorem ptF_near {m : Nat} {f : Nat → Int} (h : ∀ i, (f i).natAbs ≤ 256) (h0 : ∀ i, m ≤ i → f i = 0) (j : Nat) : Nc (ptF m f j).1 (ptF m f j).2 (toC (f j)) 0 := by
  have z : fin 0 = true ∧ val 0 = 0 := by decide +kernel
  unfold ptF
  by_cases hj : j < m
  · rw [if_pos hj]
    obtain ⟨h1, h2⟩ := wI_val (h j)
    refine ⟨h1, z.1, Rat.le_refl, ?_⟩
    simp only [CxW.sub_re, CxW.sub_im, cv2, toC, h2, z.2]
    grind
  · rw [if_neg hj, h0 j (by omega)]
    refine ⟨z.1, z.1, Rat.le_refl, ?_⟩
    simp only [CxW.sub_re, CxW.sub_im, cv2, toC, z.2]
    decide +kernel

set_option maxHeartbeats 1600000 in
set_option maxRecDepth 100000 in
theorem points_any (ga go m c n : Nat) (f : Nat → Int) (w : World) (hm0 : 0 < m) (hm : m ≤ n) (hn : n ≤ 4096) (hx : ∀ i, i < m → w.cell? ⟨ga, go + i, none⟩ = some (.int .i64 (f i))) :
    Calls Tryz.prog 92 #[.slice (some ⟨ga, go, none⟩) m c, .int .i64 n] w fun e w' => e = .returned (.slice (some ⟨w.heap.size, 0, none⟩) n n) ∧ Below w.heap.size w w' ∧ w'.rowIs w.heap.size 144 n (fun j => cpx (ptF m f j)) := by
  have HX := Lib.hid hx
  have hgb : ga < w.heap.size := World.block_lt_of_cell? _ _ (hx 0 hm0)
  clear hx
  have hmk := run_make_row' (P := Tryz.prog) 141 144 (.complex .f64 0 0) 16 Tryz.underlying141 (by kernel_rfl) rfl .i64 .i64 n (by omega) (by omega)
  go_enter Tryz.func92, Tryz.ntmps92
  go_wp2
  clear hmk
  go_loopw [12] (fun i wr => ∃ k : Nat, k ≤ m ∧ i = .int .i64 k ∧ wr.rowIs w.heap.size 144 n (fun j => cpx (ptF k f j)) ∧ Below w.heap.size w wr)
    (fun i _ => m + 1 - (intOf i).toNat)
  case atStart => exact ⟨0, by omega, rfl, (World.rowIs_made w _ n _).congr (fun j _ => by unfold ptF; rw [if_neg (by omega)]; rfl), (Below.refl _ w).alloc (Nat.le_refl _) _⟩
  case round =>
    obtain ⟨k, hk, rfl, hrow, hbe⟩ := hrel
    by_cases hlt : k < m
    · have hc0 : wr.cell? ⟨ga, go + k, none⟩ = some (.int .i64 (f k)) := (hbe.cell (p := ⟨ga, go + k, none⟩) hgb).trans (HX.out k hlt)
      have hs0 := hrow.cell (show k < n by omega)
      have hf0 := hrow.frozen k
      have hw : floatOfInt .f64 (f k) = wI (f k) := rfl
      go_wp2
      go_roundw
      case rel =>
        refine ⟨k + 1, by omega, by go_num, (hrow.set k (cpx (wI (f k), 0))).congr (fun j _ => ?_), hbe.setCell (Nat.le_refl _) _⟩
        unfold ptF
        by_cases hj : j = k
        · subst hj; rw [if_pos rfl, if_pos (by omega)]
        · rw [if_neg hj]
          by_cases hj2 : j < k
          · rw [if_pos hj2, if_pos (by omega)]
          · rw [if_neg hj2, if_neg (by omega)]
      case measure => simp [intOf]; omega
    · obtain rfl : k = m := by omega
      go_wp2
      go_ret
      exact ⟨rfl, hbe, hrow⟩
end Go.Proofs.YtblkejnckbeieaaGreatDoor

namespace Go.Proofs.YtblkejnckbeieaaGreatDoor
open Go.RowKit WaveP

theorem low_clear (y k : Nat) (hk : k ≤ 64) (hy : y < 18446744073709551616) : y &&& (18446744073709551615 - (2 ^ k - 1)) = y / 2 ^ k * 2 ^ k := by
  have hp : 2 ^ k ≤ 2 ^ 64 := Nat.pow_le_pow_right (by decide) hk
  have hp0 := Nat.two_pow_pos k
  have e : 18446744073709551615 - (2 ^ k - 1) = (2 ^ (64 - k) - 1) <<< k := by
    rw [Nat.shiftLeft_eq, Nat.sub_mul, ← Nat.pow_add, Nat.sub_add_cancel hk]
    omega
  have e2 : y / 2 ^ k * 2 ^ k = (y >>> k) <<< k := by rw [Nat.shiftLeft_eq, Nat.shiftRight_eq_div_pow]
  rw [e, e2]
  apply Nat.eq_of_testBit_eq
  intro i
  rw [Nat.testBit_and, Nat.testBit_shiftLeft, Nat.testBit_shiftLeft, Nat.testBit_two_pow_sub_one, Nat.testBit_shiftRight]
  by_cases h : k ≤ i
  · rw [decide_eq_true h, Bool.true_and, Bool.true_and, show k + (i - k) = i by omega]
    by_cases h2 : i - k < 64 - k
    · rw [decide_eq_true h2, Bool.and_true]
    · have : y.testBit i = false := Nat.testBit_lt_two_pow (Nat.lt_of_lt_of_le (show y < 2 ^ 64 from hy) (Nat.pow_le_pow_right (by decide) (by omega)))
      rw [this, Bool.false_and]
  · rw [decide_eq_false h, Bool.false_and, Bool.false_and, Bool.and_false]
theorem top_bit (x : Nat) (hx : x < 18446744073709551616) : x &&& 9223372036854775808 = wd (sg x) 0 := by
  have h : x &&& 9223372036854775808 = x / 9223372036854775808 % 2 * 9223372036854775808 := Go.nat_bit 63 x
  rw [h]
  cases hs : sg x with
  | false =>
    unfold sg at hs; rw [ble_eq] at hs
    have := of_decide_eq_false hs
    show _ = 0
    omega
  | true =>
    unfold sg at hs; rw [ble_eq] at hs
    have := of_decide_eq_true hs
    show _ = 9223372036854775808 + 0
    omega
theorem or_one (b : Bool) : wd b 0 ||| 4607182418800017408 = wd b 4607182418800017408 := by cases b <;> decide +kernel
theorem bits_run (a : Nat) (w : World) : (callFunc 134 #[.float .f64 a]).run Tryz.prog w = .ok (.value (.int .u64 (a : Int))) w := by
  rw [run_callFunc_extern Tryz.func134 (by kernel_rfl) (by kernel_rfl) (by kernel_rfl) (e := Extern.MathFloatBits.float64bits) (by kernel_rfl)]
  rfl
theorem frombits_run (a : Nat) (w : World) : (callFunc 135 #[.int .u64 (a : Int)]).run Tryz.prog w = .ok (.value (.float .f64 a)) w := by
  rw [run_callFunc_extern Tryz.func135 (by kernel_rfl) (by kernel_rfl) (by kernel_rfl) (e := Extern.MathFloatBits.float64frombits) (by kernel_rfl)]
  rfl
theorem exp_eq (x : Nat) (hx : x < 18446744073709551616) : bits .and .u64 ((x : Int) / 4503599627370496) 2047 = ((rg x / 4503599627370496 : Nat) : Int) := by
  have e1 : ((x : Int) / 4503599627370496) = ((x / 4503599627370496 : Nat) : Int) := rfl
  have e2 : (2047 : Int) = ((2047 : Nat) : Int) := rfl
  rw [e1, e2, Go.u64_and_nat _ _ (by omega) (by omega)]
  have : x / 4503599627370496 &&& (2 ^ 11 - 1) = x / 4503599627370496 % 2 ^ 11 := Nat.and_two_pow_sub_one_eq_mod ..
  have e3 : x / 4503599627370496 &&& 2047 = x / 4503599627370496 % 2048 := this
  rw [e3]
  unfold rg
  congr 1
  omega
theorem sign_eq (x : Nat) (hx : x < 18446744073709551616) : bits .and .u64 (x : Int) 9223372036854775808 = ((wd (sg x) 0 : Nat) : Int) := by
  have e2 : (9223372036854775808 : Int) = ((9223372036854775808 : Nat) : Int) := rfl
  rw [e2, Go.u64_and_nat _ _ hx (by omega), top_bit x hx]
theorem one_eq (b : Bool) : bits .or .u64 ((wd b 0 : Nat) : Int) 4607182418800017408 = ((wd b 4607182418800017408 : Nat) : Int) := by
  have e2 : (4607182418800017408 : Int) = ((4607182418800017408 : Nat) : Int) := rfl
  rw [e2, Go.u64_or_nat _ _ (by cases b <;> decide +kernel) (by omega), or_one]
/-- The rounding between: its two steps on the whole word. -/
theorem mid_eq (x k e : Nat) (hx : fin x = true) (he : rg x / 4503599627370496 = e + 1023) (hk : k + e = 52) (he2 : e < 52) :
    (((x + 2 ^ (k - 1)) / 2 ^ k * 2 ^ k : Nat)) = rndW x ∧ x + 2 ^ (k - 1) < 18446744073709551616 := by
  obtain ⟨f1, f2⟩ := fin_iff.1 hx
  unfold infR at f2
  have hk1 : 2 ^ (k - 1) ≤ 2 ^ 51 := Nat.pow_le_pow_right (by decide) (by omega)
  refine ⟨?_, by unfold rg at f2; omega⟩
  unfold rndW
  rw [if_neg (by omega), he, show 1074 - (e + 1023) = k - 1 by omega, show 1075 - (e + 1023) = k by omega]
  cases hs : sg x with
  | false =>
    have : rg x = x := by
      unfold sg at hs; rw [ble_eq] at hs
      unfold rg; have := of_decide_eq_false hs; omega
    rw [this]; rfl
  | true =>
    have hx2 : x = 9223372036854775808 + rg x := by
      unfold sg at hs; rw [ble_eq] at hs
      unfold rg; have := of_decide_eq_true hs; omega
    have hd : 9223372036854775808 = 2 ^ (63 - k) * 2 ^ k := by rw [← Nat.pow_add, show 63 - k + k = 63 by omega]
    have e1 : x + 2 ^ (k - 1) = (rg x + 2 ^ (k - 1)) + 2 ^ (63 - k) * 2 ^ k := by rw [← hd]; omega
    rw [e1, Nat.add_mul_div_right _ _ (Nat.two_pow_pos k), Nat.add_mul, ← hd, Nat.add_comm]
    rfl
theorem div_cast (n e : Nat) : (n : Int) / 2 ^ e = ((n / 2 ^ e : Nat) : Int) := by push_cast; rfl
theorem half_sh (k e : Nat) (hk : k + e = 52) (he2 : e < 52) : (2251799813685248 : Int) / 2 ^ e = ((2 ^ (k - 1) : Nat) : Int) := by
  have h : 2251799813685248 = 2 ^ (k - 1) * 2 ^ e := by rw [← Nat.pow_add, show k - 1 + e = 51 by omega]
  have h2 : 2251799813685248 / 2 ^ e = 2 ^ (k - 1) := by rw [h, Nat.mul_div_cancel _ (Nat.two_pow_pos e)]
  have h3 : (2251799813685248 : Int) / 2 ^ e = ((2251799813685248 / 2 ^ e : Nat) : Int) := div_cast 2251799813685248 e
  rw [h3, h2]
theorem mask_sh (k e : Nat) (hk : k + e = 52) (_he2 : e < 52) : (4503599627370495 : Int) / 2 ^ e = ((2 ^ k - 1 : Nat) : Int) := by
  have h : 4503599627370496 = 2 ^ k * 2 ^ e := by rw [← Nat.pow_add, hk]
  have hp := Nat.two_pow_pos k
  have hp2 := Nat.two_pow_pos e
  have h2 : 4503599627370495 / 2 ^ e = 2 ^ k - 1 := by
    apply Nat.div_eq_of_lt_le
    · rw [Nat.sub_mul, ← h]; omega
    · rw [Nat.succ_mul, Nat.sub_mul, ← h]; omega
  have h3 : (4503599627370495 : Int) / 2 ^ e = ((4503599627370495 / 2 ^ e : Nat) : Int) := div_cast 4503599627370495 e
  rw [h3, h2]
theorem clear_eq (y k r : Nat) (hy : y < 18446744073709551616) (hk : k ≤ 52) (hr : y / 2 ^ k * 2 ^ k = r) : bits .andNot .u64 (y : Int) ((2 ^ k - 1 : Nat) : Int) = (r : Int) := by
  have hp : 2 ^ k ≤ 2 ^ 52 := Nat.pow_le_pow_right (by decide) hk
  rw [Go.u64_andNot_nat _ _ hy (by omega), low_clear y k (by omega) hy, hr]

set_option maxRecDepth 100000 in
theorem round_any (x : Nat) (w : World) (hx : fin x = true) (he : rg x / 4503599627370496 < 1075) :
    Calls Tryz.prog 93 #[.float .f64 x] w fun e w' => e = .returned (.float .f64 (rndW x)) ∧ w = w' := by
  have hlt := (fin_iff.1 hx).1
  have h1 := bits_run x
  have h3 := exp_eq x hlt
  by_cases hc : rg x / 4503599627370496 < 1023
  · have h4 := sign_eq x hlt
    have h5 := one_eq (sg x)
    by_cases hc2 : rg x / 4503599627370496 = 1022
    · have hr : rndW x = wd (sg x) 4607182418800017408 := by unfold rndW; rw [if_pos hc, if_pos hc2]
      rw [hc2] at h3
      rw [hr]
      have h2 := frombits_run (wd (sg x) 4607182418800017408)
      clear hx he hc hc2 hr
      go_enter Tryz.func93, Tryz.ntmps93
      go_wp2
      go_ret
      exact ⟨rfl, rfl⟩
    · have hr : rndW x = wd (sg x) 0 := by unfold rndW; rw [if_pos hc, if_neg hc2]
      rw [hr]
      have h2 := frombits_run (wd (sg x) 0)
      obtain ⟨e, hE⟩ : ∃ e, e = rg x / 4503599627370496 := ⟨_, rfl⟩
      rw [← hE] at h3 hc hc2
      clear hx he hE hr
      go_enter Tryz.func93, Tryz.ntmps93
      go_wp2
      go_ret
      exact ⟨rfl, rfl⟩
  · obtain ⟨e, hE⟩ : ∃ e, rg x / 4503599627370496 = e + 1023 := ⟨rg x / 4503599627370496 - 1023, by omega⟩
    rw [hE] at h3 hc he
    obtain ⟨k, hk⟩ : ∃ k, k + e = 52 := ⟨52 - e, by omega⟩
    obtain ⟨m1, m2⟩ := mid_eq x k e hx hE hk (by omega)
    have h4 := half_sh k e hk (by omega)
    have h5 := mask_sh k e hk (by omega)
    have h2 := frombits_run (rndW x)
    have h6 : bits .andNot .u64 ((x : Int) + ((2 ^ (k - 1) : Nat) : Int)) ((2 ^ k - 1 : Nat) : Int) = ((rndW x : Nat) : Int) := by
      rw [← Int.natCast_add]
      exact clear_eq (x + 2 ^ (k - 1)) k _ m2 (by omega) m1
    have h7 : ((e + 1023 : Nat) : Int) - 1023 = (e : Int) := by omega
    obtain ⟨q, hq⟩ : ∃ q, q = 2 ^ (k - 1) := ⟨_, rfl⟩
    rw [← hq] at m2 h4 h6
    clear hx hE m1 hq
    go_enter Tryz.func93, Tryz.ntmps93
    go_wp2
    go_ret
    exact ⟨rfl, rfl⟩
end Go.Proofs.YtblkejnckbeieaaGreatDoor

namespace Go.Proofs.YtblkejnckbeieaaGreatDoor
open Go.RowKit WaveP WaveP.CxW
attribute [local go_sem] run_store_complex'

/-- Two words divided by a complex number that is n: what the text's '/' gives. -/
def quoN (n : Nat) (p : Nat × Nat) : Option (Nat × Nat) := cQuoBits p.1 p.2 (natW n) 0

set_option maxHeartbeats 3200000 in
set_option maxRecDepth 100000 in
theorem back_any (gb go c n L : Nat) (g : Nat → Nat × Nat) (X : Nat → CxW) (E0 V0 : Rat) (w : World) (hL : L ≤ 12) (hn : n = 2 ^ L) (hx : ∀ i, i < n → w.cell? ⟨gb, go + i, none⟩ = some (cpx (g i)))
    (hN : ∀ i, i < n → Nc (g i).1 (g i).2 (X i) E0) (hX : ∀ j, Bd (X j) V0) (hV1 : 1 ≤ V0) (hV2 : V0 ≤ ((2 ^ 80 : Nat) : Rat)) (hE1 : E0 ≤ V0 / 2) (hQ : ∀ (p : Nat × Nat) (i : Nat), i < n → Nc p.1 p.2 (F (Zn false) L X i) (El E0 V0 L) → ∃ q, quoN n p = some q) (hT : ∀ w', Below w.heap.size w w' → TabsW w') :
    Calls Tryz.prog 91 #[.slice (some ⟨gb, go, none⟩) n c, .bool true] w fun e w' => ∃ g1 g' : Nat → Nat × Nat, e = .returned (.slice (some ⟨w.heap.size, 0, none⟩) n n) ∧ Below w.heap.size w w' ∧
      w'.rowIs w.heap.size 144 n (fun j => cpx (g' j)) ∧ ∀ p, p < n → quoN n (g1 p) = some (g' p) ∧ Nc (g1 p).1 (g1 p).2 (F (Zn false) L X p) (El E0 V0 L) := by
  have hp : 2 ^ L ≤ 4096 := Nat.le_trans (Nat.pow_le_pow_right (by decide) hL : 2 ^ L ≤ 2 ^ 12) (by decide)
  have hp0 := Nat.two_pow_pos L
  have hn0 : 0 < n := by omega
  have hn1 : n ≤ 4096 := by omega
  have hand := and_pow L hL
  rw [← hn] at hand
  have HTU := Lib.hid (turned_any gb go c n L g w hL hn hx)
  have HN := Lib.hid hN
  have HE := Lib.hid hn
  have HL := Lib.hid hL
  have HT := Lib.hid hT
  clear hx hp hp0 hN hn hT
  go_enter Tryz.func91, Tryz.ntmps91
  go_wp2_with (go_at_call 132; (refine HTU.out.mono ?_); rintro e w1 ⟨rfl, hb1, hr1⟩)
  clear hand
  have HS := Lib.hid (show St (Zn false) X L E0 V0 0 0 0 (fun j => g (rev L j)) from St_start (fun p hp => HN.out _ (by rw [HE.out]; exact rev_lt L p)))
  have HR := Lib.hid (show w1.rowIs w.heap.size 144 n (fun j => cpx (g (rev L j))) from hr1)
  clear hr1
  go_loopw [8] (fun i wr => ∃ (l sz : Nat) (g1 : Nat → Nat × Nat), l ≤ L ∧ sz = 2 ^ (l + 1) ∧ i = .int .i64 sz ∧ wr.rowIs w.heap.size 144 n (fun j => cpx (g1 j)) ∧ Below w.heap.size w wr ∧ Hid (St (Zn false) X L E0 V0 l 0 0 g1))
    (fun i _ => 16385 - (intOf i).toNat)
  case atStart => exact ⟨0, 2, _, Nat.zero_le _, rfl, rfl, HR.out, hb1, HS⟩
  case round =>
    obtain ⟨l, sz, g1, hlL, hsz, rfl, hrow1, hbe1, hS1⟩ := hrel
    by_cases hl : l < L
    · obtain ⟨hf, hhf⟩ : ∃ hf, hf = 2 ^ l := ⟨_, rfl⟩
      have hsz2 : sz = 2 * hf := by rw [hsz, hhf, Nat.pow_succ, Nat.mul_comm]
      have hszn : sz ≤ n := by rw [hsz, HE.out]; exact Nat.pow_le_pow_right (by decide) hl
      have hhf0 : 0 < hf := by rw [hhf]; exact Nat.two_pow_pos l
      have HHF := Lib.hid hhf
      have HSZ := Lib.hid hsz
      have hq2 : (sz : Int) / 2 = (hf : Int) := by rw [hsz2]; omega
      have HSZ2 := Lib.hid hsz2
      clear hhf hsz hsz2
      go_wp2
      go_loopw [44] (fun i wr => ∃ (k : Nat) (g2 : Nat → Nat × Nat), k ≤ hf ∧ i = .int .i64 k ∧ wr.rowIs w.heap.size 144 n (fun j => cpx (g2 j)) ∧ Below w.heap.size w wr ∧ Hid (St (Zn false) X L E0 V0 l k 0 g2))
        (fun i _ => hf + 1 - (intOf i).toNat)
      case atStart => exact ⟨0, g1, Nat.zero_le _, rfl, hrow1, hbe1, hS1⟩
      case round =>
        obtain ⟨k, g2, hk, rfl, hrow2, hbe2, hS2⟩ := hrel
        by_cases hkl : k < hf
        · obtain ⟨x, s, cc, hTn, hNc⟩ := tw_words false (l := l + 1) (k := k) (by omega) (by have := HL.out; omega) (by rw [Nat.add_sub_cancel, ← HHF.out]; exact hkl)
          obtain ⟨a, ha1, ha2⟩ := angle_steps false (l := l + 1) (k := k) (by omega) (by have := HL.out; omega) (by rw [Nat.add_sub_cancel, ← HHF.out]; exact hkl) hTn.1
          rw [← HSZ.out] at ha2
          have f1 : ∀ t w, (binOp .mul t (.float .f64 4607182418800017408) (.float .f64 4611686018427387904)).run Tryz.prog w = .ok (.float .f64 (fl false 4611686018427387904)) w := run_mulO (first_eq false).1
          have f2 : ∀ t w, (binOp .mul t (.float .f64 (fl false 4611686018427387904)) (.float .f64 4614256656552045848)).run Tryz.prog w = .ok (.float .f64 (half2 false)) w := run_mulO (first_eq false).2
          have f3 : ∀ t w, (binOp .mul t (.float .f64 (half2 false)) (.float .f64 (natW k))).run Tryz.prog w = .ok (.float .f64 a) w := run_mulO ha1
          have f4 : ∀ t w, (binOp .quo t (.float .f64 a) (.float .f64 (natW sz))).run Tryz.prog w = .ok (.float .f64 (fl false x)) w := run_divO ha2
          have f5 := floatOf_nat k
          have f6 := floatOf_nat sz
          have HX2 := Lib.hid (hbe2)
          go_wp2_with (go_at_call 133; (refine (sincos_turn false hTn _ (HT.out _ HX2.out)).mono ?_); rintro e w2 ⟨rfl, rfl⟩)
          clear f1 f2 f3 f4 f5 f6
          have HB := Lib.hid (show ∃ B, B = 2 ^ (L - l - 1) ∧ n = B * sz from ⟨_, rfl, by rw [HE.out, HSZ.out, ← Nat.pow_add]; congr 1; omega⟩)
          obtain ⟨B, hB, hnB⟩ := HB.out
          have HBB := Lib.hid hB
          have HNB := Lib.hid hnB
          clear HB hB hnB
          go_loopw [14] (fun i wr => ∃ (b p : Nat) (g3 : Nat → Nat × Nat), b ≤ B ∧ p = b * sz + k ∧ i = .int .i64 p ∧ wr.rowIs w.heap.size 144 n (fun j => cpx (g3 j)) ∧ Below w.heap.size w wr ∧ Hid (St (Zn false) X L E0 V0 l k b g3))
            (fun i _ => 16385 - (intOf i).toNat)
          case atStart => exact ⟨0, k, g2, Nat.zero_le _, by omega, rfl, hrow2, hbe2, hS2⟩
          case round =>
            obtain ⟨b, p, g3, hbB, hp, rfl, hrow3, hbe3, hS3⟩ := hrel
            have HP := Lib.hid hp
            by_cases hb : b < B
            · have hpn : p + hf < n := by
                have e1 : (b + 1) * sz ≤ B * sz := Nat.mul_le_mul_right _ hb
                rw [← HNB.out, Nat.add_mul, Nat.one_mul] at e1
                have := HSZ2.out
                omega
              clear hp
              obtain ⟨ac, bd, ad, bc, tr, ti, pr, pi, qr, qi, P1, P2, P3, P4, P5, P6⟩ := St_step (Zn_roots false) (Rat.le_refl) hX hV1 hV2 hE1 hl HL.out (by rw [← HHF.out]; exact hkl) (by rw [← HBB.out]; exact hb) hNc hS3.out (lo := p) (hi := p + hf) (by rw [HP.out, HSZ.out]) (by rw [HP.out, HSZ.out, HHF.out]; omega)
              have l0 : wr.cell? ⟨w.heap.size, p, none⟩ = some (.complex .f64 (g3 p).1 (g3 p).2) := hrow3.cell (by omega)
              have l1 : wr.cell? ⟨w.heap.size, p + hf, none⟩ = some (.complex .f64 (g3 (p + hf)).1 (g3 (p + hf)).2) := hrow3.cell hpn
              have z0 := hrow3.frozen p
              have z1 := hrow3.frozen (p + hf)
              have q1 := run_cmul (P := Tryz.prog) P1
              have q2 := run_cadd (P := Tryz.prog) P2 P3
              have q3 := run_csub (P := Tryz.prog) P4 P5
              have HP6 := Lib.hid P6
              clear P1 P2 P3 P4 P5 P6
              go_wp2
              go_quiet (fail)
              go_wp2
              go_roundw
              case rel =>
                refine ⟨b + 1, p + sz, _, by omega, by rw [HP.out, Nat.add_mul, Nat.one_mul]; omega, by go_num, ((hrow3.set p (cpx (pr, pi))).set (p + hf) (cpx (qr, qi))).congr (fun j _ => ?_), ((below_drewN hbe3 _).setCell (p := ⟨w.heap.size, p, none⟩) (Nat.le_refl _) _).setCell (p := ⟨w.heap.size, p + hf, none⟩) (Nat.le_refl _) _, HP6⟩
                by_cases e1 : j = p + hf
                · simp only [if_pos e1]
                · by_cases e2 : j = p
                  · simp only [if_neg e1, if_pos e2]
                  · simp only [if_neg e1, if_neg e2]
              case measure => have := HSZ2.out; simp [intOf]; omega
            · have hpn : n ≤ p := by
                obtain rfl : b = B := by omega
                rw [HP.out, HNB.out]; omega
              obtain rfl : b = B := by omega
              have HK := Lib.hid (St_k hl (by rw [← HBB.out]; exact hS3.out))
              clear hp
              go_wp2
              go_roundw
              case rel => exact ⟨k + 1, g3, by omega, by go_num, hrow3, hbe3, HK⟩
              case measure => simp [intOf]; omega
        · obtain rfl : k = hf := by omega
          have HK := Lib.hid (St_l (by rw [← HHF.out]; exact hS2.out))
          go_wp2
          go_roundw
          case rel => exact ⟨l + 1, sz * 2, g2, hl, by rw [HSZ.out, Nat.pow_succ 2 (l + 1)], by go_num, hrow2, hbe2, HK⟩
          case measure => have := HSZ2.out; simp [intOf]; omega
    · obtain rfl : l = L := by omega
      have hgt : n < sz := by rw [hsz, HE.out, Nat.pow_succ]; have := Nat.two_pow_pos l; omega
      clear hsz
      have HQ := Lib.hid hQ
      have HF := Lib.hid (show ∀ p, p < n → Nc (g1 p).1 (g1 p).2 (F (Zn false) l X p) (El E0 V0 l) from fun p hp => St_end hS1.out p (by rw [← HE.out]; exact hp))
      clear hQ
      have f6 := floatOf_nat n
      go_wp2
      go_loopw [100] (fun i wr => ∃ (k : Nat) (g3 : Nat → Nat × Nat), k ≤ n ∧ i = .int .i64 k ∧ wr.rowIs w.heap.size 144 n (fun j => cpx (g3 j)) ∧ Below w.heap.size w wr ∧ Hid (∀ j, j < n → (j < k → quoN n (g1 j) = some (g3 j)) ∧ (k ≤ j → g3 j = g1 j)))
        (fun i _ => n + 1 - (intOf i).toNat)
      case atStart => exact ⟨0, g1, by omega, rfl, hrow1, hbe1, Lib.hid (fun j hj => ⟨fun h => absurd h (Nat.not_lt_zero _), fun _ => rfl⟩)⟩
      case round =>
        obtain ⟨k, g3, hk, rfl, hrow3, hbe3, hD⟩ := hrel
        by_cases hkn : k < n
        · obtain ⟨⟨q1, q2⟩, hq⟩ := HQ.out (g1 k) k hkn (HF.out k hkn)
          have e3 := (hD.out k hkn).2 (Nat.le_refl _)
          have HQ2 := Lib.hid hq
          have l0 : wr.cell? ⟨w.heap.size, k, none⟩ = some (.complex .f64 (g1 k).1 (g1 k).2) := by rw [← e3]; exact hrow3.cell hkn
          have z0 := hrow3.frozen k
          have d1 : ∀ t w, (binOp .quo t (.complex .f64 (g1 k).1 (g1 k).2) (.complex .f64 (natW n) 0)).run Tryz.prog w = .ok (.complex .f64 q1 q2) w := fun t w => (run_complex_quo w t _ _ _ _ _ _ hq).1
          clear hq e3
          go_wp2
          go_roundw
          case rel =>
            refine ⟨k + 1, (fun j => if j = k then (q1, q2) else g3 j), by omega, by go_num, (hrow3.set k (cpx (q1, q2))).congr (fun j _ => ?_), hbe3.setCell (p := ⟨w.heap.size, k, none⟩) (Nat.le_refl _) _, Lib.hid (fun j hj => ?_)⟩
            · by_cases e2 : j = k
              · simp only [if_pos e2]
              · simp only [if_neg e2]
            · by_cases e2 : j = k
              · subst e2
                simp only [if_true]
                exact ⟨fun _ => HQ2.out, fun h => absurd h (by omega)⟩
              · simp only [if_neg e2]
                exact ⟨fun h => (hD.out j hj).1 (by omega), fun h => (hD.out j hj).2 (by omega)⟩
          case measure => simp [intOf]; omega
        · obtain rfl : k = n := by omega
          go_wp2
          go_ret
          exact ⟨g1, g3, rfl, hbe3, hrow3, fun p hp => ⟨(hD.out p hp).1 hp, HF.out p hp⟩⟩
end Go.Proofs.YtblkejnckbeieaaGreatDoor

namespace Go.Proofs.YtblkejnckbeieaaGreatDoor
open Go.RowKit WaveP WaveP.CxW

def quoFacts (n : Nat) : Bool := (absGe (natW n) 0 && (divO 0 (natW n) == some 0)) && ((mulO 0 0 == some 0) && (addO (natW n) 0 == some (natW n)))
theorem quo_facts_all : ∀ L, L < 13 → quoFacts (2 ^ L) = true := by decide +kernel
theorem quo_facts {n L : Nat} (hL : L ≤ 12) (hn : n = 2 ^ L) : absGe (natW n) 0 = true ∧ divO 0 (natW n) = some 0 ∧ mulO 0 0 = some 0 ∧ addO (natW n) 0 = some (natW n) := by
  have h := quo_facts_all L (by omega)
  rw [← hn] at h
  unfold quoFacts at h
  simp only [Bool.and_eq_true, beq_iff_eq] at h
  exact ⟨h.1.1, h.1.2, h.2.1, h.2.2⟩
/-- The quotient's parts, step by step. -/
theorem quoN_of {n L a b br n1 e ar n2 f : Nat} (hL : L ≤ 12) (hn : n = 2 ^ L) (h1 : fmt.mul b 0 = some br) (h2 : fmt.add a br = some n1) (h3 : fmt.div n1 (natW n) = some e) (h4 : fmt.mul a 0 = some ar) (h5 : fmt.sub b ar = some n2)
    (h6 : fmt.div n2 (natW n) = some f) (hne : Op.Complex.isNaN e = false) : quoN n (a, b) = some (e, f) := by
  obtain ⟨q1, q2, q3, q4⟩ := quo_facts hL hn
  have p1 : floatBits .quo .f64 0 (natW n) = some 0 := divO_some q2
  have p2 : floatBits .mul .f64 0 0 = some 0 := mulO_some q3
  have p3 : floatBits .add .f64 (natW n) 0 = some (natW n) := addO_some q4
  have g1 : floatBits .mul .f64 b 0 = some br := h1
  have g2 : floatBits .add .f64 a br = some n1 := h2
  have g3 : floatBits .quo .f64 n1 (natW n) = some e := h3
  have g4 : floatBits .mul .f64 a 0 = some ar := h4
  have g5 : floatBits .sub .f64 b ar = some n2 := h5
  have g6 : floatBits .quo .f64 n2 (natW n) = some f := h6
  unfold quoN cQuoBits
  dsimp only
  rw [if_pos q1, p1, Option.bind_some, p2, Option.bind_some, p3, Option.bind_some, g1, Option.bind_some, g2, Option.bind_some, g3, Option.bind_some, g4, Option.bind_some, g5, Option.bind_some, g6, Option.bind_some, Option.bind_some, hne]
  rfl
end Go.Proofs.YtblkejnckbeieaaGreatDoor

namespace Go.Proofs.YtblkejnckbeieaaGreatDoor
open Go.RowKit WaveP WaveP.CxW

theorem natW_all : ∀ L, L < 13 → (fin (natW (2 ^ L)) = true ∧ mg (rg (natW (2 ^ L))) ≠ 0 ∧ val (natW (2 ^ L)) = ((2 ^ L : Nat) : Rat)) := by decide +kernel
/-- One part: a word, a word near nought added, divided by n. -/
theorem quo_part {n L a z : Nat} {M D T : Rat} (_hL : L ≤ 12) (_hn : n = 2 ^ L) (ha : fin a = true) (hz : fin z = true) (z1 : -D ≤ val z) (z2 : val z ≤ D) (a1 : -M ≤ val a) (a2 : val a ≤ M)
    (hM : 4 * (M + D) ≤ big) (hM1 : 1 ≤ M) (hD : 0 ≤ D) (_hT : T * ((n : Nat) : Rat) = val a) :
    ∃ m, fmt.add a z = some m ∧ fin m = true ∧ -(M + D + ((M + D) * uu + e0)) ≤ val m ∧ val m ≤ M + D + ((M + D) * uu + e0) ∧ val m - val a ≤ D + ((M + D) * uu + e0) ∧ val a - val m ≤ D + ((M + D) * uu + e0) := by
  have he := e0_pos
  obtain ⟨h1, h2, h3, h4⟩ := add_near (M := M + D) ha hz (by grind) (by grind) (by grind)
  have hu : (M + D) / 9007199254740992 = (M + D) * uu := by unfold uu; grind
  rw [hu] at h3 h4
  exact ⟨_, h1, h2, by grind, by grind, by grind, by grind⟩
theorem part_le {x r B : Rat} (h1 : -B ≤ x) (h2 : x ≤ B) (r0 : 0 ≤ r) (r1 : r ≤ 1) : -B ≤ x * r ∧ x * r ≤ B := by
  have hB : 0 ≤ B := by grind
  have e1 : x * r ≤ B * r := Rat.mul_le_mul_of_nonneg_right h2 r0
  have e2 : -B * r ≤ x * r := Rat.mul_le_mul_of_nonneg_right h1 r0
  have e3 : B * r ≤ B * 1 := Rat.mul_le_mul_of_nonneg_left r1 hB
  exact ⟨by grind, by grind⟩
/-- The quotient of a word that is near a. -/
theorem quo_div {n L m : Nat} {M d r A : Rat} (hL : L ≤ 12) (hn : n = 2 ^ L) (hm : fin m = true) (m1 : -M ≤ val m) (m2 : val m ≤ M) (hM : M + M ≤ big) (d1 : val m - A ≤ d) (d2 : A - val m ≤ d) (r0 : 0 ≤ r) (r1 : r ≤ 1) (hr : r * ((2 ^ L : Nat) : Rat) = 1) :
    ∃ e, fmt.div m (natW n) = some e ∧ Nr e (A * r) (d + (M / 2251799813685248 + e0)) := by
  obtain ⟨f1, f2, f3⟩ := natW_all L (by omega)
  rw [← hn] at f1 f2 f3 hr
  obtain ⟨b1, b2⟩ := part_le m1 m2 r0 r1
  obtain ⟨b3, b4⟩ := part_le (x := val m - A) (B := d) (by grind) (by grind) r0 r1
  obtain ⟨h1, h2, h3, h4⟩ := div_near (T := val m * r) (M := M) hm f1 f2 (by rw [f3, Rat.mul_assoc, hr, Rat.mul_one]) b1 b2 hM
  exact ⟨_, h1, h2, by grind, by grind⟩
theorem zero_mul_near {b : Nat} (hb : fin b = true) : ∃ z, fmt.mul b 0 = some z ∧ fin z = true ∧ -(2 * uu) ≤ val z ∧ val z ≤ 2 * uu := by
  have v0 : val 0 = 0 := by decide +kernel
  have hbig : (1 : Rat) ≤ big := by decide +kernel
  have he : e0 ≤ uu := by decide +kernel
  obtain ⟨h1, h2, h3, h4⟩ := mul_near (M := 1) hb (by decide +kernel : fin 0 = true) (by rw [v0, Rat.mul_zero]; decide +kernel) (by rw [v0, Rat.mul_zero]; decide +kernel) hbig
  rw [v0, Rat.mul_zero] at h3 h4
  have hu : (1 : Rat) / 9007199254740992 = uu := rfl
  rw [hu] at h3 h4
  exact ⟨_, h1, h2, by grind, by grind⟩
theorem nan_fin {e : Nat} (h : fin e = true) : Op.Complex.isNaN e = false := by
  show (fmt.read e).isNaN = false
  rw [read_fin h]
  rfl
/-- The division of a complex word by n. -/
theorem quo_near {n L a b : Nat} {M r : Rat} (hL : L ≤ 12) (hn : n = 2 ^ L) (ha : fin a = true) (hb : fin b = true) (a1 : -M ≤ val a) (a2 : val a ≤ M) (b1 : -M ≤ val b) (b2 : val b ≤ M) (hM1 : 1 ≤ M) (hM : 8 * M ≤ big)
    (r0 : 0 ≤ r) (r1 : r ≤ 1) (hr : r * ((2 ^ L : Nat) : Rat) = 1) : ∃ e f, quoN n (a, b) = some (e, f) ∧ Nr e (val a * r) (22 * (M * uu)) ∧ Nr f (val b * r) (22 * (M * uu)) := by
  obtain ⟨br, p1, p2, p3, p4⟩ := zero_mul_near hb
  obtain ⟨ar, q1, q2, q3, q4⟩ := zero_mul_near ha
  have hu0 : (0 : Rat) ≤ uu := by decide +kernel
  have hu1 : 2 * uu ≤ 1 / 4 := by decide +kernel
  have he : e0 ≤ uu := by decide +kernel
  have hMu : uu ≤ M * uu := by
    have := Rat.mul_le_mul_of_nonneg_right hM1 hu0
    rwa [Rat.one_mul] at this
  have hMs : M * uu ≤ M / 8 := by
    have h8 : uu ≤ 1 / 8 := by decide +kernel
    have := Rat.mul_le_mul_of_nonneg_left h8 (show (0 : Rat) ≤ M by grind)
    grind
  obtain ⟨s1, s2, s3, s4⟩ := add_near (M := 2 * M) ha p2 (by grind) (by grind) (by grind)
  obtain ⟨t1, t2, t3, t4⟩ := sub_near (M := 2 * M) hb q2 (by grind) (by grind) (by grind)
  have e1 : 2 * M / 9007199254740992 = 2 * (M * uu) := by unfold uu; grind
  have e2 : 4 * M / 2251799813685248 = 16 * (M * uu) := by unfold uu; grind
  rw [e1] at s3 s4 t3 t4
  obtain ⟨e, u1, u2, u3, u4⟩ := quo_div (M := 4 * M) (A := val a) (d := 5 * (M * uu)) hL hn s2 (by grind) (by grind) (by grind) (by grind) (by grind) r0 r1 hr
  obtain ⟨f, v1, v2, v3, v4⟩ := quo_div (M := 4 * M) (A := val b) (d := 5 * (M * uu)) hL hn t2 (by grind) (by grind) (by grind) (by grind) (by grind) r0 r1 hr
  rw [e2] at u3 u4 v3 v4
  refine ⟨e, f, quoN_of hL hn p1 s1 u1 q1 t1 v1 (nan_fin u2), ⟨u2, ?_, ?_⟩, ⟨v2, ?_, ?_⟩⟩ <;> grind
end Go.Proofs.YtblkejnckbeieaaGreatDoor

namespace Go.Proofs.YtblkejnckbeieaaGreatDoor
open Go.RowKit WaveP WaveP.CxW
attribute [local go_sem] run_store_complex3

theorem zn_conj : (fun l => conj (Zn true l)) = Zn false := by
  funext l
  show conj (conj (Zr l)) = Zr l
  rw [conj_conj]
theorem inv_pow (L : Nat) : ∃ r : Rat, 0 ≤ r ∧ r ≤ 1 ∧ r * ((2 ^ L : Nat) : Rat) = 1 := by
  have h1 : (1 : Rat) ≤ ((2 ^ L : Nat) : Rat) := by exact_mod_cast Nat.one_le_two_pow
  have h0 : (0 : Rat) < ((2 ^ L : Nat) : Rat) := by grind
  refine ⟨1 / ((2 ^ L : Nat) : Rat), Rat.le_of_lt (inv_pos h0), ?_, Rat.div_mul_cancel (Rat.ne_of_gt h0)⟩
  have e : 1 / ((2 ^ L : Nat) : Rat) * ((2 ^ L : Nat) : Rat) = 1 := Rat.div_mul_cancel (Rat.ne_of_gt h0)
  refine mul_le_cancel h0 ?_
  rw [e]
  grind
/-- The division of what comes back, and its whole number. -/
theorem WaveP.Fits.quo {A B : Nat → Int} {la lb L n m a b : Nat} (h : Fits A B la lb L) (hn : n = 2 ^ L) (hm : m < n) (hN : Nc a b (F (Zn false) L (F (Zn true) L fun i => toC (cvI A B i)) m) (El (1 / 6) V40 L)) :
    ∃ q : Nat × Nat, quoN n (a, b) = some q ∧ fin q.1 = true ∧ rg q.1 / 4503599627370496 < 1075 ∧ floatToIntVal .f64 (rndW q.1) .i64 = some (cvI A B m) := by
  obtain ⟨r, r0, r1, hr⟩ := inv_pow L
  rw [← zn_conj] at hN
  obtain ⟨⟨p1, p2⟩, ⟨p3, p4⟩, p5, p6⟩ := h.back (Zn_roots true) (by omega) r0 r1 hr hN
  obtain ⟨e, f, hq, he, hf⟩ := Go.Proofs.YtblkejnckbeieaaGreatDoor.quo_near (M := 2 * V40) h.hL hn hN.1 hN.2.1 p3 p4 p5 p6 (by decide +kernel) (by decide +kernel) r0 r1 hr
  obtain ⟨w1, w2⟩ := h.whole p1 p2 he
  exact ⟨(e, f), hq, he.1, w1, w2⟩
theorem pow_le12 {L : Nat} (h : L ≤ 12) : 2 ^ L ≤ 4096 := by
  have : 2 ^ L ≤ 2 ^ 12 := Nat.pow_le_pow_right (by decide) h
  exact this

theorem tabs_later {w w1 : World} (hT : ∀ w', Below w.heap.size w w' → TabsW w') (h : Below w.heap.size w w1) : ∀ w', Below w1.heap.size w1 w' → TabsW w' :=
  fun _ hb => hT _ (h.trans (hb.mono h.size))
theorem rowIs_below {w w' : World} {b n : Nat} {t : TypeId} {f : Nat → Value} (h : w.rowIs b t n f) (hb : Below w.heap.size w w') : w'.rowIs b t n f := h.of_block (hb.block b h.lt)

set_option maxHeartbeats 3200000 in
set_option maxRecDepth 100000 in
theorem product_any (ga go ca gb ho cb la lb all : Nat) (A B : Nat → Int) (w : World) (ha0 : 0 < la) (hb0 : 0 < lb) (hab : la + lb ≤ 4096) (hall : la + lb = all + 1)
    (hA : ∀ i, i < la → w.cell? ⟨ga, go + i, none⟩ = some (.int .i64 (A i))) (hB : ∀ i, i < lb → w.cell? ⟨gb, ho + i, none⟩ = some (.int .i64 (B i)))
    (a1 : ∀ i, (A i).natAbs ≤ 256) (b1 : ∀ i, (B i).natAbs ≤ 256) (a0 : ∀ i, la ≤ i → A i = 0) (b0 : ∀ i, lb ≤ i → B i = 0) (hT : ∀ w', Below w.heap.size w w' → TabsW w') :
    Calls Tryz.prog 60 #[.slice (some ⟨ga, go, none⟩) la ca, .slice (some ⟨gb, ho, none⟩) lb cb] w fun e w' => ∃ g, e = .returned (.slice (some ⟨g, 0, none⟩) all all) ∧ w.heap.size ≤ g ∧ Below w.heap.size w w' ∧
      w'.rowIs g 3 all (fun j => .int .i64 (cvI A B j)) := by
  have HA := Lib.hid hA
  have HB := Lib.hid hB
  have HT := Lib.hid hT
  have HF := Lib.hid (show ∀ l, l ≤ 12 → all ≤ 2 ^ l → Fits A B la lb l from fun l h1 h2 => ⟨h1, a1, b1, a0, b0, by omega, by omega⟩)
  have N1 := Lib.hid (show ∀ j, Nc (ptF la A j).1 (ptF la A j).2 (toC (A j)) 0 from ptF_near a1 a0)
  have N2 := Lib.hid (show ∀ j, Nc (ptF lb B j).1 (ptF lb B j).2 (toC (B j)) 0 from ptF_near b1 b0)
  have hga : ga < w.heap.size := World.block_lt_of_cell? _ _ (hA 0 ha0)
  have hgb : gb < w.heap.size := World.block_lt_of_cell? _ _ (hB 0 hb0)
  have hlen : (la : Int) + (lb : Int) - 1 = (all : Int) := by omega
  have hl1 : la ≤ all := by omega
  have hl2 : lb ≤ all := by omega
  have h95 : all ≤ 4095 := by omega
  have HL := Lib.hid hall
  clear hA hB hT a1 b1 a0 b0 hall
  go_enter Tryz.func60, Tryz.ntmps60
  go_wp2
  go_loopw [6] (fun i wr => ∃ l : Nat, l ≤ 12 ∧ i = .int .i64 ((2 ^ l : Nat) : Int) ∧ wr = w) (fun i _ => 8193 - (intOf i).toNat)
  case atStart => exact ⟨0, by omega, rfl, rfl⟩
  case round =>
    obtain ⟨l, hl, rfl, hw⟩ := hrel
    obtain rfl : w = wr := hw.symm
    obtain ⟨n, hn⟩ : ∃ n, n = 2 ^ l := ⟨_, rfl⟩
    have hn1 : n ≤ 4096 := by rw [hn]; exact pow_le12 hl
    have hn0 : 0 < n := by rw [hn]; exact Nat.two_pow_pos l
    have HN := Lib.hid hn
    rw [← hn]
    clear hn
    by_cases hlt : n < all
    · have hl3 : l < 12 := by
        refine Nat.lt_of_not_le fun h => ?_
        have : 2 ^ 12 ≤ 2 ^ l := Nat.pow_le_pow_right (by decide) h
        rw [← HN.out] at this
        omega
      go_wp2
      go_roundw
      case rel => exact ⟨l + 1, hl3, by rw [Nat.pow_succ, ← HN.out]; go_num, trivial⟩
      case measure => simp [intOf]; omega
    · have hF := HF.out l hl (by rw [← HN.out]; omega)
      have HM1 : Hid True := Lib.hid trivial
      have HM2 : Hid True := Lib.hid trivial
      have HM3 : Hid True := Lib.hid trivial
      have HM4 : Hid True := Lib.hid trivial
      go_wp2_with (first
        | (go_at_call 92; clear HM1; (refine (points_any ga go la ca n A _ ha0 (by omega) hn1 HA.out).mono ?_); rintro e w1 ⟨rfl, hb1, hr1⟩)
        | (go_at_call 91; clear HM2; (refine (forth_any w.heap.size 0 n n l (ptF la A) (fun i => toC (A i)) 0 256 w1 hl HN.out (fun i hi => by rw [Nat.zero_add]; exact hr1.cell hi) (fun i _ => N1.out i) hF.bdA (by decide +kernel) (by decide +kernel) (by decide +kernel) (tabs_later HT.out hb1)).mono ?_); rintro e w2 ⟨g1, rfl, hb2, hr2, hN2⟩)
        | (go_at_call 92; clear HM3; (refine (points_any gb ho lb cb n B w2 hb0 (by omega) hn1 (fun i hi => ((hb1.trans (hb2.mono hb1.size)).cell (p := ⟨gb, ho + i, none⟩) hgb).trans (HB.out i hi))).mono ?_); rintro e w3 ⟨rfl, hb3, hr3⟩)
        | (go_at_call 91; clear HM4; (refine (forth_any w2.heap.size 0 n n l (ptF lb B) (fun i => toC (B i)) 0 256 w3 hl HN.out (fun i hi => by rw [Nat.zero_add]; exact hr3.cell hi) (fun i _ => N2.out i) hF.bdB (by decide +kernel) (by decide +kernel) (by decide +kernel) (tabs_later HT.out ((hb1.trans (hb2.mono hb1.size)).trans (hb3.mono (hb1.trans (hb2.mono hb1.size)).size)))).mono ?_); rintro e w4 ⟨g2, rfl, hb4, hr4, hN4⟩)
        | fail)
      clear hga hgb
      have hbl4 : Below w.heap.size w w4 := ((hb1.trans (hb2.mono hb1.size)).trans (hb3.mono (hb1.trans (hb2.mono hb1.size)).size)).trans (hb4.mono ((hb1.trans (hb2.mono hb1.size)).trans (hb3.mono (hb1.trans (hb2.mono hb1.size)).size)).size)
      have hx4 : w4.rowIs w1.heap.size 144 n (fun j => cpx (g1 j)) := rowIs_below (rowIs_below hr2 hb3) hb4
      obtain ⟨bx, hbx⟩ : ∃ bx, bx = w1.heap.size := ⟨_, rfl⟩
      obtain ⟨bY, hby⟩ : ∃ bY, bY = w3.heap.size := ⟨_, rfl⟩
      have hle1 : w.heap.size ≤ bx := by rw [hbx]; exact hb1.size
      have hne : bY ≠ bx := by have := hr2.lt; have := hb3.size; omega
      rw [← hbx] at hx4 ⊢
      rw [← hby] at hr4 ⊢
      have hle2 : w.heap.size ≤ bY := by rw [hby]; exact Nat.le_trans hle1 (by rw [hbx]; exact Nat.le_trans hb2.size hb3.size)
      have HN2 := Lib.hid hN2
      have HN4 := Lib.hid hN4
      have HB1 := Lib.hid (Nat.le_refl 0)
      clear hb1 hb2 hb3 hb4 hr1 hr2 hr3 hN2 hN4 hbx hby
      go_wp2
      go_loopw [34] (fun i wr => ∃ (k : Nat) (gx : Nat → Nat × Nat), k ≤ n ∧ i = .int .i64 k ∧ wr.rowIs bx 144 n (fun j => cpx (gx j)) ∧ wr.rowIs bY 144 n (fun j => cpx (g2 j)) ∧ Below w.heap.size w wr ∧
          Hid (∀ p, p < n → (p < k → Nc (gx p).1 (gx p).2 (F (Zn true) l (fun i => toC (cvI A B i)) p) (1 / 6)) ∧ (k ≤ p → Nc (gx p).1 (gx p).2 (F (Zn true) l (fun i => toC (A i)) p) (El 0 256 l))))
        (fun i _ => n + 1 - (intOf i).toNat)
      case atStart => exact ⟨0, g1, by omega, rfl, hx4, hr4, hbl4, Lib.hid fun p hp => ⟨fun h => absurd h (Nat.not_lt_zero _), fun _ => HN2.out p hp⟩⟩
      case round =>
        obtain ⟨k, gx, hk, rfl, hrx, hry, hbe, hD⟩ := hrel
        by_cases hkn : k < n
        · obtain ⟨ac, bd, ad, bc, re, im, hP, hPN⟩ := hF.prod (Zn_roots true) ((hD.out k hkn).2 (Nat.le_refl _)) (HN4.out k hkn)
          have l0 : wr.cell? ⟨bx, k, none⟩ = some (.complex .f64 (gx k).1 (gx k).2) := hrx.cell hkn
          have l1 : wr.cell? ⟨bY, k, none⟩ = some (.complex .f64 (g2 k).1 (g2 k).2) := hry.cell hkn
          have z0 := hrx.frozen k
          have q1 := run_cmul (P := Tryz.prog) hP
          have HPN := Lib.hid hPN
          clear hP hPN
          go_wp2
          go_region
          go_wp2
          refine ⟨?rel, ?measure⟩
          case rel =>
            refine ⟨k + 1, (fun j => if j = k then (re, im) else gx j), by omega, by go_num, (hrx.set k (cpx (re, im))).congr (fun j _ => ?_), hry.setOther (a := ⟨bx, k, none⟩) hne _, (hbe.setCell (p := ⟨bx, k, none⟩) hle1 _).drew, Lib.hid fun p hp => ?_⟩
            · by_cases e2 : j = k
              · simp only [if_pos e2]
              · simp only [if_neg e2]
            · by_cases e2 : p = k
              · subst e2
                simp only [if_true]
                exact ⟨fun _ => HPN.out, fun h => absurd h (by omega)⟩
              · simp only [if_neg e2]
                exact ⟨fun h => (hD.out p hp).1 (by omega), fun h => (hD.out p hp).2 (by omega)⟩
          case measure => simp [intOf]; omega
        · obtain rfl : k = n := by omega
          have hmk := run_make_row' (P := Tryz.prog) 22 3 (.int .i64 0) 8 Tryz.underlying22 (by kernel_rfl) rfl .i64 .i64 all (by omega) (by omega)
          have HD := Lib.hid (fun p hp => (hD.out p hp).1 hp)
          have hro := World.rowIs_made wr (.int .i64 0) all 3
          have hrx2 := hrx.alloc (.cells (madeCells #[Value.int .i64 0] all) 3)
          have hbe2 := hbe.alloc hbe.size (.cells (madeCells #[Value.int .i64 0] all) 3)
          have hsz := hbe.size
          clear hry hD hrx hx4 hr4 hbl4
          go_wp2_with (go_at_call 91; (refine (back_any bx 0 k k l gx (F (Zn true) l (fun i => toC (cvI A B i))) (1 / 6) V40 (wr.alloc (.cells (madeCells #[Value.int .i64 0] all) 3)) hl HN.out (fun i hi => by rw [Nat.zero_add]; exact hrx2.cell hi) HD.out (hF.bdX (Zn_roots true)) (by decide +kernel) (by decide +kernel) (by decide +kernel) (fun p i hi hp => (hF.quo HN.out hi hp).imp fun q h => h.1) (tabs_later HT.out hbe2)).mono ?_); rintro e w6 ⟨g3, g4, rfl, hb6, hr6, hq6⟩)
          have hro6 := rowIs_below hro hb6
          have hbe6 := hbe2.trans (hb6.mono hbe2.size)
          have HQ := Lib.hid (show ∀ p, p < k → fin (g4 p).1 = true ∧ rg (g4 p).1 / 4503599627370496 < 1075 ∧ floatToIntVal .f64 (rndW (g4 p).1) .i64 = some (cvI A B p) from fun p hp => by
            obtain ⟨h1, h2⟩ := hq6 p hp
            obtain ⟨q, e1, e2⟩ := hF.quo HN.out hp h2
            have e3 : some q = some (g4 p) := e1.symm.trans h1
            injection e3 with e3
            rw [← e3]
            exact e2)
          obtain ⟨bo, hbo⟩ : ∃ bo, bo = wr.heap.size := ⟨_, rfl⟩
          have hs1 : (wr.alloc (.cells (madeCells #[Value.int .i64 0] all) 3)).heap.size = wr.heap.size + 1 := by simp
          rw [hs1] at hr6
          obtain ⟨bq, hbq⟩ : ∃ bq, bq = wr.heap.size + 1 := ⟨_, rfl⟩
          have hnq : bo ≠ bq := by omega
          have hleo : w.heap.size ≤ bo := by omega
          rw [← hbq] at hr6 ⊢
          rw [← hbo] at hro6 ⊢
          clear hmk hro hrx2 hbe2 hb6 hq6 hbo hbq hsz hw hs1
          go_wp2
          go_loopw [55] (fun i wr => ∃ j : Nat, j ≤ all ∧ i = .int .i64 j ∧ wr.rowIs bo 3 all (fun p => .int .i64 (if p < j then cvI A B p else 0)) ∧ wr.rowIs bq 144 k (fun j => cpx (g4 j)) ∧ Below w.heap.size w wr)
            (fun i _ => all + 1 - (intOf i).toNat)
          case atStart => exact ⟨0, by omega, rfl, hro6.congr (fun j _ => by rw [if_neg (by omega)]), hr6, hbe6⟩
          case round =>
            obtain ⟨j, hj, rfl, hrO, hrQ, hbe7⟩ := hrel
            by_cases hjl : j < all
            · obtain ⟨f1, f2, f3⟩ := HQ.out j (by omega)
              have l0 : wr.cell? ⟨bq, j, none⟩ = some (.complex .f64 (g4 j).1 (g4 j).2) := hrQ.cell (by omega)
              have z0 := hrO.frozen j
              have s0 := hrO.cell hjl
              have hcv : ∀ w, (convert 145 3 (.float .f64 (rndW (g4 j).1))).run Tryz.prog w = .ok (.int .i64 (cvI A B j)) w := fun w => run_convert_float_int w 145 3 .f64 .i64 _ _ (by kernel_rfl) Tryz.underlying3 f3
              have HR := Lib.hid (round_any (g4 j).1 wr f1 f2)
              clear f1 f2 f3
              go_wp2_with (go_at_call 93; (refine HR.out.mono ?_); rintro e w7 ⟨rfl, rfl⟩)
              go_roundw
              case rel =>
                refine ⟨j + 1, by omega, by go_num, (hrO.set j (.int .i64 (cvI A B j))).congr (fun p _ => ?_), hrQ.setOther (a := ⟨bo, j, none⟩) (Ne.symm hnq) _, hbe7.setCell (p := ⟨bo, j, none⟩) hleo _⟩
                by_cases e2 : p = j
                · subst e2; rw [if_pos rfl, if_pos (by omega)]
                · rw [if_neg e2]
                  by_cases e3 : p < j
                  · rw [if_pos e3, if_pos (by omega)]
                  · rw [if_neg e3, if_neg (by omega)]
              case measure => simp [intOf]; omega
            · obtain rfl : j = all := by omega
              go_wp2
              go_ret
              exact ⟨bo, rfl, hleo, hbe7, hrO.congr (fun p hp => by rw [if_pos hp])⟩
end Go.Proofs.YtblkejnckbeieaaGreatDoor

namespace Go.Proofs.YtblkejnckbeieaaGreatDoor.WaveP

def cntN : Nat → (Nat → Bool) → Nat
  | 0, _ => 0
  | n + 1, q => cntN n q + (if q n then 1 else 0)
theorem cntN_succ (n : Nat) (q : Nat → Bool) : cntN (n + 1) q = cntN n q + (if q n then 1 else 0) := rfl
theorem cntN_le (n : Nat) (q : Nat → Bool) : cntN n q ≤ n := by
  induction n with
  | zero => exact Nat.le_refl _
  | succ n ih => rw [cntN_succ]; split <;> omega
theorem cntN_congr {n : Nat} {p q : Nat → Bool} (h : ∀ i, i < n → p i = q i) : cntN n p = cntN n q := by
  induction n with
  | zero => rfl
  | succ n ih => rw [cntN_succ, cntN_succ, ih fun i hi => h i (by omega), h n (by omega)]
theorem cntN_none {n : Nat} {q : Nat → Bool} (h : ∀ i, i < n → q i = false) : cntN n q = 0 := by
  induction n with
  | zero => rfl
  | succ n ih => rw [cntN_succ, ih fun i hi => h i (by omega), h n (by omega)]; rfl
theorem cntN_or {n : Nat} {p q : Nat → Bool} (h : ∀ i, i < n → ¬ (p i = true ∧ q i = true)) : cntN n (fun i => p i || q i) = cntN n p + cntN n q := by
  induction n with
  | zero => rfl
  | succ n ih =>
    rw [cntN_succ, cntN_succ, cntN_succ, ih fun i hi => h i (by omega)]
    have := h n (by omega)
    cases hp : p n <;> cases hq : q n <;> simp_all <;> omega
theorem cntN_pos {n : Nat} {q : Nat → Bool} : 0 < cntN n q ↔ ∃ i, i < n ∧ q i = true := by
  induction n with
  | zero => simp [cntN]
  | succ n ih =>
    rw [cntN_succ]
    constructor
    · intro h
      by_cases hq : q n = true
      · exact ⟨n, by omega, hq⟩
      · rw [if_neg hq, Nat.add_zero] at h
        obtain ⟨i, h1, h2⟩ := ih.1 h
        exact ⟨i, by omega, h2⟩
    · rintro ⟨i, h1, h2⟩
      by_cases hi : i = n
      · subst hi; rw [if_pos h2]; omega
      · have := ih.2 ⟨i, by omega, h2⟩
        omega
theorem cntN_all {n : Nat} {q : Nat → Bool} : cntN n q = n ↔ ∀ i, i < n → q i = true := by
  induction n with
  | zero => simp [cntN]
  | succ n ih =>
    rw [cntN_succ]
    have hle := cntN_le n q
    constructor
    · intro h i hi
      by_cases hq : q n = true
      · rw [if_pos hq] at h
        by_cases e : i = n
        · subst e; exact hq
        · exact ih.1 (by omega) i (by omega)
      · rw [if_neg hq] at h; omega
    · intro h
      rw [if_pos (h n (by omega)), ih.2 fun i hi => h i (by omega)]
theorem cntN_add (n m : Nat) (q : Nat → Bool) : cntN (n + m) q = cntN n q + cntN m (fun i => q (n + i)) := by
  induction m with
  | zero => rfl
  | succ m ih => rw [← Nat.add_assoc, cntN_succ, ih, cntN_succ, Nat.add_assoc]

/-! ### The product of two rows of marks -/
theorem smI_congr {n : Nat} {f g : Nat → Int} (h : ∀ i, i < n → f i = g i) : smI n f = smI n g := by
  induction n with
  | zero => rfl
  | succ n ih =>
    show smI n f + f n = smI n g + g n
    rw [ih fun i hi => h i (by omega), h n (by omega)]
theorem smI_none {n : Nat} {f : Nat → Int} (h : ∀ i, i < n → f i = 0) : smI n f = 0 := by
  induction n with
  | zero => rfl
  | succ n ih =>
    show smI n f + f n = 0
    rw [ih fun i hi => h i (by omega), h n (by omega), Int.add_zero]
theorem smI_add (n m : Nat) (f : Nat → Int) : smI (n + m) f = smI n f + smI m (fun i => f (n + i)) := by
  induction m with
  | zero => show smI n f = smI n f + 0; omega
  | succ m ih =>
    show smI (n + m) f + f (n + m) = smI n f + (smI m (fun i => f (n + i)) + f (n + m))
    rw [ih]; omega
theorem smI_cnt (n : Nat) (q : Nat → Bool) : smI n (fun i => if q i then 1 else 0) = (cntN n q : Int) := by
  induction n with
  | zero => rfl
  | succ n ih =>
    show smI n _ + (if q n then 1 else 0) = _
    rw [ih, cntN_succ]
    split <;> simp
/-- A text's marks from a place on, so many; a word's the other way round. -/
def mkT (T : Nat → Nat) (c o n i : Nat) : Int := if i < n ∧ T (o + i) = c then 1 else 0
def mkW (W : Nat → Nat) (c n i : Nat) : Int := if i < n ∧ W (n - 1 - i) = c then 1 else 0
theorem mkT_abs (T : Nat → Nat) (c o n i : Nat) : (mkT T c o n i).natAbs ≤ 256 := by unfold mkT; split <;> decide
theorem mkW_abs (W : Nat → Nat) (c n i : Nat) : (mkW W c n i).natAbs ≤ 256 := by unfold mkW; split <;> decide
theorem mkT_far (T : Nat → Nat) (c o n i : Nat) (h : n ≤ i) : mkT T c o n i = 0 := by unfold mkT; rw [if_neg (by omega)]
theorem mkW_far (W : Nat → Nat) (c n i : Nat) (h : n ≤ i) : mkW W c n i = 0 := by unfold mkW; rw [if_neg (by omega)]
theorem cv_marks (T W : Nat → Nat) (c o ls lw p : Nat) (h : p + lw ≤ ls) (h0 : 0 < lw) :
    cvI (mkT T c o ls) (mkW W c lw) (p + lw - 1) = (cntN lw (fun k => T (o + p + k) == c && W k == c) : Int) := by
  unfold cvI
  rw [show p + lw - 1 + 1 = p + lw by omega, smI_add, smI_none fun i hi => by
    show mkT T c o ls i * mkW W c lw (p + lw - 1 - i) = 0
    rw [mkW_far W c lw _ (by omega), Int.mul_zero], Int.zero_add, ← smI_cnt]
  refine smI_congr fun k hk => ?_
  show mkT T c o ls (p + k) * mkW W c lw (p + lw - 1 - (p + k)) = _
  unfold mkT mkW
  rw [show lw - 1 - (p + lw - 1 - (p + k)) = k by omega, show o + (p + k) = o + p + k by omega]
  by_cases h1 : T (o + p + k) = c
  · by_cases h2 : W k = c
    · rw [if_pos ⟨by omega, h1⟩, if_pos ⟨by omega, h2⟩, if_pos (by simp [h1, h2])]; rfl
    · rw [if_neg (c := p + lw - 1 - (p + k) < lw ∧ W k = c) (fun h => h2 h.2), Int.mul_zero, if_neg (by simp [h2])]
  · rw [if_neg (fun h => h1 h.2), Int.zero_mul, if_neg (by simp [h1])]

/-! ### The counts by the bytes that were seen -/
def seenB (W : Nat → Nat) (k c : Nat) : Bool := decide (0 < cntN k (fun j => W j == c))
theorem seenB_iff {W : Nat → Nat} {k c : Nat} : seenB W k c = true ↔ ∃ j, j < k ∧ W j = c := by
  unfold seenB
  rw [decide_eq_true_iff, cntN_pos]
  simp
theorem seenB_succ (W : Nat → Nat) (k c : Nat) : seenB W (k + 1) c = (seenB W k c || W k == c) := by
  rw [Bool.eq_iff_iff, Bool.or_eq_true, seenB_iff, seenB_iff, beq_iff_eq]
  constructor
  · rintro ⟨j, h1, h2⟩
    by_cases e : j = k
    · subst e; exact .inr h2
    · exact .inl ⟨j, by omega, h2⟩
  · rintro (⟨j, h1, h2⟩ | h)
    · exact ⟨j, by omega, h2⟩
    · exact ⟨k, by omega, h⟩
/-- Of the bytes that were seen among the word's first k, how many agree at p. -/
def agN (T W : Nat → Nat) (lw k p : Nat) : Nat := cntN lw (fun j => T (p + j) == W j && seenB W k (W j))
/-- How many agree at p. -/
def agree (T W : Nat → Nat) (lw p : Nat) : Nat := cntN lw (fun j => T (p + j) == W j)
def agC (T W : Nat → Nat) (lw c p : Nat) : Nat := cntN lw (fun j => T (p + j) == c && W j == c)
theorem agN_zero (T W : Nat → Nat) (lw p : Nat) : agN T W lw 0 p = 0 := cntN_none fun i _ => by
  have : seenB W 0 (W i) = false := by unfold seenB; simp [cntN]
  rw [this, Bool.and_false]
theorem agN_seen {T W : Nat → Nat} {lw k p : Nat} (h : seenB W k (W k) = true) : agN T W lw (k + 1) p = agN T W lw k p := cntN_congr fun i _ => by
  rw [seenB_succ]
  by_cases e : W k = W i
  · rw [← e, h]; rfl
  · have : (W k == W i) = false := by simp [e]
    rw [this, Bool.or_false]
theorem agN_new {T W : Nat → Nat} {lw k p : Nat} (h : seenB W k (W k) = false) : agN T W lw (k + 1) p = agN T W lw k p + agC T W lw (W k) p := by
  unfold agN agC
  rw [← cntN_or]
  · refine cntN_congr fun i _ => ?_
    rw [seenB_succ]
    by_cases e : W k = W i
    · rw [← e, h]; simp
    · have e1 : (W k == W i) = false := by simp [e]
      have e2 : (W i == W k) = false := by simp; exact fun h => e h.symm
      rw [e1, e2, Bool.or_false, Bool.and_false, Bool.or_false]
  · rintro i _ ⟨h1, h2⟩
    simp only [Bool.and_eq_true, beq_iff_eq] at h1 h2
    rw [h2.2, h] at h1
    exact absurd h1.2 (by decide)
theorem agN_end (T W : Nat → Nat) (lw p : Nat) : agN T W lw lw p = agree T W lw p := cntN_congr fun i hi => by
  rw [seenB_iff.2 ⟨i, hi, rfl⟩, Bool.and_true]
end Go.Proofs.YtblkejnckbeieaaGreatDoor.WaveP

namespace Go.Proofs.YtblkejnckbeieaaGreatDoor
open Go.RowKit WaveP

theorem size_list (s : ByteArray) : s.size = s.data.toList.length := by rw [Array.length_toList]; rfl
/-- The byte at i, as a number. -/
def byN (s : ByteArray) (i : Nat) : Nat := (s.data.toList.getD i 0).toNat
theorem byN_lt (s : ByteArray) (i : Nat) : byN s i < 256 := UInt8.toNat_lt _
theorem at_byN {s : ByteArray} {k : Nat} (hk : k < s.size) : (s[k]'hk).toNat = byN s k := by
  have hk' : k < s.data.toList.length := by rw [← size_list]; exact hk
  unfold byN
  rw [List.getD_eq_getElem?_getD, List.getElem?_eq_getElem hk']
  simp
  rfl
/-- The marks behind k rounds. -/
def mkB (T : Nat → Nat) (c n k j : Nat) : Int := if j < n ∧ n - 1 - j < k ∧ T (n - 1 - j) = c then 1 else 0
def mkF (back : Bool) (T : Nat → Nat) (c n k j : Nat) : Int := if back then mkB T c n k j else mkT T c 0 k j
theorem mkF_zero (back : Bool) (T : Nat → Nat) (c n j : Nat) : mkF back T c n 0 j = 0 := by
  unfold mkF mkB mkT
  cases back <;> simp
theorem mkF_skip {back : Bool} {T : Nat → Nat} {c n k j : Nat} (h : T k ≠ c) : mkF back T c n k j = mkF back T c n (k + 1) j := by
  unfold mkF mkB mkT
  cases back
  · simp only [Nat.zero_add, Bool.false_eq_true, if_false]
    by_cases e : j = k
    · subst e; rw [if_neg (fun h2 => by omega), if_neg (fun h2 => h h2.2)]
    · by_cases e2 : j < k
      · by_cases e3 : T j = c
        · rw [if_pos ⟨e2, e3⟩, if_pos ⟨by omega, e3⟩]
        · rw [if_neg (fun h2 => e3 h2.2), if_neg (fun h2 => e3 h2.2)]
      · rw [if_neg (fun h2 => e2 h2.1), if_neg (fun h2 => by omega)]
  · simp only [if_true]
    by_cases e : n - 1 - j = k
    · rw [if_neg (fun h2 => by omega), if_neg (fun h2 => h (by rw [← e]; exact h2.2.2))]
    · by_cases e2 : j < n ∧ n - 1 - j < k ∧ T (n - 1 - j) = c
      · rw [if_pos e2, if_pos ⟨e2.1, by omega, e2.2.2⟩]
      · rw [if_neg e2, if_neg (fun h2 => e2 ⟨h2.1, by omega, h2.2.2⟩)]
theorem mkF_set {back : Bool} {T : Nat → Nat} {c n k : Nat} (hk : k < n) (h : T k = c) (j : Nat) (hj : j < n) :
    (if j = (if back then n - 1 - k else k) then 1 else mkF back T c n k j) = mkF back T c n (k + 1) j := by
  unfold mkF mkB mkT
  cases back
  · simp only [Nat.zero_add, Bool.false_eq_true, if_false]
    by_cases e : j = k
    · subst e; rw [if_pos rfl, if_pos ⟨by omega, h⟩]
    · rw [if_neg e]
      by_cases e2 : j < k
      · by_cases e3 : T j = c
        · rw [if_pos ⟨e2, e3⟩, if_pos ⟨by omega, e3⟩]
        · rw [if_neg (fun h2 => e3 h2.2), if_neg (fun h2 => e3 h2.2)]
      · rw [if_neg (fun h2 => e2 h2.1), if_neg (fun h2 => by omega)]
  · simp only [if_true]
    by_cases e : j = n - 1 - k
    · rw [if_pos e, if_pos ⟨hj, by omega, by rw [show n - 1 - j = k by omega]; exact h⟩]
    · rw [if_neg e]
      by_cases e2 : j < n ∧ n - 1 - j < k ∧ T (n - 1 - j) = c
      · rw [if_pos e2, if_pos ⟨e2.1, by omega, e2.2.2⟩]
      · rw [if_neg e2, if_neg (fun h2 => e2 ⟨h2.1, by omega, h2.2.2⟩)]
theorem mkF_end_t (T : Nat → Nat) (c n j : Nat) : mkF false T c n n j = mkT T c 0 n j := rfl
theorem mkF_end_w (T : Nat → Nat) (c n j : Nat) : mkF true T c n n j = mkW T c n j := by
  show mkB T c n n j = _
  unfold mkB mkW
  by_cases h : j < n ∧ T (n - 1 - j) = c
  · rw [if_pos h, if_pos ⟨h.1, by omega, h.2⟩]
  · rw [if_neg h, if_neg (fun h2 => h ⟨h2.1, h2.2.2⟩)]

set_option maxHeartbeats 1600000 in
set_option maxRecDepth 100000 in
theorem marks_any (s : ByteArray) (c n : Nat) (back : Bool) (w : World) (hsz : s.size = n) (hn0 : 0 < n) (hn1 : n ≤ 4096) (hc : c < 256) :
    Calls Tryz.prog 59 #[.string s, .int .u8 c, .bool back] w fun e w' => e = .returned (.slice (some ⟨w.heap.size, 0, none⟩) n n) ∧ Below w.heap.size w w' ∧ w'.rowIs w.heap.size 3 n (fun j => .int .i64 (mkF back (byN s) c n n j)) := by
  have hmk := run_make_row' (P := Tryz.prog) 22 3 (.int .i64 0) 8 Tryz.underlying22 (by kernel_rfl) rfl .i64 .i64 n (by omega) (by omega)
  go_enter Tryz.func59, Tryz.ntmps59
  go_wp2
  clear hmk
  go_loopw [14] (fun i wr => ∃ k : Nat, k ≤ n ∧ i = .int .i64 k ∧ wr.rowIs w.heap.size 3 n (fun j => .int .i64 (mkF back (byN s) c n k j)) ∧ Below w.heap.size w wr)
    (fun i _ => n + 1 - (intOf i).toNat)
  case atStart => exact ⟨0, by omega, rfl, (World.rowIs_made w _ n _).congr (fun j _ => by rw [mkF_zero]), (Below.refl _ w).alloc (Nat.le_refl _) _⟩
  case round =>
    obtain ⟨k, hk, rfl, hrow, hbe⟩ := hrel
    by_cases hlt : k < n
    · have hks : k < s.size := by omega
      have hat := at_byN hks
      have hb := byN_lt s k
      obtain ⟨x, hx⟩ : ∃ x, x = byN s k := ⟨_, rfl⟩
      rw [← hx] at hat hb
      have hs1 := hrow.cell hlt
      have hs2 := hrow.cell (show n - 1 - k < n by omega)
      have hf1 := hrow.frozen k
      have hf2 := hrow.frozen (n - 1 - k)
      have hq : (n : Int) - 1 - (k : Int) = ((n - 1 - k : Nat) : Int) := by omega
      by_cases hxc : x = c
      · have hst := hrow.set (if back then n - 1 - k else k) (.int .i64 1)
        have hse := fun j hj => mkF_set (back := back) hlt (show byN s k = c by rw [← hx]; exact hxc) j hj
        have HX := Lib.hid hx
        subst hxc
        clear hx
        cases back
        · go_wp2
          go_roundw
          case rel =>
            refine ⟨k + 1, by omega, by go_num, hst.congr (fun j hj => ?_), hbe.setCell (Nat.le_refl _) _⟩
            rw [← hse j hj]
            by_cases e : j = (if false = true then n - 1 - k else k)
            · rw [if_pos e, if_pos e]
            · rw [if_neg e, if_neg e]
          case measure => simp [intOf]; omega
        · go_wp2
          go_roundw
          case rel =>
            refine ⟨k + 1, by omega, by go_num, hst.congr (fun j hj => ?_), hbe.setCell (Nat.le_refl _) _⟩
            rw [← hse j hj]
            by_cases e : j = (if true = true then n - 1 - k else k)
            · rw [if_pos e, if_pos e]
            · rw [if_neg e, if_neg e]
          case measure => simp [intOf]; omega
      · have hrow2 := hrow.congr (fun j _ => congrArg (Value.int .i64) (mkF_skip (back := back) (n := n) (j := j) (show byN s k ≠ c by rw [← hx]; exact hxc)))
        clear hx
        go_wp2
        go_roundw
        case rel => exact ⟨k + 1, by omega, by go_num, hrow2, hbe⟩
        case measure => simp [intOf]; omega
    · obtain rfl : k = n := by omega
      go_wp2
      go_ret
      exact ⟨rfl, hbe, hrow⟩
end Go.Proofs.YtblkejnckbeieaaGreatDoor
