/- Rounding a word to the nearest whole number, by its bits; the word as a whole number. -/
import Derived.Test.YtnjmefjcaiepfaaDoorWOrd
import Derived.Test.YtnjmefjcaiepfaaDoorWInv
import Derived.Laws.FloatArith
namespace Go.Proofs.YtnjmefjcaiepfaaDoor.WaveP

theorem cut_int {neg : Bool} {m n d : Nat} (h : m = n * 2 ^ d) : Ieee.Toward.zero.cut neg m d = n := by
  unfold Ieee.Toward.cut
  show m / (1 <<< min d (m.log2 + 2)) + 0 = n
  rw [Nat.add_zero, Nat.one_shiftLeft]
  by_cases hd : d ≤ m.log2 + 2
  · rw [Nat.min_eq_left hd, h, Nat.mul_div_cancel _ (Nat.two_pow_pos d)]
  · have hm : m < 2 ^ (m.log2 + 1) := Nat.lt_log2_self
    have h2 : 2 ^ (m.log2 + 1) ≤ 2 ^ d := Nat.pow_le_pow_right (by decide) (by omega)
    have hn : n = 0 := by
      rcases Nat.eq_zero_or_pos n with h0 | h0
      · exact h0
      · have : 2 ^ d ≤ n * 2 ^ d := Nat.le_mul_of_pos_left _ h0
        omega
    subst hn
    rw [Nat.zero_mul] at h
    subst h
    rw [Nat.zero_div]

/-- The word of a whole number, as an integer. -/
theorem toInt_word {w n : Nat} (hf : fin w = true) (hn : un (rg w) = n * 2 ^ c74) (hs : n < 4611686018427387904) :
    floatToIntVal .f64 w .i64 = some (if sg w then -(n : Int) else (n : Int)) := by
  unfold floatToIntVal
  have hd : FloatKind.f64.decode w = .number (sg w) (mg (rg w)) ((pl (rg w) : Int) - 1074) := read_fin hf
  have hcut : Ieee.Toward.zero.cut (sg w) (mg (rg w) <<< (((pl (rg w) : Int) - 1074)).toNat) (-((pl (rg w) : Int) - 1074)).toNat = n := by
    unfold un at hn
    have hc : c74 = 1074 := rfl
    rcases Nat.lt_or_ge (pl (rg w)) 1074 with h | h
    · have e1 : (((pl (rg w) : Int) - 1074)).toNat = 0 := by omega
      have e2 : (-((pl (rg w) : Int) - 1074)).toNat = 1074 - pl (rg w) := by omega
      rw [e1, e2, Nat.shiftLeft_zero]
      apply cut_int
      have e3 : c74 = (1074 - pl (rg w)) + pl (rg w) := by omega
      rw [e3, Nat.pow_add, ← Nat.mul_assoc] at hn
      exact Nat.eq_of_mul_eq_mul_right (Nat.two_pow_pos _) hn
    · have e1 : (((pl (rg w) : Int) - 1074)).toNat = pl (rg w) - 1074 := by omega
      have e2 : (-((pl (rg w) : Int) - 1074)).toNat = 0 := by omega
      rw [e1, e2]
      apply cut_int
      rw [Nat.shiftLeft_eq, Nat.pow_zero, Nat.mul_one]
      have e3 : pl (rg w) = (pl (rg w) - 1074) + c74 := by omega
      rw [e3, Nat.pow_add, ← Nat.mul_assoc] at hn
      exact Nat.eq_of_mul_eq_mul_right (Nat.two_pow_pos _) hn
  have ht : (FloatKind.f64.decode w).toInt .zero = some (if sg w then -(n : Int) else (n : Int)) := by
    rw [hd]
    unfold Ieee.Datum.toInt Ieee.Datum.integral
    dsimp only
    rw [hcut]
    unfold Ieee.signed
    rw [Nat.shiftLeft_zero]
  rw [ht]
  dsimp only
  have hmin : IntKind.i64.min = -9223372036854775808 := by decide +kernel
  have hmax : IntKind.i64.max = 9223372036854775807 := by decide +kernel
  rw [hmin, hmax, if_pos]
  split <;> omega

theorem val_abs {w : Nat} : ((un (rg w) : Nat) : Rat) * e0 = if sg w then -val w else val w := by
  unfold val sn
  cases sg w <;> simp <;> grind
/-- The whole number that is next to a word's size. -/
theorem near_abs {w : Nat} {c : Int} (h1 : val w - (c : Rat) ≤ 1 / 4) (h2 : (c : Rat) - val w ≤ 1 / 4) :
    4 * un (rg w) ≤ (4 * c.natAbs + 1) * 2 ^ c74 ∧ 4 * c.natAbs * 2 ^ c74 ≤ 4 * un (rg w) + 2 ^ c74 ∧ (c.natAbs = 0 ∨ (c = if sg w then -(c.natAbs : Int) else (c.natAbs : Int))) := by
  have he := e0_pos
  have hu0 : 0 ≤ ((un (rg w) : Nat) : Rat) * e0 := Rat.mul_nonneg (by exact_mod_cast Nat.zero_le _) (Rat.le_of_lt he)
  have key : ((un (rg w) : Nat) : Rat) * e0 - (c.natAbs : Rat) ≤ 1 / 4 ∧ (c.natAbs : Rat) - ((un (rg w) : Nat) : Rat) * e0 ≤ 1 / 4 ∧ (c.natAbs = 0 ∨ (c = if sg w then -(c.natAbs : Int) else (c.natAbs : Int))) := by
    rcases Int.natAbs_eq c with hc | hc
    · have hcr : (c : Rat) = (c.natAbs : Rat) := by
        have := congrArg (fun x : Int => (x : Rat)) hc
        rw [Rat.intCast_natCast] at this
        exact this
      rw [hcr] at h1 h2
      have hn : (0 : Rat) ≤ (c.natAbs : Rat) := by exact_mod_cast Nat.zero_le _
      by_cases h0 : c.natAbs = 0
      · rw [h0] at h1 h2 ⊢
        have e : ((0 : Nat) : Rat) = 0 := rfl
        rw [e] at h1 h2 ⊢
        rw [val_abs]
        refine ⟨?_, ?_, .inl rfl⟩ <;> split <;> grind
      · have h1n : (1 : Rat) ≤ (c.natAbs : Rat) := by exact_mod_cast (show 1 ≤ c.natAbs by omega)
        have hs : sg w = false := by
          cases hsg : sg w
          · rfl
          · have hv : ((un (rg w) : Nat) : Rat) * e0 = -val w := by rw [val_abs, hsg]; rfl
            exfalso; grind
        have hv : ((un (rg w) : Nat) : Rat) * e0 = val w := by rw [val_abs, hs]; rfl
        rw [hv, hs]
        exact ⟨h1, h2, .inr hc⟩
    · have hcr : (c : Rat) = -(c.natAbs : Rat) := by
        have := congrArg (fun x : Int => (x : Rat)) hc
        rw [Rat.intCast_neg, Rat.intCast_natCast] at this
        exact this
      rw [hcr] at h1 h2
      have hn : (0 : Rat) ≤ (c.natAbs : Rat) := by exact_mod_cast Nat.zero_le _
      by_cases h0 : c.natAbs = 0
      · rw [h0] at h1 h2 ⊢
        have e : ((0 : Nat) : Rat) = 0 := rfl
        rw [e] at h1 h2 ⊢
        rw [val_abs]
        refine ⟨?_, ?_, .inl rfl⟩ <;> split <;> grind
      · have h1n : (1 : Rat) ≤ (c.natAbs : Rat) := by exact_mod_cast (show 1 ≤ c.natAbs by omega)
        have hs : sg w = true := by
          cases hsg : sg w
          · have hv : ((un (rg w) : Nat) : Rat) * e0 = val w := by rw [val_abs, hsg]; rfl
            exfalso; grind
          · rfl
        have hv : ((un (rg w) : Nat) : Rat) * e0 = -val w := by rw [val_abs, hs]; rfl
        rw [hv, hs]
        exact ⟨by grind, by grind, .inr hc⟩
  obtain ⟨k1, k2, k3⟩ := key
  have hp := pw_pos c74
  have hm := e0_mul
  generalize hP : ((2 ^ c74 : Nat) : Rat) = P at hp hm
  have m1 : (((un (rg w) : Nat) : Rat) * e0 - (c.natAbs : Rat)) * P ≤ 1 / 4 * P := Rat.mul_le_mul_of_nonneg_right k1 (Rat.le_of_lt hp)
  have m2 : ((c.natAbs : Rat) - ((un (rg w) : Nat) : Rat) * e0) * P ≤ 1 / 4 * P := Rat.mul_le_mul_of_nonneg_right k2 (Rat.le_of_lt hp)
  have hue : ((un (rg w) : Nat) : Rat) * e0 * P = ((un (rg w) : Nat) : Rat) := by rw [Rat.mul_assoc, hm, Rat.mul_one]
  refine ⟨?_, ?_, k3⟩
  · have : (4 : Rat) * ((un (rg w) : Nat) : Rat) ≤ (4 * (c.natAbs : Rat) + 1) * P := by grind
    rw [← hP] at this
    exact_mod_cast this
  · have : 4 * (c.natAbs : Rat) * P ≤ 4 * ((un (rg w) : Nat) : Rat) + P := by grind
    rw [← hP] at this
    exact_mod_cast this

theorem mid_round {P Q G h m a q : Nat} (hP : P = Q * G) (hG : G = 2 * h) (hq : 4503599627370496 = q * G) (hQ : 0 < Q) (hh : 0 < h) (m1 : 4503599627370496 ≤ m) (m2 : m < 9007199254740992)
    (k1 : 4 * (m * Q) ≤ (4 * a + 1) * P) (k2 : 4 * a * P ≤ 4 * (m * Q) + P) : (m + h) / G = a ∧ 4503599627370496 ≤ a * G ∧ a * G ≤ 9007199254740992 := by
  have e1 : 4 * (m * Q) = 4 * m * Q := by rw [Nat.mul_assoc]
  have e2 : (4 * a + 1) * P = (4 * a + 1) * G * Q := by rw [hP, Nat.mul_comm Q G, Nat.mul_assoc]
  have e3 : 4 * a * P = 4 * a * G * Q := by rw [hP, Nat.mul_comm Q G, Nat.mul_assoc (4 * a)]
  have e4 : 4 * (m * Q) + P = (4 * m + G) * Q := by rw [hP, Nat.add_mul, e1, Nat.mul_comm Q G]
  rw [e1, e2] at k1
  rw [e3, e4] at k2
  have j1 := Nat.le_of_mul_le_mul_right k1 hQ
  have j2 := Nat.le_of_mul_le_mul_right k2 hQ
  have j3 : (4 * a + 1) * G = 4 * (a * G) + G := by rw [Nat.add_mul, Nat.mul_assoc, Nat.one_mul]
  have j4 : 4 * a * G = 4 * (a * G) := by rw [Nat.mul_assoc]
  rw [j3] at j1
  rw [j4] at j2
  have hd : (m + h) / G = a := by
    apply Nat.div_eq_of_lt_le
    · omega
    · rw [Nat.add_mul, Nat.one_mul]; omega
  have a1 : q ≤ a := by
    refine Nat.le_of_lt_succ (Nat.lt_of_mul_lt_mul_right (a := G) ?_)
    rw [Nat.succ_mul]; omega
  have a2 : a ≤ 2 * q := by
    refine Nat.le_of_lt_succ (Nat.lt_of_mul_lt_mul_right (a := G) ?_)
    rw [Nat.succ_mul, Nat.mul_assoc]; omega
  refine ⟨hd, ?_, ?_⟩
  · rw [hq]; exact Nat.mul_le_mul_right _ a1
  · have := Nat.mul_le_mul_right G a2
    rw [Nat.mul_assoc] at this
    omega
theorem mid_bits {r e G h a q m : Nat} (hr : r = (e - 1) * 4503599627370496 + m) (hq : 4503599627370496 = q * G) (hG : 0 < G) (hd : (m + h) / G = a) : (r + h) / G * G = (e - 1) * 4503599627370496 + a * G := by
  have e1 : r + h = (m + h) + ((e - 1) * q) * G := by rw [hr, hq, Nat.mul_assoc]; omega
  rw [e1, Nat.add_mul_div_right _ _ hG, hd, Nat.add_mul, hq, Nat.mul_assoc]
  omega
/-- The word's rounding, by its exponent. -/
def rndW (w : Nat) : Nat :=
  if rg w / 4503599627370496 < 1023 then (if rg w / 4503599627370496 = 1022 then wd (sg w) 4607182418800017408 else wd (sg w) 0)
  else wd (sg w) ((rg w + 2 ^ (1074 - rg w / 4503599627370496)) / 2 ^ (1075 - rg w / 4503599627370496) * 2 ^ (1075 - rg w / 4503599627370496))
def c1020 : Nat := 1020
theorem un_one : un 4607182418800017408 = 1 * 2 ^ c74 := by decide +kernel
theorem round_word {w : Nat} {c : Int} (hf : fin w = true) (h1 : val w - (c : Rat) ≤ 1 / 4) (h2 : (c : Rat) - val w ≤ 1 / 4) (hc : c.natAbs ≤ 1125899906842624) :
    rg w / 4503599627370496 < 1075 ∧ floatToIntVal .f64 (rndW w) .i64 = some c := by
  obtain ⟨k1, k2, k3⟩ := near_abs h1 h2
  have hP : ∃ P, P = 2 ^ c74 := ⟨_, rfl⟩
  obtain ⟨a, ha⟩ : ∃ a, a = c.natAbs := ⟨_, rfl⟩
  rw [← ha] at k1 k2 k3 hc
  have hfin : ∀ r, fin (wd (sg w) r) = true → r < infR → un r = a * 2 ^ c74 → floatToIntVal .f64 (wd (sg w) r) .i64 = some c := fun r h hr hu => by
    have := toInt_word (w := wd (sg w) r) (n := a) h (by rw [rg_wd hr]; exact hu) (by omega)
    rw [this, sg_wd hr]
    rcases k3 with h0 | h0
    · have : c = 0 := by omega
      rw [h0, this]; cases sg w <;> rfl
    · rw [← h0]
  obtain ⟨f1, f2⟩ := fin_iff.1 hf
  unfold infR at f2
  unfold rndW
  obtain ⟨e, he⟩ : ∃ e, e = rg w / 4503599627370496 := ⟨_, rfl⟩
  obtain ⟨m, hm⟩ : ∃ m, m = mg (rg w) := ⟨_, rfl⟩
  have hun : un (rg w) = m * 2 ^ (e - 1) := by unfold un pl; rw [hm, he]
  rw [hun] at k1 k2
  rw [← he]
  by_cases he1 : e < 1023
  · refine ⟨by omega, ?_⟩
    rw [if_pos he1]
    have hm2 : m < 9007199254740992 := by
      rw [hm]; unfold mg
      rw [ble_eq]
      by_cases h : 4503599627370496 ≤ rg w
      · rw [decide_eq_true h, cond_true]; omega
      · rw [decide_eq_false h, cond_false]; omega
    by_cases he2 : e = 1022
    · rw [if_pos he2]
      have hm1 : 4503599627370496 ≤ m := by
        rw [hm]; unfold mg
        rw [ble_t (by omega), cond_true]; omega
      have hpw : 2 ^ c74 = 2 ^ (e - 1) * 9007199254740992 := by rw [he2]; decide +kernel
      rw [hpw] at k1 k2
      have hq := Nat.two_pow_pos (e - 1)
      generalize 2 ^ (e - 1) = Q at k1 k2 hq
      have j1 : 4 * m ≤ (4 * a + 1) * 9007199254740992 := by
        refine Nat.le_of_mul_le_mul_right (c := Q) ?_ hq
        rw [Nat.mul_assoc, Nat.mul_assoc, Nat.mul_comm 9007199254740992 Q]; exact k1
      have j2 : 4 * a * 9007199254740992 ≤ 4 * m + 9007199254740992 := by
        refine Nat.le_of_mul_le_mul_right (c := Q) ?_ hq
        rw [Nat.add_mul, Nat.mul_assoc (4 * a), Nat.mul_assoc 4 m, Nat.mul_comm 9007199254740992 Q]; exact k2
      have ha1 : a = 1 := by omega
      exact hfin _ (fin_wd (by decide)) (by decide) (by rw [ha1]; exact un_one)
    · rw [if_neg he2]
      have hle : 2 ^ (e - 1) ≤ 2 ^ c1020 := Nat.pow_le_pow_right (by decide) (by unfold c1020; omega)
      have hpw : 2 ^ c74 = 2 ^ c1020 * 18014398509481984 := by decide +kernel
      rw [hpw] at k1 k2
      have hq := Nat.two_pow_pos c1020
      have hmq : m * 2 ^ (e - 1) ≤ m * 2 ^ c1020 := Nat.mul_le_mul_left _ hle
      generalize 2 ^ c1020 = Q at k1 k2 hq hmq
      have j2 : 4 * a * 18014398509481984 ≤ 4 * m + 18014398509481984 := by
        refine Nat.le_of_mul_le_mul_right (c := Q) ?_ hq
        rw [Nat.add_mul, Nat.mul_assoc (4 * a), Nat.mul_assoc 4 m, Nat.mul_comm 18014398509481984 Q]
        exact Nat.le_trans k2 (Nat.add_le_add_right (Nat.mul_le_mul_left 4 hmq) _)
      have ha1 : a = 0 := by omega
      exact hfin _ (fin_wd (by decide)) (by decide) (by rw [ha1, Nat.zero_mul]; rfl)
  · have hm1 : 4503599627370496 ≤ m ∧ m < 9007199254740992 ∧ rg w = (e - 1) * 4503599627370496 + m := by
      rw [hm]; unfold mg
      rw [ble_t (by omega), cond_true]; omega
    obtain ⟨hm1, hm2, hr⟩ := hm1
    have hQ := Nat.two_pow_pos (e - 1)
    by_cases he2 : e < 1075
    · refine ⟨he2, ?_⟩
      rw [if_neg he1]
      have hP : 2 ^ c74 = 2 ^ (e - 1) * 2 ^ (1075 - e) := by rw [← Nat.pow_add]; congr 1; unfold c74; omega
      have hG : 2 ^ (1075 - e) = 2 * 2 ^ (1074 - e) := by rw [show 1075 - e = (1074 - e) + 1 by omega, Nat.pow_succ, Nat.mul_comm]
      have hq : 4503599627370496 = 2 ^ (e - 1023) * 2 ^ (1075 - e) := by rw [← Nat.pow_add, show e - 1023 + (1075 - e) = 52 by omega]
      have hh := Nat.two_pow_pos (1074 - e)
      have hG0 := Nat.two_pow_pos (1075 - e)
      obtain ⟨i1, i2, i3⟩ := mid_round hP hG hq hQ hh hm1 hm2 k1 k2
      rw [mid_bits hr hq hG0 i1]
      have hlt : (e - 1) * 4503599627370496 + a * 2 ^ (1075 - e) < infR := by unfold infR; omega
      refine hfin _ (fin_wd hlt) hlt ?_
      rw [un_high i2 i3, Nat.mul_assoc, hP, Nat.mul_comm (2 ^ (1075 - e))]
    · exfalso
      have hle : 2 ^ c74 ≤ 2 ^ (e - 1) := Nat.pow_le_pow_right (by decide) (by unfold c74; omega)
      have h3 := Nat.mul_le_mul hm1 hle
      have hp0 := Nat.two_pow_pos c74
      generalize 2 ^ c74 = P at k1 hle h3 hp0
      have h4 : 4 * (4503599627370496 * P) ≤ (4 * a + 1) * P := Nat.le_trans (Nat.mul_le_mul_left 4 h3) k1
      rw [← Nat.mul_assoc] at h4
      have := Nat.le_of_mul_le_mul_right h4 hp0
      omega
end Go.Proofs.YtnjmefjcaiepfaaDoor.WaveP
