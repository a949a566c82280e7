/- The twiddles' words are finite; forwards and back. -/
import Derived.Test.YtnjmefjcaiepfaaDoorWAng
import Derived.Test.YtnjmefjcaiepfaaDoorWLvl
namespace Go.Proofs.YtnjmefjcaiepfaaDoor
open Go.RowKit WaveP WaveP.Cx

theorem pow_le2 {a b : Nat} (h : a + 1 ≤ b) : 2 ^ a * 2 ≤ 2 ^ b := by
  rw [← Nat.pow_succ]
  exact Nat.pow_le_pow_right (by decide) h
theorem fin_small {w : Nat} (hw : w < 18446744073709551616) (h : un (rg w) ≤ 2 ^ c1076) : fin w = true := by
  refine fin_iff.2 ⟨hw, ?_⟩
  refine Nat.lt_of_not_le fun hc => ?_
  have h1 : 4503599627370496 ≤ rg w := Nat.le_trans (by decide +kernel) hc
  have h2 : c1076 + 1 ≤ pl (rg w) := by
    unfold pl
    have : infR / 4503599627370496 ≤ rg w / 4503599627370496 := Nat.div_le_div_right hc
    have e : infR / 4503599627370496 = 2047 := by decide +kernel
    unfold c1076
    omega
  have h3 := pow_le2 h2
  have h4 : 1 ≤ mg (rg w) := by
    unfold mg
    rw [ble_t h1, cond_true]
    omega
  have h5 : 2 ^ pl (rg w) ≤ un (rg w) := by
    unfold un
    exact Nat.le_mul_of_pos_left _ h4
  have h7 := Nat.two_pow_pos c1076
  generalize 2 ^ c1076 = Q at *
  generalize 2 ^ pl (rg w) = R at *
  omega
theorem fin_val {w : Nat} (hw : w < 18446744073709551616) (h1 : -2 ≤ val w) (h2 : val w ≤ 2) : fin w = true := by
  refine fin_small hw ?_
  have hu : ((un (rg w) : Nat) : Rat) * e0 ≤ 2 := by
    unfold val at h1 h2
    rcases sn_cases (sg w) with e | e <;> rw [e] at h1 h2 <;> grind
  have hm : ((un (rg w) : Nat) : Rat) * e0 * ((2 ^ c74 : Nat) : Rat) ≤ 2 * ((2 ^ c74 : Nat) : Rat) := Rat.mul_le_mul_of_nonneg_right hu (Rat.le_of_lt (pw_pos c74))
  have he : ((un (rg w) : Nat) : Rat) * e0 * ((2 ^ c74 : Nat) : Rat) = ((un (rg w) : Nat) : Rat) := by
    rw [Rat.mul_assoc, e0_mul, Rat.mul_one]
  rw [he] at hm
  have hc : un (rg w) ≤ 2 * 2 ^ c74 := by exact_mod_cast hm
  have h6 : 2 ^ c1076 = 2 ^ c74 * 4 := by
    have : c1076 = c74 + 2 := rfl
    rw [this, Nat.pow_add]
  generalize 2 ^ c1076 = Q at *
  generalize 2 ^ c74 = R at *
  omega
theorem wd_lt (b : Bool) (x : Nat) : wd b (rg x) < 18446744073709551616 := by
  have : rg x < 9223372036854775808 := Nat.mod_lt _ (by decide)
  cases b
  · show rg x < _; omega
  · show 9223372036854775808 + rg x < _; omega
theorem sincosP_lt {x s c : Nat} (h : sincosP x = some (s, c)) : s < 18446744073709551616 ∧ c < 18446744073709551616 := by
  unfold sincosP at h
  obtain ⟨⟨j, z⟩, h1, h⟩ := Option.bind_eq_some_iff.1 h
  obtain ⟨⟨q1, q2⟩, h2, h⟩ := Option.bind_eq_some_iff.1 h
  obtain ⟨zz, hh, h1', z4, pc, mc, z3, ps, ms, K⟩ := kern_parts h2
  have a1 := addO_lt K.l
  have a2 := addO_lt K.g
  dsimp only at h
  cases hb : Nat.beq j 0 with
  | true =>
    rw [hb, cond_true] at h
    injection h with h
    injection h with e1 e2
    rw [← e1, ← e2]
    exact ⟨a1, a2⟩
  | false =>
    rw [hb, cond_false] at h
    cases hb2 : Nat.beq j 2 with
    | true =>
      rw [hb2, cond_true] at h
      injection h with h
      injection h with e1 e2
      rw [← e1, ← e2]
      exact ⟨a2, wd_lt _ _⟩
    | false =>
      rw [hb2, cond_false] at h
      cases hb4 : Nat.beq j 4 with
      | true =>
        rw [hb4, cond_true] at h
        injection h with h
        injection h with e1 e2
        rw [← e1, ← e2]
        exact ⟨wd_lt _ _, wd_lt _ _⟩
      | false =>
        rw [hb4, cond_false] at h
        cases h
theorem pow_bd1 {z : Cx} (hz : Bd z 1) : ∀ n, Bd (pow z n) 1 := by
  intro n
  induction n with
  | zero => exact Bd.one_
  | succ n ih =>
    rw [pow_succ]
    have := ih.mul hz
    have h2 := hz.mul ih
    rw [Rat.mul_one] at this h2
    first | exact this | exact h2
/-- The root that a direction goes by. -/
def Zn (neg : Bool) (l : Nat) : Cx := if neg then conj (Zr l) else Zr l
theorem Zn_roots (neg : Bool) : Roots (Zn neg) tau := by
  have h := Zr_roots half_t
  cases neg
  · exact h
  · exact h.conj
theorem tw_words (neg : Bool) {l k : Nat} (h1 : 1 ≤ l) (h2 : l ≤ 12) (h3 : k < 2 ^ (l - 1)) : ∃ x s c, Turn l k x s c ∧ Nc c (fl neg s) (pow (Zn neg l) k) (1 / 562949953421312) := by
  obtain ⟨x, s, c, hT⟩ := turns h1 h2 h3
  have hn : Bd (⟨val c, val s⟩ - pow (Zr l) k) (1 / 562949953421312) := hT.2.2
  have hb := hn.add (pow_bd1 ((Zr_roots half_t).bd l h2) k)
  have e : (⟨val c, val s⟩ : Cx) - pow (Zr l) k + pow (Zr l) k = ⟨val c, val s⟩ := by apply Cx.ext' <;> simp only [add_re, add_im, sub_re, sub_im] <;> grind
  rw [e] at hb
  have hlt : s < 18446744073709551616 ∧ c < 18446744073709551616 := by
    rcases hT.2.1 with ⟨_, _, rfl, rfl⟩ | ⟨_, _, hs⟩
    · exact ⟨by decide, by decide⟩
    · exact sincosP_lt hs
  have br := hb.re
  have bi := hb.im
  dsimp only at br bi
  have fc : fin c = true := fin_val hlt.2 (by grind) (by grind)
  have fs : fin s = true := fin_val hlt.1 (by grind) (by grind)
  refine ⟨x, s, c, hT, ?_⟩
  cases neg
  · exact ⟨fc, fs, hn⟩
  · refine ⟨fc, fin_flip fs, ?_⟩
    have hcj := hn.conj
    have e2 : cv2 c (flipW s) - pow (Zn true l) k = conj (⟨val c, val s⟩ - pow (Zr l) k) := by
      have e3 : pow (Zn true l) k = conj (pow (Zr l) k) := by rw [conj_pow]; rfl
      rw [e3]
      have e4 := val_flip fs
      apply Cx.ext' <;> simp only [cv2, conj, sub_re, sub_im, e4] <;> grind
    show Bd (cv2 c (flipW s) - pow (Zn true l) k) _
    rw [e2]
    exact hcj
end Go.Proofs.YtnjmefjcaiepfaaDoor
