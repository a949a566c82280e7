/- The walk of math.Round. -/
import Derived.Test.YtnjmefjcaiepfaaDoorWRun
import Derived.Test.YtnjmefjcaiepfaaDoorWRound
import Derived.Laws.BitsAllLaws
import Derived.Laws.Externs
namespace Go.Proofs.YtnjmefjcaiepfaaDoor
open Go.RowKit WaveP

theorem low_clear (y k : Nat) (hk : k ≤ 64) (hy : y < 18446744073709551616) : y &&& (18446744073709551615 - (2 ^ k - 1)) = y / 2 ^ k * 2 ^ k := by
  have hp : 2 ^ k ≤ 2 ^ 64 := Nat.pow_le_pow_right (by decide) hk
  have hp0 := Nat.two_pow_pos k
  have e : 18446744073709551615 - (2 ^ k - 1) = (2 ^ (64 - k) - 1) <<< k := by
    rw [Nat.shiftLeft_eq, Nat.sub_mul, ← Nat.pow_add, Nat.sub_add_cancel hk]
    omega
  have e2 : y / 2 ^ k * 2 ^ k = (y >>> k) <<< k := by rw [Nat.shiftLeft_eq, Nat.shiftRight_eq_div_pow]
  rw [e, e2]
  apply Nat.eq_of_testBit_eq
  intro i
  rw [Nat.testBit_and, Nat.testBit_shiftLeft, Nat.testBit_shiftLeft, Nat.testBit_two_pow_sub_one, Nat.testBit_shiftRight]
  by_cases h : k ≤ i
  · rw [decide_eq_true h, Bool.true_and, Bool.true_and, show k + (i - k) = i by omega]
    by_cases h2 : i - k < 64 - k
    · rw [decide_eq_true h2, Bool.and_true]
    · have : y.testBit i = false := Nat.testBit_lt_two_pow (Nat.lt_of_lt_of_le (show y < 2 ^ 64 from hy) (Nat.pow_le_pow_right (by decide) (by omega)))
      rw [this, Bool.false_and]
  · rw [decide_eq_false h, Bool.false_and, Bool.false_and, Bool.and_false]
theorem top_bit (x : Nat) (hx : x < 18446744073709551616) : x &&& 9223372036854775808 = wd (sg x) 0 := by
  have h : x &&& 9223372036854775808 = x / 9223372036854775808 % 2 * 9223372036854775808 := Go.nat_bit 63 x
  rw [h]
  cases hs : sg x with
  | false =>
    unfold sg at hs; rw [ble_eq] at hs
    have := of_decide_eq_false hs
    show _ = 0
    omega
  | true =>
    unfold sg at hs; rw [ble_eq] at hs
    have := of_decide_eq_true hs
    show _ = 9223372036854775808 + 0
    omega
theorem or_one (b : Bool) : wd b 0 ||| 4607182418800017408 = wd b 4607182418800017408 := by cases b <;> decide +kernel
theorem bits_run (a : Nat) (w : World) : (callFunc 37 #[.float .f64 a]).run Tryd.prog w = .ok (.value (.int .u64 (a : Int))) w := by
  rw [run_callFunc_extern Tryd.func37 (by kernel_rfl) (by kernel_rfl) (by kernel_rfl) (e := Extern.MathFloatBits.float64bits) (by kernel_rfl)]
  rfl
theorem frombits_run (a : Nat) (w : World) : (callFunc 36 #[.int .u64 (a : Int)]).run Tryd.prog w = .ok (.value (.float .f64 a)) w := by
  rw [run_callFunc_extern Tryd.func36 (by kernel_rfl) (by kernel_rfl) (by kernel_rfl) (e := Extern.MathFloatBits.float64frombits) (by kernel_rfl)]
  rfl
theorem exp_eq (x : Nat) (hx : x < 18446744073709551616) : bits .and .u64 ((x : Int) / 4503599627370496) 2047 = ((rg x / 4503599627370496 : Nat) : Int) := by
  have e1 : ((x : Int) / 4503599627370496) = ((x / 4503599627370496 : Nat) : Int) := rfl
  have e2 : (2047 : Int) = ((2047 : Nat) : Int) := rfl
  rw [e1, e2, Go.u64_and_nat _ _ (by omega) (by omega)]
  have : x / 4503599627370496 &&& (2 ^ 11 - 1) = x / 4503599627370496 % 2 ^ 11 := Nat.and_two_pow_sub_one_eq_mod ..
  have e3 : x / 4503599627370496 &&& 2047 = x / 4503599627370496 % 2048 := this
  rw [e3]
  unfold rg
  congr 1
  omega
theorem sign_eq (x : Nat) (hx : x < 18446744073709551616) : bits .and .u64 (x : Int) 9223372036854775808 = ((wd (sg x) 0 : Nat) : Int) := by
  have e2 : (9223372036854775808 : Int) = ((9223372036854775808 : Nat) : Int) := rfl
  rw [e2, Go.u64_and_nat _ _ hx (by omega), top_bit x hx]
theorem one_eq (b : Bool) : bits .or .u64 ((wd b 0 : Nat) : Int) 4607182418800017408 = ((wd b 4607182418800017408 : Nat) : Int) := by
  have e2 : (4607182418800017408 : Int) = ((4607182418800017408 : Nat) : Int) := rfl
  rw [e2, Go.u64_or_nat _ _ (by cases b <;> decide +kernel) (by omega), or_one]
/-- The rounding between: its two steps on the whole word. -/
theorem mid_eq (x k e : Nat) (hx : fin x = true) (he : rg x / 4503599627370496 = e + 1023) (hk : k + e = 52) (he2 : e < 52) :
    (((x + 2 ^ (k - 1)) / 2 ^ k * 2 ^ k : Nat)) = rndW x ∧ x + 2 ^ (k - 1) < 18446744073709551616 := by
  obtain ⟨f1, f2⟩ := fin_iff.1 hx
  unfold infR at f2
  have hk1 : 2 ^ (k - 1) ≤ 2 ^ 51 := Nat.pow_le_pow_right (by decide) (by omega)
  refine ⟨?_, by unfold rg at f2; omega⟩
  unfold rndW
  rw [if_neg (by omega), he, show 1074 - (e + 1023) = k - 1 by omega, show 1075 - (e + 1023) = k by omega]
  cases hs : sg x with
  | false =>
    have : rg x = x := by
      unfold sg at hs; rw [ble_eq] at hs
      unfold rg; have := of_decide_eq_false hs; omega
    rw [this]; rfl
  | true =>
    have hx2 : x = 9223372036854775808 + rg x := by
      unfold sg at hs; rw [ble_eq] at hs
      unfold rg; have := of_decide_eq_true hs; omega
    have hd : 9223372036854775808 = 2 ^ (63 - k) * 2 ^ k := by rw [← Nat.pow_add, show 63 - k + k = 63 by omega]
    have e1 : x + 2 ^ (k - 1) = (rg x + 2 ^ (k - 1)) + 2 ^ (63 - k) * 2 ^ k := by rw [← hd]; omega
    rw [e1, Nat.add_mul_div_right _ _ (Nat.two_pow_pos k), Nat.add_mul, ← hd, Nat.add_comm]
    rfl
theorem div_cast (n e : Nat) : (n : Int) / 2 ^ e = ((n / 2 ^ e : Nat) : Int) := by push_cast; rfl
theorem half_sh (k e : Nat) (hk : k + e = 52) (he2 : e < 52) : (2251799813685248 : Int) / 2 ^ e = ((2 ^ (k - 1) : Nat) : Int) := by
  have h : 2251799813685248 = 2 ^ (k - 1) * 2 ^ e := by rw [← Nat.pow_add, show k - 1 + e = 51 by omega]
  have h2 : 2251799813685248 / 2 ^ e = 2 ^ (k - 1) := by rw [h, Nat.mul_div_cancel _ (Nat.two_pow_pos e)]
  have h3 : (2251799813685248 : Int) / 2 ^ e = ((2251799813685248 / 2 ^ e : Nat) : Int) := div_cast 2251799813685248 e
  rw [h3, h2]
theorem mask_sh (k e : Nat) (hk : k + e = 52) (he2 : e < 52) : (4503599627370495 : Int) / 2 ^ e = ((2 ^ k - 1 : Nat) : Int) := by
  have h : 4503599627370496 = 2 ^ k * 2 ^ e := by rw [← Nat.pow_add, hk]
  have hp := Nat.two_pow_pos k
  have hp2 := Nat.two_pow_pos e
  have h2 : 4503599627370495 / 2 ^ e = 2 ^ k - 1 := by
    apply Nat.div_eq_of_lt_le
    · rw [Nat.sub_mul, ← h]; omega
    · rw [Nat.succ_mul, Nat.sub_mul, ← h]; omega
  have h3 : (4503599627370495 : Int) / 2 ^ e = ((4503599627370495 / 2 ^ e : Nat) : Int) := div_cast 4503599627370495 e
  rw [h3, h2]
theorem clear_eq (y k r : Nat) (hy : y < 18446744073709551616) (hk : k ≤ 52) (hr : y / 2 ^ k * 2 ^ k = r) : bits .andNot .u64 (y : Int) ((2 ^ k - 1 : Nat) : Int) = (r : Int) := by
  have hp : 2 ^ k ≤ 2 ^ 52 := Nat.pow_le_pow_right (by decide) hk
  rw [Go.u64_andNot_nat _ _ hy (by omega), low_clear y k (by omega) hy, hr]

set_option maxRecDepth 100000 in
theorem round_any (x : Nat) (w : World) (hx : fin x = true) (he : rg x / 4503599627370496 < 1075) :
    Calls Tryd.prog 31 #[.float .f64 x] w fun e w' => e = .returned (.float .f64 (rndW x)) ∧ w = w' := by
  have hlt := (fin_iff.1 hx).1
  have h1 := bits_run x
  have h3 := exp_eq x hlt
  by_cases hc : rg x / 4503599627370496 < 1023
  · have h4 := sign_eq x hlt
    have h5 := one_eq (sg x)
    by_cases hc2 : rg x / 4503599627370496 = 1022
    · have hr : rndW x = wd (sg x) 4607182418800017408 := by unfold rndW; rw [if_pos hc, if_pos hc2]
      rw [hc2] at h3
      rw [hr]
      have h2 := frombits_run (wd (sg x) 4607182418800017408)
      clear hx he hc hc2 hr
      go_enter Tryd.func31, Tryd.ntmps31
      go_wp2
      go_ret
      exact ⟨rfl, rfl⟩
    · have hr : rndW x = wd (sg x) 0 := by unfold rndW; rw [if_pos hc, if_neg hc2]
      rw [hr]
      have h2 := frombits_run (wd (sg x) 0)
      obtain ⟨e, hE⟩ : ∃ e, e = rg x / 4503599627370496 := ⟨_, rfl⟩
      rw [← hE] at h3 hc hc2
      clear hx he hE hr
      go_enter Tryd.func31, Tryd.ntmps31
      go_wp2
      go_ret
      exact ⟨rfl, rfl⟩
  · obtain ⟨e, hE⟩ : ∃ e, rg x / 4503599627370496 = e + 1023 := ⟨rg x / 4503599627370496 - 1023, by omega⟩
    rw [hE] at h3 hc he
    obtain ⟨k, hk⟩ : ∃ k, k + e = 52 := ⟨52 - e, by omega⟩
    obtain ⟨m1, m2⟩ := mid_eq x k e hx hE hk (by omega)
    have h4 := half_sh k e hk (by omega)
    have h5 := mask_sh k e hk (by omega)
    have h2 := frombits_run (rndW x)
    have h6 : bits .andNot .u64 ((x : Int) + ((2 ^ (k - 1) : Nat) : Int)) ((2 ^ k - 1 : Nat) : Int) = ((rndW x : Nat) : Int) := by
      rw [← Int.natCast_add]
      exact clear_eq (x + 2 ^ (k - 1)) k _ m2 (by omega) m1
    have h7 : ((e + 1023 : Nat) : Int) - 1023 = (e : Int) := by omega
    obtain ⟨q, hq⟩ : ∃ q, q = 2 ^ (k - 1) := ⟨_, rfl⟩
    rw [← hq] at m2 h4 h6
    clear hx hE m1 hq
    go_enter Tryd.func31, Tryd.ntmps31
    go_wp2
    go_ret
    exact ⟨rfl, rfl⟩
end Go.Proofs.YtnjmefjcaiepfaaDoor
