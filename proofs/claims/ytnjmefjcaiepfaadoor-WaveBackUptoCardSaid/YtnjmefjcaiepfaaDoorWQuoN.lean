/- How near the division by a power of two is. -/
import Derived.Test.YtnjmefjcaiepfaaDoorWQuo
namespace Go.Proofs.YtnjmefjcaiepfaaDoor
open Go.RowKit WaveP WaveP.Cx

theorem natW_all : ∀ L, L < 13 → (fin (natW (2 ^ L)) = true ∧ mg (rg (natW (2 ^ L))) ≠ 0 ∧ val (natW (2 ^ L)) = ((2 ^ L : Nat) : Rat)) := by decide +kernel
/-- One part: a word, a word near nought added, divided by n. -/
theorem quo_part {n L a z : Nat} {M D T : Rat} (hL : L ≤ 12) (hn : n = 2 ^ L) (ha : fin a = true) (hz : fin z = true) (z1 : -D ≤ val z) (z2 : val z ≤ D) (a1 : -M ≤ val a) (a2 : val a ≤ M)
    (hM : 4 * (M + D) ≤ big) (hM1 : 1 ≤ M) (hD : 0 ≤ D) (hT : T * ((n : Nat) : Rat) = val a) :
    ∃ m, fmt.add a z = some m ∧ fin m = true ∧ -(M + D + ((M + D) * uu + e0)) ≤ val m ∧ val m ≤ M + D + ((M + D) * uu + e0) ∧ val m - val a ≤ D + ((M + D) * uu + e0) ∧ val a - val m ≤ D + ((M + D) * uu + e0) := by
  have he := e0_pos
  obtain ⟨h1, h2, h3, h4⟩ := add_near (M := M + D) ha hz (by grind) (by grind) (by grind)
  have hu : (M + D) / 9007199254740992 = (M + D) * uu := by unfold uu; grind
  rw [hu] at h3 h4
  exact ⟨_, h1, h2, by grind, by grind, by grind, by grind⟩
theorem part_le {x r B : Rat} (h1 : -B ≤ x) (h2 : x ≤ B) (r0 : 0 ≤ r) (r1 : r ≤ 1) : -B ≤ x * r ∧ x * r ≤ B := by
  have hB : 0 ≤ B := by grind
  have e1 : x * r ≤ B * r := Rat.mul_le_mul_of_nonneg_right h2 r0
  have e2 : -B * r ≤ x * r := Rat.mul_le_mul_of_nonneg_right h1 r0
  have e3 : B * r ≤ B * 1 := Rat.mul_le_mul_of_nonneg_left r1 hB
  exact ⟨by grind, by grind⟩
/-- The quotient of a word that is near a. -/
theorem quo_div {n L m : Nat} {M d r A : Rat} (hL : L ≤ 12) (hn : n = 2 ^ L) (hm : fin m = true) (m1 : -M ≤ val m) (m2 : val m ≤ M) (hM : M + M ≤ big) (d1 : val m - A ≤ d) (d2 : A - val m ≤ d) (r0 : 0 ≤ r) (r1 : r ≤ 1) (hr : r * ((2 ^ L : Nat) : Rat) = 1) :
    ∃ e, fmt.div m (natW n) = some e ∧ Nr e (A * r) (d + (M / 2251799813685248 + e0)) := by
  obtain ⟨f1, f2, f3⟩ := natW_all L (by omega)
  rw [← hn] at f1 f2 f3 hr
  obtain ⟨b1, b2⟩ := part_le m1 m2 r0 r1
  obtain ⟨b3, b4⟩ := part_le (x := val m - A) (B := d) (by grind) (by grind) r0 r1
  obtain ⟨h1, h2, h3, h4⟩ := div_near (T := val m * r) (M := M) hm f1 f2 (by rw [f3, Rat.mul_assoc, hr, Rat.mul_one]) b1 b2 hM
  exact ⟨_, h1, h2, by grind, by grind⟩
theorem zero_mul_near {b : Nat} (hb : fin b = true) : ∃ z, fmt.mul b 0 = some z ∧ fin z = true ∧ -(2 * uu) ≤ val z ∧ val z ≤ 2 * uu := by
  have v0 : val 0 = 0 := by decide +kernel
  have hbig : (1 : Rat) ≤ big := by decide +kernel
  have he : e0 ≤ uu := by decide +kernel
  obtain ⟨h1, h2, h3, h4⟩ := mul_near (M := 1) hb (by decide +kernel : fin 0 = true) (by rw [v0, Rat.mul_zero]; decide +kernel) (by rw [v0, Rat.mul_zero]; decide +kernel) hbig
  rw [v0, Rat.mul_zero] at h3 h4
  have hu : (1 : Rat) / 9007199254740992 = uu := rfl
  rw [hu] at h3 h4
  exact ⟨_, h1, h2, by grind, by grind⟩
theorem nan_fin {e : Nat} (h : fin e = true) : Op.Complex.isNaN e = false := by
  show (fmt.read e).isNaN = false
  rw [read_fin h]
  rfl
/-- The division of a complex word by n. -/
theorem quo_near {n L a b : Nat} {M r : Rat} (hL : L ≤ 12) (hn : n = 2 ^ L) (ha : fin a = true) (hb : fin b = true) (a1 : -M ≤ val a) (a2 : val a ≤ M) (b1 : -M ≤ val b) (b2 : val b ≤ M) (hM1 : 1 ≤ M) (hM : 8 * M ≤ big)
    (r0 : 0 ≤ r) (r1 : r ≤ 1) (hr : r * ((2 ^ L : Nat) : Rat) = 1) : ∃ e f, quoN n (a, b) = some (e, f) ∧ Nr e (val a * r) (22 * (M * uu)) ∧ Nr f (val b * r) (22 * (M * uu)) := by
  obtain ⟨br, p1, p2, p3, p4⟩ := zero_mul_near hb
  obtain ⟨ar, q1, q2, q3, q4⟩ := zero_mul_near ha
  have hu0 : (0 : Rat) ≤ uu := by decide +kernel
  have hu1 : 2 * uu ≤ 1 / 4 := by decide +kernel
  have he : e0 ≤ uu := by decide +kernel
  have hMu : uu ≤ M * uu := by
    have := Rat.mul_le_mul_of_nonneg_right hM1 hu0
    rwa [Rat.one_mul] at this
  have hMs : M * uu ≤ M / 8 := by
    have h8 : uu ≤ 1 / 8 := by decide +kernel
    have := Rat.mul_le_mul_of_nonneg_left h8 (show (0 : Rat) ≤ M by grind)
    grind
  obtain ⟨s1, s2, s3, s4⟩ := add_near (M := 2 * M) ha p2 (by grind) (by grind) (by grind)
  obtain ⟨t1, t2, t3, t4⟩ := sub_near (M := 2 * M) hb q2 (by grind) (by grind) (by grind)
  have e1 : 2 * M / 9007199254740992 = 2 * (M * uu) := by unfold uu; grind
  have e2 : 4 * M / 2251799813685248 = 16 * (M * uu) := by unfold uu; grind
  rw [e1] at s3 s4 t3 t4
  obtain ⟨e, u1, u2, u3, u4⟩ := quo_div (M := 4 * M) (A := val a) (d := 5 * (M * uu)) hL hn s2 (by grind) (by grind) (by grind) (by grind) (by grind) r0 r1 hr
  obtain ⟨f, v1, v2, v3, v4⟩ := quo_div (M := 4 * M) (A := val b) (d := 5 * (M * uu)) hL hn t2 (by grind) (by grind) (by grind) (by grind) (by grind) r0 r1 hr
  rw [e2] at u3 u4 v3 v4
  refine ⟨e, f, quoN_of hL hn p1 s1 u1 q1 t1 v1 (nan_fin u2), ⟨u2, ?_, ?_⟩, ⟨v2, ?_, ?_⟩⟩ <;> grind
end Go.Proofs.YtnjmefjcaiepfaaDoor
