/- The product of two transforms, and what comes back of it. -/
import Derived.Test.YtnjmefjcaiepfaaDoorWInv
import Derived.Test.YtnjmefjcaiepfaaDoorWBack
namespace Go.Proofs.YtnjmefjcaiepfaaDoor.WaveP
open Cx

theorem prod_of {a b c d : Nat} {x y : Cx} {E R : Rat} (ha : Nc a b x E) (hb : Nc c d y E) (hx : Bd x R) (hy : Bd y R) (hE : E ≤ R) (h1 : 1 ≤ R) (h2 : R ≤ ((2 ^ 60 : Nat) : Rat)) :
    ∃ ac bd ad bc re im, Prod a b c d ac bd ad bc re im ∧ Nc re im (x * y) (3 * (R * E) + 30 * (R * R * uu)) := by
  have hE0 := ha.2.2.1
  have b1 := (ha.2.2.near hx).mono (show R + E ≤ 2 * R by grind)
  have b2 := (hb.2.2.near hy).mono (show R + E ≤ 2 * R by grind)
  have hRR : R * R ≤ ((2 ^ 60 : Nat) : Rat) * ((2 ^ 60 : Nat) : Rat) := by
    have := Rat.mul_le_mul_of_nonneg_right h2 (show 0 ≤ R by grind)
    have := Rat.mul_le_mul_of_nonneg_left h2 (show (0 : Rat) ≤ ((2 ^ 60 : Nat) : Rat) by exact_mod_cast Nat.zero_le _)
    grind
  have hR1 : 1 ≤ R * R := by
    have := Rat.mul_le_mul_of_nonneg_right h1 (show 0 ≤ R by grind)
    grind
  have hlim : 4 * (((2 ^ 60 : Nat) : Rat) * ((2 ^ 60 : Nat) : Rat)) ≤ ((2 ^ 200 : Nat) : Rat) := by decide +kernel
  obtain ⟨ac, bd, ad, bc, re, im, hP, f1, f2, hN⟩ := prod_near (M := 4 * (R * R)) ha.1 ha.2.1 hb.1 hb.2.1 b1 b2 (by grind) (by grind) (by grind)
  refine ⟨ac, bd, ad, bc, re, im, hP, f1, f2, ?_⟩
  have e : cv2 re im - x * y = (cv2 re im - cv2 a b * cv2 c d) + ((cv2 a b - x) * cv2 c d + x * (cv2 c d - y)) := by
    apply Cx.ext' <;> simp only [add_re, add_im, sub_re, sub_im, mul_re, mul_im] <;> grind
  rw [e]
  have c1 := (ha.2.2.mul b2).add (hx.mul hb.2.2)
  exact (hN.add c1).mono (by grind)

/-- What the way back gives, so many times the numbers. -/
theorem back_of {Z : Nat → Cx} (hZ : Roots Z tau) {L m a b : Nat} {C : Nat → Cx} {E0 V0 V : Rat} (hL : L ≤ 12) (hm : m < 2 ^ L) (hV : 0 ≤ V) (hC : ∀ j, j < 2 ^ L → Bd (C j) V)
    (h : Nc a b (F (fun l => conj (Z l)) L (F Z L C) m) (El E0 V0 L)) :
    Bd (cv2 a b - ⟨(2 ^ L : Nat), 0⟩ * C m) (El E0 V0 L + 600000000000 * V * tau) := by
  have hb := F_back hZ hV L C m hL hm hC
  have := h.2.2.add hb
  rw [← sub_split] at this
  exact this
theorem el_le {E0 V0 : Rat} {L : Nat} (hL : L ≤ 12) (hV0 : 0 ≤ V0) : El E0 V0 L ≤ ((2 ^ L : Nat) : Rat) * (E0 + 396 * (V0 * uu)) := by
  unfold El
  have hp : (0 : Rat) ≤ ((2 ^ L : Nat) : Rat) := by exact_mod_cast Nat.zero_le _
  have hl : (L : Rat) ≤ 12 := by exact_mod_cast hL
  have hvu : 0 ≤ V0 * uu := Rat.mul_nonneg hV0 (by decide +kernel)
  refine Rat.mul_le_mul_of_nonneg_left ?_ hp
  have := Rat.mul_le_mul_of_nonneg_right hl hvu
  grind
/-- The parts, divided by the number of places. -/
theorem back_parts {L a b : Nat} {c : Cx} {r D V E0 V0 T : Rat} (hL : L ≤ 12) (hV0 : 0 ≤ V0) (hr0 : 0 ≤ r) (hr1 : r ≤ 1) (hr : r * ((2 ^ L : Nat) : Rat) = 1) (hc : Bd c V) (hT : 0 ≤ T)
    (h : Bd (cv2 a b - ⟨(2 ^ L : Nat), 0⟩ * c) (El E0 V0 L + T)) (hD : D = E0 + 396 * (V0 * uu) + T) (hE0 : 0 ≤ E0) :
    (-D ≤ val a * r - c.re ∧ val a * r - c.re ≤ D) ∧ (-D ≤ val b * r - c.im ∧ val b * r - c.im ≤ D) ∧ (-(4096 * (V + D)) ≤ val a ∧ val a ≤ 4096 * (V + D)) ∧ (-(4096 * (V + D)) ≤ val b ∧ val b ≤ 4096 * (V + D)) := by
  have hel := el_le (E0 := E0) hL hV0
  have hp : (0 : Rat) ≤ ((2 ^ L : Nat) : Rat) := by exact_mod_cast Nat.zero_le _
  have hn : ((2 ^ L : Nat) : Rat) ≤ 4096 := by
    have : 2 ^ L ≤ 2 ^ 12 := Nat.pow_le_pow_right (by decide) hL
    exact_mod_cast this
  have hvu : 0 ≤ V0 * uu := Rat.mul_nonneg hV0 (by decide +kernel)
  generalize hN : ((2 ^ L : Nat) : Rat) = N at *
  have hD0 : 0 ≤ D := by rw [hD]; grind
  have h1 : 1 ≤ N := by
    have := Rat.mul_le_mul_of_nonneg_right hr1 hp
    grind
  have hNT : T ≤ N * T := by
    have := Rat.mul_le_mul_of_nonneg_right h1 hT
    grind
  have hb : Bd (cv2 a b - ⟨N, 0⟩ * c) (N * D) := h.mono (by rw [hD]; grind)
  have k1 := hb.re
  have k2 := hb.im
  have c1 := hc.re
  have c2 := hc.im
  have e1 : (cv2 a b - ⟨N, 0⟩ * c).re = val a - N * c.re := by simp only [sub_re, mul_re, cv2]; grind
  have e2 : (cv2 a b - ⟨N, 0⟩ * c).im = val b - N * c.im := by simp only [sub_im, mul_im, cv2]; grind
  rw [e1] at k1
  rw [e2] at k2
  have hV := hc.1
  have part : ∀ x y : Rat, -(N * D) ≤ x - N * y → x - N * y ≤ N * D → -V ≤ y → y ≤ V → (-D ≤ x * r - y ∧ x * r - y ≤ D) ∧ (-(4096 * (V + D)) ≤ x ∧ x ≤ 4096 * (V + D)) := fun x y g1 g2 g3 g4 => by
    have m1 := Rat.mul_le_mul_of_nonneg_right g1 hr0
    have m2 := Rat.mul_le_mul_of_nonneg_right g2 hr0
    have q1 : N * D * r = D := by grind
    have q2 : (x - N * y) * r = x * r - y := by grind
    rw [q2] at m1 m2
    have n1 := Rat.mul_le_mul_of_nonneg_left g3 hp
    have n2 := Rat.mul_le_mul_of_nonneg_left g4 hp
    have n3 := Rat.mul_le_mul_of_nonneg_right hn (show 0 ≤ V + D by grind)
    refine ⟨⟨by grind, by grind⟩, by grind, by grind⟩
  obtain ⟨p1, p2⟩ := part _ _ k1.1 k1.2 c1.1 c1.2
  obtain ⟨p3, p4⟩ := part _ _ k2.1 k2.2 c2.1 c2.2
  exact ⟨p1, p3, p2, p4⟩
end Go.Proofs.YtnjmefjcaiepfaaDoor.WaveP
