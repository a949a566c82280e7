/- Sums and products of complex doubles, and the transform's step. -/
import Derived.Test.YtnjmefjcaiepfaaDoorWRoot
namespace Go.Proofs.YtnjmefjcaiepfaaDoor.WaveP
open Cx

def uu : Rat := 1 / 9007199254740992
def cv2 (a b : Nat) : Cx := ⟨val a, val b⟩
/-- Two words that are near a complex number. -/
def Nc (a b : Nat) (z : Cx) (E : Rat) : Prop := fin a = true ∧ fin b = true ∧ Bd (cv2 a b - z) E
theorem e0_small : e0 ≤ 1 / 72057594037927936 := by
  refine mul_le_cancel (pw_pos c74) ?_
  rw [e0_mul]
  have : (1 : Rat) = 1 / 72057594037927936 * ((2 ^ 56 : Nat) : Rat) := by decide +kernel
  have h : 2 ^ 56 ≤ 2 ^ c74 := Nat.pow_le_pow_right (by decide) (by decide)
  have h2 : ((2 ^ 56 : Nat) : Rat) ≤ ((2 ^ c74 : Nat) : Rat) := by exact_mod_cast h
  have h3 : (0 : Rat) ≤ 1 / 72057594037927936 := by decide +kernel
  have h4 := Rat.mul_le_mul_of_nonneg_left h2 h3
  rw [← this] at h4
  exact h4
theorem Bd.near {x z : Cx} {V E : Rat} (h : Bd (x - z) E) (hz : Bd z V) : Bd x (V + E) := by
  have := hz.add h
  have e : z + (x - z) = x := by apply Cx.ext' <;> simp only [add_re, add_im, sub_re, sub_im] <;> grind
  rwa [e] at this
theorem part_mul {a b R S : Rat} (h1 : -R ≤ a) (h2 : a ≤ R) (h3 : -S ≤ b) (h4 : b ≤ S) : -(R * S) ≤ a * b ∧ a * b ≤ R * S := by
  have k1 : 0 ≤ (R - a) * (S + b) := Rat.mul_nonneg (by grind) (by grind)
  have k2 : 0 ≤ (R + a) * (S - b) := Rat.mul_nonneg (by grind) (by grind)
  have k3 : 0 ≤ (R - a) * (S - b) := Rat.mul_nonneg (by grind) (by grind)
  have k4 : 0 ≤ (R + a) * (S + b) := Rat.mul_nonneg (by grind) (by grind)
  constructor <;> grind
def big2 : Rat := ((2 ^ 800 : Nat) : Rat)
theorem big2_big {M : Rat} (h : M ≤ ((2 ^ 200 : Nat) : Rat)) : M + M ≤ big := by
  have h1 : ((2 ^ 200 : Nat) : Rat) + ((2 ^ 200 : Nat) : Rat) ≤ big := by
    have : 2 ^ 200 + 2 ^ 200 ≤ 2 ^ c900 := by
      have : (2 : Nat) ^ 201 ≤ 2 ^ c900 := Nat.pow_le_pow_right (by decide) (by decide)
      have e : (2 : Nat) ^ 201 = 2 ^ 200 * 2 := Nat.pow_succ ..
      omega
    unfold big
    exact_mod_cast this
  grind
/-- A product's words. -/
structure Prod (a b c d ac bd ad bc re im : Nat) : Prop where
  p1 : fmt.mul a c = some ac
  p2 : fmt.mul b d = some bd
  p3 : fmt.sub ac bd = some re
  p4 : fmt.mul a d = some ad
  p5 : fmt.mul b c = some bc
  p6 : fmt.add ad bc = some im
theorem prod_near {a b c d : Nat} {R S M : Rat} (ha : fin a = true) (hb : fin b = true) (hc : fin c = true) (hd : fin d = true) (hx : Bd (cv2 a b) R) (hy : Bd (cv2 c d) S) (hM : R * S ≤ M) (h1 : 1 ≤ M) (h2 : M ≤ ((2 ^ 200 : Nat) : Rat)) :
    ∃ ac bd ad bc re im, Prod a b c d ac bd ad bc re im ∧ Nc re im (cv2 a b * cv2 c d) (15 / 2 * (M * uu)) := by
  have he := e0_pos
  have hes := e0_small
  have hbig := big2_big h2
  have hMb : M ≤ big := by grind
  obtain ⟨x1, x2⟩ := hx.re
  obtain ⟨x3, x4⟩ := hx.im
  obtain ⟨y1, y2⟩ := hy.re
  obtain ⟨y3, y4⟩ := hy.im
  have hxy := (hx.mul hy).mono hM
  obtain ⟨z1, z2⟩ := hxy.re
  obtain ⟨z3, z4⟩ := hxy.im
  rw [mul_re] at z1 z2
  rw [mul_im] at z3 z4
  change -R ≤ val a at x1; change val a ≤ R at x2; change -R ≤ val b at x3; change val b ≤ R at x4
  change -S ≤ val c at y1; change val c ≤ S at y2; change -S ≤ val d at y3; change val d ≤ S at y4
  change -M ≤ val a * val c - val b * val d at z1; change val a * val c - val b * val d ≤ M at z2
  change -M ≤ val a * val d + val b * val c at z3; change val a * val d + val b * val c ≤ M at z4
  have q1 := part_mul x1 x2 y1 y2
  have q2 := part_mul x3 x4 y3 y4
  have q3 := part_mul x1 x2 y3 y4
  have q4 := part_mul x3 x4 y1 y2
  obtain ⟨n1, f1, g1, g1'⟩ := mul_near (M := M) ha hc (by grind) (by grind) hMb
  obtain ⟨n2, f2, g2, g2'⟩ := mul_near (M := M) hb hd (by grind) (by grind) hMb
  obtain ⟨n4, f4, g4, g4'⟩ := mul_near (M := M) ha hd (by grind) (by grind) hMb
  obtain ⟨n5, f5, g5, g5'⟩ := mul_near (M := M) hb hc (by grind) (by grind) hMb
  have hMu : M / 9007199254740992 = M * uu := by unfold uu; grind
  have hs : 3 * e0 ≤ M * uu := by
    have : 3 * (1 / 72057594037927936) ≤ 1 * uu := by decide +kernel
    have h3 : 1 * uu ≤ M * uu := Rat.mul_le_mul_of_nonneg_right h1 (by decide +kernel)
    grind
  have hu : M * uu ≤ M / 16 := by unfold uu; grind
  rw [hMu] at g1 g1' g2 g2' g4 g4' g5 g5'
  obtain ⟨n3, f3, g3, g3'⟩ := sub_near (M := M + M) f1 f2 (by grind) (by grind) hbig
  obtain ⟨n6, f6, g6, g6'⟩ := add_near (M := M + M) f4 f5 (by grind) (by grind) hbig
  have hMu2 : (M + M) / 9007199254740992 = 2 * (M * uu) := by unfold uu; grind
  rw [hMu2] at g3 g3' g6 g6'
  refine ⟨_, _, _, _, _, _, ⟨n1, n2, n3, n4, n5, n6⟩, f3, f6, ?_⟩
  have hb5 : Bd (cv2 (subN (mulN a c) (mulN b d)) (addN (mulN a d) (mulN b c)) - cv2 a b * cv2 c d) (3 / 2 * (5 * (M * uu))) := by
    refine Bd.of_parts (by grind) ?_ ?_ ?_ ?_
    · show -_ ≤ val _ - (val a * val c - val b * val d); grind
    · show val _ - (val a * val c - val b * val d) ≤ _; grind
    · show -_ ≤ val _ - (val a * val d + val b * val c); grind
    · show val _ - (val a * val d + val b * val c) ≤ _; grind
  exact hb5.mono (by grind)
theorem csum_near {a b c d : Nat} {M : Rat} (ha : fin a = true) (hb : fin b = true) (hc : fin c = true) (hd : fin d = true) (h : Bd (cv2 a b + cv2 c d) M) (h1 : 1 ≤ M) (h2 : M ≤ ((2 ^ 200 : Nat) : Rat)) :
    ∃ re im, fmt.add a c = some re ∧ fmt.add b d = some im ∧ Nc re im (cv2 a b + cv2 c d) (2 * (M * uu)) := by
  have he := e0_pos
  have hes := e0_small
  have hbig := big2_big h2
  have hMb : M ≤ big := by grind
  obtain ⟨x1, x2⟩ := h.re
  obtain ⟨x3, x4⟩ := h.im
  change -M ≤ val a + val c at x1; change val a + val c ≤ M at x2; change -M ≤ val b + val d at x3; change val b + val d ≤ M at x4
  obtain ⟨n1, f1, g1, g1'⟩ := add_near (M := M) ha hc x1 x2 hMb
  obtain ⟨n2, f2, g2, g2'⟩ := add_near (M := M) hb hd x3 x4 hMb
  have hMu : M / 9007199254740992 = M * uu := by unfold uu; grind
  have hs : 3 * e0 ≤ M * uu := by
    have : 3 * (1 / 72057594037927936) ≤ 1 * uu := by decide +kernel
    have h3 : 1 * uu ≤ M * uu := Rat.mul_le_mul_of_nonneg_right h1 (by decide +kernel)
    grind
  rw [hMu] at g1 g1' g2 g2'
  refine ⟨_, _, n1, n2, f1, f2, ?_⟩
  have hb5 : Bd (cv2 (addN a c) (addN b d) - (cv2 a b + cv2 c d)) (3 / 2 * (4 / 3 * (M * uu))) := by
    refine Bd.of_parts (by grind) ?_ ?_ ?_ ?_
    · show -_ ≤ val _ - (val a + val c); grind
    · show val _ - (val a + val c) ≤ _; grind
    · show -_ ≤ val _ - (val b + val d); grind
    · show val _ - (val b + val d) ≤ _; grind
  exact hb5.mono (by grind)
theorem cdif_near {a b c d : Nat} {M : Rat} (ha : fin a = true) (hb : fin b = true) (hc : fin c = true) (hd : fin d = true) (h : Bd (cv2 a b - cv2 c d) M) (h1 : 1 ≤ M) (h2 : M ≤ ((2 ^ 200 : Nat) : Rat)) :
    ∃ re im, fmt.sub a c = some re ∧ fmt.sub b d = some im ∧ Nc re im (cv2 a b - cv2 c d) (2 * (M * uu)) := by
  have he := e0_pos
  have hes := e0_small
  have hbig := big2_big h2
  have hMb : M ≤ big := by grind
  obtain ⟨x1, x2⟩ := h.re
  obtain ⟨x3, x4⟩ := h.im
  change -M ≤ val a - val c at x1; change val a - val c ≤ M at x2; change -M ≤ val b - val d at x3; change val b - val d ≤ M at x4
  obtain ⟨n1, f1, g1, g1'⟩ := sub_near (M := M) ha hc x1 x2 hMb
  obtain ⟨n2, f2, g2, g2'⟩ := sub_near (M := M) hb hd x3 x4 hMb
  have hMu : M / 9007199254740992 = M * uu := by unfold uu; grind
  have hs : 3 * e0 ≤ M * uu := by
    have : 3 * (1 / 72057594037927936) ≤ 1 * uu := by decide +kernel
    have h3 : 1 * uu ≤ M * uu := Rat.mul_le_mul_of_nonneg_right h1 (by decide +kernel)
    grind
  rw [hMu] at g1 g1' g2 g2'
  refine ⟨_, _, n1, n2, f1, f2, ?_⟩
  have hb5 : Bd (cv2 (subN a c) (subN b d) - (cv2 a b - cv2 c d)) (3 / 2 * (4 / 3 * (M * uu))) := by
    refine Bd.of_parts (by grind) ?_ ?_ ?_ ?_
    · show -_ ≤ val _ - (val a - val c); grind
    · show val _ - (val a - val c) ≤ _; grind
    · show -_ ≤ val _ - (val b - val d); grind
    · show val _ - (val b - val d) ≤ _; grind
  exact hb5.mono (by grind)

theorem sum_split {a b za zb : Cx} : a + b - (za + zb) = (a - za) + (b - zb) := by apply Cx.ext' <;> simp only [add_re, add_im, sub_re, sub_im] <;> grind
theorem dif_split {a b za zb : Cx} : a - b - (za - zb) = (a - za) - (b - zb) := by apply Cx.ext' <;> simp only [sub_re, sub_im] <;> grind
theorem sub_split {a b c : Cx} : a - c = (a - b) + (b - c) := by apply Cx.ext' <;> simp only [add_re, add_im, sub_re, sub_im] <;> grind
theorem Nc.mono {a b : Nat} {z : Cx} {E E' : Rat} (h : Nc a b z E) (he : E ≤ E') : Nc a b z E' := ⟨h.1, h.2.1, h.2.2.mono he⟩
theorem Nc.to {a b : Nat} {z z' : Cx} {E D : Rat} (h : Nc a b z E) (hz : Bd (z' - z) D) : Nc a b z' (E + D) := by
  refine ⟨h.1, h.2.1, ?_⟩
  have e : cv2 a b - z' = (cv2 a b - z) - (z' - z) := by apply Cx.ext' <;> simp only [sub_re, sub_im] <;> grind
  rw [e]
  exact h.2.2.sub hz
/-- The transform's step: a sum and a difference. -/
theorem fly_near {ar ai br bi c s : Nat} {za zb w : Cx} {V E tw' : Rat} (ha : Nc ar ai za E) (hb : Nc br bi zb E) (hw : Nc c s w tw') (hw1 : Bd w 1) (hza : Bd za V) (hzb : Bd zb V) (hE : E ≤ V) (h1 : 1 ≤ V) (h2 : V ≤ ((2 ^ 100 : Nat) : Rat)) (htw : tw' = 1 / 562949953421312) :
    ∃ ac bd ad bc tr ti pr pi qr qi, Prod br bi c s ac bd ad bc tr ti ∧ fmt.add ar tr = some pr ∧ fmt.add ai ti = some pi ∧ fmt.sub ar tr = some qr ∧ fmt.sub ai ti = some qi ∧
      Nc pr pi (za + w * zb) (2 * E + 65 * (V * uu)) ∧ Nc qr qi (za - w * zb) (2 * E + 65 * (V * uu)) := by
  have hE0 := ha.2.2.1
  have hV0 : 0 ≤ V := by grind
  have b1 := hb.2.2.near hzb
  have w1 := hw.2.2.near hw1
  have a1 := ha.2.2.near hza
  have h200 : 5 * V ≤ ((2 ^ 200 : Nat) : Rat) := by
    have : 5 * ((2 ^ 100 : Nat) : Rat) ≤ ((2 ^ 200 : Nat) : Rat) := by decide +kernel
    grind
  have hVu0 : 0 ≤ V * uu := Rat.mul_nonneg hV0 (by decide +kernel)
  have hVt : V * tw' = 16 * (V * uu) := by rw [htw]; unfold uu; grind
  have hEt : E * tw' ≤ V * tw' := Rat.mul_le_mul_of_nonneg_right hE (by rw [htw]; decide +kernel)
  have hVu : V * uu ≤ V / 4096 := by unfold uu; grind
  obtain ⟨ac, bd, ad, bc, tr, ti, hP, hf1, hf2, ht⟩ := prod_near (R := V + E) (S := 1 + tw') (M := 3 * V) hb.1 hb.2.1 hw.1 hw.2.1 b1 w1 (by rw [Rat.add_mul, Rat.mul_add, Rat.mul_add]; grind) (by grind) (by grind)
  have hMu : 3 * V * uu = 3 * (V * uu) := by grind
  rw [hMu] at ht
  -- the product against the true one
  have e1 : cv2 tr ti - w * zb = (cv2 tr ti - cv2 br bi * cv2 c s) + ((cv2 br bi - zb) * cv2 c s + zb * (cv2 c s - w)) := by
    apply Cx.ext' <;> simp only [mul_re, mul_im, add_re, add_im, sub_re, sub_im] <;> grind
  have hT : Bd (cv2 tr ti - w * zb) (E + 109 / 2 * (V * uu)) := by
    rw [e1]
    refine (ht.add ((hb.2.2.mul w1).add (hzb.mul hw.2.2))).mono ?_
    rw [Rat.mul_add]
    grind
  have hwz : Bd (w * zb) V := (hw1.mul hzb).mono (by grind)
  have hTv := hT.near hwz
  obtain ⟨pr, pi, s1, s2, p1, p2, hp⟩ := csum_near (M := 5 * V) ha.1 ha.2.1 hf1 hf2 ((a1.add hTv).mono (by grind)) (by grind) h200
  obtain ⟨qr, qi, s3, s4, q1, q2, hq⟩ := cdif_near (M := 5 * V) ha.1 ha.2.1 hf1 hf2 ((a1.sub hTv).mono (by grind)) (by grind) h200
  have hMu5 : 5 * V * uu = 5 * (V * uu) := by grind
  rw [hMu5] at hp hq
  refine ⟨ac, bd, ad, bc, tr, ti, pr, pi, qr, qi, hP, s1, s2, s3, s4, ⟨p1, p2, ?_⟩, ⟨q1, q2, ?_⟩⟩
  · rw [sub_split (b := cv2 ar ai + cv2 tr ti), sum_split]
    exact (hp.add (ha.2.2.add hT)).mono (by grind)
  · rw [sub_split (b := cv2 ar ai - cv2 tr ti), dif_split]
    exact (hq.add (ha.2.2.sub hT)).mono (by grind)

end Go.Proofs.YtnjmefjcaiepfaaDoor.WaveP
