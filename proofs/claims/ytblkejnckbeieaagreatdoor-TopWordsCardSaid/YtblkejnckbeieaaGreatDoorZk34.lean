/- Sums and products of complex doubles, and the transform's step.
  What the transform's places hold, level by level.
  The library's Reverse32: the lowest bits the other way round.
  The angle's steps as the text takes them, forwards and back.
  What the row of the transform holds in the midst of a level.
  The twiddles' words are finite; forwards and back.
  The walk of turned: the numbers by their places' bits the other way round.
  What the walk of Transform asks: conversions, complex operations, the mask of a power of two.
  The walk of Transform.
  The product of two transforms, and what comes back of it. -/
import Derived.Test.YtblkejnckbeieaaGreatDoorZk30
import Derived.Test.YtblkejnckbeieaaGreatDoorZk1
import Derived.Test.YtblkejnckbeieaaGreatDoorZk33
import Derived.Test.YtblkejnckbeieaaGreatDoorZk29
import Derived.Laws.BitsAllLaws
import Derived.Test.YtblkejnckbeieaaGreatDoorShelf
import Derived.Deep.OwnRows
import Derived.Laws.ComplexArith
import Derived.Laws.Cover2
import Derived.BigQuiet
namespace Go.Proofs.YtblkejnckbeieaaGreatDoor.WaveP
open CxW

def uu : Rat := 1 / 9007199254740992
def cv2 (a b : Nat) : CxW := ⟨val a, val b⟩
/-- Two words that are near a complex number. -/
def Nc (a b : Nat) (z : CxW) (E : Rat) : Prop := fin a = true ∧ fin b = true ∧ Bd (cv2 a b - z) E
theorem e0_small : e0 ≤ 1 / 72057594037927936 := by
  refine mul_le_cancel (pw_pos c74) ?_
  rw [e0_mul]
  have : (1 : Rat) = 1 / 72057594037927936 * ((2 ^ 56 : Nat) : Rat) := by decide +kernel
  have h : 2 ^ 56 ≤ 2 ^ c74 := Nat.pow_le_pow_right (by decide) (by decide)
  have h2 : ((2 ^ 56 : Nat) : Rat) ≤ ((2 ^ c74 : Nat) : Rat) := by exact_mod_cast h
  have h3 : (0 : Rat) ≤ 1 / 72057594037927936 := by decide +kernel
  have h4 := Rat.mul_le_mul_of_nonneg_left h2 h3
  rw [← this] at h4
  exact h4
theorem Bd.near {x z : CxW} {V E : Rat} (h : Bd (x - z) E) (hz : Bd z V) : Bd x (V + E) := by
  have := hz.add h
  have e : z + (x - z) = x := by apply CxW.ext' <;> simp only [add_re, add_im, sub_re, sub_im] <;> grind
  rwa [e] at this
theorem part_mul {a b R S : Rat} (h1 : -R ≤ a) (h2 : a ≤ R) (h3 : -S ≤ b) (h4 : b ≤ S) : -(R * S) ≤ a * b ∧ a * b ≤ R * S := by
  have k1 : 0 ≤ (R - a) * (S + b) := Rat.mul_nonneg (by grind) (by grind)
  have k2 : 0 ≤ (R + a) * (S - b) := Rat.mul_nonneg (by grind) (by grind)
  have k3 : 0 ≤ (R - a) * (S - b) := Rat.mul_nonneg (by grind) (by grind)
  have k4 : 0 ≤ (R + a) * (S + b) := Rat.mul_nonneg (by grind) (by grind)
  constructor <;> grind
def big2 : Rat := ((2 ^ 800 : Nat) : Rat)
theorem big2_big {M : Rat} (h : M ≤ ((2 ^ 200 : Nat) : Rat)) : M + M ≤ big := by
  have h1 : ((2 ^ 200 : Nat) : Rat) + ((2 ^ 200 : Nat) : Rat) ≤ big := by
    have : 2 ^ 200 + 2 ^ 200 ≤ 2 ^ c900 := by
      have : (2 : Nat) ^ 201 ≤ 2 ^ c900 := Nat.pow_le_pow_right (by decide) (by decide)
      have e : (2 : Nat) ^ 201 = 2 ^ 200 * 2 := Nat.pow_succ ..
      omega
    unfold big
    exact_mod_cast this
  grind
/-- A product's words. -/
structure Prod (a b c d ac bd ad bc re im : Nat) : Prop where
  p1 : fmt.mul a c = some ac
  p2 : fmt.mul b d = some bd
  p3 : fmt.sub ac bd = some re
  p4 : fmt.mul a d = some ad
  p5 : fmt.mul b c = some bc
  p6 : fmt.add ad bc = some im
theorem prod_near {a b c d : Nat} {R S M : Rat} (ha : fin a = true) (hb : fin b = true) (hc : fin c = true) (hd : fin d = true) (hx : Bd (cv2 a b) R) (hy : Bd (cv2 c d) S) (hM : R * S ≤ M) (h1 : 1 ≤ M) (h2 : M ≤ ((2 ^ 200 : Nat) : Rat)) :
    ∃ ac bd ad bc re im, Prod a b c d ac bd ad bc re im ∧ Nc re im (cv2 a b * cv2 c d) (15 / 2 * (M * uu)) := by
  have he := e0_pos
  have hes := e0_small
  have hbig := big2_big h2
  have hMb : M ≤ big := by grind
  obtain ⟨x1, x2⟩ := hx.re
  obtain ⟨x3, x4⟩ := hx.im
  obtain ⟨y1, y2⟩ := hy.re
  obtain ⟨y3, y4⟩ := hy.im
  have hxy := (hx.mul hy).mono hM
  obtain ⟨z1, z2⟩ := hxy.re
  obtain ⟨z3, z4⟩ := hxy.im
  rw [mul_re] at z1 z2
  rw [mul_im] at z3 z4
  change -R ≤ val a at x1; change val a ≤ R at x2; change -R ≤ val b at x3; change val b ≤ R at x4
  change -S ≤ val c at y1; change val c ≤ S at y2; change -S ≤ val d at y3; change val d ≤ S at y4
  change -M ≤ val a * val c - val b * val d at z1; change val a * val c - val b * val d ≤ M at z2
  change -M ≤ val a * val d + val b * val c at z3; change val a * val d + val b * val c ≤ M at z4
  have q1 := part_mul x1 x2 y1 y2
  have q2 := part_mul x3 x4 y3 y4
  have q3 := part_mul x1 x2 y3 y4
  have q4 := part_mul x3 x4 y1 y2
  obtain ⟨n1, f1, g1, g1'⟩ := mul_near (M := M) ha hc (by grind) (by grind) hMb
  obtain ⟨n2, f2, g2, g2'⟩ := mul_near (M := M) hb hd (by grind) (by grind) hMb
  obtain ⟨n4, f4, g4, g4'⟩ := mul_near (M := M) ha hd (by grind) (by grind) hMb
  obtain ⟨n5, f5, g5, g5'⟩ := mul_near (M := M) hb hc (by grind) (by grind) hMb
  have hMu : M / 9007199254740992 = M * uu := by unfold uu; grind
  have hs : 3 * e0 ≤ M * uu := by
    have : 3 * (1 / 72057594037927936) ≤ 1 * uu := by decide +kernel
    have h3 : 1 * uu ≤ M * uu := Rat.mul_le_mul_of_nonneg_right h1 (by decide +kernel)
    grind
  have hu : M * uu ≤ M / 16 := by unfold uu; grind
  rw [hMu] at g1 g1' g2 g2' g4 g4' g5 g5'
  obtain ⟨n3, f3, g3, g3'⟩ := sub_near (M := M + M) f1 f2 (by grind) (by grind) hbig
  obtain ⟨n6, f6, g6, g6'⟩ := add_near (M := M + M) f4 f5 (by grind) (by grind) hbig
  have hMu2 : (M + M) / 9007199254740992 = 2 * (M * uu) := by unfold uu; grind
  rw [hMu2] at g3 g3' g6 g6'
  refine ⟨_, _, _, _, _, _, ⟨n1, n2, n3, n4, n5, n6⟩, f3, f6, ?_⟩
  have hb5 : Bd (cv2 (subN (mulN a c) (mulN b d)) (addN (mulN a d) (mulN b c)) - cv2 a b * cv2 c d) (3 / 2 * (5 * (M * uu))) := by
    refine Bd.of_parts (by grind) ?_ ?_ ?_ ?_
    · show -_ ≤ val _ - (val a * val c - val b * val d); grind
    · show val _ - (val a * val c - val b * val d) ≤ _; grind
    · show -_ ≤ val _ - (val a * val d + val b * val c); grind
    · show val _ - (val a * val d + val b * val c) ≤ _; grind
  exact hb5.mono (by grind)
theorem csum_near {a b c d : Nat} {M : Rat} (ha : fin a = true) (hb : fin b = true) (hc : fin c = true) (hd : fin d = true) (h : Bd (cv2 a b + cv2 c d) M) (h1 : 1 ≤ M) (h2 : M ≤ ((2 ^ 200 : Nat) : Rat)) :
    ∃ re im, fmt.add a c = some re ∧ fmt.add b d = some im ∧ Nc re im (cv2 a b + cv2 c d) (2 * (M * uu)) := by
  have he := e0_pos
  have hes := e0_small
  have hbig := big2_big h2
  have hMb : M ≤ big := by grind
  obtain ⟨x1, x2⟩ := h.re
  obtain ⟨x3, x4⟩ := h.im
  change -M ≤ val a + val c at x1; change val a + val c ≤ M at x2; change -M ≤ val b + val d at x3; change val b + val d ≤ M at x4
  obtain ⟨n1, f1, g1, g1'⟩ := add_near (M := M) ha hc x1 x2 hMb
  obtain ⟨n2, f2, g2, g2'⟩ := add_near (M := M) hb hd x3 x4 hMb
  have hMu : M / 9007199254740992 = M * uu := by unfold uu; grind
  have hs : 3 * e0 ≤ M * uu := by
    have : 3 * (1 / 72057594037927936) ≤ 1 * uu := by decide +kernel
    have h3 : 1 * uu ≤ M * uu := Rat.mul_le_mul_of_nonneg_right h1 (by decide +kernel)
    grind
  rw [hMu] at g1 g1' g2 g2'
  refine ⟨_, _, n1, n2, f1, f2, ?_⟩
  have hb5 : Bd (cv2 (addN a c) (addN b d) - (cv2 a b + cv2 c d)) (3 / 2 * (4 / 3 * (M * uu))) := by
    refine Bd.of_parts (by grind) ?_ ?_ ?_ ?_
    · show -_ ≤ val _ - (val a + val c); grind
    · show val _ - (val a + val c) ≤ _; grind
    · show -_ ≤ val _ - (val b + val d); grind
    · show val _ - (val b + val d) ≤ _; grind
  exact hb5.mono (by grind)
theorem cdif_near {a b c d : Nat} {M : Rat} (ha : fin a = true) (hb : fin b = true) (hc : fin c = true) (hd : fin d = true) (h : Bd (cv2 a b - cv2 c d) M) (h1 : 1 ≤ M) (h2 : M ≤ ((2 ^ 200 : Nat) : Rat)) :
    ∃ re im, fmt.sub a c = some re ∧ fmt.sub b d = some im ∧ Nc re im (cv2 a b - cv2 c d) (2 * (M * uu)) := by
  have he := e0_pos
  have hes := e0_small
  have hbig := big2_big h2
  have hMb : M ≤ big := by grind
  obtain ⟨x1, x2⟩ := h.re
  obtain ⟨x3, x4⟩ := h.im
  change -M ≤ val a - val c at x1; change val a - val c ≤ M at x2; change -M ≤ val b - val d at x3; change val b - val d ≤ M at x4
  obtain ⟨n1, f1, g1, g1'⟩ := sub_near (M := M) ha hc x1 x2 hMb
  obtain ⟨n2, f2, g2, g2'⟩ := sub_near (M := M) hb hd x3 x4 hMb
  have hMu : M / 9007199254740992 = M * uu := by unfold uu; grind
  have hs : 3 * e0 ≤ M * uu := by
    have : 3 * (1 / 72057594037927936) ≤ 1 * uu := by decide +kernel
    have h3 : 1 * uu ≤ M * uu := Rat.mul_le_mul_of_nonneg_right h1 (by decide +kernel)
    grind
  rw [hMu] at g1 g1' g2 g2'
  refine ⟨_, _, n1, n2, f1, f2, ?_⟩
  have hb5 : Bd (cv2 (subN a c) (subN b d) - (cv2 a b - cv2 c d)) (3 / 2 * (4 / 3 * (M * uu))) := by
    refine Bd.of_parts (by grind) ?_ ?_ ?_ ?_
    · show -_ ≤ val _ - (val a - val c); grind
    · show val _ - (val a - val c) ≤ _; grind
    · show -_ ≤ val _ - (val b - val d); grind
    · show val _ - (val b - val d) ≤ _; grind
  exact hb5.mono (by grind)

theorem sum_split {a b za zb : CxW} : a + b - (za + zb) = (a - za) + (b - zb) := by apply CxW.ext' <;> simp only [add_re, add_im, sub_re, sub_im] <;> grind
theorem dif_split {a b za zb : CxW} : a - b - (za - zb) = (a - za) - (b - zb) := by apply CxW.ext' <;> simp only [sub_re, sub_im] <;> grind
theorem sub_split {a b c : CxW} : a - c = (a - b) + (b - c) := by apply CxW.ext' <;> simp only [add_re, add_im, sub_re, sub_im] <;> grind
theorem Nc.mono {a b : Nat} {z : CxW} {E E' : Rat} (h : Nc a b z E) (he : E ≤ E') : Nc a b z E' := ⟨h.1, h.2.1, h.2.2.mono he⟩
theorem Nc.to {a b : Nat} {z z' : CxW} {E D : Rat} (h : Nc a b z E) (hz : Bd (z' - z) D) : Nc a b z' (E + D) := by
  refine ⟨h.1, h.2.1, ?_⟩
  have e : cv2 a b - z' = (cv2 a b - z) - (z' - z) := by apply CxW.ext' <;> simp only [sub_re, sub_im] <;> grind
  rw [e]
  exact h.2.2.sub hz
/-- The transform's step: a sum and a difference. -/
theorem fly_near {ar ai br bi c s : Nat} {za zb w : CxW} {V E tw' : Rat} (ha : Nc ar ai za E) (hb : Nc br bi zb E) (hw : Nc c s w tw') (hw1 : Bd w 1) (hza : Bd za V) (hzb : Bd zb V) (hE : E ≤ V) (h1 : 1 ≤ V) (h2 : V ≤ ((2 ^ 100 : Nat) : Rat)) (htw : tw' = 1 / 562949953421312) :
    ∃ ac bd ad bc tr ti pr pi qr qi, Prod br bi c s ac bd ad bc tr ti ∧ fmt.add ar tr = some pr ∧ fmt.add ai ti = some pi ∧ fmt.sub ar tr = some qr ∧ fmt.sub ai ti = some qi ∧
      Nc pr pi (za + w * zb) (2 * E + 65 * (V * uu)) ∧ Nc qr qi (za - w * zb) (2 * E + 65 * (V * uu)) := by
  have hE0 := ha.2.2.1
  have hV0 : 0 ≤ V := by grind
  have b1 := hb.2.2.near hzb
  have w1 := hw.2.2.near hw1
  have a1 := ha.2.2.near hza
  have h200 : 5 * V ≤ ((2 ^ 200 : Nat) : Rat) := by
    have : 5 * ((2 ^ 100 : Nat) : Rat) ≤ ((2 ^ 200 : Nat) : Rat) := by decide +kernel
    grind
  have hVu0 : 0 ≤ V * uu := Rat.mul_nonneg hV0 (by decide +kernel)
  have hVt : V * tw' = 16 * (V * uu) := by rw [htw]; unfold uu; grind
  have hEt : E * tw' ≤ V * tw' := Rat.mul_le_mul_of_nonneg_right hE (by rw [htw]; decide +kernel)
  have hVu : V * uu ≤ V / 4096 := by unfold uu; grind
  obtain ⟨ac, bd, ad, bc, tr, ti, hP, hf1, hf2, ht⟩ := prod_near (R := V + E) (S := 1 + tw') (M := 3 * V) hb.1 hb.2.1 hw.1 hw.2.1 b1 w1 (by rw [Rat.add_mul, Rat.mul_add, Rat.mul_add]; grind) (by grind) (by grind)
  have hMu : 3 * V * uu = 3 * (V * uu) := by grind
  rw [hMu] at ht
  -- the product against the true one
  have e1 : cv2 tr ti - w * zb = (cv2 tr ti - cv2 br bi * cv2 c s) + ((cv2 br bi - zb) * cv2 c s + zb * (cv2 c s - w)) := by
    apply CxW.ext' <;> simp only [mul_re, mul_im, add_re, add_im, sub_re, sub_im] <;> grind
  have hT : Bd (cv2 tr ti - w * zb) (E + 109 / 2 * (V * uu)) := by
    rw [e1]
    refine (ht.add ((hb.2.2.mul w1).add (hzb.mul hw.2.2))).mono ?_
    rw [Rat.mul_add]
    grind
  have hwz : Bd (w * zb) V := (hw1.mul hzb).mono (by grind)
  have hTv := hT.near hwz
  obtain ⟨pr, pi, s1, s2, p1, p2, hp⟩ := csum_near (M := 5 * V) ha.1 ha.2.1 hf1 hf2 ((a1.add hTv).mono (by grind)) (by grind) h200
  obtain ⟨qr, qi, s3, s4, q1, q2, hq⟩ := cdif_near (M := 5 * V) ha.1 ha.2.1 hf1 hf2 ((a1.sub hTv).mono (by grind)) (by grind) h200
  have hMu5 : 5 * V * uu = 5 * (V * uu) := by grind
  rw [hMu5] at hp hq
  refine ⟨ac, bd, ad, bc, tr, ti, pr, pi, qr, qi, hP, s1, s2, s3, s4, ⟨p1, p2, ?_⟩, ⟨q1, q2, ?_⟩⟩
  · rw [sub_split (b := cv2 ar ai + cv2 tr ti), sum_split]
    exact (hp.add (ha.2.2.add hT)).mono (by grind)
  · rw [sub_split (b := cv2 ar ai - cv2 tr ti), dif_split]
    exact (hq.add (ha.2.2.sub hT)).mono (by grind)

end Go.Proofs.YtblkejnckbeieaaGreatDoor.WaveP

namespace Go.Proofs.YtblkejnckbeieaaGreatDoor.WaveP
open CxW

/-- The lowest m bits the other way round. -/
def rev : Nat → Nat → Nat
  | 0, _ => 0
  | m + 1, b => b % 2 * 2 ^ m + rev m (b / 2)
theorem rev_succ (m b : Nat) : rev (m + 1) b = b % 2 * 2 ^ m + rev m (b / 2) := rfl
theorem rev_even (m b : Nat) : rev (m + 1) (2 * b) = rev m b := by
  rw [rev_succ, Nat.mul_mod_right, Nat.zero_mul, Nat.zero_add, Nat.mul_div_cancel_left _ (by decide)]
theorem rev_odd (m b : Nat) : rev (m + 1) (2 * b + 1) = 2 ^ m + rev m b := by
  rw [rev_succ, show (2 * b + 1) % 2 = 1 by omega, show (2 * b + 1) / 2 = b by omega, Nat.one_mul]
theorem rev_lt : ∀ m b, rev m b < 2 ^ m := by
  intro m
  induction m with
  | zero => intro b; show 0 < 1; decide
  | succ m ih =>
    intro b
    rw [rev_succ]
    have := ih (b / 2)
    rw [Nat.pow_succ]
    rcases Nat.mod_two_eq_zero_or_one b with h | h <;> rw [h] <;> omega

/-- The numbers that the block b of 2^l places tells. -/
def xs (X : Nat → CxW) (L l b : Nat) (j : Nat) : CxW := X (j * 2 ^ (L - l) + rev (L - l) b)
theorem xs_even (X : Nat → CxW) {L l : Nat} (h : l < L) (b : Nat) : (fun j => xs X L (l + 1) b (2 * j)) = xs X L l (2 * b) := by
  funext j
  unfold xs
  obtain ⟨m, hm⟩ : ∃ m, L - l = m + 1 := ⟨L - l - 1, by omega⟩
  rw [show L - (l + 1) = m by omega, hm, rev_even, Nat.pow_succ]
  congr 2
  rw [Nat.mul_comm 2 j, Nat.mul_assoc, Nat.mul_comm 2]
theorem xs_odd (X : Nat → CxW) {L l : Nat} (h : l < L) (b : Nat) : (fun j => xs X L (l + 1) b (2 * j + 1)) = xs X L l (2 * b + 1) := by
  funext j
  unfold xs
  obtain ⟨m, hm⟩ : ∃ m, L - l = m + 1 := ⟨L - l - 1, by omega⟩
  rw [show L - (l + 1) = m by omega, hm, rev_odd, Nat.pow_succ, Nat.add_mul, Nat.one_mul, Nat.mul_comm 2 j, Nat.mul_assoc, Nat.mul_comm 2, Nat.add_assoc]
/-- How near the level l is. -/
def El (E0 V0 : Rat) (l : Nat) : Rat := ((2 ^ l : Nat) : Rat) * (E0 + 33 * (l : Rat) * (V0 * uu))
def Vl (V0 : Rat) (l : Nat) : Rat := ((2 ^ l : Nat) : Rat) * V0
/-- The level's true number at the block b, the place k. -/
def Gl (Z : Nat → CxW) (X : Nat → CxW) (L l b k : Nat) : CxW := F Z l (xs X L l b) k
theorem Gl_zero (Z X : Nat → CxW) (L b k : Nat) : Gl Z X L 0 b k = X (rev L b) := by
  unfold Gl xs
  rw [F_zero, Nat.zero_mul, Nat.zero_add, Nat.sub_zero]
theorem Gl_top (Z X : Nat → CxW) (L k : Nat) : Gl Z X L L 0 k = F Z L X k := by
  unfold Gl
  congr 1
  funext j
  unfold xs
  rw [Nat.sub_self, Nat.pow_zero, Nat.mul_one]
  rfl
section
variable {Z : Nat → CxW} {t : Rat}
theorem level_step (hZ : Roots Z t) (ht : t ≤ tau) {X : Nat → CxW} {V0 E0 : Rat} (hX : ∀ j, Bd (X j) V0) (hV1 : 1 ≤ V0) (hV2 : V0 ≤ ((2 ^ 80 : Nat) : Rat)) (hE1 : E0 ≤ V0 / 2) {L l b k : Nat} (hl : l < L) (hL : L ≤ 12)
    {ar ai br bi c s : Nat} (ha : Nc ar ai (Gl Z X L l (2 * b) k) (El E0 V0 l)) (hb : Nc br bi (Gl Z X L l (2 * b + 1) k) (El E0 V0 l)) (hw : Nc c s (pow (Z (l + 1)) k) (1 / 562949953421312)) :
    ∃ ac bd ad bc tr ti pr pi qr qi, Prod br bi c s ac bd ad bc tr ti ∧ fmt.add ar tr = some pr ∧ fmt.add ai ti = some pi ∧ fmt.sub ar tr = some qr ∧ fmt.sub ai ti = some qi ∧
      Nc pr pi (Gl Z X L (l + 1) b k) (El E0 V0 (l + 1)) ∧ Nc qr qi (Gl Z X L (l + 1) b (k + 2 ^ l)) (El E0 V0 (l + 1)) := by
  have hV0 : 0 ≤ V0 := by grind
  have hl12 : l < 12 := by omega
  have hx : ∀ b j, Bd (xs X L l b j) V0 := fun b j => hX _
  have hx1 : ∀ j, Bd (xs X L (l + 1) b j) V0 := fun j => hX _
  have ba := F_bd hZ l (xs X L l (2 * b)) k (by omega) (fun j _ => hx _ j)
  have bb := F_bd hZ l (xs X L l (2 * b + 1)) k (by omega) (fun j _ => hx _ j)
  have hp1 : (1 : Rat) ≤ ((2 ^ l : Nat) : Rat) := by exact_mod_cast Nat.one_le_two_pow
  have hp2 : ((2 ^ l : Nat) : Rat) ≤ 4096 := by
    have : 2 ^ l ≤ 2 ^ 12 := Nat.pow_le_pow_right (by decide) (by omega)
    have h' : 2 ^ l ≤ 4096 := this
    exact_mod_cast h'
  have hlr : (l : Rat) ≤ 12 := by exact_mod_cast (show l ≤ 12 by omega)
  have hl0 : (0 : Rat) ≤ (l : Rat) := by exact_mod_cast Nat.zero_le l
  have hvu0 : 0 ≤ V0 * uu := Rat.mul_nonneg hV0 (by decide +kernel)
  have hvu : V0 * uu ≤ V0 / 65536 := by unfold uu; grind
  have hlv : 33 * (l : Rat) * (V0 * uu) ≤ 396 * (V0 * uu) := by
    have := Rat.mul_le_mul_of_nonneg_right hlr hvu0
    grind
  have hEV : El E0 V0 l ≤ ((2 ^ l : Nat) : Rat) * V0 := by
    unfold El
    exact Rat.mul_le_mul_of_nonneg_left (by grind) (by grind)
  have hVb : ((2 ^ l : Nat) : Rat) * V0 ≤ ((2 ^ 100 : Nat) : Rat) := by
    have h1 := Rat.mul_le_mul_of_nonneg_right hp2 hV0
    have h2 : 4096 * ((2 ^ 80 : Nat) : Rat) ≤ ((2 ^ 100 : Nat) : Rat) := by decide +kernel
    grind
  have hV11 : 1 ≤ ((2 ^ l : Nat) : Rat) * V0 := by
    have := Rat.mul_le_mul_of_nonneg_right hp1 hV0
    grind
  obtain ⟨ac, bd, ad, bc, tr, ti, pr, pi, qr, qi, hP, s1, s2, s3, s4, np, nq⟩ := fly_near (w := pow (Z (l + 1)) k) (V := ((2 ^ l : Nat) : Rat) * V0) (E := El E0 V0 l) ha hb hw ((hZ.bd (l + 1) (by omega)).pow k) ba bb hEV hV11 hVb rfl
  refine ⟨ac, bd, ad, bc, tr, ti, pr, pi, qr, qi, hP, s1, s2, s3, s4, ?_, ?_⟩
  · have e : Gl Z X L (l + 1) b k = Gl Z X L l (2 * b) k + pow (Z (l + 1)) k * Gl Z X L l (2 * b + 1) k := by
      unfold Gl
      rw [F_succ, xs_even X hl, xs_odd X hl]
    rw [e]
    refine np.mono ?_
    unfold El
    have h2 : ((2 ^ (l + 1) : Nat) : Rat) = 2 * ((2 ^ l : Nat) : Rat) := by rw [Nat.pow_succ, Nat.mul_comm]; exact_mod_cast rfl
    have h3 : ((l + 1 : Nat) : Rat) = (l : Rat) + 1 := by simp
    rw [h2, h3]
    generalize ((2 ^ l : Nat) : Rat) = P at *
    have : 0 ≤ P * (V0 * uu) := Rat.mul_nonneg (by grind) hvu0
    grind
  · have hh := F_half hZ hV0 l (xs X L (l + 1) b) k hl12 (fun j _ => hx1 j)
    rw [xs_even X hl, xs_odd X hl] at hh
    have n2 := nq.to hh
    refine n2.mono ?_
    unfold El
    have h2 : ((2 ^ (l + 1) : Nat) : Rat) = 2 * ((2 ^ l : Nat) : Rat) := by rw [Nat.pow_succ, Nat.mul_comm]; exact_mod_cast rfl
    have h3 : ((l + 1 : Nat) : Rat) = (l : Rat) + 1 := by simp
    rw [h2, h3]
    have ht2 : 150000000 * V0 * t ≤ V0 * uu := by
      have a1 : 150000000 * V0 * t ≤ 150000000 * V0 * tau := Rat.mul_le_mul_of_nonneg_left ht (by grind)
      have a2 : 150000000 * tau ≤ uu := by decide +kernel
      have a3 := Rat.mul_le_mul_of_nonneg_left a2 hV0
      grind
    generalize ((2 ^ l : Nat) : Rat) = P at *
    have : 0 ≤ P * (V0 * uu) := Rat.mul_nonneg (by grind) hvu0
    have h5 : V0 * uu ≤ P * (V0 * uu) := by
      have := Rat.mul_le_mul_of_nonneg_right hp1 hvu0
      grind
    grind
end

end Go.Proofs.YtblkejnckbeieaaGreatDoor.WaveP

namespace Go.Proofs.YtblkejnckbeieaaGreatDoor
open Go.RowKit WaveP

/-- What the four steps of the library's function make of 32 bits. -/
def stepR (m k x : Nat) : Nat := (x / 2 ^ k &&& m) ||| ((x &&& m) * 2 ^ k % 4294967296)
def bytesR (x : Nat) : Nat := stepR 16711935 8 x / 65536 ||| (stepR 16711935 8 x * 65536 % 4294967296)
def bitsR (x : Nat) : Nat := bytesR (stepR 252645135 4 (stepR 858993459 2 (stepR 1431655765 1 x)))

def allR (P : Nat → Bool) : Nat → Nat → Bool
  | 0, b => P b
  | m + 1, b => allR P m b && allR P m (b + 2 ^ m)
theorem allR_get (P : Nat → Bool) : ∀ m b, allR P m b = true → ∀ x, b ≤ x → x < b + 2 ^ m → P x = true := by
  intro m
  induction m with
  | zero => intro b h x h1 h2; rw [show x = b by omega]; exact h
  | succ m ih =>
    intro b h x h1 h2
    have h' : (allR P m b && allR P m (b + 2 ^ m)) = true := h
    rw [Bool.and_eq_true] at h'
    rw [Nat.pow_succ] at h2
    by_cases hx : x < b + 2 ^ m
    · exact ih b h'.1 x h1 hx
    · exact ih (b + 2 ^ m) h'.2 x (by omega) (by omega)
def revOk (L x : Nat) : Bool := Nat.beq (bitsR x / 2 ^ (32 - L)) (rev L x)
theorem rev_all : (List.range 13).all (fun L => allR (revOk L) L 0) = true := by decide +kernel
theorem bitsR_rev {L x : Nat} (hL : L ≤ 12) (hx : x < 2 ^ L) : bitsR x / 2 ^ (32 - L) = rev L x := by
  have h := List.all_eq_true.1 rev_all L (List.mem_range.2 (by omega))
  exact Nat.eq_of_beq_eq_true (allR_get _ L 0 h x (Nat.zero_le _) (by omega))
theorem rev_rev_all : (List.range 13).all (fun L => allR (fun x => Nat.beq (rev L (rev L x)) x) L 0) = true := by decide +kernel
theorem rev_rev {L x : Nat} (hL : L ≤ 12) (hx : x < 2 ^ L) : rev L (rev L x) = x := by
  have h := List.all_eq_true.1 rev_rev_all L (List.mem_range.2 (by omega))
  exact Nat.eq_of_beq_eq_true (allR_get _ L 0 h x (Nat.zero_le _) (by omega))

theorem or_lt32 {x y : Nat} (hx : x < 4294967296) (hy : y < 4294967296) : x ||| y < 4294967296 := Nat.or_lt_two_pow (n := 32) hx hy
theorem and_lt32 {x m : Nat} (hm : m < 4294967296) : x &&& m < 4294967296 := Nat.lt_of_le_of_lt Nat.and_le_right hm
theorem stepR_lt {m : Nat} (k x : Nat) (hm : m < 4294967296) : stepR m k x < 4294967296 := or_lt32 (and_lt32 hm) (Nat.mod_lt _ (by decide))
theorem div_lt32 {x : Nat} (k : Nat) (hx : x < 4294967296) : x / k < 4294967296 := Nat.lt_of_le_of_lt (Nat.div_le_self ..) hx
theorem cdiv (x k : Nat) : ((x : Int) / (k : Int)) = ((x / k : Nat) : Int) := rfl
/-- One step, as the walk speaks of it. -/
theorem step_eq {x : Nat} (m k : Nat) (p : Nat) (hp : 2 ^ k = p) (hx : x < 4294967296) (hm : m < 4294967296) :
    bits .or .u32 (bits .and .u32 ((x : Int) / (p : Int)) (m : Int)) (bits .and .u32 (x : Int) (m : Int) * (p : Int) % 4294967296) = ((stepR m k x : Nat) : Int) := by
  rw [cdiv, Go.u32_and_nat _ _ (div_lt32 p hx) hm, Go.u32_and_nat _ _ hx hm]
  have e : (((x &&& m : Nat) : Int) * (p : Int) % 4294967296) = (((x &&& m) * p % 4294967296 : Nat) : Int) := by omega
  rw [e, Go.u32_or_nat _ _ (and_lt32 hm) (Nat.mod_lt _ (by decide))]
  unfold stepR
  rw [hp]

theorem bytes_eq {y : Nat} {z : Nat} (hy : stepR 16711935 8 z < 4294967296) (h : y = stepR 16711935 8 z := by rfl) :
    bits .or .u32 ((y : Int) / 65536) ((y : Int) * 65536 % 4294967296) = ((bytesR z : Nat) : Int) := by
  rw [show (y : Int) / 65536 = ((y / 65536 : Nat) : Int) from rfl, show (y : Int) * 65536 % 4294967296 = ((y * 65536 % 4294967296 : Nat) : Int) by omega]
  rw [Go.u32_or_nat _ _ (div_lt32 65536 (h ▸ hy)) (Nat.mod_lt _ (by decide))]
  unfold bytesR
  rw [h]

theorem revBytes_any (x : Nat) (hx : x < 4294967296) (w : World) : Calls Tryz.prog 188 #[.int .u32 x] w fun e w' => e = .returned (.int .u32 ((bytesR x : Nat) : Int)) ∧ w = w' := by
  have h1 : bits .or .u32 (bits .and .u32 ((x : Int) / 256) 16711935) (bits .and .u32 (x : Int) 16711935 * 256 % 4294967296) = ((stepR 16711935 8 x : Nat) : Int) := step_eq (x := x) 16711935 8 256 rfl hx (by decide)
  have h2 : bits .or .u32 (((stepR 16711935 8 x : Nat) : Int) / 65536) (((stepR 16711935 8 x : Nat) : Int) * 65536 % 4294967296) = ((bytesR x : Nat) : Int) := bytes_eq (stepR_lt 8 x (by decide))
  go_enter Tryz.func188, Tryz.ntmps188
  go_wp2
  go_ret
  exact ⟨rfl, rfl⟩
theorem rev32_any (x : Nat) (hx : x < 4294967296) (w : World) : Calls Tryz.prog 164 #[.int .u32 x] w fun e w' => e = .returned (.int .u32 ((bitsR x : Nat) : Int)) ∧ w = w' := by
  obtain ⟨y1, e1⟩ : ∃ y, y = stepR 1431655765 1 x := ⟨_, rfl⟩
  have l1 : y1 < 4294967296 := by rw [e1]; exact stepR_lt 1 x (by decide)
  have h1 : bits .or .u32 (bits .and .u32 ((x : Int) / 2) 1431655765) (bits .and .u32 (x : Int) 1431655765 * 2 % 4294967296) = (y1 : Int) := by
    rw [e1]; exact step_eq (x := x) 1431655765 1 2 rfl hx (by decide)
  obtain ⟨y2, e2⟩ : ∃ y, y = stepR 858993459 2 y1 := ⟨_, rfl⟩
  have l2 : y2 < 4294967296 := by rw [e2]; exact stepR_lt 2 y1 (by decide)
  have h2 : bits .or .u32 (bits .and .u32 ((y1 : Int) / 4) 858993459) (bits .and .u32 (y1 : Int) 858993459 * 4 % 4294967296) = (y2 : Int) := by
    rw [e2]; exact step_eq (x := y1) 858993459 2 4 rfl l1 (by decide)
  obtain ⟨y3, e3⟩ : ∃ y, y = stepR 252645135 4 y2 := ⟨_, rfl⟩
  have l3 : y3 < 4294967296 := by rw [e3]; exact stepR_lt 4 y2 (by decide)
  have h3 : bits .or .u32 (bits .and .u32 ((y2 : Int) / 16) 252645135) (bits .and .u32 (y2 : Int) 252645135 * 16 % 4294967296) = (y3 : Int) := by
    rw [e3]; exact step_eq (x := y2) 252645135 4 16 rfl l2 (by decide)
  have hb : bytesR y3 = bitsR x := by unfold bitsR; rw [e3, e2, e1]
  rw [← hb]
  clear hb e1 e2 e3
  go_enter Tryz.func164, Tryz.ntmps164
  go_wp2_with (go_at_call 188; (try rw [h1]); (try rw [h2]); (try rw [h3]); (with_reducible refine (revBytes_any y3 l3 _).mono ?_); rintro e w' ⟨rfl, rfl⟩)
  go_ret
  exact ⟨rfl, rfl⟩
end Go.Proofs.YtblkejnckbeieaaGreatDoor

namespace Go.Proofs.YtblkejnckbeieaaGreatDoor
open Go.RowKit WaveP

/-- The angle of a turn the other way. -/
def angleM (k l : Nat) : Option Nat := (mulO (flipW 4618760256179416344) (natW k)).bind fun a => divO a (natW (2 ^ l))
def sameO : Option Nat → Option Nat → Bool
  | some x, some y => Nat.beq (flipW x) y
  | _, _ => false
theorem angleM_all : (List.range 12).all (fun l => allR (fun k => sameO (angle k (l + 1)) (angleM k (l + 1))) l 0) = true := by decide +kernel
theorem angleM_eq {l k x : Nat} (h1 : 1 ≤ l) (h2 : l ≤ 12) (h3 : k < 2 ^ (l - 1)) (h : angle k l = some x) : angleM k l = some (flipW x) := by
  have a := List.all_eq_true.1 angleM_all (l - 1) (List.mem_range.2 (by omega))
  have b := allR_get _ (l - 1) 0 a k (Nat.zero_le _) (by omega)
  rw [show l - 1 + 1 = l by omega, h] at b
  cases hm : angleM k l with
  | none => rw [hm] at b; cases b
  | some y => rw [hm] at b; rw [← Nat.eq_of_beq_eq_true b]
/-- The first word of an angle: two turns' halves. -/
def half2 (neg : Bool) : Nat := fl neg 4618760256179416344
def sgnW (neg : Bool) : Nat := fl neg 4607182418800017408
theorem first_eq : ∀ neg : Bool, mulO (sgnW neg) 4611686018427387904 = some (fl neg 4611686018427387904) ∧ mulO (fl neg 4611686018427387904) 4614256656552045848 = some (half2 neg) := by decide +kernel
theorem angle_steps (neg : Bool) {l k x : Nat} (h1 : 1 ≤ l) (h2 : l ≤ 12) (h3 : k < 2 ^ (l - 1)) (h : angle k l = some x) : ∃ a, mulO (half2 neg) (natW k) = some a ∧ divO a (natW (2 ^ l)) = some (fl neg x) := by
  cases neg with
  | false =>
    unfold angle at h
    exact Option.bind_eq_some_iff.1 h
  | true =>
    have := angleM_eq h1 h2 h3 h
    unfold angleM at this
    exact Option.bind_eq_some_iff.1 this
theorem run_divO {P : Program} {x y r : Nat} (h : divO x y = some r) : ∀ t w, (binOp .quo t (.float .f64 x) (.float .f64 y)).run P w = .ok (.float .f64 r) w := fun t w => run_float_arith w .quo t .f64 x y r (divO_some h)
end Go.Proofs.YtblkejnckbeieaaGreatDoor

namespace Go.Proofs.YtblkejnckbeieaaGreatDoor.WaveP
open CxW

/-- The places that this level has already told. -/
def Done (l k b p : Nat) : Prop := p % 2 ^ l < k ∨ (p % 2 ^ l = k ∧ p / 2 ^ (l + 1) < b)
instance (l k b p : Nat) : Decidable (Done l k b p) := by unfold Done; exact inferInstance
def At (Z X : Nat → CxW) (L l p : Nat) : CxW := Gl Z X L l (p / 2 ^ l) (p % 2 ^ l)
def St (Z X : Nat → CxW) (L : Nat) (E0 V0 : Rat) (l k b : Nat) (g : Nat → Nat × Nat) : Prop :=
  ∀ p, p < 2 ^ L → (Done l k b p → Nc (g p).1 (g p).2 (At Z X L (l + 1) p) (El E0 V0 (l + 1))) ∧ (¬ Done l k b p → Nc (g p).1 (g p).2 (At Z X L l p) (El E0 V0 l))
theorem low_place {l k b : Nat} (hk : k < 2 ^ l) : (b * 2 ^ (l + 1) + k) / 2 ^ l = 2 * b ∧ (b * 2 ^ (l + 1) + k) % 2 ^ l = k ∧ (b * 2 ^ (l + 1) + k) / 2 ^ (l + 1) = b ∧ (b * 2 ^ (l + 1) + k) % 2 ^ (l + 1) = k := by
  have hp := Nat.two_pow_pos l
  have e : b * 2 ^ (l + 1) = 2 ^ l * (2 * b) := by rw [Nat.pow_succ, Nat.mul_comm, Nat.mul_assoc]
  have hk2 : k < 2 ^ (l + 1) := by rw [Nat.pow_succ]; omega
  refine ⟨?_, ?_, ?_, ?_⟩
  · rw [e, Nat.mul_add_div hp, Nat.div_eq_of_lt hk, Nat.add_zero]
  · rw [e, Nat.mul_add_mod, Nat.mod_eq_of_lt hk]
  · rw [Nat.mul_comm, Nat.mul_add_div (Nat.two_pow_pos _), Nat.div_eq_of_lt hk2, Nat.add_zero]
  · rw [Nat.mul_comm, Nat.mul_add_mod, Nat.mod_eq_of_lt hk2]
theorem high_place {l k b : Nat} (hk : k < 2 ^ l) : (b * 2 ^ (l + 1) + (k + 2 ^ l)) / 2 ^ l = 2 * b + 1 ∧ (b * 2 ^ (l + 1) + (k + 2 ^ l)) % 2 ^ l = k ∧ (b * 2 ^ (l + 1) + (k + 2 ^ l)) / 2 ^ (l + 1) = b ∧ (b * 2 ^ (l + 1) + (k + 2 ^ l)) % 2 ^ (l + 1) = k + 2 ^ l := by
  have hp := Nat.two_pow_pos l
  have e0 : b * 2 ^ (l + 1) = 2 ^ l * (2 * b) := by rw [Nat.pow_succ, Nat.mul_comm, Nat.mul_assoc]
  have e : b * 2 ^ (l + 1) + (k + 2 ^ l) = 2 ^ l * (2 * b + 1) + k := by rw [e0, Nat.mul_add, Nat.mul_one]; omega
  have hk2 : k + 2 ^ l < 2 ^ (l + 1) := by rw [Nat.pow_succ]; omega
  refine ⟨?_, ?_, ?_, ?_⟩
  · rw [e, Nat.mul_add_div hp, Nat.div_eq_of_lt hk, Nat.add_zero]
  · rw [e, Nat.mul_add_mod, Nat.mod_eq_of_lt hk]
  · rw [Nat.mul_comm, Nat.mul_add_div (Nat.two_pow_pos _), Nat.div_eq_of_lt hk2, Nat.add_zero]
  · rw [Nat.mul_comm, Nat.mul_add_mod, Nat.mod_eq_of_lt hk2]
theorem place_lt {L l k b : Nat} (hl : l < L) (hk : k < 2 ^ l) (hb : b < 2 ^ (L - l - 1)) : b * 2 ^ (l + 1) + (k + 2 ^ l) < 2 ^ L := by
  have e : 2 ^ L = 2 ^ (L - l - 1) * 2 ^ (l + 1) := by rw [← Nat.pow_add]; congr 1; omega
  have h1 : (b + 1) * 2 ^ (l + 1) ≤ 2 ^ (L - l - 1) * 2 ^ (l + 1) := Nat.mul_le_mul_right _ hb
  rw [Nat.add_mul, Nat.one_mul] at h1
  have e2 : (2 : Nat) ^ (l + 1) = 2 ^ l * 2 := Nat.pow_succ ..
  omega

variable {Z X : Nat → CxW} {L : Nat} {E0 V0 t : Rat}
theorem St_start {g : Nat → Nat × Nat} (h : ∀ p, p < 2 ^ L → Nc (g p).1 (g p).2 (X (rev L p)) E0) : St Z X L E0 V0 0 0 0 g := by
  intro p hp
  refine ⟨fun hd => ?_, fun _ => ?_⟩
  · rcases hd with h | ⟨_, h⟩ <;> exact absurd h (Nat.not_lt_zero _)
  · have e : At Z X L 0 p = X (rev L p) := by
      unfold At
      rw [Nat.pow_zero, Nat.div_one, Nat.mod_one, Gl_zero]
    have e2 : El E0 V0 0 = E0 := by
      unfold El
      rw [Nat.pow_zero]
      have : ((0 : Nat) : Rat) = 0 := rfl
      rw [this]
      grind
    rw [e, e2]
    exact h p hp
theorem St_k {l k : Nat} {g : Nat → Nat × Nat} (hl : l < L) (h : St Z X L E0 V0 l k (2 ^ (L - l - 1)) g) : St Z X L E0 V0 l (k + 1) 0 g := by
  intro p hp
  have hq : p / 2 ^ (l + 1) < 2 ^ (L - l - 1) := by
    refine (Nat.div_lt_iff_lt_mul (Nat.two_pow_pos _)).2 ?_
    rw [← Nat.pow_add, show L - l - 1 + (l + 1) = L by omega]
    exact hp
  have e : Done l (k + 1) 0 p ↔ Done l k (2 ^ (L - l - 1)) p := by
    unfold Done
    generalize p / 2 ^ (l + 1) = q at hq ⊢
    generalize 2 ^ (L - l - 1) = B at hq ⊢
    generalize p % 2 ^ l = r
    omega
  rw [e]
  exact h p hp
theorem St_l {l : Nat} {g : Nat → Nat × Nat} (h : St Z X L E0 V0 l (2 ^ l) 0 g) : St Z X L E0 V0 (l + 1) 0 0 g := by
  intro p hp
  refine ⟨fun hd => ?_, fun _ => (h p hp).1 (.inl (Nat.mod_lt _ (Nat.two_pow_pos l)))⟩
  rcases hd with h | ⟨_, h⟩ <;> exact absurd h (Nat.not_lt_zero _)
theorem St_end {g : Nat → Nat × Nat} (h : St Z X L E0 V0 L 0 0 g) (p : Nat) (hp : p < 2 ^ L) : Nc (g p).1 (g p).2 (F Z L X p) (El E0 V0 L) := by
  have hn : ¬ Done L 0 0 p := by
    rintro (h | ⟨_, h⟩) <;> exact absurd h (Nat.not_lt_zero _)
  have h1 := (h p hp).2 hn
  unfold At at h1
  rw [Nat.div_eq_of_lt hp, Nat.mod_eq_of_lt hp, Gl_top] at h1
  exact h1

/-- Which places one step tells. -/
theorem done_step {l k b p : Nat} (hk : k < 2 ^ l) : Done l k (b + 1) p ↔ Done l k b p ∨ p = b * 2 ^ (l + 1) + k ∨ p = b * 2 ^ (l + 1) + (k + 2 ^ l) := by
  obtain ⟨a1, a2, a3, a4⟩ := low_place (b := b) hk
  obtain ⟨b1, b2, b3, b4⟩ := high_place (b := b) hk
  constructor
  · rintro (h | ⟨h1, h2⟩)
    · exact .inl (.inl h)
    · by_cases hq : p / 2 ^ (l + 1) < b
      · exact .inl (.inr ⟨h1, hq⟩)
      · have hqb : p / 2 ^ (l + 1) = b := by omega
        have hd := Nat.div_add_mod p (2 ^ (l + 1))
        rw [hqb, Nat.mul_comm] at hd
        have hm : p % 2 ^ (l + 1) % 2 ^ l = k := by
          rw [Nat.pow_succ, Nat.mod_mul_right_mod]
          exact h1
        have hlt : p % 2 ^ (l + 1) < 2 ^ (l + 1) := Nat.mod_lt _ (Nat.two_pow_pos _)
        have e2 : (2 : Nat) ^ (l + 1) = 2 ^ l * 2 := Nat.pow_succ ..
        by_cases hs : p % 2 ^ (l + 1) < 2 ^ l
        · rw [Nat.mod_eq_of_lt hs] at hm
          exact .inr (.inl (by rw [← hd, hm]))
        · have h3 : p % 2 ^ (l + 1) - 2 ^ l < 2 ^ l := by omega
          rw [Nat.mod_eq_sub_mod (by omega), Nat.mod_eq_of_lt h3] at hm
          exact .inr (.inr (by rw [← hd]; omega))
  · rintro ((h | ⟨h1, h2⟩) | rfl | rfl)
    · exact .inl h
    · exact .inr ⟨h1, by omega⟩
    · exact .inr ⟨a2, by omega⟩
    · exact .inr ⟨b2, by omega⟩

/-- What one step does to the row: its words, and the row behind it. -/
theorem St_step (hZ : Roots Z t) (ht : t ≤ tau) (hX : ∀ j, Bd (X j) V0) (hV1 : 1 ≤ V0) (hV2 : V0 ≤ ((2 ^ 80 : Nat) : Rat)) (hE1 : E0 ≤ V0 / 2) {l k b : Nat} {g : Nat → Nat × Nat} {c s : Nat}
    (hl : l < L) (hL : L ≤ 12) (hk : k < 2 ^ l) (hb : b < 2 ^ (L - l - 1)) (hw : Nc c s (pow (Z (l + 1)) k) (1 / 562949953421312)) (h : St Z X L E0 V0 l k b g)
    {lo hi : Nat} (hlo : lo = b * 2 ^ (l + 1) + k) (hhi : hi = b * 2 ^ (l + 1) + (k + 2 ^ l)) :
    ∃ ac bd ad bc tr ti pr pi qr qi, Prod (g hi).1 (g hi).2 c s ac bd ad bc tr ti ∧ fmt.add (g lo).1 tr = some pr ∧ fmt.add (g lo).2 ti = some pi ∧ fmt.sub (g lo).1 tr = some qr ∧ fmt.sub (g lo).2 ti = some qi ∧
      St Z X L E0 V0 l k (b + 1) (fun p => if p = hi then (qr, qi) else if p = lo then (pr, pi) else g p) := by
  obtain ⟨a1, a2, a3, a4⟩ := low_place (b := b) hk
  obtain ⟨b1, b2, b3, b4⟩ := high_place (b := b) hk
  have hpl := place_lt hl hk hb
  rw [← hlo] at a1 a2 a3 a4
  rw [← hhi] at b1 b2 b3 b4 hpl
  have hp := Nat.two_pow_pos l
  have hlt : lo < 2 ^ L := by omega
  have na : ¬ Done l k b lo := by
    rintro (h | ⟨_, h⟩)
    · omega
    · rw [a3] at h; exact absurd h (Nat.lt_irrefl _)
  have nb : ¬ Done l k b hi := by
    rintro (h | ⟨_, h⟩)
    · omega
    · rw [b3] at h; exact absurd h (Nat.lt_irrefl _)
  have ha := (h lo hlt).2 na
  have hbb := (h hi hpl).2 nb
  unfold At at ha hbb
  rw [a1, a2] at ha
  rw [b1, b2] at hbb
  obtain ⟨ac, bd, ad, bc, tr, ti, pr, pi, qr, qi, h1, h2, h3, h4, h5, h6, h7⟩ := level_step hZ ht hX hV1 hV2 hE1 hl hL ha hbb hw
  refine ⟨ac, bd, ad, bc, tr, ti, pr, pi, qr, qi, h1, h2, h3, h4, h5, ?_⟩
  intro p hpL
  by_cases e1 : p = hi
  · subst e1
    refine ⟨fun _ => ?_, fun hn => absurd ((done_step hk).2 (.inr (.inr hhi))) hn⟩
    simp only [if_true]
    unfold At
    rw [b3, b4]
    exact h7
  · by_cases e2 : p = lo
    · subst e2
      refine ⟨fun _ => ?_, fun hn => absurd ((done_step hk).2 (.inr (.inl hlo))) hn⟩
      simp only [if_neg e1, if_true]
      unfold At
      rw [a3, a4]
      exact h6
    · simp only [if_neg e1, if_neg e2]
      have hd : Done l k (b + 1) p ↔ Done l k b p := by
        rw [done_step hk, ← hlo, ← hhi]
        exact ⟨fun h => h.elim id (fun h => h.elim (fun h => absurd h e2) (fun h => absurd h e1)), .inl⟩
      rw [hd]
      exact h p hpL
end Go.Proofs.YtblkejnckbeieaaGreatDoor.WaveP

namespace Go.Proofs.YtblkejnckbeieaaGreatDoor
open Go.RowKit WaveP WaveP.CxW

theorem pow_le2 {a b : Nat} (h : a + 1 ≤ b) : 2 ^ a * 2 ≤ 2 ^ b := by
  rw [← Nat.pow_succ]
  exact Nat.pow_le_pow_right (by decide) h
theorem fin_small {w : Nat} (hw : w < 18446744073709551616) (h : un (rg w) ≤ 2 ^ c1076) : fin w = true := by
  refine fin_iff.2 ⟨hw, ?_⟩
  refine Nat.lt_of_not_le fun hc => ?_
  have h1 : 4503599627370496 ≤ rg w := Nat.le_trans (by decide +kernel) hc
  have h2 : c1076 + 1 ≤ pl (rg w) := by
    unfold pl
    have : infR / 4503599627370496 ≤ rg w / 4503599627370496 := Nat.div_le_div_right hc
    have e : infR / 4503599627370496 = 2047 := by decide +kernel
    unfold c1076
    omega
  have h3 := pow_le2 h2
  have h4 : 1 ≤ mg (rg w) := by
    unfold mg
    rw [ble_t h1, cond_true]
    omega
  have h5 : 2 ^ pl (rg w) ≤ un (rg w) := by
    unfold un
    exact Nat.le_mul_of_pos_left _ h4
  have h7 := Nat.two_pow_pos c1076
  generalize 2 ^ c1076 = Q at *
  generalize 2 ^ pl (rg w) = R at *
  omega
theorem fin_val {w : Nat} (hw : w < 18446744073709551616) (h1 : -2 ≤ val w) (h2 : val w ≤ 2) : fin w = true := by
  refine fin_small hw ?_
  have hu : ((un (rg w) : Nat) : Rat) * e0 ≤ 2 := by
    unfold val at h1 h2
    rcases sn_cases (sg w) with e | e <;> rw [e] at h1 h2 <;> grind
  have hm : ((un (rg w) : Nat) : Rat) * e0 * ((2 ^ c74 : Nat) : Rat) ≤ 2 * ((2 ^ c74 : Nat) : Rat) := Rat.mul_le_mul_of_nonneg_right hu (Rat.le_of_lt (pw_pos c74))
  have he : ((un (rg w) : Nat) : Rat) * e0 * ((2 ^ c74 : Nat) : Rat) = ((un (rg w) : Nat) : Rat) := by
    rw [Rat.mul_assoc, e0_mul, Rat.mul_one]
  rw [he] at hm
  have hc : un (rg w) ≤ 2 * 2 ^ c74 := by exact_mod_cast hm
  have h6 : 2 ^ c1076 = 2 ^ c74 * 4 := by
    have : c1076 = c74 + 2 := rfl
    rw [this, Nat.pow_add]
  generalize 2 ^ c1076 = Q at *
  generalize 2 ^ c74 = R at *
  omega
theorem wd_lt (b : Bool) (x : Nat) : wd b (rg x) < 18446744073709551616 := by
  have : rg x < 9223372036854775808 := Nat.mod_lt _ (by decide)
  cases b
  · show rg x < _; omega
  · show 9223372036854775808 + rg x < _; omega
theorem sincosP_lt {x s c : Nat} (h : sincosP x = some (s, c)) : s < 18446744073709551616 ∧ c < 18446744073709551616 := by
  unfold sincosP at h
  obtain ⟨⟨j, z⟩, h1, h⟩ := Option.bind_eq_some_iff.1 h
  obtain ⟨⟨q1, q2⟩, h2, h⟩ := Option.bind_eq_some_iff.1 h
  obtain ⟨zz, hh, h1', z4, pc, mc, z3, ps, ms, K⟩ := kern_parts h2
  have a1 := addO_lt K.l
  have a2 := addO_lt K.g
  dsimp only at h
  cases hb : Nat.beq j 0 with
  | true =>
    rw [hb, cond_true] at h
    injection h with h
    injection h with e1 e2
    rw [← e1, ← e2]
    exact ⟨a1, a2⟩
  | false =>
    rw [hb, cond_false] at h
    cases hb2 : Nat.beq j 2 with
    | true =>
      rw [hb2, cond_true] at h
      injection h with h
      injection h with e1 e2
      rw [← e1, ← e2]
      exact ⟨a2, wd_lt _ _⟩
    | false =>
      rw [hb2, cond_false] at h
      cases hb4 : Nat.beq j 4 with
      | true =>
        rw [hb4, cond_true] at h
        injection h with h
        injection h with e1 e2
        rw [← e1, ← e2]
        exact ⟨wd_lt _ _, wd_lt _ _⟩
      | false =>
        rw [hb4, cond_false] at h
        cases h
theorem pow_bd1 {z : CxW} (hz : Bd z 1) : ∀ n, Bd (pow z n) 1 := by
  intro n
  induction n with
  | zero => exact Bd.one_
  | succ n ih =>
    rw [pow_succ]
    have := ih.mul hz
    have h2 := hz.mul ih
    rw [Rat.mul_one] at this h2
    first | exact this | exact h2
/-- The root that a direction goes by. -/
def Zn (neg : Bool) (l : Nat) : CxW := if neg then conj (Zr l) else Zr l
theorem Zn_roots (neg : Bool) : Roots (Zn neg) tau := by
  have h := Zr_roots half_t
  cases neg
  · exact h
  · exact h.conj
theorem tw_words (neg : Bool) {l k : Nat} (h1 : 1 ≤ l) (h2 : l ≤ 12) (h3 : k < 2 ^ (l - 1)) : ∃ x s c, Turn l k x s c ∧ Nc c (fl neg s) (pow (Zn neg l) k) (1 / 562949953421312) := by
  obtain ⟨x, s, c, hT⟩ := turns h1 h2 h3
  have hn : Bd (⟨val c, val s⟩ - pow (Zr l) k) (1 / 562949953421312) := hT.2.2
  have hb := hn.add (pow_bd1 ((Zr_roots half_t).bd l h2) k)
  have e : (⟨val c, val s⟩ : CxW) - pow (Zr l) k + pow (Zr l) k = ⟨val c, val s⟩ := by apply CxW.ext' <;> simp only [add_re, add_im, sub_re, sub_im] <;> grind
  rw [e] at hb
  have hlt : s < 18446744073709551616 ∧ c < 18446744073709551616 := by
    rcases hT.2.1 with ⟨_, _, rfl, rfl⟩ | ⟨_, _, hs⟩
    · exact ⟨by decide, by decide⟩
    · exact sincosP_lt hs
  have br := hb.re
  have bi := hb.im
  dsimp only at br bi
  have fc : fin c = true := fin_val hlt.2 (by grind) (by grind)
  have fs : fin s = true := fin_val hlt.1 (by grind) (by grind)
  refine ⟨x, s, c, hT, ?_⟩
  cases neg
  · exact ⟨fc, fs, hn⟩
  · refine ⟨fc, fin_flip fs, ?_⟩
    have hcj := hn.conj
    have e2 : cv2 c (flipW s) - pow (Zn true l) k = conj (⟨val c, val s⟩ - pow (Zr l) k) := by
      have e3 : pow (Zn true l) k = conj (pow (Zr l) k) := by rw [conj_pow]; rfl
      rw [e3]
      have e4 := val_flip fs
      apply CxW.ext' <;> simp only [cv2, conj, sub_re, sub_im, e4] <;> grind
    show Bd (cv2 c (flipW s) - pow (Zn true l) k) _
    rw [e2]
    exact hcj
end Go.Proofs.YtblkejnckbeieaaGreatDoor

namespace Go.Proofs.YtblkejnckbeieaaGreatDoor
open Go.RowKit WaveP
open Go in
theorem run_store_complex (P : Program) (w : World) (a : Addr) (m : Mode) (k : FloatKind) (x y : Nat) : (store a (.complex k x y) m).run P w = stored P w a (.complex k x y) m := run_store P w a _ m rfl
attribute [local go_sem] run_store_complex

/-- The row behind k rounds. -/
def cpx (p : Nat × Nat) : Value := .complex .f64 p.1 p.2
def rvF (L k : Nat) (f : Nat → Nat × Nat) (j : Nat) : Value := if rev L j < k then cpx (f (rev L j)) else .complex .f64 0 0
theorem rvF_step {L k : Nat} {f : Nat → Nat × Nat} (hL : L ≤ 12) (hk : k < 2 ^ L) (j : Nat) (hj : j < 2 ^ L) : (if j = rev L k then cpx (f k) else rvF L k f j) = rvF L (k + 1) f j := by
  unfold rvF
  by_cases h : j = rev L k
  · rw [if_pos h, h, rev_rev hL hk, if_pos (by omega)]
  · rw [if_neg h]
    have hne : rev L j ≠ k := fun e => h (by rw [← e, rev_rev hL hj])
    by_cases h2 : rev L j < k
    · rw [if_pos h2, if_pos (by omega)]
    · rw [if_neg h2, if_neg (by omega)]
theorem len_pow : ∀ L, L ≤ 12 → Lib.bitLen (2 ^ L) = L + 1 := by decide +kernel
theorem and_mask_i64 (x L : Nat) (hL : L ≤ 12) (hx : x < 2 ^ L) : bits .and .i64 (x : Int) (((2 ^ L : Nat) : Int) - 1) = (x : Int) := by
  have hp : 2 ^ L ≤ 2 ^ 12 := Nat.pow_le_pow_right (by decide) hL
  have hp0 := Nat.two_pow_pos L
  rw [show (((2 ^ L : Nat) : Int) - 1) = ((2 ^ L - 1 : Nat) : Int) by omega]
  show IntKind.i64.wrap ((BitVec.ofInt 64 (x : Int) &&& BitVec.ofInt 64 ((2 ^ L - 1 : Nat) : Int)).toNat : Int) = _
  rw [BitVec.toNat_and, BitVec.toNat_ofInt, BitVec.toNat_ofInt, show ((x : Int) % ((2 ^ 64 : Nat) : Int)).toNat = x by omega, show (((2 ^ L - 1 : Nat) : Int) % ((2 ^ 64 : Nat) : Int)).toNat = 2 ^ L - 1 by omega, Nat.and_two_pow_sub_one_eq_mod, Nat.mod_eq_of_lt hx, IntKind.wrap_i64]
  omega

set_option maxHeartbeats 1600000 in
set_option maxRecDepth 100000 in
theorem turned_any (gb go c n L : Nat) (f : Nat → Nat × Nat) (w : World) (hL : L ≤ 12) (hn : n = 2 ^ L) (hx : ∀ i, i < n → w.cell? ⟨gb, go + i, none⟩ = some (cpx (f i))) :
    Calls Tryz.prog 132 #[.slice (some ⟨gb, go, none⟩) n c] w fun e w' => e = .returned (.slice (some ⟨w.heap.size, 0, none⟩) n n) ∧ Below w.heap.size w w' ∧ w'.rowIs w.heap.size 144 n (fun j => cpx (f (rev L j))) := by
  have hp : 2 ^ L ≤ 4096 := Nat.le_trans (Nat.pow_le_pow_right (by decide) hL : 2 ^ L ≤ 2 ^ 12) (by decide)
  have hp0 := Nat.two_pow_pos L
  have hn0 : 0 < n := by omega
  have hn1 : n ≤ 4096 := by omega
  have HX := Lib.hid hx
  have HN := Lib.hid hn
  have HL := Lib.hid hL
  have hgb : gb < w.heap.size := World.block_lt_of_cell? _ _ (hx 0 hn0)
  obtain ⟨m, hm⟩ : ∃ m, m = L + 1 := ⟨_, rfl⟩
  have hlen : Lib.bitLen n = m := by rw [hn, hm]; exact len_pow L hL
  have hm1 : (m : Int) - 1 = (L : Int) := by omega
  have HLEN := Lib.hid hlen
  clear hx hp hp0 hn hlen hm
  have hmk := run_make_row' (P := Tryz.prog) 141 144 (.complex .f64 0 0) 16 Tryz.underlying141 (by kernel_rfl) rfl .i64 .i64 n (by omega) (by omega)
  go_enter Tryz.func132, Tryz.ntmps132
  go_wp2_with (go_at_call 81; refine (Tryz.bits_Len (n : Int) _ (by omega) (by omega)).mono ?_; rintro e w1 ⟨rfl, rfl⟩; (simp only [Int.toNat_natCast, HLEN.out]))
  clear hmk hm1
  go_loopw [17] (fun i wr => ∃ k : Nat, k ≤ n ∧ i = .int .i64 k ∧ wr.rowIs w.heap.size 144 n (rvF L k f) ∧ Below w.heap.size w wr)
    (fun i _ => n + 1 - (intOf i).toNat)
  case atStart => exact ⟨0, by omega, rfl, (World.rowIs_made w _ n _).congr (fun j _ => by unfold rvF; rw [if_neg (by omega)]), (Below.refl _ w).alloc (Nat.le_refl _) _⟩
  case round =>
    obtain ⟨k, hk, rfl, hrow, hbe⟩ := hrel
    by_cases hlt : k < n
    · have hkL : k < 2 ^ L := by rw [← HN.out]; exact hlt
      have hc0 : wr.cell? ⟨gb, go + k, none⟩ = some (.complex .f64 (f k).1 (f k).2) := (hbe.cell (p := ⟨gb, go + k, none⟩) hgb).trans (HX.out k hlt)
      have hj : rev L k < n := by rw [HN.out]; exact rev_lt L k
      have hs0 := hrow.cell hj
      have hf0 := hrow.frozen (rev L k)
      have hsh : ((bitsR k : Nat) : Int) / 2 ^ (32 - L) = ((rev L k : Nat) : Int) := by
        rw [← bitsR_rev HL.out hkL]; push_cast; rfl
      have hw64 : wrap64 ((rev L k : Nat) : Int) = ((rev L k : Nat) : Int) := by unfold wrap64; omega
      have hand := and_mask_i64 (rev L k) L HL.out (rev_lt L k)
      rw [← HN.out] at hand
      go_wp2_with (go_at_call 164; (refine (rev32_any k (by omega) _).mono ?_); rintro e w1 ⟨rfl, rfl⟩)
      go_roundw
      case rel => exact ⟨k + 1, by omega, by go_num, (hrow.set (rev L k) (cpx (f k))).congr (fun j hj => rvF_step HL.out hkL j (by rw [← HN.out]; exact hj)), hbe.setCell (Nat.le_refl _) _⟩
      case measure => simp [intOf]; omega
    · obtain rfl : k = n := by omega
      go_wp2
      go_ret
      exact ⟨rfl, hbe, hrow.congr (fun j hj => by unfold rvF; rw [if_pos (by rw [HN.out]; exact rev_lt L j)])⟩
end Go.Proofs.YtblkejnckbeieaaGreatDoor

namespace Go.Proofs.YtblkejnckbeieaaGreatDoor
open Go.RowKit WaveP WaveP.CxW

theorem floatOf_nat (n : Nat) : floatOfInt .f64 (n : Int) = natW n := by
  have h := natW_eq n
  unfold floatOfInt
  rw [← h]
  rfl
theorem run_cmul {P : Program} {a b c d ac bd ad bc re im : Nat} (h : Prod a b c d ac bd ad bc re im) : ∀ t w, (binOp .mul t (.complex .f64 a b) (.complex .f64 c d)).run P w = .ok (.complex .f64 re im) w := fun t w =>
  run_complex_mul w t a b c d re im (by
    have p1 : floatBits .mul .f64 a c = some ac := h.p1
    have p2 : floatBits .mul .f64 b d = some bd := h.p2
    have p3 : floatBits .sub .f64 ac bd = some re := h.p3
    have p4 : floatBits .mul .f64 a d = some ad := h.p4
    have p5 : floatBits .mul .f64 b c = some bc := h.p5
    have p6 : floatBits .add .f64 ad bc = some im := h.p6
    unfold cMulBits
    rw [p1, Option.bind_some, p2, Option.bind_some, p3, Option.bind_some, p4, Option.bind_some, p5, Option.bind_some, p6, Option.bind_some])
theorem run_cadd {P : Program} {a b c d re im : Nat} (h1 : fmt.add a c = some re) (h2 : fmt.add b d = some im) : ∀ t w, (binOp .add t (.complex .f64 a b) (.complex .f64 c d)).run P w = .ok (.complex .f64 re im) w := fun t w =>
  run_complex_sum w .add (.inl rfl) t .f64 a b c d re im (by
    have p1 : floatBits .add .f64 a c = some re := h1
    have p2 : floatBits .add .f64 b d = some im := h2
    unfold cSumBits
    rw [p1, Option.bind_some, p2, Option.bind_some])
theorem run_csub {P : Program} {a b c d re im : Nat} (h1 : fmt.sub a c = some re) (h2 : fmt.sub b d = some im) : ∀ t w, (binOp .sub t (.complex .f64 a b) (.complex .f64 c d)).run P w = .ok (.complex .f64 re im) w := fun t w =>
  run_complex_sum w .sub (.inr rfl) t .f64 a b c d re im (by
    have p1 : floatBits .sub .f64 a c = some re := h1
    have p2 : floatBits .sub .f64 b d = some im := h2
    unfold cSumBits
    rw [p1, Option.bind_some, p2, Option.bind_some])
theorem and_pow (L : Nat) (hL : L ≤ 12) : bits .and .i64 (((2 ^ L : Nat) : Int)) (((2 ^ L : Nat) : Int) - 1) = 0 := by
  have h : ∀ L, L < 13 → bits .and .i64 (((2 ^ L : Nat) : Int)) (((2 ^ L : Nat) : Int) - 1) = 0 := by decide +kernel
  exact h L (by omega)
end Go.Proofs.YtblkejnckbeieaaGreatDoor

namespace Go.Proofs.YtblkejnckbeieaaGreatDoor
open Go.RowKit WaveP WaveP.CxW
open Go in
theorem run_store_complex' (P : Program) (w : World) (a : Addr) (m : Mode) (k : FloatKind) (x y : Nat) : (store a (.complex k x y) m).run P w = stored P w a (.complex k x y) m := run_store P w a _ m rfl
attribute [local go_sem] run_store_complex'

set_option maxHeartbeats 3200000 in
set_option maxRecDepth 100000 in
theorem forth_any (gb go c n L : Nat) (g : Nat → Nat × Nat) (X : Nat → CxW) (E0 V0 : Rat) (w : World) (hL : L ≤ 12) (hn : n = 2 ^ L) (hx : ∀ i, i < n → w.cell? ⟨gb, go + i, none⟩ = some (cpx (g i)))
    (hN : ∀ i, i < n → Nc (g i).1 (g i).2 (X i) E0) (hX : ∀ j, Bd (X j) V0) (hV1 : 1 ≤ V0) (hV2 : V0 ≤ ((2 ^ 80 : Nat) : Rat)) (hE1 : E0 ≤ V0 / 2) (hT : ∀ w', Below w.heap.size w w' → TabsW w') :
    Calls Tryz.prog 91 #[.slice (some ⟨gb, go, none⟩) n c, .bool false] w fun e w' => ∃ g' : Nat → Nat × Nat, e = .returned (.slice (some ⟨w.heap.size, 0, none⟩) n n) ∧ Below w.heap.size w w' ∧
      w'.rowIs w.heap.size 144 n (fun j => cpx (g' j)) ∧ ∀ p, p < n → Nc (g' p).1 (g' p).2 (F (Zn true) L X p) (El E0 V0 L) := by
  have hp : 2 ^ L ≤ 4096 := Nat.le_trans (Nat.pow_le_pow_right (by decide) hL : 2 ^ L ≤ 2 ^ 12) (by decide)
  have hp0 := Nat.two_pow_pos L
  have hn0 : 0 < n := by omega
  have hn1 : n ≤ 4096 := by omega
  have hand := and_pow L hL
  rw [← hn] at hand
  have HTU := Lib.hid (turned_any gb go c n L g w hL hn hx)
  have HN := Lib.hid hN
  have HE := Lib.hid hn
  have HL := Lib.hid hL
  have HT := Lib.hid hT
  clear hx hp hp0 hN hn hT
  go_enter Tryz.func91, Tryz.ntmps91
  go_wp2_with (go_at_call 132; (refine HTU.out.mono ?_); rintro e w1 ⟨rfl, hb1, hr1⟩)
  clear hand
  have HS := Lib.hid (show St (Zn true) X L E0 V0 0 0 0 (fun j => g (rev L j)) from St_start (fun p hp => HN.out _ (by rw [HE.out]; exact rev_lt L p)))
  have HR := Lib.hid (show w1.rowIs w.heap.size 144 n (fun j => cpx (g (rev L j))) from hr1)
  clear hr1
  go_loopw [8] (fun i wr => ∃ (l sz : Nat) (g1 : Nat → Nat × Nat), l ≤ L ∧ sz = 2 ^ (l + 1) ∧ i = .int .i64 sz ∧ wr.rowIs w.heap.size 144 n (fun j => cpx (g1 j)) ∧ Below w.heap.size w wr ∧ Hid (St (Zn true) X L E0 V0 l 0 0 g1))
    (fun i _ => 16385 - (intOf i).toNat)
  case atStart => exact ⟨0, 2, _, Nat.zero_le _, rfl, rfl, HR.out, hb1, HS⟩
  case round =>
    obtain ⟨l, sz, g1, hlL, hsz, rfl, hrow1, hbe1, hS1⟩ := hrel
    by_cases hl : l < L
    · obtain ⟨hf, hhf⟩ : ∃ hf, hf = 2 ^ l := ⟨_, rfl⟩
      have hsz2 : sz = 2 * hf := by rw [hsz, hhf, Nat.pow_succ, Nat.mul_comm]
      have hszn : sz ≤ n := by rw [hsz, HE.out]; exact Nat.pow_le_pow_right (by decide) hl
      have hhf0 : 0 < hf := by rw [hhf]; exact Nat.two_pow_pos l
      have HHF := Lib.hid hhf
      have HSZ := Lib.hid hsz
      have hq2 : (sz : Int) / 2 = (hf : Int) := by rw [hsz2]; omega
      have HSZ2 := Lib.hid hsz2
      clear hhf hsz hsz2
      go_wp2
      go_loopw [44] (fun i wr => ∃ (k : Nat) (g2 : Nat → Nat × Nat), k ≤ hf ∧ i = .int .i64 k ∧ wr.rowIs w.heap.size 144 n (fun j => cpx (g2 j)) ∧ Below w.heap.size w wr ∧ Hid (St (Zn true) X L E0 V0 l k 0 g2))
        (fun i _ => hf + 1 - (intOf i).toNat)
      case atStart => exact ⟨0, g1, Nat.zero_le _, rfl, hrow1, hbe1, hS1⟩
      case round =>
        obtain ⟨k, g2, hk, rfl, hrow2, hbe2, hS2⟩ := hrel
        by_cases hkl : k < hf
        · obtain ⟨x, s, cc, hTn, hNc⟩ := tw_words true (l := l + 1) (k := k) (by omega) (by have := HL.out; omega) (by rw [Nat.add_sub_cancel, ← HHF.out]; exact hkl)
          obtain ⟨a, ha1, ha2⟩ := angle_steps true (l := l + 1) (k := k) (by omega) (by have := HL.out; omega) (by rw [Nat.add_sub_cancel, ← HHF.out]; exact hkl) hTn.1
          rw [← HSZ.out] at ha2
          have f1 : ∀ t w, (binOp .mul t (.float .f64 13830554455654793216) (.float .f64 4611686018427387904)).run Tryz.prog w = .ok (.float .f64 (fl true 4611686018427387904)) w := run_mulO (first_eq true).1
          have f2 : ∀ t w, (binOp .mul t (.float .f64 (fl true 4611686018427387904)) (.float .f64 4614256656552045848)).run Tryz.prog w = .ok (.float .f64 (half2 true)) w := run_mulO (first_eq true).2
          have f3 : ∀ t w, (binOp .mul t (.float .f64 (half2 true)) (.float .f64 (natW k))).run Tryz.prog w = .ok (.float .f64 a) w := run_mulO ha1
          have f4 : ∀ t w, (binOp .quo t (.float .f64 a) (.float .f64 (natW sz))).run Tryz.prog w = .ok (.float .f64 (fl true x)) w := run_divO ha2
          have f5 := floatOf_nat k
          have f6 := floatOf_nat sz
          have HX2 := Lib.hid (hbe2)
          go_wp2_with (go_at_call 133; (refine (sincos_turn true hTn _ (HT.out _ HX2.out)).mono ?_); rintro e w2 ⟨rfl, rfl⟩)
          clear f1 f2 f3 f4 f5 f6
          have HB := Lib.hid (show ∃ B, B = 2 ^ (L - l - 1) ∧ n = B * sz from ⟨_, rfl, by rw [HE.out, HSZ.out, ← Nat.pow_add]; congr 1; omega⟩)
          obtain ⟨B, hB, hnB⟩ := HB.out
          have HBB := Lib.hid hB
          have HNB := Lib.hid hnB
          clear HB hB hnB
          go_loopw [14] (fun i wr => ∃ (b p : Nat) (g3 : Nat → Nat × Nat), b ≤ B ∧ p = b * sz + k ∧ i = .int .i64 p ∧ wr.rowIs w.heap.size 144 n (fun j => cpx (g3 j)) ∧ Below w.heap.size w wr ∧ Hid (St (Zn true) X L E0 V0 l k b g3))
            (fun i _ => 16385 - (intOf i).toNat)
          case atStart => exact ⟨0, k, g2, Nat.zero_le _, by omega, rfl, hrow2, hbe2, hS2⟩
          case round =>
            obtain ⟨b, p, g3, hbB, hp, rfl, hrow3, hbe3, hS3⟩ := hrel
            have HP := Lib.hid hp
            by_cases hb : b < B
            · have hpn : p + hf < n := by
                have e1 : (b + 1) * sz ≤ B * sz := Nat.mul_le_mul_right _ hb
                rw [← HNB.out, Nat.add_mul, Nat.one_mul] at e1
                have := HSZ2.out
                omega
              clear hp
              obtain ⟨ac, bd, ad, bc, tr, ti, pr, pi, qr, qi, P1, P2, P3, P4, P5, P6⟩ := St_step (Zn_roots true) (Rat.le_refl) hX hV1 hV2 hE1 hl HL.out (by rw [← HHF.out]; exact hkl) (by rw [← HBB.out]; exact hb) hNc hS3.out (lo := p) (hi := p + hf) (by rw [HP.out, HSZ.out]) (by rw [HP.out, HSZ.out, HHF.out]; omega)
              have l0 : wr.cell? ⟨w.heap.size, p, none⟩ = some (.complex .f64 (g3 p).1 (g3 p).2) := hrow3.cell (by omega)
              have l1 : wr.cell? ⟨w.heap.size, p + hf, none⟩ = some (.complex .f64 (g3 (p + hf)).1 (g3 (p + hf)).2) := hrow3.cell hpn
              have z0 := hrow3.frozen p
              have z1 := hrow3.frozen (p + hf)
              have q1 := run_cmul (P := Tryz.prog) P1
              have q2 := run_cadd (P := Tryz.prog) P2 P3
              have q3 := run_csub (P := Tryz.prog) P4 P5
              have HP6 := Lib.hid P6
              clear P1 P2 P3 P4 P5 P6
              go_wp2
              go_quiet (fail)
              go_wp2
              go_roundw
              case rel =>
                refine ⟨b + 1, p + sz, _, by omega, by rw [HP.out, Nat.add_mul, Nat.one_mul]; omega, by go_num, ((hrow3.set p (cpx (pr, pi))).set (p + hf) (cpx (qr, qi))).congr (fun j _ => ?_), ((below_drewN hbe3 _).setCell (p := ⟨w.heap.size, p, none⟩) (Nat.le_refl _) _).setCell (p := ⟨w.heap.size, p + hf, none⟩) (Nat.le_refl _) _, HP6⟩
                by_cases e1 : j = p + hf
                · simp only [if_pos e1]
                · by_cases e2 : j = p
                  · simp only [if_neg e1, if_pos e2]
                  · simp only [if_neg e1, if_neg e2]
              case measure => have := HSZ2.out; simp [intOf]; omega
            · have hpn : n ≤ p := by
                obtain rfl : b = B := by omega
                rw [HP.out, HNB.out]; omega
              obtain rfl : b = B := by omega
              have HK := Lib.hid (St_k hl (by rw [← HBB.out]; exact hS3.out))
              clear hp
              go_wp2
              go_roundw
              case rel => exact ⟨k + 1, g3, by omega, by go_num, hrow3, hbe3, HK⟩
              case measure => simp [intOf]; omega
        · obtain rfl : k = hf := by omega
          have HK := Lib.hid (St_l (by rw [← HHF.out]; exact hS2.out))
          go_wp2
          go_roundw
          case rel => exact ⟨l + 1, sz * 2, g2, hl, by rw [HSZ.out, Nat.pow_succ 2 (l + 1)], by go_num, hrow2, hbe2, HK⟩
          case measure => have := HSZ2.out; simp [intOf]; omega
    · obtain rfl : l = L := by omega
      have hgt : n < sz := by rw [hsz, HE.out, Nat.pow_succ]; have := Nat.two_pow_pos l; omega
      clear hsz
      go_wp2
      go_ret
      exact ⟨g1, rfl, hbe1, hrow1, fun p hp => St_end hS1.out p (by rw [← HE.out]; exact hp)⟩
end Go.Proofs.YtblkejnckbeieaaGreatDoor

namespace Go.Proofs.YtblkejnckbeieaaGreatDoor.WaveP
open CxW

theorem prod_of {a b c d : Nat} {x y : CxW} {E R : Rat} (ha : Nc a b x E) (hb : Nc c d y E) (hx : Bd x R) (hy : Bd y R) (hE : E ≤ R) (h1 : 1 ≤ R) (h2 : R ≤ ((2 ^ 60 : Nat) : Rat)) :
    ∃ ac bd ad bc re im, Prod a b c d ac bd ad bc re im ∧ Nc re im (x * y) (3 * (R * E) + 30 * (R * R * uu)) := by
  have hE0 := ha.2.2.1
  have b1 := (ha.2.2.near hx).mono (show R + E ≤ 2 * R by grind)
  have b2 := (hb.2.2.near hy).mono (show R + E ≤ 2 * R by grind)
  have hRR : R * R ≤ ((2 ^ 60 : Nat) : Rat) * ((2 ^ 60 : Nat) : Rat) := by
    have := Rat.mul_le_mul_of_nonneg_right h2 (show 0 ≤ R by grind)
    have := Rat.mul_le_mul_of_nonneg_left h2 (show (0 : Rat) ≤ ((2 ^ 60 : Nat) : Rat) by exact_mod_cast Nat.zero_le _)
    grind
  have hR1 : 1 ≤ R * R := by
    have := Rat.mul_le_mul_of_nonneg_right h1 (show 0 ≤ R by grind)
    grind
  have hlim : 4 * (((2 ^ 60 : Nat) : Rat) * ((2 ^ 60 : Nat) : Rat)) ≤ ((2 ^ 200 : Nat) : Rat) := by decide +kernel
  obtain ⟨ac, bd, ad, bc, re, im, hP, f1, f2, hN⟩ := prod_near (M := 4 * (R * R)) ha.1 ha.2.1 hb.1 hb.2.1 b1 b2 (by grind) (by grind) (by grind)
  refine ⟨ac, bd, ad, bc, re, im, hP, f1, f2, ?_⟩
  have e : cv2 re im - x * y = (cv2 re im - cv2 a b * cv2 c d) + ((cv2 a b - x) * cv2 c d + x * (cv2 c d - y)) := by
    apply CxW.ext' <;> simp only [add_re, add_im, sub_re, sub_im, mul_re, mul_im] <;> grind
  rw [e]
  have c1 := (ha.2.2.mul b2).add (hx.mul hb.2.2)
  exact (hN.add c1).mono (by grind)

/-- What the way back gives, so many times the numbers. -/
theorem back_of {Z : Nat → CxW} (hZ : Roots Z tau) {L m a b : Nat} {C : Nat → CxW} {E0 V0 V : Rat} (hL : L ≤ 12) (hm : m < 2 ^ L) (hV : 0 ≤ V) (hC : ∀ j, j < 2 ^ L → Bd (C j) V)
    (h : Nc a b (F (fun l => conj (Z l)) L (F Z L C) m) (El E0 V0 L)) :
    Bd (cv2 a b - ⟨(2 ^ L : Nat), 0⟩ * C m) (El E0 V0 L + 600000000000 * V * tau) := by
  have hb := F_back hZ hV L C m hL hm hC
  have := h.2.2.add hb
  rw [← sub_split] at this
  exact this
theorem el_le {E0 V0 : Rat} {L : Nat} (hL : L ≤ 12) (hV0 : 0 ≤ V0) : El E0 V0 L ≤ ((2 ^ L : Nat) : Rat) * (E0 + 396 * (V0 * uu)) := by
  unfold El
  have hp : (0 : Rat) ≤ ((2 ^ L : Nat) : Rat) := by exact_mod_cast Nat.zero_le _
  have hl : (L : Rat) ≤ 12 := by exact_mod_cast hL
  have hvu : 0 ≤ V0 * uu := Rat.mul_nonneg hV0 (by decide +kernel)
  refine Rat.mul_le_mul_of_nonneg_left ?_ hp
  have := Rat.mul_le_mul_of_nonneg_right hl hvu
  grind
/-- The parts, divided by the number of places. -/
theorem back_parts {L a b : Nat} {c : CxW} {r D V E0 V0 T : Rat} (hL : L ≤ 12) (hV0 : 0 ≤ V0) (hr0 : 0 ≤ r) (hr1 : r ≤ 1) (hr : r * ((2 ^ L : Nat) : Rat) = 1) (hc : Bd c V) (hT : 0 ≤ T)
    (h : Bd (cv2 a b - ⟨(2 ^ L : Nat), 0⟩ * c) (El E0 V0 L + T)) (hD : D = E0 + 396 * (V0 * uu) + T) (hE0 : 0 ≤ E0) :
    (-D ≤ val a * r - c.re ∧ val a * r - c.re ≤ D) ∧ (-D ≤ val b * r - c.im ∧ val b * r - c.im ≤ D) ∧ (-(4096 * (V + D)) ≤ val a ∧ val a ≤ 4096 * (V + D)) ∧ (-(4096 * (V + D)) ≤ val b ∧ val b ≤ 4096 * (V + D)) := by
  have hel := el_le (E0 := E0) hL hV0
  have hp : (0 : Rat) ≤ ((2 ^ L : Nat) : Rat) := by exact_mod_cast Nat.zero_le _
  have hn : ((2 ^ L : Nat) : Rat) ≤ 4096 := by
    have : 2 ^ L ≤ 2 ^ 12 := Nat.pow_le_pow_right (by decide) hL
    exact_mod_cast this
  have hvu : 0 ≤ V0 * uu := Rat.mul_nonneg hV0 (by decide +kernel)
  generalize hN : ((2 ^ L : Nat) : Rat) = N at *
  have hD0 : 0 ≤ D := by rw [hD]; grind
  have h1 : 1 ≤ N := by
    have := Rat.mul_le_mul_of_nonneg_right hr1 hp
    grind
  have hNT : T ≤ N * T := by
    have := Rat.mul_le_mul_of_nonneg_right h1 hT
    grind
  have hb : Bd (cv2 a b - ⟨N, 0⟩ * c) (N * D) := h.mono (by rw [hD]; grind)
  have k1 := hb.re
  have k2 := hb.im
  have c1 := hc.re
  have c2 := hc.im
  have e1 : (cv2 a b - ⟨N, 0⟩ * c).re = val a - N * c.re := by simp only [sub_re, mul_re, cv2]; grind
  have e2 : (cv2 a b - ⟨N, 0⟩ * c).im = val b - N * c.im := by simp only [sub_im, mul_im, cv2]; grind
  rw [e1] at k1
  rw [e2] at k2
  have hV := hc.1
  have part : ∀ x y : Rat, -(N * D) ≤ x - N * y → x - N * y ≤ N * D → -V ≤ y → y ≤ V → (-D ≤ x * r - y ∧ x * r - y ≤ D) ∧ (-(4096 * (V + D)) ≤ x ∧ x ≤ 4096 * (V + D)) := fun x y g1 g2 g3 g4 => by
    have m1 := Rat.mul_le_mul_of_nonneg_right g1 hr0
    have m2 := Rat.mul_le_mul_of_nonneg_right g2 hr0
    have q1 : N * D * r = D := by grind
    have q2 : (x - N * y) * r = x * r - y := by grind
    rw [q2] at m1 m2
    have n1 := Rat.mul_le_mul_of_nonneg_left g3 hp
    have n2 := Rat.mul_le_mul_of_nonneg_left g4 hp
    have n3 := Rat.mul_le_mul_of_nonneg_right hn (show 0 ≤ V + D by grind)
    refine ⟨⟨by grind, by grind⟩, by grind, by grind⟩
  obtain ⟨p1, p2⟩ := part _ _ k1.1 k1.2 c1.1 c1.2
  obtain ⟨p3, p4⟩ := part _ _ k2.1 k2.2 c2.1 c2.2
  exact ⟨p1, p3, p2, p4⟩
end Go.Proofs.YtblkejnckbeieaaGreatDoor.WaveP
