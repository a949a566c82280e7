/- What the transform's places hold, level by level. -/
import Derived.Test.YtnjmefjcaiepfaaDoorWFly
import Derived.Test.YtnjmefjcaiepfaaDoorWRoot
namespace Go.Proofs.YtnjmefjcaiepfaaDoor.WaveP
open Cx

/-- The lowest m bits the other way round. -/
def rev : Nat → Nat → Nat
  | 0, _ => 0
  | m + 1, b => b % 2 * 2 ^ m + rev m (b / 2)
theorem rev_succ (m b : Nat) : rev (m + 1) b = b % 2 * 2 ^ m + rev m (b / 2) := rfl
theorem rev_even (m b : Nat) : rev (m + 1) (2 * b) = rev m b := by
  rw [rev_succ, Nat.mul_mod_right, Nat.zero_mul, Nat.zero_add, Nat.mul_div_cancel_left _ (by decide)]
theorem rev_odd (m b : Nat) : rev (m + 1) (2 * b + 1) = 2 ^ m + rev m b := by
  rw [rev_succ, show (2 * b + 1) % 2 = 1 by omega, show (2 * b + 1) / 2 = b by omega, Nat.one_mul]
theorem rev_lt : ∀ m b, rev m b < 2 ^ m := by
  intro m
  induction m with
  | zero => intro b; show 0 < 1; decide
  | succ m ih =>
    intro b
    rw [rev_succ]
    have := ih (b / 2)
    rw [Nat.pow_succ]
    rcases Nat.mod_two_eq_zero_or_one b with h | h <;> rw [h] <;> omega

/-- The numbers that the block b of 2^l places tells. -/
def xs (X : Nat → Cx) (L l b : Nat) (j : Nat) : Cx := X (j * 2 ^ (L - l) + rev (L - l) b)
theorem xs_even (X : Nat → Cx) {L l : Nat} (h : l < L) (b : Nat) : (fun j => xs X L (l + 1) b (2 * j)) = xs X L l (2 * b) := by
  funext j
  unfold xs
  obtain ⟨m, hm⟩ : ∃ m, L - l = m + 1 := ⟨L - l - 1, by omega⟩
  rw [show L - (l + 1) = m by omega, hm, rev_even, Nat.pow_succ]
  congr 2
  rw [Nat.mul_comm 2 j, Nat.mul_assoc, Nat.mul_comm 2]
theorem xs_odd (X : Nat → Cx) {L l : Nat} (h : l < L) (b : Nat) : (fun j => xs X L (l + 1) b (2 * j + 1)) = xs X L l (2 * b + 1) := by
  funext j
  unfold xs
  obtain ⟨m, hm⟩ : ∃ m, L - l = m + 1 := ⟨L - l - 1, by omega⟩
  rw [show L - (l + 1) = m by omega, hm, rev_odd, Nat.pow_succ, Nat.add_mul, Nat.one_mul, Nat.mul_comm 2 j, Nat.mul_assoc, Nat.mul_comm 2, Nat.add_assoc]
/-- How near the level l is. -/
def El (E0 V0 : Rat) (l : Nat) : Rat := ((2 ^ l : Nat) : Rat) * (E0 + 33 * (l : Rat) * (V0 * uu))
def Vl (V0 : Rat) (l : Nat) : Rat := ((2 ^ l : Nat) : Rat) * V0
/-- The level's true number at the block b, the place k. -/
def Gl (Z : Nat → Cx) (X : Nat → Cx) (L l b k : Nat) : Cx := F Z l (xs X L l b) k
theorem Gl_zero (Z X : Nat → Cx) (L b k : Nat) : Gl Z X L 0 b k = X (rev L b) := by
  unfold Gl xs
  rw [F_zero, Nat.zero_mul, Nat.zero_add, Nat.sub_zero]
theorem Gl_top (Z X : Nat → Cx) (L k : Nat) : Gl Z X L L 0 k = F Z L X k := by
  unfold Gl
  congr 1
  funext j
  unfold xs
  rw [Nat.sub_self, Nat.pow_zero, Nat.mul_one]
  rfl
section
variable {Z : Nat → Cx} {t : Rat}
theorem level_step (hZ : Roots Z t) (ht : t ≤ tau) {X : Nat → Cx} {V0 E0 : Rat} (hX : ∀ j, Bd (X j) V0) (hV1 : 1 ≤ V0) (hV2 : V0 ≤ ((2 ^ 80 : Nat) : Rat)) (hE1 : E0 ≤ V0 / 2) {L l b k : Nat} (hl : l < L) (hL : L ≤ 12)
    {ar ai br bi c s : Nat} (ha : Nc ar ai (Gl Z X L l (2 * b) k) (El E0 V0 l)) (hb : Nc br bi (Gl Z X L l (2 * b + 1) k) (El E0 V0 l)) (hw : Nc c s (pow (Z (l + 1)) k) (1 / 562949953421312)) :
    ∃ ac bd ad bc tr ti pr pi qr qi, Prod br bi c s ac bd ad bc tr ti ∧ fmt.add ar tr = some pr ∧ fmt.add ai ti = some pi ∧ fmt.sub ar tr = some qr ∧ fmt.sub ai ti = some qi ∧
      Nc pr pi (Gl Z X L (l + 1) b k) (El E0 V0 (l + 1)) ∧ Nc qr qi (Gl Z X L (l + 1) b (k + 2 ^ l)) (El E0 V0 (l + 1)) := by
  have hV0 : 0 ≤ V0 := by grind
  have hl12 : l < 12 := by omega
  have hx : ∀ b j, Bd (xs X L l b j) V0 := fun b j => hX _
  have hx1 : ∀ j, Bd (xs X L (l + 1) b j) V0 := fun j => hX _
  have ba := F_bd hZ l (xs X L l (2 * b)) k (by omega) (fun j _ => hx _ j)
  have bb := F_bd hZ l (xs X L l (2 * b + 1)) k (by omega) (fun j _ => hx _ j)
  have hp1 : (1 : Rat) ≤ ((2 ^ l : Nat) : Rat) := by exact_mod_cast Nat.one_le_two_pow
  have hp2 : ((2 ^ l : Nat) : Rat) ≤ 4096 := by
    have : 2 ^ l ≤ 2 ^ 12 := Nat.pow_le_pow_right (by decide) (by omega)
    have h' : 2 ^ l ≤ 4096 := this
    exact_mod_cast h'
  have hlr : (l : Rat) ≤ 12 := by exact_mod_cast (show l ≤ 12 by omega)
  have hl0 : (0 : Rat) ≤ (l : Rat) := by exact_mod_cast Nat.zero_le l
  have hvu0 : 0 ≤ V0 * uu := Rat.mul_nonneg hV0 (by decide +kernel)
  have hvu : V0 * uu ≤ V0 / 65536 := by unfold uu; grind
  have hlv : 33 * (l : Rat) * (V0 * uu) ≤ 396 * (V0 * uu) := by
    have := Rat.mul_le_mul_of_nonneg_right hlr hvu0
    grind
  have hEV : El E0 V0 l ≤ ((2 ^ l : Nat) : Rat) * V0 := by
    unfold El
    exact Rat.mul_le_mul_of_nonneg_left (by grind) (by grind)
  have hVb : ((2 ^ l : Nat) : Rat) * V0 ≤ ((2 ^ 100 : Nat) : Rat) := by
    have h1 := Rat.mul_le_mul_of_nonneg_right hp2 hV0
    have h2 : 4096 * ((2 ^ 80 : Nat) : Rat) ≤ ((2 ^ 100 : Nat) : Rat) := by decide +kernel
    grind
  have hV11 : 1 ≤ ((2 ^ l : Nat) : Rat) * V0 := by
    have := Rat.mul_le_mul_of_nonneg_right hp1 hV0
    grind
  obtain ⟨ac, bd, ad, bc, tr, ti, pr, pi, qr, qi, hP, s1, s2, s3, s4, np, nq⟩ := fly_near (w := pow (Z (l + 1)) k) (V := ((2 ^ l : Nat) : Rat) * V0) (E := El E0 V0 l) ha hb hw ((hZ.bd (l + 1) (by omega)).pow k) ba bb hEV hV11 hVb rfl
  refine ⟨ac, bd, ad, bc, tr, ti, pr, pi, qr, qi, hP, s1, s2, s3, s4, ?_, ?_⟩
  · have e : Gl Z X L (l + 1) b k = Gl Z X L l (2 * b) k + pow (Z (l + 1)) k * Gl Z X L l (2 * b + 1) k := by
      unfold Gl
      rw [F_succ, xs_even X hl, xs_odd X hl]
    rw [e]
    refine np.mono ?_
    unfold El
    have h2 : ((2 ^ (l + 1) : Nat) : Rat) = 2 * ((2 ^ l : Nat) : Rat) := by rw [Nat.pow_succ, Nat.mul_comm]; exact_mod_cast rfl
    have h3 : ((l + 1 : Nat) : Rat) = (l : Rat) + 1 := by simp
    rw [h2, h3]
    generalize ((2 ^ l : Nat) : Rat) = P at *
    have : 0 ≤ P * (V0 * uu) := Rat.mul_nonneg (by grind) hvu0
    grind
  · have hh := F_half hZ hV0 l (xs X L (l + 1) b) k hl12 (fun j _ => hx1 j)
    rw [xs_even X hl, xs_odd X hl] at hh
    have n2 := nq.to hh
    refine n2.mono ?_
    unfold El
    have h2 : ((2 ^ (l + 1) : Nat) : Rat) = 2 * ((2 ^ l : Nat) : Rat) := by rw [Nat.pow_succ, Nat.mul_comm]; exact_mod_cast rfl
    have h3 : ((l + 1 : Nat) : Rat) = (l : Rat) + 1 := by simp
    rw [h2, h3]
    have ht2 : 150000000 * V0 * t ≤ V0 * uu := by
      have a1 : 150000000 * V0 * t ≤ 150000000 * V0 * tau := Rat.mul_le_mul_of_nonneg_left ht (by grind)
      have a2 : 150000000 * tau ≤ uu := by decide +kernel
      have a3 := Rat.mul_le_mul_of_nonneg_left a2 hV0
      grind
    generalize ((2 ^ l : Nat) : Rat) = P at *
    have : 0 ≤ P * (V0 * uu) := Rat.mul_nonneg (by grind) hvu0
    have h5 : V0 * uu ≤ P * (V0 * uu) := by
      have := Rat.mul_le_mul_of_nonneg_right hp1 hvu0
      grind
    grind
end

end Go.Proofs.YtnjmefjcaiepfaaDoor.WaveP
