/- Quotients of doubles, and whole numbers as doubles. -/
import Derived.Test.YtnjmefjcaiepfaaDoorWNear
namespace Go.Proofs.YtnjmefjcaiepfaaDoor.WaveP

/-- So many digits more in front of a division. -/
def more (m n : Nat) : Nat := 54 + n.log2 - m.log2
def quo (m n : Nat) : Nat := 2 * (m * 2 ^ more m n / n) + (bif Nat.beq (m * 2 ^ more m n % n) 0 then 0 else 1)
def divN (x y : Nat) : Nat := wd (sg x ^^ sg y) (rnd (quo (mg (rg x)) (mg (rg y))) (pl (rg x) + c74) (pl (rg y) + more (mg (rg x)) (mg (rg y)) + 1))
theorem div_eq {x y : Nat} (hx : fin x = true) (hy : fin y = true) (h0 : mg (rg y) ≠ 0) : fmt.div x y = some (divN x y) := by
  unfold Ieee.Format.div
  rw [read_fin hx, read_fin hy]
  unfold Ieee.Datum.quotient
  dsimp only
  rw [if_neg h0]
  have hmore : fmt.fractionBits + 2 + (mg (rg y)).log2 - (mg (rg x)).log2 = more (mg (rg x)) (mg (rg y)) := rfl
  rw [hmore, Nat.shiftLeft_eq]
  have hq : 2 * (mg (rg x) * 2 ^ more (mg (rg x)) (mg (rg y)) / mg (rg y)) + (mg (rg x) * 2 ^ more (mg (rg x)) (mg (rg y)) % mg (rg y) != 0).toNat = quo (mg (rg x)) (mg (rg y)) := by
    unfold quo
    congr 1
    rw [toNat_bif, bne, beq_eq]
    by_cases h : mg (rg x) * 2 ^ more (mg (rg x)) (mg (rg y)) % mg (rg y) = 0
    · rw [h]; rfl
    · rw [decide_eq_false h, beq_eq_false_iff_ne.2 h]; rfl
  rw [hq]
  show some (fmt.nearest _ _ _) = _
  rw [nearest_eq (p := pl (rg x) + c74) (b := pl (rg y) + more (mg (rg x)) (mg (rg y)) + 1) _ _ _ (by unfold c74; omega), word_wd]
  rfl
theorem quo_near {m n : Nat} (hm : m ≠ 0) (hn : n ≠ 0) : 2 ^ 54 ≤ quo m n ∧ quo m n * n ≤ 2 * (m * 2 ^ more m n) + n ∧ 2 * (m * 2 ^ more m n) ≤ quo m n * n + n := by
  obtain ⟨d, hd⟩ : ∃ d, m * 2 ^ more m n = d := ⟨_, rfl⟩
  have h1 := Nat.div_add_mod d n
  have h2 := Nat.mod_lt d (Nat.pos_of_ne_zero hn)
  have hbig : n * 2 ^ 53 ≤ d := by
    have a1 := Nat.log2_self_le hm
    have a2 := Nat.lt_log2_self (n := n)
    have a3 : 2 ^ (n.log2 + 1) * 2 ^ 53 ≤ 2 ^ m.log2 * 2 ^ more m n := by
      rw [← Nat.pow_add, ← Nat.pow_add]
      exact Nat.pow_le_pow_right (by decide) (by unfold more; omega)
    have a4 : n * 2 ^ 53 ≤ 2 ^ (n.log2 + 1) * 2 ^ 53 := Nat.mul_le_mul_right _ (Nat.le_of_lt a2)
    have a5 : 2 ^ m.log2 * 2 ^ more m n ≤ m * 2 ^ more m n := Nat.mul_le_mul_right _ a1
    rw [← hd]
    exact Nat.le_trans a4 (Nat.le_trans a3 a5)
  have hq : 2 ^ 53 ≤ d / n := by
    rw [Nat.le_div_iff_mul_le (Nat.pos_of_ne_zero hn), Nat.mul_comm]
    exact hbig
  have e54 : (2 : Nat) ^ 54 = 2 ^ 53 * 2 := Nat.pow_succ ..
  unfold quo
  rw [hd]
  generalize d / n = k at h1 hq
  generalize d % n = r at h1 h2
  have e1 : (2 * k + (bif Nat.beq r 0 then 0 else 1)) * n = 2 * (n * k) + (bif Nat.beq r 0 then 0 else 1) * n := by rw [Nat.add_mul, Nat.mul_assoc, Nat.mul_comm k n]
  rw [e1]
  refine ⟨by omega, ?_⟩
  by_cases h : r = 0
  · rw [beq_t h, cond_true]; omega
  · rw [beq_f h, cond_false]; omega

theorem div_near {x y : Nat} {T M : Rat} (hx : fin x = true) (hy : fin y = true) (h0 : mg (rg y) ≠ 0) (hT : T * val y = val x) (h1 : -M ≤ T) (h2 : T ≤ M) (hM : M + M ≤ big) :
    fmt.div x y = some (divN x y) ∧ Nr (divN x y) T (M / 2251799813685248 + e0) := by
  refine ⟨div_eq hx hy h0, ?_⟩
  have he := e0_pos
  have hM0 : 0 ≤ M := by grind
  have hun : ∀ r, ((un r : Nat) : Rat) = (mg r : Rat) * ((2 ^ pl r : Nat) : Rat) := un_cast
  by_cases hm0 : mg (rg x) = 0
  · -- the nought
    have hvx : val x = 0 := by unfold val; rw [hun, hm0]; grind
    have hvy : val y ≠ 0 := by
      intro h
      unfold val at h
      rw [hun] at h
      have g1 : (mg (rg y) : Rat) ≠ 0 := by exact_mod_cast h0
      have g2 := Rat.ne_of_gt (pw_pos (pl (rg y)))
      rcases Rat.mul_eq_zero.1 h with h3 | h3
      · rcases Rat.mul_eq_zero.1 h3 with h4 | h4
        · rcases sn_cases (sg y) with h5 | h5 <;> rw [h5] at h4 <;> exact absurd h4 (by decide +kernel)
        · rcases Rat.mul_eq_zero.1 h4 with h5 | h5
          · exact g1 h5
          · exact g2 h5
      · rw [h3] at he; exact absurd he Rat.lt_irrefl
    have hT0 : T = 0 := by
      rw [hvx] at hT
      rcases Rat.mul_eq_zero.1 hT with h | h
      · exact h
      · exact absurd h hvy
    have hq0 : quo (mg (rg x)) (mg (rg y)) = 0 := by unfold quo; rw [hm0]; simp
    unfold divN
    rw [hq0, rnd_zero]
    refine ⟨fin_wd (by decide), ?_⟩
    rw [val_wd (by decide), un_low (by decide), hT0]
    have : M / 2251799813685248 = M * (1 / 2251799813685248) := by grind
    constructor <;> grind
  · obtain ⟨q1, q2, q3⟩ := quo_near hm0 h0
    obtain ⟨mo, hmo⟩ : ∃ mo, more (mg (rg x)) (mg (rg y)) = mo := ⟨_, rfl⟩
    unfold divN
    rw [hmo] at q2 q3 ⊢
    generalize quo (mg (rg x)) (mg (rg y)) = Q at q1 q2 q3 ⊢
    have hyr : (0 : Rat) < (mg (rg y) : Rat) := by exact_mod_cast Nat.pos_of_ne_zero h0
    -- the true number, and the one that is rounded
    obtain ⟨q, hq⟩ : ∃ q : Rat, q * ((2 ^ (pl (rg y) + mo + 1) : Nat) : Rat) = (Q : Rat) * ((2 ^ (pl (rg x) + c74) : Nat) : Rat) :=
      ⟨(Q : Rat) * ((2 ^ (pl (rg x) + c74) : Nat) : Rat) / ((2 ^ (pl (rg y) + mo + 1) : Nat) : Rat), Rat.div_mul_cancel (Rat.ne_of_gt (pw_pos _))⟩
    have p1 : ((2 ^ (pl (rg y) + mo + 1) : Nat) : Rat) = ((2 ^ pl (rg y) : Nat) : Rat) * ((2 ^ mo : Nat) : Rat) * 2 := by rw [Nat.pow_succ, Nat.pow_add]; exact_mod_cast rfl
    have p2 : ((2 ^ (pl (rg x) + c74) : Nat) : Rat) = ((2 ^ pl (rg x) : Nat) : Rat) * ((2 ^ c74 : Nat) : Rat) := by rw [Nat.pow_add]; exact_mod_cast rfl
    have r2 : (Q : Rat) * (mg (rg y) : Rat) ≤ 2 * ((mg (rg x) : Rat) * ((2 ^ mo : Nat) : Rat)) + (mg (rg y) : Rat) := by exact_mod_cast q2
    have r3 : 2 * ((mg (rg x) : Rat) * ((2 ^ mo : Nat) : Rat)) ≤ (Q : Rat) * (mg (rg y) : Rat) + (mg (rg y) : Rat) := by exact_mod_cast q3
    have q1' : 18014398509481984 ≤ Q := q1
    have r1 : (18014398509481984 : Rat) ≤ (Q : Rat) := by exact_mod_cast q1'
    have hv : T * (sn (sg y) * ((mg (rg y) : Rat) * ((2 ^ pl (rg y) : Nat) : Rat))) = sn (sg x) * ((mg (rg x) : Rat) * ((2 ^ pl (rg x) : Nat) : Rat)) := by
      unfold val at hT
      rw [hun, hun] at hT
      have := Rat.ne_of_gt he
      have h3 : (T * (sn (sg y) * ((mg (rg y) : Rat) * ((2 ^ pl (rg y) : Nat) : Rat))) - sn (sg x) * ((mg (rg x) : Rat) * ((2 ^ pl (rg x) : Nat) : Rat))) * e0 = 0 := by grind
      rcases Rat.mul_eq_zero.1 h3 with h4 | h4
      · grind
      · exact absurd h4 this
    obtain ⟨s, hs⟩ : ∃ s, sn (sg x ^^ sg y) = s := ⟨_, rfl⟩
    have hss : s * s = 1 := by rw [← hs]; exact sn_sq _
    have hsx : s * sn (sg y) = sn (sg x) := by rw [← hs, sn_xor]; have := sn_sq (sg y); grind
    have hsp : s = 1 ∨ s = -1 := by rw [← hs]; exact sn_cases _
    have hsy : sn (sg y) = 1 ∨ sn (sg y) = -1 := sn_cases _
    have hbig : M + M ≤ big := hM
    have c1 := e0_mul
    have x1 := pw_pos (pl (rg y))
    have x2 := pw_pos mo
    have x3 := pw_pos (pl (rg x))
    have key : ∀ (hg0 : 0 ≤ q * e0) (hgt : (q * e0 - s * T) * 18014398509481984 ≤ q * e0) (hgt2 : (s * T - q * e0) * 18014398509481984 ≤ q * e0),
        Nr (wd (sg x ^^ sg y) (rnd Q (pl (rg x) + c74) (pl (rg y) + mo + 1))) T (M / 2251799813685248 + e0) := fun hg0 hgt hgt2 => by
      have hTs : T = s * (s * T) := by grind
      have hst : -M ≤ s * T ∧ s * T ≤ M := by rcases hsp with h | h <;> rw [h] <;> constructor <;> grind
      obtain ⟨t1, t2⟩ := hst
      have n := wd_near (neg := sg x ^^ sg y) (m := Q) (p := pl (rg x) + c74) (b := pl (rg y) + mo + 1) (q := q) (T := s * q * e0) (M := M + M) hq (by rw [hs]) (by rcases hsp with h | h <;> rw [h] <;> grind) (by rcases hsp with h | h <;> rw [h] <;> grind) hbig
      obtain ⟨n1, n2, n3⟩ := n
      refine ⟨n1, ?_, ?_⟩
      · rcases hsp with h | h <;> rw [h] at n2 n3 hTs hgt hgt2 t1 t2 <;> grind
      · rcases hsp with h | h <;> rw [h] at n2 n3 hTs hgt hgt2 t1 t2 <;> grind
    rw [p1, p2] at hq
    generalize (mg (rg y) : Rat) = ny at *
    generalize (mg (rg x) : Rat) = nx at *
    generalize ((2 ^ pl (rg y) : Nat) : Rat) = A at *
    generalize ((2 ^ pl (rg x) : Nat) : Rat) = B at *
    generalize ((2 ^ mo : Nat) : Rat) = D at *
    generalize ((2 ^ c74 : Nat) : Rat) = E at *
    generalize (Q : Rat) = QQ at *
    obtain ⟨g, hg⟩ : ∃ g, q * e0 = g := ⟨_, rfl⟩
    obtain ⟨t, ht⟩ : ∃ t, s * T = t := ⟨_, rfl⟩
    rw [hg, ht] at key
    have k1 : g * (A * D * 2) = QQ * B := by rw [← hg]; grind
    have k2 : t * (ny * A) = nx * B := by
      rcases hsp with h | h <;> rcases hsy with h' | h' <;> rw [h, h'] at hsx <;> rw [h'] at hv <;> rw [← hsx] at hv <;> rw [h] at ht <;> rw [← ht] <;> grind
    have hAD : 0 < A * D * 2 := Rat.mul_pos (Rat.mul_pos x1 x2) (by decide +kernel)
    have hB0 : 0 ≤ B := Rat.le_of_lt x3
    have w1 := Rat.mul_le_mul_of_nonneg_right r2 hB0
    have w2 := Rat.mul_le_mul_of_nonneg_right r3 hB0
    have w3 := Rat.mul_le_mul_of_nonneg_right r1 hB0
    have k3 : (g - t) * (A * D * 2) * ny = (QQ * ny - 2 * (nx * D)) * B := by
      have e1 : g * (A * D * 2) * ny = QQ * B * ny := by rw [k1]
      have e2 : t * (ny * A) * (D * 2) = nx * B * (D * 2) := by rw [k2]
      grind
    have k4 : (g - t) * (A * D * 2) ≤ B := mul_le_cancel hyr (by rw [k3]; grind)
    have k5 : (t - g) * (A * D * 2) ≤ B := mul_le_cancel hyr (by
      have : (t - g) * (A * D * 2) * ny = -((g - t) * (A * D * 2) * ny) := by grind
      rw [this, k3]; grind)
    refine key ?_ ?_ ?_
    · refine mul_le_cancel hAD ?_
      rw [k1]
      have : 0 ≤ QQ * B := Rat.mul_nonneg (by grind) hB0
      grind
    · refine mul_le_cancel hAD ?_
      rw [k1]
      grind
    · refine mul_le_cancel hAD ?_
      rw [k1]
      grind

end Go.Proofs.YtnjmefjcaiepfaaDoor.WaveP
