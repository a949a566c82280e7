/- How near sums and products of doubles are. -/
import Derived.Test.YtnjmefjcaiepfaaDoorWOps
namespace Go.Proofs.YtnjmefjcaiepfaaDoor.WaveP

def c900 : Nat := 900
/-- A bound that nothing comes near. -/
def big : Rat := ((2 ^ c900 : Nat) : Rat)
/-- The word is a number within c of T. -/
def Nr (r : Nat) (T c : Rat) : Prop := fin r = true ∧ val r - T ≤ c ∧ T - val r ≤ c
theorem val_wd {neg : Bool} {r : Nat} (h : r < infR) : val (wd neg r) = sn neg * ((un r : Nat) : Rat) * e0 := by unfold val; rw [sg_wd h, rg_wd h]
theorem sn_sq (b : Bool) : sn b * sn b = 1 := by cases b <;> decide +kernel
theorem sn_cases (b : Bool) : sn b = 1 ∨ sn b = -1 := by cases b; exact .inl rfl; exact .inr rfl
theorem sn_xor (a b : Bool) : sn (a ^^ b) = sn a * sn b := by cases a <;> cases b <;> decide +kernel
theorem sn_not (b : Bool) : sn (!b) = -sn b := by cases b <;> decide +kernel

theorem wd_near {neg : Bool} {m p b : Nat} {q T M : Rat} (hq : q * ((2 ^ b : Nat) : Rat) = (m : Rat) * ((2 ^ p : Nat) : Rat)) (hT : T = sn neg * q * e0) (h1 : -M ≤ T) (h2 : T ≤ M) (hM : M ≤ big) :
    Nr (wd neg (rnd m p b)) T (M / 9007199254740992 + e0) := by
  have he := e0_pos
  have hm : (0 : Rat) ≤ (m : Rat) := by exact_mod_cast Nat.zero_le m
  have hq0 : 0 ≤ q := by
    refine mul_le_cancel (pw_pos b) ?_
    rw [hq]
    have := Rat.mul_nonneg hm (Rat.le_of_lt (pw_pos p))
    grind
  have hqe : q * e0 ≤ M := by rcases sn_cases neg with h | h <;> rw [h] at hT <;> grind
  have hf : rnd m p b < infR := by
    apply rnd_fin
    by_cases h0 : m = 0
    · exact .inl h0
    · right
      have g1 : q ≤ big * ((2 ^ c74 : Nat) : Rat) := by
        have : q * e0 * ((2 ^ c74 : Nat) : Rat) ≤ big * ((2 ^ c74 : Nat) : Rat) := Rat.mul_le_mul_of_nonneg_right (by grind) (Rat.le_of_lt (pw_pos _))
        have e1 := e0_mul
        have e2 : q * e0 * ((2 ^ c74 : Nat) : Rat) = q := by rw [Rat.mul_assoc, e1, Rat.mul_one]
        rw [e2] at this
        exact this
      have g2 : (m : Rat) * ((2 ^ p : Nat) : Rat) ≤ big * ((2 ^ c74 : Nat) : Rat) * ((2 ^ b : Nat) : Rat) := by
        rw [← hq]
        exact Rat.mul_le_mul_of_nonneg_right g1 (Rat.le_of_lt (pw_pos _))
      have g3 : m * 2 ^ p ≤ 2 ^ c900 * 2 ^ c74 * 2 ^ b := by
        unfold big at g2
        exact_mod_cast g2
      have g4 : 2 ^ m.log2 * 2 ^ p ≤ m * 2 ^ p := Nat.mul_le_mul_right _ (Nat.log2_self_le h0)
      have g5 : 2 ^ (m.log2 + p) ≤ 2 ^ (c900 + c74 + b) := by
        rw [Nat.pow_add, Nat.pow_add, Nat.pow_add]
        exact Nat.le_trans g4 g3
      have g6 := (Nat.pow_le_pow_iff_right (show 1 < 2 by decide)).1 g5
      unfold c900 at g6
      unfold c74 at g6
      omega
  obtain ⟨_, a1, a2⟩ := rnd_val hq hf
  refine ⟨fin_wd hf, ?_⟩
  rw [val_wd hf, hT]
  have b1 := Rat.mul_le_mul_of_nonneg_right a1 (Rat.le_of_lt he)
  have b2 := Rat.mul_le_mul_of_nonneg_right a2 (Rat.le_of_lt he)
  generalize ((un (rnd m p b) : Nat) : Rat) = X at b1 b2 ⊢
  rcases sn_cases neg with h | h <;> rw [h] <;> constructor <;> grind

theorem un_cast (r : Nat) : ((un r : Nat) : Rat) = (mg r : Rat) * ((2 ^ pl r : Nat) : Rat) := by unfold un; exact_mod_cast rfl
theorem mul_near {x y : Nat} {M : Rat} (hx : fin x = true) (hy : fin y = true) (h1 : -M ≤ val x * val y) (h2 : val x * val y ≤ M) (hM : M ≤ big) :
    fmt.mul x y = some (mulN x y) ∧ Nr (mulN x y) (val x * val y) (M / 9007199254740992 + e0) := by
  refine ⟨mul_eq hx hy, wd_near (q := ((un (rg x) : Nat) : Rat) * ((un (rg y) : Nat) : Rat) * e0) ?_ ?_ h1 h2 hM⟩
  · rw [Rat.mul_assoc, e0_mul, Rat.mul_one, un_cast, un_cast]
    have : ((mg (rg x) * mg (rg y) : Nat) : Rat) = (mg (rg x) : Rat) * (mg (rg y) : Rat) := by exact_mod_cast rfl
    have h3 : ((2 ^ (pl (rg x) + pl (rg y)) : Nat) : Rat) = ((2 ^ pl (rg x) : Nat) : Rat) * ((2 ^ pl (rg y) : Nat) : Rat) := by rw [Nat.pow_add]; exact_mod_cast rfl
    rw [this, h3]
    grind
  · unfold val
    rw [sn_xor]
    grind
theorem un_at {r p : Nat} (h : p ≤ pl r) : ((un r : Nat) : Rat) = ((mg r * 2 ^ (pl r - p) : Nat) : Rat) * ((2 ^ p : Nat) : Rat) := by
  have : un r = mg r * 2 ^ (pl r - p) * 2 ^ p := by unfold un; rw [Nat.mul_assoc, ← Nat.pow_add]; congr 2; omega
  rw [this]
  exact_mod_cast rfl
theorem addS_near (s : Bool) (r1 : Nat) (t : Bool) (r2 : Nat) {M T : Rat} (hT : T = (sn s * ((un r1 : Nat) : Rat) + sn t * ((un r2 : Nat) : Rat)) * e0) (h1 : -M ≤ T) (h2 : T ≤ M) (hM : M ≤ big) :
    Nr (addS s r1 t r2) T (M / 9007199254740992 + e0) := by
  unfold addS
  obtain ⟨p, hp⟩ : ∃ p, min (pl r1) (pl r2) = p := ⟨_, rfl⟩
  rw [un_at (p := p) (show p ≤ pl r1 by omega), un_at (p := p) (show p ≤ pl r2 by omega)] at hT
  rw [hp]
  generalize mg r1 * 2 ^ (pl r1 - p) = a at hT ⊢
  generalize mg r2 * 2 ^ (pl r2 - p) = b at hT ⊢
  have h20 : ((2 ^ 0 : Nat) : Rat) = 1 := by simp
  have step : ∀ (neg : Bool) (m : Nat), T = sn neg * ((m : Rat) * ((2 ^ p : Nat) : Rat)) * e0 → Nr (wd neg (rnd m p 0)) T (M / 9007199254740992 + e0) := fun neg m h =>
    wd_near (q := (m : Rat) * ((2 ^ p : Nat) : Rat)) (by rw [h20]; grind) h h1 h2 hM
  have hsub : ∀ x y : Nat, x ≤ y → ((y - x : Nat) : Rat) = (y : Rat) - (x : Rat) := fun x y h => by
    have : y = (y - x) + x := by omega
    have h3 : (y : Rat) = ((y - x : Nat) : Rat) + (x : Rat) := by exact_mod_cast this
    grind
  generalize ((2 ^ p : Nat) : Rat) = P at hT step
  by_cases hst : s = t
  · subst hst
    rw [beq_self_eq_true, cond_true]
    refine step _ _ ?_
    have : ((a + b : Nat) : Rat) = (a : Rat) + (b : Rat) := by exact_mod_cast rfl
    rw [this, hT]
    grind
  · have hts : sn t = -sn s := by cases s <;> cases t <;> first | exact absurd rfl hst | decide +kernel
    rw [show (s == t) = false by cases s <;> cases t <;> first | exact absurd rfl hst | rfl, cond_false]
    rw [hts] at hT
    by_cases hab : a ≤ b
    · rw [ble_t hab, cond_true]
      by_cases he : a = b
      · rw [beq_t he, cond_true]
        subst he
        have h0 : T = 0 := by rw [hT]; grind
        have := step false 0 (by rw [h0]; simp)
        rwa [rnd_zero] at this
      · rw [beq_f he, cond_false]
        refine step _ _ ?_
        rw [hsub a b hab, hT, hts]
        grind
    · rw [ble_f hab, cond_false]
      refine step _ _ ?_
      rw [hsub b a (by omega), hT]
      grind
theorem add_near {x y : Nat} {M : Rat} (hx : fin x = true) (hy : fin y = true) (h1 : -M ≤ val x + val y) (h2 : val x + val y ≤ M) (hM : M ≤ big) :
    fmt.add x y = some (addN x y) ∧ Nr (addN x y) (val x + val y) (M / 9007199254740992 + e0) :=
  ⟨add_eq hx hy, addS_near _ _ _ _ (by unfold val; grind) h1 h2 hM⟩
theorem sub_near {x y : Nat} {M : Rat} (hx : fin x = true) (hy : fin y = true) (h1 : -M ≤ val x - val y) (h2 : val x - val y ≤ M) (hM : M ≤ big) :
    fmt.sub x y = some (subN x y) ∧ Nr (subN x y) (val x - val y) (M / 9007199254740992 + e0) :=
  ⟨sub_eq hx hy, addS_near _ _ _ _ (by unfold val; rw [sn_not]; grind) h1 h2 hM⟩

end Go.Proofs.YtnjmefjcaiepfaaDoor.WaveP
