/- What the row of the transform holds in the midst of a level. -/
import Derived.Test.YtnjmefjcaiepfaaDoorWInv
namespace Go.Proofs.YtnjmefjcaiepfaaDoor.WaveP
open Cx

/-- The places that this level has already told. -/
def Done (l k b p : Nat) : Prop := p % 2 ^ l < k ∨ (p % 2 ^ l = k ∧ p / 2 ^ (l + 1) < b)
instance (l k b p : Nat) : Decidable (Done l k b p) := by unfold Done; exact inferInstance
def At (Z X : Nat → Cx) (L l p : Nat) : Cx := Gl Z X L l (p / 2 ^ l) (p % 2 ^ l)
def St (Z X : Nat → Cx) (L : Nat) (E0 V0 : Rat) (l k b : Nat) (g : Nat → Nat × Nat) : Prop :=
  ∀ p, p < 2 ^ L → (Done l k b p → Nc (g p).1 (g p).2 (At Z X L (l + 1) p) (El E0 V0 (l + 1))) ∧ (¬ Done l k b p → Nc (g p).1 (g p).2 (At Z X L l p) (El E0 V0 l))
theorem low_place {l k b : Nat} (hk : k < 2 ^ l) : (b * 2 ^ (l + 1) + k) / 2 ^ l = 2 * b ∧ (b * 2 ^ (l + 1) + k) % 2 ^ l = k ∧ (b * 2 ^ (l + 1) + k) / 2 ^ (l + 1) = b ∧ (b * 2 ^ (l + 1) + k) % 2 ^ (l + 1) = k := by
  have hp := Nat.two_pow_pos l
  have e : b * 2 ^ (l + 1) = 2 ^ l * (2 * b) := by rw [Nat.pow_succ, Nat.mul_comm, Nat.mul_assoc]
  have hk2 : k < 2 ^ (l + 1) := by rw [Nat.pow_succ]; omega
  refine ⟨?_, ?_, ?_, ?_⟩
  · rw [e, Nat.mul_add_div hp, Nat.div_eq_of_lt hk, Nat.add_zero]
  · rw [e, Nat.mul_add_mod, Nat.mod_eq_of_lt hk]
  · rw [Nat.mul_comm, Nat.mul_add_div (Nat.two_pow_pos _), Nat.div_eq_of_lt hk2, Nat.add_zero]
  · rw [Nat.mul_comm, Nat.mul_add_mod, Nat.mod_eq_of_lt hk2]
theorem high_place {l k b : Nat} (hk : k < 2 ^ l) : (b * 2 ^ (l + 1) + (k + 2 ^ l)) / 2 ^ l = 2 * b + 1 ∧ (b * 2 ^ (l + 1) + (k + 2 ^ l)) % 2 ^ l = k ∧ (b * 2 ^ (l + 1) + (k + 2 ^ l)) / 2 ^ (l + 1) = b ∧ (b * 2 ^ (l + 1) + (k + 2 ^ l)) % 2 ^ (l + 1) = k + 2 ^ l := by
  have hp := Nat.two_pow_pos l
  have e0 : b * 2 ^ (l + 1) = 2 ^ l * (2 * b) := by rw [Nat.pow_succ, Nat.mul_comm, Nat.mul_assoc]
  have e : b * 2 ^ (l + 1) + (k + 2 ^ l) = 2 ^ l * (2 * b + 1) + k := by rw [e0, Nat.mul_add, Nat.mul_one]; omega
  have hk2 : k + 2 ^ l < 2 ^ (l + 1) := by rw [Nat.pow_succ]; omega
  refine ⟨?_, ?_, ?_, ?_⟩
  · rw [e, Nat.mul_add_div hp, Nat.div_eq_of_lt hk, Nat.add_zero]
  · rw [e, Nat.mul_add_mod, Nat.mod_eq_of_lt hk]
  · rw [Nat.mul_comm, Nat.mul_add_div (Nat.two_pow_pos _), Nat.div_eq_of_lt hk2, Nat.add_zero]
  · rw [Nat.mul_comm, Nat.mul_add_mod, Nat.mod_eq_of_lt hk2]
theorem place_lt {L l k b : Nat} (hl : l < L) (hk : k < 2 ^ l) (hb : b < 2 ^ (L - l - 1)) : b * 2 ^ (l + 1) + (k + 2 ^ l) < 2 ^ L := by
  have e : 2 ^ L = 2 ^ (L - l - 1) * 2 ^ (l + 1) := by rw [← Nat.pow_add]; congr 1; omega
  have h1 : (b + 1) * 2 ^ (l + 1) ≤ 2 ^ (L - l - 1) * 2 ^ (l + 1) := Nat.mul_le_mul_right _ hb
  rw [Nat.add_mul, Nat.one_mul] at h1
  have e2 : (2 : Nat) ^ (l + 1) = 2 ^ l * 2 := Nat.pow_succ ..
  omega

variable {Z X : Nat → Cx} {L : Nat} {E0 V0 t : Rat}
theorem St_start {g : Nat → Nat × Nat} (h : ∀ p, p < 2 ^ L → Nc (g p).1 (g p).2 (X (rev L p)) E0) : St Z X L E0 V0 0 0 0 g := by
  intro p hp
  refine ⟨fun hd => ?_, fun _ => ?_⟩
  · rcases hd with h | ⟨_, h⟩ <;> exact absurd h (Nat.not_lt_zero _)
  · have e : At Z X L 0 p = X (rev L p) := by
      unfold At
      rw [Nat.pow_zero, Nat.div_one, Nat.mod_one, Gl_zero]
    have e2 : El E0 V0 0 = E0 := by
      unfold El
      rw [Nat.pow_zero]
      have : ((0 : Nat) : Rat) = 0 := rfl
      rw [this]
      grind
    rw [e, e2]
    exact h p hp
theorem St_k {l k : Nat} {g : Nat → Nat × Nat} (hl : l < L) (h : St Z X L E0 V0 l k (2 ^ (L - l - 1)) g) : St Z X L E0 V0 l (k + 1) 0 g := by
  intro p hp
  have hq : p / 2 ^ (l + 1) < 2 ^ (L - l - 1) := by
    refine (Nat.div_lt_iff_lt_mul (Nat.two_pow_pos _)).2 ?_
    rw [← Nat.pow_add, show L - l - 1 + (l + 1) = L by omega]
    exact hp
  have e : Done l (k + 1) 0 p ↔ Done l k (2 ^ (L - l - 1)) p := by
    unfold Done
    generalize p / 2 ^ (l + 1) = q at hq ⊢
    generalize 2 ^ (L - l - 1) = B at hq ⊢
    generalize p % 2 ^ l = r
    omega
  rw [e]
  exact h p hp
theorem St_l {l : Nat} {g : Nat → Nat × Nat} (h : St Z X L E0 V0 l (2 ^ l) 0 g) : St Z X L E0 V0 (l + 1) 0 0 g := by
  intro p hp
  refine ⟨fun hd => ?_, fun _ => (h p hp).1 (.inl (Nat.mod_lt _ (Nat.two_pow_pos l)))⟩
  rcases hd with h | ⟨_, h⟩ <;> exact absurd h (Nat.not_lt_zero _)
theorem St_end {g : Nat → Nat × Nat} (h : St Z X L E0 V0 L 0 0 g) (p : Nat) (hp : p < 2 ^ L) : Nc (g p).1 (g p).2 (F Z L X p) (El E0 V0 L) := by
  have hn : ¬ Done L 0 0 p := by
    rintro (h | ⟨_, h⟩) <;> exact absurd h (Nat.not_lt_zero _)
  have h1 := (h p hp).2 hn
  unfold At at h1
  rw [Nat.div_eq_of_lt hp, Nat.mod_eq_of_lt hp, Gl_top] at h1
  exact h1

/-- Which places one step tells. -/
theorem done_step {l k b p : Nat} (hk : k < 2 ^ l) : Done l k (b + 1) p ↔ Done l k b p ∨ p = b * 2 ^ (l + 1) + k ∨ p = b * 2 ^ (l + 1) + (k + 2 ^ l) := by
  obtain ⟨a1, a2, a3, a4⟩ := low_place (b := b) hk
  obtain ⟨b1, b2, b3, b4⟩ := high_place (b := b) hk
  constructor
  · rintro (h | ⟨h1, h2⟩)
    · exact .inl (.inl h)
    · by_cases hq : p / 2 ^ (l + 1) < b
      · exact .inl (.inr ⟨h1, hq⟩)
      · have hqb : p / 2 ^ (l + 1) = b := by omega
        have hd := Nat.div_add_mod p (2 ^ (l + 1))
        rw [hqb, Nat.mul_comm] at hd
        have hm : p % 2 ^ (l + 1) % 2 ^ l = k := by
          rw [Nat.pow_succ, Nat.mod_mul_right_mod]
          exact h1
        have hlt : p % 2 ^ (l + 1) < 2 ^ (l + 1) := Nat.mod_lt _ (Nat.two_pow_pos _)
        have e2 : (2 : Nat) ^ (l + 1) = 2 ^ l * 2 := Nat.pow_succ ..
        by_cases hs : p % 2 ^ (l + 1) < 2 ^ l
        · rw [Nat.mod_eq_of_lt hs] at hm
          exact .inr (.inl (by rw [← hd, hm]))
        · have h3 : p % 2 ^ (l + 1) - 2 ^ l < 2 ^ l := by omega
          rw [Nat.mod_eq_sub_mod (by omega), Nat.mod_eq_of_lt h3] at hm
          exact .inr (.inr (by rw [← hd]; omega))
  · rintro ((h | ⟨h1, h2⟩) | rfl | rfl)
    · exact .inl h
    · exact .inr ⟨h1, by omega⟩
    · exact .inr ⟨a2, by omega⟩
    · exact .inr ⟨b2, by omega⟩

/-- What one step does to the row: its words, and the row behind it. -/
theorem St_step (hZ : Roots Z t) (ht : t ≤ tau) (hX : ∀ j, Bd (X j) V0) (hV1 : 1 ≤ V0) (hV2 : V0 ≤ ((2 ^ 80 : Nat) : Rat)) (hE1 : E0 ≤ V0 / 2) {l k b : Nat} {g : Nat → Nat × Nat} {c s : Nat}
    (hl : l < L) (hL : L ≤ 12) (hk : k < 2 ^ l) (hb : b < 2 ^ (L - l - 1)) (hw : Nc c s (pow (Z (l + 1)) k) (1 / 562949953421312)) (h : St Z X L E0 V0 l k b g)
    {lo hi : Nat} (hlo : lo = b * 2 ^ (l + 1) + k) (hhi : hi = b * 2 ^ (l + 1) + (k + 2 ^ l)) :
    ∃ ac bd ad bc tr ti pr pi qr qi, Prod (g hi).1 (g hi).2 c s ac bd ad bc tr ti ∧ fmt.add (g lo).1 tr = some pr ∧ fmt.add (g lo).2 ti = some pi ∧ fmt.sub (g lo).1 tr = some qr ∧ fmt.sub (g lo).2 ti = some qi ∧
      St Z X L E0 V0 l k (b + 1) (fun p => if p = hi then (qr, qi) else if p = lo then (pr, pi) else g p) := by
  obtain ⟨a1, a2, a3, a4⟩ := low_place (b := b) hk
  obtain ⟨b1, b2, b3, b4⟩ := high_place (b := b) hk
  have hpl := place_lt hl hk hb
  rw [← hlo] at a1 a2 a3 a4
  rw [← hhi] at b1 b2 b3 b4 hpl
  have hp := Nat.two_pow_pos l
  have hlt : lo < 2 ^ L := by omega
  have na : ¬ Done l k b lo := by
    rintro (h | ⟨_, h⟩)
    · omega
    · rw [a3] at h; exact absurd h (Nat.lt_irrefl _)
  have nb : ¬ Done l k b hi := by
    rintro (h | ⟨_, h⟩)
    · omega
    · rw [b3] at h; exact absurd h (Nat.lt_irrefl _)
  have ha := (h lo hlt).2 na
  have hbb := (h hi hpl).2 nb
  unfold At at ha hbb
  rw [a1, a2] at ha
  rw [b1, b2] at hbb
  obtain ⟨ac, bd, ad, bc, tr, ti, pr, pi, qr, qi, h1, h2, h3, h4, h5, h6, h7⟩ := level_step hZ ht hX hV1 hV2 hE1 hl hL ha hbb hw
  refine ⟨ac, bd, ad, bc, tr, ti, pr, pi, qr, qi, h1, h2, h3, h4, h5, ?_⟩
  intro p hpL
  by_cases e1 : p = hi
  · subst e1
    refine ⟨fun _ => ?_, fun hn => absurd ((done_step hk).2 (.inr (.inr hhi))) hn⟩
    simp only [if_true]
    unfold At
    rw [b3, b4]
    exact h7
  · by_cases e2 : p = lo
    · subst e2
      refine ⟨fun _ => ?_, fun hn => absurd ((done_step hk).2 (.inr (.inl hlo))) hn⟩
      simp only [if_neg e1, if_true]
      unfold At
      rw [a3, a4]
      exact h6
    · simp only [if_neg e1, if_neg e2]
      have hd : Done l k (b + 1) p ↔ Done l k b p := by
        rw [done_step hk, ← hlo, ← hhi]
        exact ⟨fun h => h.elim id (fun h => h.elim (fun h => absurd h e2) (fun h => absurd h e1)), .inl⟩
      rw [hd]
      exact h p hpL
end Go.Proofs.YtnjmefjcaiepfaaDoor.WaveP
