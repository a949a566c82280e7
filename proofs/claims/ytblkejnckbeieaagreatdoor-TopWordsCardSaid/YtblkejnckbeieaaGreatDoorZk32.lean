/- The table's check, by the kernel (second half), and the angles of fewer parts.
  Each turn's word: its angle, its sine and its cosine, and how near these are. -/
import Derived.Test.YtblkejnckbeieaaGreatDoorZk30
import Derived.Test.YtblkejnckbeieaaGreatDoorZk31
namespace Go.Proofs.YtblkejnckbeieaaGreatDoor.WaveP
set_option maxRecDepth 100000
theorem blk8 : blk 8 128 = true := by decide +kernel
theorem blk9 : blk 9 128 = true := by decide +kernel
theorem blk10 : blk 10 128 = true := by decide +kernel
theorem blk11 : blk 11 128 = true := by decide +kernel
theorem blk12 : blk 12 128 = true := by decide +kernel
theorem blk13 : blk 13 128 = true := by decide +kernel
theorem blk14 : blk 14 128 = true := by decide +kernel
theorem blk15 : blk 15 127 = true := by decide +kernel
theorem l1 : chkL 1 0 1 = true := by decide +kernel
theorem l2 : chkL 2 0 2 = true := by decide +kernel
theorem l3 : chkL 3 0 4 = true := by decide +kernel
theorem l4 : chkL 4 0 8 = true := by decide +kernel
theorem l5 : chkL 5 0 16 = true := by decide +kernel
theorem l6 : chkL 6 0 32 = true := by decide +kernel
theorem l7 : chkL 7 0 64 = true := by decide +kernel
theorem l8 : chkL 8 0 128 = true := by decide +kernel
theorem l9 : chkL 9 0 256 = true := by decide +kernel
theorem l10 : chkL 10 0 512 = true := by decide +kernel
theorem l11 : chkL 11 0 1024 = true := by decide +kernel
end Go.Proofs.YtblkejnckbeieaaGreatDoor.WaveP

namespace Go.Proofs.YtblkejnckbeieaaGreatDoor.WaveP
open CxW

set_option maxRecDepth 100000 in
theorem chkA_t : chkA 2047 1 = true := by decide +kernel
theorem angle_zero : angle 0 12 = some 0 := by decide +kernel
theorem okT_all {k : Nat} (h0 : 1 ≤ k) (h1 : k < 2048) : OkT k := by
  have hb : ∀ b, b < 16 → ∀ i, i < (if b = 15 then 127 else 128) → OkT (128 * b + 1 + i) := fun b hb => by
    have hc : b = 0 ∨ b = 1 ∨ b = 2 ∨ b = 3 ∨ b = 4 ∨ b = 5 ∨ b = 6 ∨ b = 7 ∨ b = 8 ∨ b = 9 ∨ b = 10 ∨ b = 11 ∨ b = 12 ∨ b = 13 ∨ b = 14 ∨ b = 15 := by omega
    rcases hc with h | h | h | h | h | h | h | h | h | h | h | h | h | h | h | h <;> subst h
    · exact blk_ok blk0
    · exact blk_ok blk1
    · exact blk_ok blk2
    · exact blk_ok blk3
    · exact blk_ok blk4
    · exact blk_ok blk5
    · exact blk_ok blk6
    · exact blk_ok blk7
    · exact blk_ok blk8
    · exact blk_ok blk9
    · exact blk_ok blk10
    · exact blk_ok blk11
    · exact blk_ok blk12
    · exact blk_ok blk13
    · exact blk_ok blk14
    · exact blk_ok blk15
  have h := hb ((k - 1) / 128) (by omega) ((k - 1) % 128) (by split <;> omega)
  rwa [show 128 * ((k - 1) / 128) + 1 + (k - 1) % 128 = k by omega] at h
theorem levels {l k : Nat} (h1 : 1 ≤ l) (h2 : l ≤ 12) (h3 : k < 2 ^ (l - 1)) : ∃ x, angle k l = some x ∧ angle (k * 2 ^ (12 - l)) 12 = some x := by
  have hx : ∀ n, chkL l 0 n = true → k < n → ∃ x, angle k l = some x ∧ angle (k * 2 ^ (12 - l)) 12 = some x := fun n hn hk => by
    have := chkL_ok n l 0 hn k hk
    rwa [Nat.zero_add] at this
  have hc : l = 1 ∨ l = 2 ∨ l = 3 ∨ l = 4 ∨ l = 5 ∨ l = 6 ∨ l = 7 ∨ l = 8 ∨ l = 9 ∨ l = 10 ∨ l = 11 ∨ l = 12 := by omega
  rcases hc with h | h | h | h | h | h | h | h | h | h | h | h <;> subst h
  · exact hx _ l1 h3
  · exact hx _ l2 h3
  · exact hx _ l3 h3
  · exact hx _ l4 h3
  · exact hx _ l5 h3
  · exact hx _ l6 h3
  · exact hx _ l7 h3
  · exact hx _ l8 h3
  · exact hx _ l9 h3
  · exact hx _ l10 h3
  · exact hx _ l11 h3
  · rw [Nat.sub_self, Nat.pow_zero, Nat.mul_one]
    rcases Nat.eq_zero_or_pos k with h0 | h0
    · subst h0; exact ⟨0, angle_zero, angle_zero⟩
    · obtain ⟨x, _, _, ha, _⟩ := okT_all h0 h3
      exact ⟨x, ha, ha⟩
/-- What is known of each turn. -/
def Turn (l k x s c : Nat) : Prop := angle k l = some x ∧ ((k = 0 ∧ x = 0 ∧ s = 0 ∧ c = 4607182418800017408) ∨ (1 ≤ k ∧ angleB x = true ∧ sincosP x = some (s, c))) ∧ Bd (⟨val c, val s⟩ - pow (Zr l) k) tw
theorem turns {l k : Nat} (h1 : 1 ≤ l) (h2 : l ≤ 12) (h3 : k < 2 ^ (l - 1)) : ∃ x s c, Turn l k x s c := by
  obtain ⟨x, ha, hb⟩ := levels h1 h2 h3
  have hp : pow (Zr l) k = pow zeta (k * 2 ^ (12 - l)) := by
    unfold Zr
    rw [← CxW.pow_mul, Nat.mul_comm]
  rcases Nat.eq_zero_or_pos k with h0 | h0
  · subst h0
    rw [Nat.zero_mul, angle_zero] at hb
    injection hb with hb
    subst hb
    refine ⟨0, 0, 4607182418800017408, ha, .inl ⟨rfl, rfl, rfl, rfl⟩, ?_⟩
    have e : (⟨val 4607182418800017408, val 0⟩ : CxW) - pow (Zr l) 0 = CxW.zero := by
      apply CxW.ext'
      · show val 4607182418800017408 - 1 = 0
        decide +kernel
      · show val 0 - 0 = 0
        decide +kernel
    rw [e]
    exact Bd.zero_.mono (by decide +kernel)
  · have hk : k * 2 ^ (12 - l) < 2048 := by
      have a1 : 2 ^ (l - 1) * 2 ^ (12 - l) = 2 ^ 11 := by rw [← Nat.pow_add]; congr 1; omega
      have a2 : k * 2 ^ (12 - l) < 2 ^ (l - 1) * 2 ^ (12 - l) := Nat.mul_lt_mul_of_pos_right h3 (Nat.two_pow_pos _)
      rw [a1] at a2
      exact a2
    have hk0 : 1 ≤ k * 2 ^ (12 - l) := Nat.mul_pos h0 (Nat.two_pow_pos _)
    obtain ⟨x', s, c, e1, e2, e3⟩ := ok_near hk (okT_all hk0 hk)
    rw [hb] at e1
    injection e1 with e1
    subst e1
    obtain ⟨y, f1, f2⟩ := chkA_ok 2047 1 chkA_t (k * 2 ^ (12 - l) - 1) (by omega)
    rw [show 1 + (k * 2 ^ (12 - l) - 1) = k * 2 ^ (12 - l) by omega, hb] at f1
    injection f1 with f1
    subst f1
    exact ⟨x, s, c, ha, .inr ⟨h0, f2, e2⟩, by rw [hp]; exact e3⟩

end Go.Proofs.YtblkejnckbeieaaGreatDoor.WaveP
