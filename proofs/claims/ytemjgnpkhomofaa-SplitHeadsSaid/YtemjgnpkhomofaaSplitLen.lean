/- The plain law of utfsplit: how many pieces a range has, how great they are, and that their bytes rise. -/
import Derived.Test.YtemjgnpkhomofaaSplitPure
namespace Go.Proofs.Ytemjgnpkhomofaa
open SetPure
namespace UtfPure

/-! ### How many pieces -/
set_option maxHeartbeats 4000000 in
theorem cut_cases {a b m : Int} (h : cutAt a b levels = some m) :
    (a / 64 ≠ b / 64 ∧ ((a % 64 ≠ 0 ∧ m = a / 64 * 64 + 63) ∨ (a % 64 = 0 ∧ b % 64 ≠ 63 ∧ m = b / 64 * 64 - 1))) ∨
    (a % 64 = 0 ∧ b % 64 = 63 ∧ a / 4096 ≠ b / 4096 ∧ ((a % 4096 ≠ 0 ∧ m = a / 4096 * 4096 + 4095) ∨ (a % 4096 = 0 ∧ b % 4096 ≠ 4095 ∧ m = b / 4096 * 4096 - 1))) ∨
    (a % 4096 = 0 ∧ b % 4096 = 4095 ∧ a / 262144 ≠ b / 262144 ∧ ((a % 262144 ≠ 0 ∧ m = a / 262144 * 262144 + 262143) ∨ (a % 262144 = 0 ∧ b % 262144 ≠ 262143 ∧ m = b / 262144 * 262144 - 1))) := by
  unfold levels at h
  simp only [cutAt] at h
  split at h
  · cases h
  · split at h
    · injection h with h; omega
    · split at h
      · injection h with h; omega
      · split at h
        · cases h
        · split at h
          · injection h with h; omega
          · split at h
            · injection h with h; omega
            · split at h
              · cases h
              · split at h
                · injection h with h; omega
                · split at h
                  · injection h with h; omega
                  · cases h
theorem cut_none64 {a b : Int} (h : a / 64 = b / 64) : cutAt a b levels = none := by
  unfold levels; simp only [cutAt]; rw [if_pos h]
theorem cut_none4096 {a b : Int} (h1 : a % 64 = 0) (h2 : b % 64 = 63) (h : a / 4096 = b / 4096) : cutAt a b levels = none := by
  unfold levels; simp only [cutAt]
  repeat' split
  all_goals first | rfl | (exfalso; omega)
theorem cut_none262144 {a b : Int} (h1 : a % 4096 = 0) (h2 : b % 4096 = 4095) (h : a / 262144 = b / 262144) : cutAt a b levels = none := by
  unfold levels; simp only [cutAt]
  repeat' split
  all_goals first | rfl | (exfalso; omega)
def c1 (x : Int) : Nat := if x % 64 = 0 then 0 else 1
def h2 (x : Int) : Nat := if (x + 63) / 64 * 64 % 4096 = 0 then 0 else 1
def h3 (x : Int) : Nat := if (x + 4095) / 4096 * 4096 % 262144 = 0 then 0 else 1
def t2 (y : Int) : Nat := if y / 64 * 64 % 4096 = 0 then 0 else 1
def t3 (y : Int) : Nat := if y / 4096 * 4096 % 262144 = 0 then 0 else 1

/-- What a cut does: one side is a piece, the other is better laid. -/
theorem cut_sides {a b m : Int} (h0 : 0 ≤ a) (hab : a ≤ b) (h : cutAt a b levels = some m) :
    (pieces a m = [(a, m)] ∧ ((c1 a = 1 ∧ c1 (m + 1) = 0 ∧ h2 (m + 1) = h2 a ∧ h3 (m + 1) = h3 a) ∨ (c1 a = 0 ∧ c1 (m + 1) = 0 ∧ h2 a = 1 ∧ h2 (m + 1) = 0 ∧ h3 (m + 1) = h3 a ∧ a / 4096 ≠ b / 4096) ∨
      (c1 (m + 1) = 0 ∧ h2 (m + 1) = 0 ∧ h3 a = 1 ∧ h3 (m + 1) = 0 ∧ a / 262144 ≠ b / 262144))) ∨
    (pieces (m + 1) b = [(m + 1, b)] ∧ ((c1 (b + 1) = 1 ∧ c1 (m + 1) = 0 ∧ t2 (m + 1) = t2 (b + 1) ∧ t3 (m + 1) = t3 (b + 1)) ∨ (c1 (b + 1) = 0 ∧ c1 (m + 1) = 0 ∧ t2 (b + 1) = 1 ∧ t2 (m + 1) = 0 ∧ t3 (m + 1) = t3 (b + 1) ∧ a / 4096 ≠ b / 4096) ∨
      (c1 (m + 1) = 0 ∧ t2 (m + 1) = 0 ∧ t3 (b + 1) = 1 ∧ t3 (m + 1) = 0 ∧ a / 262144 ≠ b / 262144))) := by
  rcases cut_cases h with ⟨x1, ⟨x2, rfl⟩ | ⟨x2, x3, rfl⟩⟩ | ⟨x1, x2, x3, ⟨x4, rfl⟩ | ⟨x4, x5, rfl⟩⟩ | ⟨x1, x2, x3, ⟨x4, rfl⟩ | ⟨x4, x5, rfl⟩⟩
  · refine .inl ⟨pieces_none (cut_none64 (by omega)), .inl ⟨if_neg x2, if_pos (by omega), ?_, ?_⟩⟩
    · unfold h2; rw [show (a / 64 * 64 + 63 + 1 + 63) / 64 = (a + 63) / 64 by omega]
    · unfold h3; rw [show (a / 64 * 64 + 63 + 1 + 4095) / 4096 = (a + 4095) / 4096 by omega]
  · refine .inr ⟨pieces_none (cut_none64 (by omega)), .inl ⟨if_neg (by omega), if_pos (by omega), ?_, ?_⟩⟩
    · unfold t2; rw [show (b / 64 * 64 - 1 + 1) / 64 = (b + 1) / 64 by omega]
    · unfold t3; rw [show (b / 64 * 64 - 1 + 1) / 4096 = (b + 1) / 4096 by omega]
  · refine .inl ⟨pieces_none (cut_none4096 x1 (by omega) (by omega)), .inr (.inl ⟨if_pos x1, if_pos (by omega), if_neg (by omega), if_pos (by omega), ?_, x3⟩)⟩
    unfold h3; rw [show (a / 4096 * 4096 + 4095 + 1 + 4095) / 4096 = (a + 4095) / 4096 by omega]
  · refine .inr ⟨pieces_none (cut_none4096 (by omega) x2 (by omega)), .inr (.inl ⟨if_pos (by omega), if_pos (by omega), if_neg (by omega), if_pos (by omega), ?_, x3⟩)⟩
    unfold t3; rw [show (b / 4096 * 4096 - 1 + 1) / 4096 = (b + 1) / 4096 by omega]
  · exact .inl ⟨pieces_none (cut_none262144 x1 (by omega) (by omega)), .inr (.inr ⟨if_pos (by omega), if_pos (by omega), if_neg (by omega), if_pos (by omega), x3⟩)⟩
  · exact .inr ⟨pieces_none (cut_none262144 (by omega) x2 (by omega)), .inr (.inr ⟨if_pos (by omega), if_pos (by omega), if_neg (by omega), if_pos (by omega), x3⟩)⟩

set_option maxHeartbeats 4000000 in
theorem pieces_len (n : Nat) : ∀ (a b : Int), (b - a).toNat ≤ n → 0 ≤ a → a ≤ b →
    (a / 4096 = b / 4096 → (pieces a b).length ≤ 1 + c1 a + c1 (b + 1)) ∧ (a / 262144 = b / 262144 → (pieces a b).length ≤ 1 + c1 a + h2 a + c1 (b + 1) + t2 (b + 1)) ∧
    (pieces a b).length ≤ 1 + c1 a + h2 a + h3 a + c1 (b + 1) + t2 (b + 1) + t3 (b + 1) := by
  induction n with
  | zero =>
    intro a b hn h0 h1
    obtain rfl : a = b := by omega
    rw [pieces_none (cut_none64 rfl)]
    refine ⟨fun _ => ?_, fun _ => ?_, ?_⟩ <;> (simp only [List.length_cons, List.length_nil]; omega)
  | succ n ih =>
    intro a b hn h0 h1
    cases hc : cutAt a b levels with
    | none =>
      rw [pieces_none hc]
      refine ⟨fun _ => ?_, fun _ => ?_, ?_⟩ <;> (simp only [List.length_cons, List.length_nil]; omega)
    | some m =>
      obtain ⟨m1, m2⟩ := cut_lt64 h0 h1 hc
      rw [pieces_some h0 h1 hc, List.length_append]
      rcases cut_sides h0 h1 hc with ⟨e, hs⟩ | ⟨e, hs⟩
      · rw [e]
        obtain ⟨i1, i2, i3⟩ := ih (m + 1) b (by omega) (by omega) (by omega)
        simp only [List.length_cons, List.length_nil]
        refine ⟨fun hq => ?_, fun hq => ?_, ?_⟩
        · have := i1 (by omega); rcases hs with ⟨s1, s2, s3, s4⟩ | ⟨s1, s2, s3, s4, s5, s6⟩ | ⟨s1, s2, s3, s4, s5⟩ <;> omega
        · have := i2 (by omega); rcases hs with ⟨s1, s2, s3, s4⟩ | ⟨s1, s2, s3, s4, s5, s6⟩ | ⟨s1, s2, s3, s4, s5⟩ <;> omega
        · rcases hs with ⟨s1, s2, s3, s4⟩ | ⟨s1, s2, s3, s4, s5, s6⟩ | ⟨s1, s2, s3, s4, s5⟩ <;> omega
      · rw [e]
        obtain ⟨i1, i2, i3⟩ := ih a m (by omega) h0 m1
        simp only [List.length_cons, List.length_nil]
        refine ⟨fun hq => ?_, fun hq => ?_, ?_⟩
        · have := i1 (by omega); rcases hs with ⟨s1, s2, s3, s4⟩ | ⟨s1, s2, s3, s4, s5, s6⟩ | ⟨s1, s2, s3, s4, s5⟩ <;> omega
        · have := i2 (by omega); rcases hs with ⟨s1, s2, s3, s4⟩ | ⟨s1, s2, s3, s4, s5, s6⟩ | ⟨s1, s2, s3, s4, s5⟩ <;> omega
        · rcases hs with ⟨s1, s2, s3, s4⟩ | ⟨s1, s2, s3, s4, s5, s6⟩ | ⟨s1, s2, s3, s4, s5⟩ <;> omega

theorem c1_le (x : Int) : c1 x ≤ 1 := by unfold c1; split <;> omega
theorem h2_le (x : Int) : h2 x ≤ 1 := by unfold h2; split <;> omega
theorem h3_le (x : Int) : h3 x ≤ 1 := by unfold h3; split <;> omega
theorem t2_le (x : Int) : t2 x ≤ 1 := by unfold t2; split <;> omega
theorem t3_le (x : Int) : t3 x ≤ 1 := by unfold t3; split <;> omega
theorem piecesK_len {a b : Int} (h0 : 0 ≤ a) (hab : a ≤ b) : (b < 128 → (piecesK a b).length = 1) ∧ (128 ≤ b → (piecesK a b).length = (pieces a b).length) := by
  unfold piecesK
  constructor
  · intro h; rw [if_pos h]; rfl
  · intro h; rw [if_neg (by omega)]
/-- A range has twelve pieces at most. -/
theorem splitR_len (r : Rg) (h0 : 0 ≤ r.1) (h1 : r.2 ≤ 1114111) : (splitR r).length ≤ 12 := by
  have e : ∀ k, (partL r k).length = if max r.1 (ends k).1 ≤ min r.2 (ends k).2 ∧ k ≠ 3 then (piecesK (max r.1 (ends k).1) (min r.2 (ends k).2)).length else 0 := fun k => by unfold partL; split <;> rfl
  have P0 : (partL r 0).length ≤ 1 ∧ (127 < r.1 → (partL r 0).length = 0) := by
    rw [e 0, show ends 0 = (0, 127) from rfl]
    by_cases hc : max r.1 0 ≤ min r.2 127
    · rw [if_pos ⟨hc, by omega⟩, (piecesK_len (by omega) hc).1 (by omega)]; exact ⟨Nat.le_refl _, fun h => by omega⟩
    · rw [if_neg (fun h => hc h.1)]; exact ⟨by omega, fun _ => rfl⟩
  have P1 : ∃ x y : Nat, (partL r 1).length ≤ 1 + x + y ∧ x ≤ 1 ∧ y ≤ 1 ∧ (r.1 ≤ 128 → x = 0) ∧ (2047 ≤ r.2 → y = 0) ∧ (2047 < r.1 ∨ r.2 < 128 → (partL r 1).length = 0) := by
    rw [e 1, show ends 1 = (128, 2047) from rfl]
    by_cases hc : max r.1 128 ≤ min r.2 2047
    · rw [if_pos ⟨hc, by omega⟩, (piecesK_len (by omega) hc).2 (by omega)]
      refine ⟨_, _, (pieces_len _ _ _ (Nat.le_refl _) (by omega) hc).1 (by omega), c1_le _, c1_le _, fun h => ?_, fun h => ?_, fun h => by omega⟩
      · rw [show max r.1 128 = 128 by omega]; rfl
      · rw [show min r.2 2047 = 2047 by omega]; rfl
    · rw [if_neg (fun h => hc h.1)]; exact ⟨0, 0, by omega, by omega, by omega, fun _ => rfl, fun _ => rfl, fun _ => rfl⟩
  have P2 : ∃ x y : Nat, (partL r 2).length ≤ 1 + x + y ∧ x ≤ 2 ∧ y ≤ 2 ∧ (r.1 ≤ 2048 → x ≤ 1) ∧ (55295 ≤ r.2 → y ≤ 1) ∧ (55295 < r.1 ∨ r.2 < 2048 → (partL r 2).length = 0) := by
    rw [e 2, show ends 2 = (2048, 55295) from rfl]
    by_cases hc : max r.1 2048 ≤ min r.2 55295
    · rw [if_pos ⟨hc, by omega⟩, (piecesK_len (by omega) hc).2 (by omega)]
      have hp := (pieces_len _ _ _ (Nat.le_refl _) (by omega) hc).2.1 (by omega)
      refine ⟨c1 (max r.1 2048) + h2 (max r.1 2048), c1 (min r.2 55295 + 1) + t2 (min r.2 55295 + 1), by omega, ?_, ?_, fun h => ?_, fun h => ?_, fun h => by omega⟩
      · have := c1_le (max r.1 2048); have := h2_le (max r.1 2048); omega
      · have := c1_le (min r.2 55295 + 1); have := t2_le (min r.2 55295 + 1); omega
      · rw [show max r.1 2048 = 2048 by omega]; decide
      · rw [show min r.2 55295 = 55295 by omega]; decide
    · rw [if_neg (fun h => hc h.1)]; exact ⟨0, 0, by omega, by omega, by omega, fun _ => by omega, fun _ => by omega, fun _ => rfl⟩
  have P3 : (partL r 3).length = 0 := by rw [e 3, if_neg (fun h => h.2 rfl)]
  have P4 : ∃ x y : Nat, (partL r 4).length ≤ 1 + x + y ∧ x ≤ 2 ∧ y ≤ 2 ∧ (r.1 ≤ 57344 → x = 0) ∧ (65535 ≤ r.2 → y = 0) ∧ (65535 < r.1 ∨ r.2 < 57344 → (partL r 4).length = 0) := by
    rw [e 4, show ends 4 = (57344, 65535) from rfl]
    by_cases hc : max r.1 57344 ≤ min r.2 65535
    · rw [if_pos ⟨hc, by omega⟩, (piecesK_len (by omega) hc).2 (by omega)]
      have hp := (pieces_len _ _ _ (Nat.le_refl _) (by omega) hc).2.1 (by omega)
      refine ⟨c1 (max r.1 57344) + h2 (max r.1 57344), c1 (min r.2 65535 + 1) + t2 (min r.2 65535 + 1), by omega, ?_, ?_, fun h => ?_, fun h => ?_, fun h => by omega⟩
      · have := c1_le (max r.1 57344); have := h2_le (max r.1 57344); omega
      · have := c1_le (min r.2 65535 + 1); have := t2_le (min r.2 65535 + 1); omega
      · rw [show max r.1 57344 = 57344 by omega]; decide
      · rw [show min r.2 65535 = 65535 by omega]; decide
    · rw [if_neg (fun h => hc h.1)]; exact ⟨0, 0, by omega, by omega, by omega, fun _ => rfl, fun _ => rfl, fun _ => rfl⟩
  have P5 : ∃ x y : Nat, (partL r 5).length ≤ 1 + x + y ∧ x ≤ 3 ∧ y ≤ 3 ∧ (r.1 ≤ 65536 → x ≤ 1) ∧ (1114111 < r.1 ∨ r.2 < 65536 → (partL r 5).length = 0) := by
    rw [e 5, show ends 5 = (65536, 1114111) from rfl]
    by_cases hc : max r.1 65536 ≤ min r.2 1114111
    · rw [if_pos ⟨hc, by omega⟩, (piecesK_len (by omega) hc).2 (by omega)]
      have hp := (pieces_len _ _ _ (Nat.le_refl _) (by omega) hc).2.2
      refine ⟨c1 (max r.1 65536) + h2 (max r.1 65536) + h3 (max r.1 65536), c1 (min r.2 1114111 + 1) + t2 (min r.2 1114111 + 1) + t3 (min r.2 1114111 + 1), by omega, ?_, ?_, fun h => ?_, fun h => by omega⟩
      · have := c1_le (max r.1 65536); have := h2_le (max r.1 65536); have := h3_le (max r.1 65536); omega
      · have := c1_le (min r.2 1114111 + 1); have := t2_le (min r.2 1114111 + 1); have := t3_le (min r.2 1114111 + 1); omega
      · rw [show max r.1 65536 = 65536 by omega]; decide
    · rw [if_neg (fun h => hc h.1)]; exact ⟨0, 0, by omega, by omega, by omega, fun _ => by omega, fun _ => rfl⟩
  obtain ⟨p0, q0⟩ := P0
  obtain ⟨x1, y1, p1, p2, p3, p4, p5, p6⟩ := P1
  obtain ⟨x2, y2, r1, r2, r3, r4, r5, r6⟩ := P2
  obtain ⟨x4, y4, s1, s2, s3, s4, s5, s6⟩ := P4
  obtain ⟨x5, y5, u1, u2, u3, u4, u6⟩ := P5
  unfold splitR
  simp only [List.length_append]
  clear e
  omega
theorem splitL_len {s : List Rg} (h : ∀ r ∈ s, 0 ≤ r.1 ∧ r.2 ≤ 1114111) : (splitL s).length ≤ 12 * s.length := by
  induction s with
  | nil => simp [splitL]
  | cons r s ih =>
    have h1 := splitR_len r (h r (List.mem_cons_self ..)).1 (h r (List.mem_cons_self ..)).2
    have h2 := ih fun q hq => h q (List.mem_cons_of_mem _ hq)
    show (splitR r ++ splitL s).length ≤ _
    rw [List.length_append, List.length_cons]
    omega

/-! ### How great a row is -/
def prodW (w : List Rg) : Int := w.foldl (fun n r => n * (r.2 - r.1 + 1)) 1
set_option maxHeartbeats 4000000 in
theorem leaf_size {r : Rg} (h : Leaf r) : prodW (rowOf r.1 r.2) = r.2 - r.1 + 1 := by
  have hk := klass_le r.1
  have hn := h.some_
  have hw : klass r.1 ≠ 1 → cutAt r.1 r.2 levels = none := fun h1 => by
    rcases h.whole with h2 | h2
    · exfalso
      have := h.same
      apply h1
      rw [this]
      unfold klass
      rw [if_pos h2]
    · exact h2
  obtain ⟨a, b⟩ := r
  have hlo := h.lo
  have hle := h.le
  have hsame := h.same
  simp only at *
  have h12345 : klass a = 1 ∨ klass a = 2 ∨ (klass a = 3 ∨ klass a = 4) ∨ klass a = 5 := by omega
  have one : ∀ x : Int, 1 * x = x := Int.one_mul
  rcases h12345 with h1 | h1 | h1 | h1
  · rw [show rowOf a b = [(a, b)] by unfold rowOf; rw [(enc1 h1 hlo).1, (enc1 (hsame ▸ h1) (by omega)).1]; rfl]
    simp [prodW]
  · rw [show rowOf a b = [(192 + a / 64, 192 + b / 64), (128 + a % 64, 128 + b % 64)] by unfold rowOf; rw [(enc2 h1).1, (enc2 (hsame ▸ h1)).1]; rfl]
    simp only [prodW, List.foldl_cons, List.foldl_nil, one]
    obtain ⟨_, x1, x2⟩ := enc2 h1
    obtain ⟨_, y1, y2⟩ := enc2 (hsame ▸ h1)
    rcases cut_none (hw (by omega)) with g | ⟨g1, g2, _⟩
    · rw [show 192 + b / 64 - (192 + a / 64) + 1 = 1 by omega, one]; omega
    · rw [show 128 + b % 64 - (128 + a % 64) + 1 = 64 by omega]; omega
  · rw [show rowOf a b = [(224 + a / 4096, 224 + b / 4096), (128 + a / 64 % 64, 128 + b / 64 % 64), (128 + a % 64, 128 + b % 64)] by unfold rowOf; rw [(enc3 h1).1, (enc3 (hsame ▸ h1)).1]; rfl]
    simp only [prodW, List.foldl_cons, List.foldl_nil, one]
    obtain ⟨_, x1, x2⟩ := enc3 h1
    obtain ⟨_, y1, y2⟩ := enc3 (hsame ▸ h1)
    rcases cut_none (hw (by omega)) with g | ⟨g1, g2, g | ⟨g3, g4, _⟩⟩
    · rw [show 224 + b / 4096 - (224 + a / 4096) + 1 = 1 by omega, show 128 + b / 64 % 64 - (128 + a / 64 % 64) + 1 = 1 by omega, one, one]; omega
    · rw [show 224 + b / 4096 - (224 + a / 4096) + 1 = 1 by omega, show 128 + b % 64 - (128 + a % 64) + 1 = 64 by omega, one]; omega
    · rw [show 128 + b / 64 % 64 - (128 + a / 64 % 64) + 1 = 64 by omega, show 128 + b % 64 - (128 + a % 64) + 1 = 64 by omega]; omega
  · rw [show rowOf a b = [(240 + a / 262144, 240 + b / 262144), (128 + a / 4096 % 64, 128 + b / 4096 % 64), (128 + a / 64 % 64, 128 + b / 64 % 64), (128 + a % 64, 128 + b % 64)] by unfold rowOf; rw [(enc5 h1).1, (enc5 (hsame ▸ h1)).1]; rfl]
    simp only [prodW, List.foldl_cons, List.foldl_nil, one]
    rcases cut_none (hw (by omega)) with g | ⟨g1, g2, g | ⟨g3, g4, g | ⟨g5, g6⟩⟩⟩
    · rw [show 240 + b / 262144 - (240 + a / 262144) + 1 = 1 by omega, show 128 + b / 4096 % 64 - (128 + a / 4096 % 64) + 1 = 1 by omega, show 128 + b / 64 % 64 - (128 + a / 64 % 64) + 1 = 1 by omega, one, one, one]; omega
    · rw [show 240 + b / 262144 - (240 + a / 262144) + 1 = 1 by omega, show 128 + b / 4096 % 64 - (128 + a / 4096 % 64) + 1 = 1 by omega, show 128 + b % 64 - (128 + a % 64) + 1 = 64 by omega, one, one]; omega
    · rw [show 240 + b / 262144 - (240 + a / 262144) + 1 = 1 by omega, show 128 + b / 64 % 64 - (128 + a / 64 % 64) + 1 = 64 by omega, show 128 + b % 64 - (128 + a % 64) + 1 = 64 by omega, one]; omega
    · rw [show 128 + b / 4096 % 64 - (128 + a / 4096 % 64) + 1 = 64 by omega, show 128 + b / 64 % 64 - (128 + a / 64 % 64) + 1 = 64 by omega, show 128 + b % 64 - (128 + a % 64) + 1 = 64 by omega]; omega

theorem rise_size {L : List Rg} : ∀ (lo : Int) (n : Nat), lo + n = 1114112 → (∀ r ∈ L, lo ≤ r.1 ∧ r.1 ≤ r.2 ∧ r.2 ≤ 1114111) → L.Pairwise (fun p q => p.2 < q.1) → sizeL L = cnt (inB L) lo n := by
  induction L with
  | nil => intro lo n _ _ _; rw [cnt_none (f := inB []) (fun _ _ _ => rfl)]; rfl
  | cons r L ih =>
    intro lo n hn hr hp
    obtain ⟨p1, p2⟩ := List.pairwise_cons.1 hp
    obtain ⟨q1, q2, q3⟩ := hr r (List.mem_cons_self ..)
    obtain ⟨n1, e1⟩ : ∃ n1 : Nat, (n1 : Int) = r.1 - lo := ⟨(r.1 - lo).toNat, by omega⟩
    obtain ⟨n2, e2⟩ : ∃ n2 : Nat, (n2 : Int) = r.2 - r.1 + 1 := ⟨(r.2 - r.1 + 1).toNat, by omega⟩
    obtain ⟨n3, e3⟩ : ∃ n3 : Nat, (n3 : Int) = 1114111 - r.2 := ⟨(1114111 - r.2).toNat, by omega⟩
    obtain rfl : n = n1 + n2 + n3 := by omega
    have hin := ih (r.2 + 1) n3 (by omega) (fun q hq => by have := hr q (List.mem_cons_of_mem _ hq); have := p1 q hq; omega) p2
    have hlow : ∀ x, inB L x = true → r.2 < x := fun x hx => by
      obtain ⟨q, hq, y1, y2⟩ := (inB_iff _ _).1 hx
      have := p1 q hq; omega
    rw [cnt_add, cnt_add]
    rw [cnt_none (f := inB (r :: L)) (lo := lo) (n := n1) (fun x x1 x2 => by
      rw [← Bool.not_eq_true]; intro hx
      rcases (InS_cons r L x).1 ((inB_iff _ _).1 hx) with h | h
      · omega
      · have := hlow x ((inB_iff _ _).2 h); omega)]
    rw [cnt_all (f := inB (r :: L)) (lo := lo + n1) (n := n2) (fun x x1 x2 => (inB_iff _ _).2 ((InS_cons r L x).2 (.inl ⟨by omega, by omega⟩)))]
    rw [cnt_congr (f := inB (r :: L)) (g := inB L) (lo := lo + (n1 + n2 : Nat)) (n := n3) (fun x x1 x2 => by
      rw [Bool.eq_iff_iff, inB_iff, inB_iff, InS_cons]
      constructor
      · rintro (h | h)
        · omega
        · exact h
      · exact .inr)]
    rw [show lo + ((n1 + n2 : Nat) : Int) = r.2 + 1 by omega]
    show r.2 - r.1 + 1 + sizeL L = _
    rw [hin]
    omega

/-! ### The bytes rise as the scalars -/
def lexP : List Int → List Int → Prop
  | _, [] => False
  | [], _ :: _ => True
  | a :: x, b :: y => a < b ∨ (a = b ∧ lexP x y)
set_option maxHeartbeats 4000000 in
theorem lex_enc {a b : Int} (h0 : 0 ≤ a) (h : a < b) (h1 : b ≤ 1114111) : lexP (encU a) (encU b) := by
  unfold encU
  repeat' split
  all_goals (simp only [lexP]; omega)

end UtfPure
end Go.Proofs.Ytemjgnpkhomofaa
