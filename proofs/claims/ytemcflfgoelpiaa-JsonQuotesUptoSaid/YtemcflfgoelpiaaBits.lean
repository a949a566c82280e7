/- Masks and marks of 64-bit numbers as sums and remainders. -/
import Derived.Test.YtemcflfgoelpiaaRows
import Derived.WalkKit
import Derived.Laws.BitsLemmas
import Derived.Laws.BytesArg
namespace Go.Proofs.Ytemcflfgoelpiaa
open Go.RowKit

theorem wraps63 : ∀ n : Int, 0 ≤ n → n < 2 ^ 63 → IntKind.i64.wrap n = n := fun n h0 h1 => by rw [IntKind.wrap_i64]; omega
theorem and_low (x : Int) (k : Nat) (hk : k ≤ 63) (h0 : 0 ≤ x) (h1 : x < 2 ^ 63) : bits BinOp.and IntKind.i64 x (2 ^ k - 1) = x % 2 ^ k := bits_mask .i64 63 (by decide) wraps63 k hk x h0 h1

theorem nat_or_low (x k : Nat) : x ||| (2 ^ k - 1) = 2 ^ k * (x / 2 ^ k) + (2 ^ k - 1) := by
  apply Nat.eq_of_testBit_eq
  intro i
  have hp := Nat.two_pow_pos k
  rw [Nat.testBit_or, Nat.testBit_two_pow_sub_one, Nat.testBit_two_pow_mul_add _ (by omega), Nat.testBit_two_pow_sub_one]
  by_cases h : i < k
  · simp [h]
  · rw [if_neg h, Nat.testBit_div_two_pow, show i - k + k = i by omega]
    simp [h]
theorem bv_of_nat (x : Nat) (h : x < 2 ^ 64) : (BitVec.ofInt 64 (x : Int)).toNat = x := by
  rw [BitVec.toNat_ofInt]; omega
theorem or_low (x k : Nat) (hk : k ≤ 63) (h1 : x < 2 ^ 63) : bits BinOp.or IntKind.i64 (x : Int) ((2 ^ k - 1 : Nat) : Int) = ((2 ^ k * (x / 2 ^ k) + (2 ^ k - 1) : Nat) : Int) := by
  have hp : 2 ^ k ≤ 2 ^ 63 := Nat.pow_le_pow_right (by decide) hk
  have hlt : x ||| (2 ^ k - 1) < 2 ^ 63 := Nat.or_lt_two_pow h1 (by have := Nat.two_pow_pos k; omega)
  show IntKind.i64.wrap ((BitVec.ofInt 64 (x : Int) ||| BitVec.ofInt 64 ((2 ^ k - 1 : Nat) : Int)).toNat : Nat) = _
  rw [BitVec.toNat_or, bv_of_nat x (by omega), bv_of_nat _ (by have := Nat.two_pow_pos k; omega), ← nat_or_low, wraps63 _ (by omega) (by omega)]
theorem andNot_low (x k : Nat) (hk : k ≤ 63) (h1 : x < 2 ^ 63) : bits BinOp.andNot IntKind.i64 (x : Int) ((2 ^ k - 1 : Nat) : Int) = ((2 ^ k * (x / 2 ^ k) : Nat) : Int) := by
  have hp : 2 ^ k ≤ 2 ^ 63 := Nat.pow_le_pow_right (by decide) hk
  have hpp := Nat.two_pow_pos k
  have e : (BitVec.ofInt 64 (x : Int) &&& ~~~BitVec.ofInt 64 ((2 ^ k - 1 : Nat) : Int)).toNat = 2 ^ k * (x / 2 ^ k) := by
    apply Nat.eq_of_testBit_eq
    intro i
    rw [show 2 ^ k * (x / 2 ^ k) = 2 ^ k * (x / 2 ^ k) + 0 by omega, Nat.testBit_two_pow_mul_add _ hpp]
    rw [BitVec.toNat_and, Nat.testBit_and, bv_of_nat x (by omega), BitVec.testBit_toNat, BitVec.getLsbD_not, ← BitVec.testBit_toNat, bv_of_nat _ (by omega), Nat.testBit_two_pow_sub_one]
    by_cases h : i < k
    · simp [h]
    · rw [if_neg h, Nat.testBit_div_two_pow, show i - k + k = i by omega]
      by_cases h6 : i < 64
      · simp [h, h6]
      · have : x.testBit i = false := Nat.testBit_lt_two_pow (Nat.lt_of_lt_of_le h1 (Nat.pow_le_pow_right (by decide) (by omega)))
        simp [this]
  show IntKind.i64.wrap ((BitVec.ofInt 64 (x : Int) &&& ~~~BitVec.ofInt 64 ((2 ^ k - 1 : Nat) : Int)).toNat : Nat) = _
  have hle : 2 ^ k * (x / 2 ^ k) ≤ x := Nat.mul_div_le x (2 ^ k)
  rw [e, wraps63 _ (by omega) (by omega)]

theorem and63 (x : Int) (h0 : 0 ≤ x) (h1 : x ≤ 2000000) : bits BinOp.and IntKind.i64 x 63 = x % 64 := and_low x 6 (by decide) h0 (by omega)
theorem and4095 (x : Int) (h0 : 0 ≤ x) (h1 : x ≤ 2000000) : bits BinOp.and IntKind.i64 x 4095 = x % 4096 := and_low x 12 (by decide) h0 (by omega)
theorem and262143 (x : Int) (h0 : 0 ≤ x) (h1 : x ≤ 2000000) : bits BinOp.and IntKind.i64 x 262143 = x % 262144 := and_low x 18 (by decide) h0 (by omega)
theorem or63 (x : Int) (h0 : 0 ≤ x) (h1 : x ≤ 2000000) : bits BinOp.or IntKind.i64 x 63 = x / 64 * 64 + 63 := by
  obtain ⟨n, rfl⟩ := Int.eq_ofNat_of_zero_le h0
  have := or_low n 6 (by decide) (by omega)
  simp only [Nat.reducePow, Nat.reduceSub] at this
  rw [show ((63 : Nat) : Int) = 63 from rfl] at this
  rw [this]; omega
theorem or4095 (x : Int) (h0 : 0 ≤ x) (h1 : x ≤ 2000000) : bits BinOp.or IntKind.i64 x 4095 = x / 4096 * 4096 + 4095 := by
  obtain ⟨n, rfl⟩ := Int.eq_ofNat_of_zero_le h0
  have := or_low n 12 (by decide) (by omega)
  simp only [Nat.reducePow, Nat.reduceSub] at this
  rw [show ((4095 : Nat) : Int) = 4095 from rfl] at this
  rw [this]; omega
theorem or262143 (x : Int) (h0 : 0 ≤ x) (h1 : x ≤ 2000000) : bits BinOp.or IntKind.i64 x 262143 = x / 262144 * 262144 + 262143 := by
  obtain ⟨n, rfl⟩ := Int.eq_ofNat_of_zero_le h0
  have := or_low n 18 (by decide) (by omega)
  simp only [Nat.reducePow, Nat.reduceSub] at this
  rw [show ((262143 : Nat) : Int) = 262143 from rfl] at this
  rw [this]; omega
theorem andNot63 (x : Int) (h0 : 0 ≤ x) (h1 : x ≤ 2000000) : bits BinOp.andNot IntKind.i64 x 63 = x / 64 * 64 := by
  obtain ⟨n, rfl⟩ := Int.eq_ofNat_of_zero_le h0
  have := andNot_low n 6 (by decide) (by omega)
  simp only [Nat.reducePow, Nat.reduceSub] at this
  rw [show ((63 : Nat) : Int) = 63 from rfl] at this
  rw [this]; omega
theorem andNot4095 (x : Int) (h0 : 0 ≤ x) (h1 : x ≤ 2000000) : bits BinOp.andNot IntKind.i64 x 4095 = x / 4096 * 4096 := by
  obtain ⟨n, rfl⟩ := Int.eq_ofNat_of_zero_le h0
  have := andNot_low n 12 (by decide) (by omega)
  simp only [Nat.reducePow, Nat.reduceSub] at this
  rw [show ((4095 : Nat) : Int) = 4095 from rfl] at this
  rw [this]; omega
theorem andNot262143 (x : Int) (h0 : 0 ≤ x) (h1 : x ≤ 2000000) : bits BinOp.andNot IntKind.i64 x 262143 = x / 262144 * 262144 := by
  obtain ⟨n, rfl⟩ := Int.eq_ofNat_of_zero_le h0
  have := andNot_low n 18 (by decide) (by omega)
  simp only [Nat.reducePow, Nat.reduceSub] at this
  rw [show ((262143 : Nat) : Int) = 262143 from rfl] at this
  rw [this]; omega
theorem or192 (x : Int) (h0 : 0 ≤ x) (h1 : x < 32) : bits BinOp.or IntKind.i64 192 x = 192 + x := by
  have h : ∀ k : Fin 32, bits BinOp.or IntKind.i64 192 (k.val : Int) = 192 + (k.val : Int) := by decide +kernel
  obtain ⟨n, rfl⟩ := Int.eq_ofNat_of_zero_le h0
  exact h ⟨n, by omega⟩
theorem or224 (x : Int) (h0 : 0 ≤ x) (h1 : x < 16) : bits BinOp.or IntKind.i64 224 x = 224 + x := by
  have h : ∀ k : Fin 16, bits BinOp.or IntKind.i64 224 (k.val : Int) = 224 + (k.val : Int) := by decide +kernel
  obtain ⟨n, rfl⟩ := Int.eq_ofNat_of_zero_le h0
  exact h ⟨n, by omega⟩
theorem or240 (x : Int) (h0 : 0 ≤ x) (h1 : x < 8) : bits BinOp.or IntKind.i64 240 x = 240 + x := by
  have h : ∀ k : Fin 8, bits BinOp.or IntKind.i64 240 (k.val : Int) = 240 + (k.val : Int) := by decide +kernel
  obtain ⟨n, rfl⟩ := Int.eq_ofNat_of_zero_le h0
  exact h ⟨n, by omega⟩
theorem or128 (x : Int) (h0 : 0 ≤ x) (h1 : x < 64) : bits BinOp.or IntKind.i64 128 x = 128 + x := by
  have h : ∀ k : Fin 64, bits BinOp.or IntKind.i64 128 (k.val : Int) = 128 + (k.val : Int) := by decide +kernel
  obtain ⟨n, rfl⟩ := Int.eq_ofNat_of_zero_le h0
  exact h ⟨n, by omega⟩

end Go.Proofs.Ytemcflfgoelpiaa
