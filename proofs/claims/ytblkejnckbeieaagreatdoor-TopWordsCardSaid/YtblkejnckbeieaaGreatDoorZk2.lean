/- Chapter 10: the parser of patterns: a quantifier.
  Masks and marks of 64-bit numbers as sums and remainders.
  Chapter 10: the parser of patterns: a digit of sixteen, and numbers by them.
  Lists of bytes in memory, and their conversions to strings (for seats without the texts of the encoders).
  Chapter 10: a row of bytes that a call builds by append, and the text that it becomes; the parser's state beside it.
  Sets of numbers told by ranges, in plain Lean: what is in them, the one form, and how many they hold.
  Walks of the methods of sets.Set that read, and of those that build a set by append.
  Walks of the methods of sets.Set that build a set by append: Not, And.
  sort.Slice at a slice of ranges, by the library's contract: the row holds a permutation of what it held, rising by From. -/
import Derived.Test.YtblkejnckbeieaaGreatDoorZk1
import Derived.Test.YtblkejnckbeieaaGreatDoorRows
import Derived.WalkKit
import Derived.Laws.BitsLemmas
import Derived.Laws.BytesArg
import Derived.Test.YtblkejnckbeieaaGreatDoorShelf
namespace Go.Proofs.YtblkejnckbeieaaGreatDoor
open Go.RowKit

/-- What times hands back, and where the parser stands. -/
def timesV : Option (Int × Int × Nat) → Value
  | some (a, b, _) => .tuple #[.int .i64 a, .int .i64 b, .bool true]
  | none => .tuple #[.int .i64 0, .int .i64 0, .bool false]
def timesJ (i : Nat) : Option (Int × Int × Nat) → Nat
  | some (_, _, j) => j
  | none => i

theorem digs_in {rs : List Int} : ∀ (f : Nat) (n : Int) (i : Nat), i ≤ rs.length → i ≤ (SynP.digs rs f n i).2 ∧ (SynP.digs rs f n i).2 ≤ rs.length
  | 0, _, _, h => ⟨Nat.le_refl _, h⟩
  | f + 1, n, i, h => by
    by_cases hd : 48 ≤ SynP.pk rs i ∧ SynP.pk rs i ≤ 57
    · rw [digs_next hd]
      have := pk_in (rs := rs) (i := i) (by omega)
      have := digs_in (rs := rs) f (10 * n + SynP.pk rs i - 48) (i + 1) (by omega)
      omega
    · rw [digs_stop hd]
      exact ⟨Nat.le_refl _, h⟩

set_option maxHeartbeats 800000 in
theorem times_any (w : World) (X : Cx) (p : Pv) (i : Nat) (h : At w X p i) :
    Calls Tryz.prog 102 #[.pointer (some ⟨X.b, 0, none⟩)] w fun e w' => Went w X p (timesV (SynP.times X.rs i)) (timesJ i (SynP.times X.rs i)) e w' := by
  have HA := Lib.hid h
  have HM := Lib.hid (Mv.rfl_ X.b w)
  have hfew := h.few
  have hc := h.cell
  have hz := h.frozen
  clear h
  by_cases h42 : SynP.pk X.rs i = 42
  · rw [show SynP.times X.rs i = some (0, -1, i + 1) by unfold SynP.times; rw [if_pos h42]]
    go_enter Tryz.func102, Tryz.ntmps102
    go_wp2_with (go_at_call 66; (first | refine (has_no _ _ X p _ HA.out (by simp only [UInt8.reduceToNat]; omega)).mono ?_ | refine (has_yes _ _ X p _ HA.out (by simp only [UInt8.reduceToNat]; omega)).mono ?_); rintro e w1 ⟨rfl, hm1, ha1⟩; replace HM := Lib.hid (HM.out.step hm1); replace HA := Lib.hid ha1; clear hm1 ha1; replace hc := HA.out.cell; replace hz := HA.out.frozen)
    go_ret3
    exact ⟨rfl, HM.out, HA.out⟩
  by_cases h43 : SynP.pk X.rs i = 43
  · rw [show SynP.times X.rs i = some (1, -1, i + 1) by unfold SynP.times; rw [if_neg h42, if_pos h43]]
    go_enter Tryz.func102, Tryz.ntmps102
    go_wp2_with (go_at_call 66; (first | refine (has_no _ _ X p _ HA.out (by simp only [UInt8.reduceToNat]; omega)).mono ?_ | refine (has_yes _ _ X p _ HA.out (by simp only [UInt8.reduceToNat]; omega)).mono ?_); rintro e w1 ⟨rfl, hm1, ha1⟩; replace HM := Lib.hid (HM.out.step hm1); replace HA := Lib.hid ha1; clear hm1 ha1; replace hc := HA.out.cell; replace hz := HA.out.frozen)
    go_ret3
    exact ⟨rfl, HM.out, HA.out⟩
  by_cases h63 : SynP.pk X.rs i = 63
  · rw [show SynP.times X.rs i = some (0, 1, i + 1) by unfold SynP.times; rw [if_neg h42, if_neg h43, if_pos h63]]
    go_enter Tryz.func102, Tryz.ntmps102
    go_wp2_with (go_at_call 66; (first | refine (has_no _ _ X p _ HA.out (by simp only [UInt8.reduceToNat]; omega)).mono ?_ | refine (has_yes _ _ X p _ HA.out (by simp only [UInt8.reduceToNat]; omega)).mono ?_); rintro e w1 ⟨rfl, hm1, ha1⟩; replace HM := Lib.hid (HM.out.step hm1); replace HA := Lib.hid ha1; clear hm1 ha1; replace hc := HA.out.cell; replace hz := HA.out.frozen)
    go_ret3
    exact ⟨rfl, HM.out, HA.out⟩
  by_cases h123 : SynP.pk X.rs i ≠ 123
  · rw [show SynP.times X.rs i = none by unfold SynP.times; rw [if_neg h42, if_neg h43, if_neg h63, if_pos h123]]
    go_enter Tryz.func102, Tryz.ntmps102
    go_wp2_with (go_at_call 66; (first | refine (has_no _ _ X p _ HA.out (by simp only [UInt8.reduceToNat]; omega)).mono ?_ | refine (has_yes _ _ X p _ HA.out (by simp only [UInt8.reduceToNat]; omega)).mono ?_); rintro e w1 ⟨rfl, hm1, ha1⟩; replace HM := Lib.hid (HM.out.step hm1); replace HA := Lib.hid ha1; clear hm1 ha1; replace hc := HA.out.cell; replace hz := HA.out.frozen)
    go_ret3
    exact ⟨rfl, HM.out, HA.out⟩
  have hi1 := pk_in (show SynP.pk X.rs i ≠ -1 by omega)
  have hdin := digs_in (rs := X.rs) 4 0 (i + 1) (by omega)
  obtain ⟨⟨n, j⟩, hd⟩ : ∃ d, SynP.digs X.rs 4 0 (i + 1) = d := ⟨_, rfl⟩
  have HD : Hid (∀ w, At w X p (i + 1) → Calls Tryz.prog 138 #[.pointer (some ⟨X.b, 0, none⟩)] w fun e w' => Went w X p (.tuple #[.int .i64 n, .bool (decide (i + 1 < j))]) j e w') := Lib.hid fun w h => by
    have := digits_any w X p (i + 1) h
    rw [hd] at this
    exact this
  have hT : SynP.times X.rs i = if j = i + 1 then none else if SynP.pk X.rs j = 44 then
      (if SynP.pk X.rs (SynP.digs X.rs 4 0 (j + 1)).2 = 125 then some (n, if (SynP.digs X.rs 4 0 (j + 1)).2 = j + 1 then -1 else (SynP.digs X.rs 4 0 (j + 1)).1, (SynP.digs X.rs 4 0 (j + 1)).2 + 1) else none)
      else if SynP.pk X.rs j = 125 then some (n, n, j + 1) else none := by
    unfold SynP.times
    rw [if_neg h42, if_neg h43, if_neg h63, if_neg (by omega)]
    simp only [hd]
  rw [hT]
  rw [hd] at hdin
  obtain ⟨hd1, hd2⟩ := hdin
  clear hT hd
  by_cases hj : j = i + 1
  · subst hj
    rw [if_pos rfl]
    go_enter Tryz.func102, Tryz.ntmps102
    go_wp2_with (first | (go_at_call 66; (first | refine (has_no _ _ X p _ HA.out (by simp only [UInt8.reduceToNat]; omega)).mono ?_ | refine (has_yes _ _ X p _ HA.out (by simp only [UInt8.reduceToNat]; omega)).mono ?_); rintro e w1 ⟨rfl, hm1, ha1⟩; replace HM := Lib.hid (HM.out.step hm1); replace HA := Lib.hid ha1; clear hm1 ha1; replace hc := HA.out.cell; replace hz := HA.out.frozen) | (go_at_call 138; refine (HD.out _ HA.out).mono ?_; rintro e w1 ⟨rfl, hm1, ha1⟩; replace HM := Lib.hid (HM.out.step hm1); replace HA := Lib.hid ha1; clear hm1 ha1; replace hc := HA.out.cell; replace hz := HA.out.frozen))
    go_ret3
    exact ⟨rfl, HM.out.step (mv_put _ X _), HA.out.put _ _ rfl (by show i ≤ _; omega)⟩
  rw [if_neg hj]
  have hij : i + 1 < j := by omega
  have hjb : decide (i + 1 < j) = true := decide_eq_true hij
  by_cases h44 : SynP.pk X.rs j = 44
  · rw [if_pos h44]
    have hj1 := pk_in (show SynP.pk X.rs j ≠ -1 by omega)
    have hein := digs_in (rs := X.rs) 4 0 (j + 1) (by omega)
    obtain ⟨⟨m, k⟩, he⟩ : ∃ d, SynP.digs X.rs 4 0 (j + 1) = d := ⟨_, rfl⟩
    have HD2 : Hid (∀ w, At w X p (j + 1) → Calls Tryz.prog 138 #[.pointer (some ⟨X.b, 0, none⟩)] w fun e w' => Went w X p (.tuple #[.int .i64 m, .bool (decide (j + 1 < k))]) k e w') := Lib.hid fun w h => by
      have := digits_any w X p (j + 1) h
      rw [he] at this
      exact this
    rw [he] at hein ⊢
    obtain ⟨he1, he2⟩ := hein
    clear he
    by_cases hk : k = j + 1
    · subst hk
      have hkb : decide (j + 1 < j + 1) = false := decide_eq_false (by omega)
      by_cases h125 : SynP.pk X.rs (j + 1) = 125
      · rw [if_pos h125, if_pos rfl]
        go_enter Tryz.func102, Tryz.ntmps102
        go_wp2_with (first | (go_at_call 66; (first | refine (has_no _ _ X p _ HA.out (by simp only [UInt8.reduceToNat]; omega)).mono ?_ | refine (has_yes _ _ X p _ HA.out (by simp only [UInt8.reduceToNat]; omega)).mono ?_); rintro e w1 ⟨rfl, hm1, ha1⟩; replace HM := Lib.hid (HM.out.step hm1); replace HA := Lib.hid ha1; clear hm1 ha1; replace hc := HA.out.cell; replace hz := HA.out.frozen) | (go_at_call 138; (first | refine (HD.out _ HA.out).mono ?_ | refine (HD2.out _ HA.out).mono ?_); rintro e w1 ⟨rfl, hm1, ha1⟩; replace HM := Lib.hid (HM.out.step hm1); replace HA := Lib.hid ha1; clear hm1 ha1; replace hc := HA.out.cell; replace hz := HA.out.frozen))
        go_ret3
        exact ⟨rfl, HM.out, HA.out⟩
      · rw [if_neg h125]
        go_enter Tryz.func102, Tryz.ntmps102
        go_wp2_with (first | (go_at_call 66; (first | refine (has_no _ _ X p _ HA.out (by simp only [UInt8.reduceToNat]; omega)).mono ?_ | refine (has_yes _ _ X p _ HA.out (by simp only [UInt8.reduceToNat]; omega)).mono ?_); rintro e w1 ⟨rfl, hm1, ha1⟩; replace HM := Lib.hid (HM.out.step hm1); replace HA := Lib.hid ha1; clear hm1 ha1; replace hc := HA.out.cell; replace hz := HA.out.frozen) | (go_at_call 138; (first | refine (HD.out _ HA.out).mono ?_ | refine (HD2.out _ HA.out).mono ?_); rintro e w1 ⟨rfl, hm1, ha1⟩; replace HM := Lib.hid (HM.out.step hm1); replace HA := Lib.hid ha1; clear hm1 ha1; replace hc := HA.out.cell; replace hz := HA.out.frozen))
        go_ret3
        exact ⟨rfl, HM.out.step (mv_put _ X _), HA.out.put _ _ rfl (by show i ≤ _; omega)⟩
    · have hkb : decide (j + 1 < k) = true := decide_eq_true (by omega)
      by_cases h125 : SynP.pk X.rs k = 125
      · rw [if_pos h125, if_neg hk]
        go_enter Tryz.func102, Tryz.ntmps102
        go_wp2_with (first | (go_at_call 66; (first | refine (has_no _ _ X p _ HA.out (by simp only [UInt8.reduceToNat]; omega)).mono ?_ | refine (has_yes _ _ X p _ HA.out (by simp only [UInt8.reduceToNat]; omega)).mono ?_); rintro e w1 ⟨rfl, hm1, ha1⟩; replace HM := Lib.hid (HM.out.step hm1); replace HA := Lib.hid ha1; clear hm1 ha1; replace hc := HA.out.cell; replace hz := HA.out.frozen) | (go_at_call 138; (first | refine (HD.out _ HA.out).mono ?_ | refine (HD2.out _ HA.out).mono ?_); rintro e w1 ⟨rfl, hm1, ha1⟩; replace HM := Lib.hid (HM.out.step hm1); replace HA := Lib.hid ha1; clear hm1 ha1; replace hc := HA.out.cell; replace hz := HA.out.frozen))
        go_ret3
        exact ⟨rfl, HM.out, HA.out⟩
      · rw [if_neg h125]
        go_enter Tryz.func102, Tryz.ntmps102
        go_wp2_with (first | (go_at_call 66; (first | refine (has_no _ _ X p _ HA.out (by simp only [UInt8.reduceToNat]; omega)).mono ?_ | refine (has_yes _ _ X p _ HA.out (by simp only [UInt8.reduceToNat]; omega)).mono ?_); rintro e w1 ⟨rfl, hm1, ha1⟩; replace HM := Lib.hid (HM.out.step hm1); replace HA := Lib.hid ha1; clear hm1 ha1; replace hc := HA.out.cell; replace hz := HA.out.frozen) | (go_at_call 138; (first | refine (HD.out _ HA.out).mono ?_ | refine (HD2.out _ HA.out).mono ?_); rintro e w1 ⟨rfl, hm1, ha1⟩; replace HM := Lib.hid (HM.out.step hm1); replace HA := Lib.hid ha1; clear hm1 ha1; replace hc := HA.out.cell; replace hz := HA.out.frozen))
        go_ret3
        exact ⟨rfl, HM.out.step (mv_put _ X _), HA.out.put _ _ rfl (by show i ≤ _; omega)⟩
  · rw [if_neg h44]
    by_cases h125 : SynP.pk X.rs j = 125
    · rw [if_pos h125]
      go_enter Tryz.func102, Tryz.ntmps102
      go_wp2_with (first | (go_at_call 66; (first | refine (has_no _ _ X p _ HA.out (by simp only [UInt8.reduceToNat]; omega)).mono ?_ | refine (has_yes _ _ X p _ HA.out (by simp only [UInt8.reduceToNat]; omega)).mono ?_); rintro e w1 ⟨rfl, hm1, ha1⟩; replace HM := Lib.hid (HM.out.step hm1); replace HA := Lib.hid ha1; clear hm1 ha1; replace hc := HA.out.cell; replace hz := HA.out.frozen) | (go_at_call 138; refine (HD.out _ HA.out).mono ?_; rintro e w1 ⟨rfl, hm1, ha1⟩; replace HM := Lib.hid (HM.out.step hm1); replace HA := Lib.hid ha1; clear hm1 ha1; replace hc := HA.out.cell; replace hz := HA.out.frozen))
      go_ret3
      exact ⟨rfl, HM.out, HA.out⟩
    · rw [if_neg h125]
      go_enter Tryz.func102, Tryz.ntmps102
      go_wp2_with (first | (go_at_call 66; (first | refine (has_no _ _ X p _ HA.out (by simp only [UInt8.reduceToNat]; omega)).mono ?_ | refine (has_yes _ _ X p _ HA.out (by simp only [UInt8.reduceToNat]; omega)).mono ?_); rintro e w1 ⟨rfl, hm1, ha1⟩; replace HM := Lib.hid (HM.out.step hm1); replace HA := Lib.hid ha1; clear hm1 ha1; replace hc := HA.out.cell; replace hz := HA.out.frozen) | (go_at_call 138; refine (HD.out _ HA.out).mono ?_; rintro e w1 ⟨rfl, hm1, ha1⟩; replace HM := Lib.hid (HM.out.step hm1); replace HA := Lib.hid ha1; clear hm1 ha1; replace hc := HA.out.cell; replace hz := HA.out.frozen))
      go_ret3
      exact ⟨rfl, HM.out.step (mv_put _ X _), HA.out.put _ _ rfl (by show i ≤ _; omega)⟩

end Go.Proofs.YtblkejnckbeieaaGreatDoor

namespace Go.Proofs.YtblkejnckbeieaaGreatDoor
open Go.RowKit

theorem wraps63 : ∀ n : Int, 0 ≤ n → n < 2 ^ 63 → IntKind.i64.wrap n = n := fun n h0 h1 => by rw [IntKind.wrap_i64]; omega
theorem and_low (x : Int) (k : Nat) (hk : k ≤ 63) (h0 : 0 ≤ x) (h1 : x < 2 ^ 63) : bits BinOp.and IntKind.i64 x (2 ^ k - 1) = x % 2 ^ k := bits_mask .i64 63 (by decide) wraps63 k hk x h0 h1

theorem nat_or_low (x k : Nat) : x ||| (2 ^ k - 1) = 2 ^ k * (x / 2 ^ k) + (2 ^ k - 1) := by
  apply Nat.eq_of_testBit_eq
  intro i
  have hp := Nat.two_pow_pos k
  rw [Nat.testBit_or, Nat.testBit_two_pow_sub_one, Nat.testBit_two_pow_mul_add _ (by omega), Nat.testBit_two_pow_sub_one]
  by_cases h : i < k
  · simp [h]
  · rw [if_neg h, Nat.testBit_div_two_pow, show i - k + k = i by omega]
    simp [h]
theorem bv_of_nat (x : Nat) (h : x < 2 ^ 64) : (BitVec.ofInt 64 (x : Int)).toNat = x := by
  rw [BitVec.toNat_ofInt]; omega
theorem or_low (x k : Nat) (hk : k ≤ 63) (h1 : x < 2 ^ 63) : bits BinOp.or IntKind.i64 (x : Int) ((2 ^ k - 1 : Nat) : Int) = ((2 ^ k * (x / 2 ^ k) + (2 ^ k - 1) : Nat) : Int) := by
  have hp : 2 ^ k ≤ 2 ^ 63 := Nat.pow_le_pow_right (by decide) hk
  have hlt : x ||| (2 ^ k - 1) < 2 ^ 63 := Nat.or_lt_two_pow h1 (by have := Nat.two_pow_pos k; omega)
  show IntKind.i64.wrap ((BitVec.ofInt 64 (x : Int) ||| BitVec.ofInt 64 ((2 ^ k - 1 : Nat) : Int)).toNat : Nat) = _
  rw [BitVec.toNat_or, bv_of_nat x (by omega), bv_of_nat _ (by have := Nat.two_pow_pos k; omega), ← nat_or_low, wraps63 _ (by omega) (by omega)]
theorem andNot_low (x k : Nat) (hk : k ≤ 63) (h1 : x < 2 ^ 63) : bits BinOp.andNot IntKind.i64 (x : Int) ((2 ^ k - 1 : Nat) : Int) = ((2 ^ k * (x / 2 ^ k) : Nat) : Int) := by
  have hp : 2 ^ k ≤ 2 ^ 63 := Nat.pow_le_pow_right (by decide) hk
  have hpp := Nat.two_pow_pos k
  have e : (BitVec.ofInt 64 (x : Int) &&& ~~~BitVec.ofInt 64 ((2 ^ k - 1 : Nat) : Int)).toNat = 2 ^ k * (x / 2 ^ k) := by
    apply Nat.eq_of_testBit_eq
    intro i
    rw [show 2 ^ k * (x / 2 ^ k) = 2 ^ k * (x / 2 ^ k) + 0 by omega, Nat.testBit_two_pow_mul_add _ hpp]
    rw [BitVec.toNat_and, Nat.testBit_and, bv_of_nat x (by omega), BitVec.testBit_toNat, BitVec.getLsbD_not, ← BitVec.testBit_toNat, bv_of_nat _ (by omega), Nat.testBit_two_pow_sub_one]
    by_cases h : i < k
    · simp [h]
    · rw [if_neg h, Nat.testBit_div_two_pow, show i - k + k = i by omega]
      by_cases h6 : i < 64
      · simp [h, h6]
      · have : x.testBit i = false := Nat.testBit_lt_two_pow (Nat.lt_of_lt_of_le h1 (Nat.pow_le_pow_right (by decide) (by omega)))
        simp [this]
  show IntKind.i64.wrap ((BitVec.ofInt 64 (x : Int) &&& ~~~BitVec.ofInt 64 ((2 ^ k - 1 : Nat) : Int)).toNat : Nat) = _
  have hle : 2 ^ k * (x / 2 ^ k) ≤ x := Nat.mul_div_le x (2 ^ k)
  rw [e, wraps63 _ (by omega) (by omega)]

theorem and63 (x : Int) (h0 : 0 ≤ x) (h1 : x ≤ 2000000) : bits BinOp.and IntKind.i64 x 63 = x % 64 := and_low x 6 (by decide) h0 (by omega)
theorem and4095 (x : Int) (h0 : 0 ≤ x) (h1 : x ≤ 2000000) : bits BinOp.and IntKind.i64 x 4095 = x % 4096 := and_low x 12 (by decide) h0 (by omega)
theorem and262143 (x : Int) (h0 : 0 ≤ x) (h1 : x ≤ 2000000) : bits BinOp.and IntKind.i64 x 262143 = x % 262144 := and_low x 18 (by decide) h0 (by omega)
theorem or63 (x : Int) (h0 : 0 ≤ x) (h1 : x ≤ 2000000) : bits BinOp.or IntKind.i64 x 63 = x / 64 * 64 + 63 := by
  obtain ⟨n, rfl⟩ := Int.eq_ofNat_of_zero_le h0
  have := or_low n 6 (by decide) (by omega)
  simp only [Nat.reducePow, Nat.reduceSub] at this
  rw [show ((63 : Nat) : Int) = 63 from rfl] at this
  rw [this]; omega
theorem or4095 (x : Int) (h0 : 0 ≤ x) (h1 : x ≤ 2000000) : bits BinOp.or IntKind.i64 x 4095 = x / 4096 * 4096 + 4095 := by
  obtain ⟨n, rfl⟩ := Int.eq_ofNat_of_zero_le h0
  have := or_low n 12 (by decide) (by omega)
  simp only [Nat.reducePow, Nat.reduceSub] at this
  rw [show ((4095 : Nat) : Int) = 4095 from rfl] at this
  rw [this]; omega
theorem or262143 (x : Int) (h0 : 0 ≤ x) (h1 : x ≤ 2000000) : bits BinOp.or IntKind.i64 x 262143 = x / 262144 * 262144 + 262143 := by
  obtain ⟨n, rfl⟩ := Int.eq_ofNat_of_zero_le h0
  have := or_low n 18 (by decide) (by omega)
  simp only [Nat.reducePow, Nat.reduceSub] at this
  rw [show ((262143 : Nat) : Int) = 262143 from rfl] at this
  rw [this]; omega
theorem andNot63 (x : Int) (h0 : 0 ≤ x) (h1 : x ≤ 2000000) : bits BinOp.andNot IntKind.i64 x 63 = x / 64 * 64 := by
  obtain ⟨n, rfl⟩ := Int.eq_ofNat_of_zero_le h0
  have := andNot_low n 6 (by decide) (by omega)
  simp only [Nat.reducePow, Nat.reduceSub] at this
  rw [show ((63 : Nat) : Int) = 63 from rfl] at this
  rw [this]; omega
theorem andNot4095 (x : Int) (h0 : 0 ≤ x) (h1 : x ≤ 2000000) : bits BinOp.andNot IntKind.i64 x 4095 = x / 4096 * 4096 := by
  obtain ⟨n, rfl⟩ := Int.eq_ofNat_of_zero_le h0
  have := andNot_low n 12 (by decide) (by omega)
  simp only [Nat.reducePow, Nat.reduceSub] at this
  rw [show ((4095 : Nat) : Int) = 4095 from rfl] at this
  rw [this]; omega
theorem andNot262143 (x : Int) (h0 : 0 ≤ x) (h1 : x ≤ 2000000) : bits BinOp.andNot IntKind.i64 x 262143 = x / 262144 * 262144 := by
  obtain ⟨n, rfl⟩ := Int.eq_ofNat_of_zero_le h0
  have := andNot_low n 18 (by decide) (by omega)
  simp only [Nat.reducePow, Nat.reduceSub] at this
  rw [show ((262143 : Nat) : Int) = 262143 from rfl] at this
  rw [this]; omega
theorem or192 (x : Int) (h0 : 0 ≤ x) (h1 : x < 32) : bits BinOp.or IntKind.i64 192 x = 192 + x := by
  have h : ∀ k : Fin 32, bits BinOp.or IntKind.i64 192 (k.val : Int) = 192 + (k.val : Int) := by decide +kernel
  obtain ⟨n, rfl⟩ := Int.eq_ofNat_of_zero_le h0
  exact h ⟨n, by omega⟩
theorem or224 (x : Int) (h0 : 0 ≤ x) (h1 : x < 16) : bits BinOp.or IntKind.i64 224 x = 224 + x := by
  have h : ∀ k : Fin 16, bits BinOp.or IntKind.i64 224 (k.val : Int) = 224 + (k.val : Int) := by decide +kernel
  obtain ⟨n, rfl⟩ := Int.eq_ofNat_of_zero_le h0
  exact h ⟨n, by omega⟩
theorem or240 (x : Int) (h0 : 0 ≤ x) (h1 : x < 8) : bits BinOp.or IntKind.i64 240 x = 240 + x := by
  have h : ∀ k : Fin 8, bits BinOp.or IntKind.i64 240 (k.val : Int) = 240 + (k.val : Int) := by decide +kernel
  obtain ⟨n, rfl⟩ := Int.eq_ofNat_of_zero_le h0
  exact h ⟨n, by omega⟩
theorem or128 (x : Int) (h0 : 0 ≤ x) (h1 : x < 64) : bits BinOp.or IntKind.i64 128 x = 128 + x := by
  have h : ∀ k : Fin 64, bits BinOp.or IntKind.i64 128 (k.val : Int) = 128 + (k.val : Int) := by decide +kernel
  obtain ⟨n, rfl⟩ := Int.eq_ofNat_of_zero_le h0
  exact h ⟨n, by omega⟩

end Go.Proofs.YtblkejnckbeieaaGreatDoor

namespace Go.Proofs.YtblkejnckbeieaaGreatDoor
open Go.RowKit

theorem or_shl16 (v y : Int) (h0 : 0 ≤ v) (h1 : v < 1000000000) (h2 : 0 ≤ y) (h3 : y < 16) : bits BinOp.or IntKind.i64 (v * 16) y = 16 * v + y := by
  obtain ⟨a, rfl⟩ : ∃ a : Nat, v = a := ⟨v.toNat, by omega⟩
  obtain ⟨b, rfl⟩ : ∃ b : Nat, y = b := ⟨y.toNat, by omega⟩
  have hb : b < 2 ^ 4 := by omega
  have key := Nat.shiftLeft_add_eq_or_of_lt hb a
  rw [Nat.shiftLeft_eq] at key
  have e1 : ((a : Int) * 16) = ((a * 2 ^ 4 : Nat) : Int) := by omega
  rw [e1]
  show IntKind.i64.wrap ((BitVec.ofInt 64 ((a * 2 ^ 4 : Nat) : Int) ||| BitVec.ofInt 64 (b : Int)).toNat : Nat) = _
  rw [BitVec.toNat_or, bv_of_nat (a * 2 ^ 4) (by omega), bv_of_nat b (by omega), ← key, wraps63 _ (by omega) (by omega)]
  omega

/-- What a method that may throw ends with. -/
def REnd (w : World) (X : Cx) (p : Pv) {α : Type} (V : α → Value) (J : α → Nat) : SynP.R α → Ending → World → Prop
  | .ok x, e, w' => Went w X p (V x) (J x) e w'
  | .bad c k, e, w' => Threw w X c k e w'

theorem hexOf_lt {c : Int} : SynP.hexOf c < 16 := by
  unfold SynP.hexOf
  split
  · omega
  · split
    · omega
    · split <;> omega
theorem nums_stop {rs : List Int} {f : Nat} {n : Int} {i : Nat} (h : f = 0 ∨ ¬ 0 ≤ SynP.hexOf (SynP.pk rs i)) : SynP.nums rs f n i = (n, i) := by
  cases f with
  | zero => rfl
  | succ f => unfold SynP.nums; rw [if_neg (by omega)]
theorem nums_next {rs : List Int} {f : Nat} {n : Int} {i : Nat} (h : 0 ≤ SynP.hexOf (SynP.pk rs i)) : SynP.nums rs (f + 1) n i = SynP.nums rs f (16 * n + SynP.hexOf (SynP.pk rs i)) (i + 1) := by
  rw [SynP.nums, if_pos h]
theorem number_br {rs : List Int} {from_ i : Nat} (h : SynP.pk rs i = 123) : SynP.number rs from_ i =
    if 1114111 < (SynP.nums rs 6 0 (i + 1)).1 ∨ (SynP.nums rs 6 0 (i + 1)).2 = i + 1 ∨ SynP.pk rs (SynP.nums rs 6 0 (i + 1)).2 ≠ 125 then .bad 20 from_ else .ok ((SynP.nums rs 6 0 (i + 1)).1, (SynP.nums rs 6 0 (i + 1)).2 + 1) := by
  unfold SynP.number
  rw [if_pos h]
theorem number_no {rs : List Int} {from_ i : Nat} (h : ¬ SynP.pk rs i = 123) : SynP.number rs from_ i =
    if (SynP.nums rs 2 0 i).2 ≠ i + 2 then .bad 20 from_ else .ok (SynP.nums rs 2 0 i) := by
  unfold SynP.number
  rw [if_neg h]

/-- The scalars are numbers of the machine, none below -1. -/
def Scal (rs : List Int) : Prop := ∀ r ∈ rs, 0 ≤ r ∧ r ≤ 1114111

set_option maxHeartbeats 400000 in
theorem hex_any (c : Int) (w : World) (hc : -1 ≤ c ∧ c ≤ 1114111) : Calls Tryz.prog 197 #[.int .i64 c] w fun e w' => e = .returned (.int .i64 (SynP.hexOf c)) ∧ w = w' := by
  obtain ⟨hc0, hc1⟩ := hc
  by_cases a1 : 48 ≤ c ∧ c ≤ 57
  · obtain ⟨a1, a2⟩ := a1
    rw [show SynP.hexOf c = c - 48 by unfold SynP.hexOf; rw [if_pos ⟨a1, a2⟩]]
    go_enter Tryz.func197, Tryz.ntmps197
    go_wp2
    go_ret
    exact ⟨ret_int (by go_num), rfl⟩
  by_cases a3 : 65 ≤ c ∧ c ≤ 70
  · rw [show SynP.hexOf c = c - 55 by unfold SynP.hexOf; rw [if_neg a1, if_pos a3]]
    obtain ⟨a3, a4⟩ := a3
    have a5 : ¬ c ≤ 57 := by omega
    have a6 : 48 ≤ c := by omega
    clear a1
    go_enter Tryz.func197, Tryz.ntmps197
    go_wp2
    go_ret
    exact ⟨ret_int (by first | (go_num; omega) | go_num | omega), rfl⟩
  by_cases a7 : 97 ≤ c ∧ c ≤ 102
  · rw [show SynP.hexOf c = c - 87 by unfold SynP.hexOf; rw [if_neg a1, if_neg a3, if_pos a7]]
    obtain ⟨a7, a8⟩ := a7
    have a5 : ¬ c ≤ 57 := by omega
    have a6 : 48 ≤ c := by omega
    have a9 : ¬ c ≤ 70 := by omega
    have a10 : 65 ≤ c := by omega
    clear a1 a3
    go_enter Tryz.func197, Tryz.ntmps197
    go_wp2
    go_ret
    exact ⟨ret_int (by first | (go_num; omega) | go_num | omega), rfl⟩
  rw [show SynP.hexOf c = -1 by unfold SynP.hexOf; rw [if_neg a1, if_neg a3, if_neg a7]]
  by_cases e1 : 48 ≤ c <;> by_cases e2 : 65 ≤ c <;> by_cases e3 : 97 ≤ c
  all_goals first
    | (exfalso; omega)
    | ((try have f1 : ¬ c ≤ 57 := by omega)
       (try have f2 : ¬ c ≤ 70 := by omega)
       (try have f3 : ¬ c ≤ 102 := by omega)
       clear a1 a3 a7
       go_enter Tryz.func197, Tryz.ntmps197
       go_wp2
       go_ret
       exact ⟨rfl, rfl⟩)

section
variable {rs : List Int} (hs : Scal rs)
include hs
theorem pk_sc (i : Nat) : -1 ≤ SynP.pk rs i ∧ SynP.pk rs i ≤ 1114111 := by
  rcases Nat.lt_or_ge i rs.length with h | h
  · have e : SynP.pk rs i = rs[i] := by unfold SynP.pk; rw [List.getD_eq_getElem?_getD, List.getElem?_eq_getElem h]; rfl
    have := hs rs[i] (List.getElem_mem h)
    omega
  · have e : SynP.pk rs i = -1 := by unfold SynP.pk; rw [List.getD_eq_getElem?_getD, List.getElem?_eq_none h]; rfl
    omega
end

set_option maxHeartbeats 1600000 in
theorem number_any (from_ : Nat) (w : World) (X : Cx) (p : Pv) (i : Nat) (h : At w X p i) (hs : Scal X.rs) (hf : from_ ≤ X.rs.length) :
    Calls Tryz.prog 175 #[.pointer (some ⟨X.b, 0, none⟩), .int .i64 from_] w fun e w' => REnd w X p (fun x => .int .i64 x.1) (fun x => x.2) (SynP.number X.rs from_ i) e w' := by
  have HA := Lib.hid h
  have HM := Lib.hid (Mv.rfl_ X.b w)
  have hfew := h.few
  have hc := h.cell
  have hz := h.frozen
  have HG := Lib.hid (pk_sc hs)
  obtain ⟨R, hR⟩ : ∃ R, SynP.number X.rs from_ i = R := ⟨_, rfl⟩
  have HR0 := Lib.hid hR
  rw [hR]
  clear h hs hR
  by_cases h123 : SynP.pk X.rs i = 123
  · have hi1 := pk_in (rs := X.rs) (i := i) (by omega)
    go_enter Tryz.func175, Tryz.ntmps175
    go_upto_region 3 with (go_at_call 66; (first | refine (has_no _ _ X p _ HA.out (by simp only [UInt8.reduceToNat]; omega)).mono ?_ | refine (has_yes _ _ X p _ HA.out (by simp only [UInt8.reduceToNat]; omega)).mono ?_); rintro e w1 ⟨rfl, hm1, ha1⟩; replace HM := Lib.hid (HM.out.step hm1); replace HA := Lib.hid ha1; clear hm1 ha1; replace hc := HA.out.cell; replace hz := HA.out.frozen)
    go_loopg [5, 6] 7 (fun k s5 s6 wr => ∃ (j : Nat) (n : Int), s5 = .int .i64 n ∧ s6 = .int .i64 j ∧ j ≤ 6 ∧ k = 7 - j ∧ 0 ≤ n ∧ n < 16 ^ j ∧ Hid (SynP.nums X.rs (6 - j) n (i + 1 + j) = SynP.nums X.rs 6 0 (i + 1)) ∧ Hid (Mv X.b w wr) ∧ Hid (At wr X p (i + 1 + j)))
    case atStart => exact ⟨0, 0, rfl, rfl, by omega, by omega, by omega, by decide, Lib.hid rfl, HM, HA⟩
    case round =>
      clear HM HA
      obtain ⟨j, n, rfl, rfl, hj, hk, hn0, hn1, HE, HM, HA⟩ := hrel
      have hn : n < 16777216 := by
        obtain rfl | rfl | rfl | rfl | rfl | rfl | rfl : j = 0 ∨ j = 1 ∨ j = 2 ∨ j = 3 ∨ j = 4 ∨ j = 5 ∨ j = 6 := by omega
        all_goals (simp at hn1; omega)
      have HN1 := Lib.hid hn1
      clear hn1
      have HK := Lib.hid hk
      clear hk
      replace hc := HA.out.cell
      replace hz := HA.out.frozen
      obtain ⟨hp1, hp2⟩ := HG.out (i + 1 + j)
      by_cases hgo : j < 6 ∧ 0 ≤ SynP.hexOf (SynP.pk X.rs (i + 1 + j))
      · obtain ⟨hj4, hx⟩ := hgo
        have hE := HE.out
        have hx16 := hexOf_lt (c := SynP.pk X.rs (i + 1 + j))
        rw [show 6 - j = 6 - (j + 1) + 1 by omega, nums_next hx] at hE
        have hin := pk_in (rs := X.rs) (i := i + 1 + j) (by intro h; rw [h] at hx; exact absurd hx (by decide))
        have HE2 := Lib.hid hE
        have hjj : (j : Int) < 6 := by omega
        have hj6 : (j : Int) < 6 := by omega
        have hor := or_shl16 n (SynP.hexOf (SynP.pk X.rs (i + 1 + j))) hn0 (by omega) hx hx16
        clear hE
        go_wp2_with (first | (go_at_call 100; refine (peek0 _ X p _ HA.out).mono ?_; rintro e w1 ⟨rfl, hm1, ha1⟩; replace HM := Lib.hid (HM.out.step hm1); replace HA := Lib.hid ha1; clear hm1 ha1; replace hc := HA.out.cell; replace hz := HA.out.frozen) | (go_at_call 197; refine (hex_any _ _ (by omega)).mono ?_; rintro e wh ⟨rfl, rfl⟩))
        go_roundg (gk - 1)
        case measure => have := HK.out; omega
        case rel => exact ⟨j + 1, 16 * n + SynP.hexOf (SynP.pk X.rs (i + 1 + j)), by go_num, by go_num, by omega, by have := HK.out; omega, by omega, by have := HN1.out; rw [Int.pow_succ]; omega, HE2, Lib.hid (HM.out.step (mv_put _ X _)), Lib.hid (HA.out.put _ _ (by omega) (by omega))⟩
      · have hE : SynP.nums X.rs 6 0 (i + 1) = (n, i + 1 + j) := by rw [← HE.out]; exact nums_stop (by omega)
        have hR := HR0.out
        rw [number_br h123, hE] at hR
        simp only at hR
        clear HE hE
        by_cases hj4 : j < 6
        · have hx : ¬ 0 ≤ SynP.hexOf (SynP.pk X.rs (i + 1 + j)) := fun h => hgo ⟨hj4, h⟩
          have hjj : (j : Int) < 6 := by omega
          have hj6 : (j : Int) < 6 := by omega
          clear hgo
          go_upto_region 7 with (first | (go_at_call 100; refine (peek0 _ X p _ HA.out).mono ?_; rintro e w1 ⟨rfl, hm1, ha1⟩; replace HM := Lib.hid (HM.out.step hm1); replace HA := Lib.hid ha1; clear hm1 ha1; replace hc := HA.out.cell; replace hz := HA.out.frozen) | (go_at_call 197; refine (hex_any _ _ (by omega)).mono ?_; rintro e wh ⟨rfl, rfl⟩))
          by_cases hq : 1114111 < n ∨ j = 0 ∨ SynP.pk X.rs (i + 1 + j) ≠ 125
          · rw [if_pos (by omega)] at hR; have HR := Lib.hid hR; clear hR
            rcases (by omega : 1114111 < n ∨ (n ≤ 1114111 ∧ j = 0) ∨ (n ≤ 1114111 ∧ 0 < j ∧ SynP.pk X.rs (i + 1 + j) ≠ 125)) with h1 | ⟨h1, h2⟩ | ⟨h1, h2, h3⟩
            · go_wp2_with (go_at_call 101; refine (fail_any _ _ _ X p _ HA.out (by omega)).mono ?_; rintro e w1 ⟨hm1, he1⟩; unfold thrown at he1; subst he1; replace HM := Lib.hid (HM.out.step hm1); clear hm1)
              rw [← HR.out]; exact ⟨rfl, HM.out, rfl⟩
            · have h9 : ¬ 1114111 < n := by omega
              subst h2
              go_wp2_with (go_at_call 101; refine (fail_any _ _ _ X p _ HA.out (by omega)).mono ?_; rintro e w1 ⟨hm1, he1⟩; unfold thrown at he1; subst he1; replace HM := Lib.hid (HM.out.step hm1); clear hm1)
              rw [← HR.out]; exact ⟨rfl, HM.out, rfl⟩
            · have h9 : ¬ 1114111 < n := by omega
              have h4 : ¬ (j : Int) = 0 := by omega
              have h6 : ((j : Int) == 0) = false := by rw [beq_eq_false_iff_ne]; exact h4
              go_wp2_with (first | (go_at_call 66; (first | refine (has_no _ _ X p _ HA.out (by simp only [UInt8.reduceToNat]; omega)).mono ?_ | refine (has_yes _ _ X p _ HA.out (by simp only [UInt8.reduceToNat]; omega)).mono ?_); rintro e w1 ⟨rfl, hm1, ha1⟩; replace HM := Lib.hid (HM.out.step hm1); replace HA := Lib.hid ha1; clear hm1 ha1; replace hc := HA.out.cell; replace hz := HA.out.frozen) | (go_at_call 101; refine (fail_any _ _ _ X p _ HA.out (by omega)).mono ?_; rintro e w1 ⟨hm1, he1⟩; unfold thrown at he1; subst he1; replace HM := Lib.hid (HM.out.step hm1); clear hm1))
              rw [← HR.out]; exact ⟨rfl, HM.out, rfl⟩
          · rw [if_neg (by omega)] at hR; have HR := Lib.hid hR; clear hR
            have h1 : n ≤ 1114111 := by omega
            have h9 : ¬ 1114111 < n := by omega
            have h4 : ¬ (j : Int) = 0 := by omega
            have h6 : ((j : Int) == 0) = false := by rw [beq_eq_false_iff_ne]; exact h4
            have h5 : SynP.pk X.rs (i + 1 + j) = 125 := by omega
            go_wp2_with (go_at_call 66; (first | refine (has_no _ _ X p _ HA.out (by simp only [UInt8.reduceToNat]; omega)).mono ?_ | refine (has_yes _ _ X p _ HA.out (by simp only [UInt8.reduceToNat]; omega)).mono ?_); rintro e w1 ⟨rfl, hm1, ha1⟩; replace HM := Lib.hid (HM.out.step hm1); replace HA := Lib.hid ha1; clear hm1 ha1; replace hc := HA.out.cell; replace hz := HA.out.frozen)
            go_ret
            rw [← HR.out]; exact ⟨rfl, HM.out, HA.out⟩
        · have hjj : ¬ (j : Int) < 6 := by omega
          
          clear hgo
          go_upto_region 7 with fail
          by_cases hq : 1114111 < n ∨ j = 0 ∨ SynP.pk X.rs (i + 1 + j) ≠ 125
          · rw [if_pos (by omega)] at hR; have HR := Lib.hid hR; clear hR
            rcases (by omega : 1114111 < n ∨ (n ≤ 1114111 ∧ j = 0) ∨ (n ≤ 1114111 ∧ 0 < j ∧ SynP.pk X.rs (i + 1 + j) ≠ 125)) with h1 | ⟨h1, h2⟩ | ⟨h1, h2, h3⟩
            · go_wp2_with (go_at_call 101; refine (fail_any _ _ _ X p _ HA.out (by omega)).mono ?_; rintro e w1 ⟨hm1, he1⟩; unfold thrown at he1; subst he1; replace HM := Lib.hid (HM.out.step hm1); clear hm1)
              rw [← HR.out]; exact ⟨rfl, HM.out, rfl⟩
            · exact absurd h2 (by omega)
            · have h9 : ¬ 1114111 < n := by omega
              have h4 : ¬ (j : Int) = 0 := by omega
              have h6 : ((j : Int) == 0) = false := by rw [beq_eq_false_iff_ne]; exact h4
              go_wp2_with (first | (go_at_call 66; (first | refine (has_no _ _ X p _ HA.out (by simp only [UInt8.reduceToNat]; omega)).mono ?_ | refine (has_yes _ _ X p _ HA.out (by simp only [UInt8.reduceToNat]; omega)).mono ?_); rintro e w1 ⟨rfl, hm1, ha1⟩; replace HM := Lib.hid (HM.out.step hm1); replace HA := Lib.hid ha1; clear hm1 ha1; replace hc := HA.out.cell; replace hz := HA.out.frozen) | (go_at_call 101; refine (fail_any _ _ _ X p _ HA.out (by omega)).mono ?_; rintro e w1 ⟨hm1, he1⟩; unfold thrown at he1; subst he1; replace HM := Lib.hid (HM.out.step hm1); clear hm1))
              rw [← HR.out]; exact ⟨rfl, HM.out, rfl⟩
          · rw [if_neg (by omega)] at hR; have HR := Lib.hid hR; clear hR
            have h1 : n ≤ 1114111 := by omega
            have h9 : ¬ 1114111 < n := by omega
            have h4 : ¬ (j : Int) = 0 := by omega
            have h6 : ((j : Int) == 0) = false := by rw [beq_eq_false_iff_ne]; exact h4
            have h5 : SynP.pk X.rs (i + 1 + j) = 125 := by omega
            go_wp2_with (go_at_call 66; (first | refine (has_no _ _ X p _ HA.out (by simp only [UInt8.reduceToNat]; omega)).mono ?_ | refine (has_yes _ _ X p _ HA.out (by simp only [UInt8.reduceToNat]; omega)).mono ?_); rintro e w1 ⟨rfl, hm1, ha1⟩; replace HM := Lib.hid (HM.out.step hm1); replace HA := Lib.hid ha1; clear hm1 ha1; replace hc := HA.out.cell; replace hz := HA.out.frozen)
            go_ret
            rw [← HR.out]; exact ⟨rfl, HM.out, HA.out⟩

  · go_enter Tryz.func175, Tryz.ntmps175
    go_upto_region 3 with (go_at_call 66; (first | refine (has_no _ _ X p _ HA.out (by simp only [UInt8.reduceToNat]; omega)).mono ?_ | refine (has_yes _ _ X p _ HA.out (by simp only [UInt8.reduceToNat]; omega)).mono ?_); rintro e w1 ⟨rfl, hm1, ha1⟩; replace HM := Lib.hid (HM.out.step hm1); replace HA := Lib.hid ha1; clear hm1 ha1; replace hc := HA.out.cell; replace hz := HA.out.frozen)
    go_loopg [5, 6] 3 (fun k s5 s6 wr => ∃ (j : Nat) (n : Int), s5 = .int .i64 n ∧ s6 = .int .i64 j ∧ j ≤ 2 ∧ k = 3 - j ∧ 0 ≤ n ∧ n < 16 ^ j ∧ Hid (SynP.nums X.rs (2 - j) n (i + j) = SynP.nums X.rs 2 0 (i)) ∧ Hid (Mv X.b w wr) ∧ Hid (At wr X p (i + j)))
    case atStart => exact ⟨0, 0, rfl, rfl, by omega, by omega, by omega, by decide, Lib.hid rfl, HM, HA⟩
    case round =>
      clear HM HA
      obtain ⟨j, n, rfl, rfl, hj, hk, hn0, hn1, HE, HM, HA⟩ := hrel
      have hn : n < 256 := by
        obtain rfl | rfl | rfl : j = 0 ∨ j = 1 ∨ j = 2 := by omega
        all_goals (simp at hn1; omega)
      have HN1 := Lib.hid hn1
      clear hn1
      have HK := Lib.hid hk
      clear hk
      replace hc := HA.out.cell
      replace hz := HA.out.frozen
      obtain ⟨hp1, hp2⟩ := HG.out (i + j)
      by_cases hgo : j < 2 ∧ 0 ≤ SynP.hexOf (SynP.pk X.rs (i + j))
      · obtain ⟨hj4, hx⟩ := hgo
        have hE := HE.out
        have hx16 := hexOf_lt (c := SynP.pk X.rs (i + j))
        rw [show 2 - j = 2 - (j + 1) + 1 by omega, nums_next hx] at hE
        have hin := pk_in (rs := X.rs) (i := i + j) (by intro h; rw [h] at hx; exact absurd hx (by decide))
        have HE2 := Lib.hid hE
        have hjj : (j : Int) < 2 := by omega
        have hj6 : (j : Int) < 6 := by omega
        have hor := or_shl16 n (SynP.hexOf (SynP.pk X.rs (i + j))) hn0 (by omega) hx hx16
        clear hE
        go_wp2_with (first | (go_at_call 100; refine (peek0 _ X p _ HA.out).mono ?_; rintro e w1 ⟨rfl, hm1, ha1⟩; replace HM := Lib.hid (HM.out.step hm1); replace HA := Lib.hid ha1; clear hm1 ha1; replace hc := HA.out.cell; replace hz := HA.out.frozen) | (go_at_call 197; refine (hex_any _ _ (by omega)).mono ?_; rintro e wh ⟨rfl, rfl⟩))
        go_roundg (gk - 1)
        case measure => have := HK.out; omega
        case rel => exact ⟨j + 1, 16 * n + SynP.hexOf (SynP.pk X.rs (i + j)), by go_num, by go_num, by omega, by have := HK.out; omega, by omega, by have := HN1.out; rw [Int.pow_succ]; omega, HE2, Lib.hid (HM.out.step (mv_put _ X _)), Lib.hid (HA.out.put _ _ (by omega) (by omega))⟩
      · have hE : SynP.nums X.rs 2 0 (i) = (n, i + j) := by rw [← HE.out]; exact nums_stop (by omega)
        have hR := HR0.out
        rw [number_no h123, hE] at hR
        simp only at hR
        clear HE hE
        by_cases hj4 : j < 2
        · have hx : ¬ 0 ≤ SynP.hexOf (SynP.pk X.rs (i + j)) := fun h => hgo ⟨hj4, h⟩
          have hjj : (j : Int) < 2 := by omega
          have hj6 : (j : Int) < 6 := by omega
          clear hgo
          go_upto_region 7 with (first | (go_at_call 100; refine (peek0 _ X p _ HA.out).mono ?_; rintro e w1 ⟨rfl, hm1, ha1⟩; replace HM := Lib.hid (HM.out.step hm1); replace HA := Lib.hid ha1; clear hm1 ha1; replace hc := HA.out.cell; replace hz := HA.out.frozen) | (go_at_call 197; refine (hex_any _ _ (by omega)).mono ?_; rintro e wh ⟨rfl, rfl⟩))
          have h9 : ¬ 1114111 < n := by omega
          by_cases hq : j ≠ 2
          · rw [if_pos (by omega)] at hR; have HR := Lib.hid hR; clear hR
            have h4 : ((j : Int) != 2) = true := by rw [bne_iff_ne]; omega
            go_wp2_with (go_at_call 101; refine (fail_any _ _ _ X p _ HA.out (by omega)).mono ?_; rintro e w1 ⟨hm1, he1⟩; unfold thrown at he1; subst he1; replace HM := Lib.hid (HM.out.step hm1); clear hm1)
            rw [← HR.out]; exact ⟨rfl, HM.out, rfl⟩
          · rw [if_neg (by omega)] at hR; have HR := Lib.hid hR; clear hR
            have h4 : ((j : Int) != 2) = false := by simp only [bne_eq_false_iff_eq]; omega
            go_wp2
            go_ret
            rw [← HR.out]; exact ⟨rfl, HM.out, HA.out⟩
        · have hjj : ¬ (j : Int) < 2 := by omega
          have hj6 : (j : Int) < 6 := by omega
          clear hgo
          go_upto_region 7 with fail
          have h9 : ¬ 1114111 < n := by omega
          by_cases hq : j ≠ 2
          · rw [if_pos (by omega)] at hR; have HR := Lib.hid hR; clear hR
            have h4 : ((j : Int) != 2) = true := by rw [bne_iff_ne]; omega
            go_wp2_with (go_at_call 101; refine (fail_any _ _ _ X p _ HA.out (by omega)).mono ?_; rintro e w1 ⟨hm1, he1⟩; unfold thrown at he1; subst he1; replace HM := Lib.hid (HM.out.step hm1); clear hm1)
            rw [← HR.out]; exact ⟨rfl, HM.out, rfl⟩
          · rw [if_neg (by omega)] at hR; have HR := Lib.hid hR; clear hR
            have h4 : ((j : Int) != 2) = false := by simp only [bne_eq_false_iff_eq]; omega
            go_wp2
            go_ret
            rw [← HR.out]; exact ⟨rfl, HM.out, HA.out⟩

end Go.Proofs.YtblkejnckbeieaaGreatDoor

namespace Go.Proofs.YtblkejnckbeieaaGreatDoor
open Go.RowKit

theorem ints_cells (w : World) (g : Nat) (hg : w.heap.size = g) (xs : List Int) (t : TypeId) : ∀ i, i < xs.length → (w.alloc (.cells (xs.map (Value.int .u8)).toArray t)).cell? ⟨g, 0 + i, none⟩ = some (.int .u8 (xs.getD i 0)) := by
  intro i hi
  subst hg
  rw [Nat.zero_add, cell_of_row _ _ _ _ _ (0, 0) (heap_alloc_new w _), List.getElem?_toArray, List.getElem?_map, List.getElem?_eq_getElem hi, List.getD_eq_getElem?_getD, List.getElem?_eq_getElem hi]
  rfl
/-- 'string([]byte{..})'. -/
theorem conv_new (w : World) (xs : List Int) (n : Nat) (hn : xs.length = n) : (convert 60 9 (.slice (some ⟨w.heap.size, 0, none⟩) n n)).run Tryz.prog (w.alloc (.cells (xs.map (Value.int .u8)).toArray 5)) = .ok (.string (strOfNums xs)) (w.alloc (.cells (xs.map (Value.int .u8)).toArray 5)) := by
  subst hn
  exact run_convert_bytes_arg (P := Tryz.prog) _ 60 5 Tryz.underlying60 Tryz.underlying5 w.heap.size 0 xs.length xs.length xs rfl (ints_cells w _ rfl xs _) 9 Tryz.underlying9

def Ebyte : Enc Int := ⟨fun a => [.int .u8 a], 1, by decide, fun _ => rfl, fun a u hu => by simp at hu; subst hu; rfl⟩
set_option maxRecDepth 100000 in
theorem info_byteE : (Tryz.prog.info? 5).map (fun i => (i.zero, i.size, i.bytes)) = some (some (.int .u8 0), 1, 1) := by kernel_rfl
set_option maxRecDepth 100000 in
theorem elByte : ElemOf Tryz.prog 60 5 Ebyte.k 1 := by
  obtain ⟨i, hi, hz0, hz1, hz2⟩ := info_parts info_byteE
  exact ⟨i, _, Tryz.underlying60, hi, hz0, hz1, hz2, rfl⟩

set_option maxRecDepth 100000 in
theorem conv_own {w0 w : World} {v : Value} {l : List Int} (h : Own Ebyte 5 w0 w v l) : (convert 60 9 v).run Tryz.prog w = .ok (.string (strOfNums l)) w := by
  obtain ⟨A, c, rfl, _, _, hA⟩ := h.isSeq
  rcases Nat.eq_zero_or_pos l.length with h0 | h0
  · obtain rfl := List.eq_nil_of_length_eq_zero h0
    rcases A with _ | a
    · exact run_convert_bytes_nil (P := Tryz.prog) w 60 5 Tryz.underlying60 Tryz.underlying5 0 c 9 Tryz.underlying9
    · rcases h.1.2 with ⟨h', _⟩ | ⟨g, cap, cur, h', _⟩
      · cases h'
      · injection h' with h1 _ _
        injection h1 with h1
        subst h1
        exact run_convert_bytes_arg (P := Tryz.prog) w 60 5 Tryz.underlying60 Tryz.underlying5 g 0 0 c [] rfl (fun i hi => by omega) 9 Tryz.underlying9
  · obtain ⟨b, off, rfl, hb, hc⟩ := hA h0
    refine run_convert_bytes_arg (P := Tryz.prog) w 60 5 Tryz.underlying60 Tryz.underlying5 b off l.length c l rfl (fun i hi => ?_) 9 Tryz.underlying9
    rw [hc i (by simpa [Ebyte] using hi)]
    congr 1
    have hf := Ebyte.flat_at l i hi 0 (by decide)
    have e : i * Ebyte.k + 0 = i := by show i * 1 + 0 = i; omega
    rw [e] at hf
    rw [List.getD_eq_getElem?_getD, hf, List.getD_eq_getElem?_getD, List.getElem?_eq_getElem hi]
    rfl


theorem own_byte (w : World) (x : Int) : Own Ebyte 5 w (w.alloc (.cells #[.int .u8 x] 5)) (.slice (some ⟨w.heap.size, 0, none⟩) 1 1) [x] :=
  ⟨⟨rfl, .inr ⟨w.heap.size, 1, #[.int .u8 x], rfl, Nat.le_refl _, heap_alloc_new w _, Nat.le_refl _, by simp [maxLen], rfl, rfl⟩⟩, (Below.refl _ w).alloc (Nat.le_refl _) _⟩
theorem conv_one (w : World) (x : Int) : (convert 60 9 (.slice (some ⟨w.heap.size, 0, none⟩) 1 1)).run Tryz.prog (w.alloc (.cells #[.int .u8 x] 5)) = .ok (.string (strOfNums [x])) (w.alloc (.cells #[.int .u8 x] 5)) := conv_new w [x] 1 rfl
theorem cat_list (a b : ByteArray) : (a ++ b).data.toList = a.data.toList ++ b.data.toList := by rw [ByteArray.data_append, Array.toList_append]
theorem nums_list (l : List Int) : (strOfNums l).data.toList = l.map fun n => UInt8.ofNat n.toNat := rfl
theorem nums_size (l : List Int) : (strOfNums l).size = l.length := by
  show (l.map fun n => UInt8.ofNat n.toNat).toArray.size = _
  simp

end Go.Proofs.YtblkejnckbeieaaGreatDoor

namespace Go.Proofs.YtblkejnckbeieaaGreatDoor
open Go.RowKit

/-- Bytes as numbers. -/
def nI (l : List UInt8) : List Int := l.map fun c => (c.toNat : Int)
theorem nI_len (l : List UInt8) : (nI l).length = l.length := by simp [nI]
theorem nI_app (a b : List UInt8) : nI (a ++ b) = nI a ++ nI b := by simp [nI]
theorem strOf_nI (l : List UInt8) : strOfNums (nI l) = ⟨l.toArray⟩ := by
  unfold strOfNums nI
  rw [List.map_map]
  congr 1
  have : l.map ((fun n : Int => UInt8.ofNat n.toNat) ∘ fun c : UInt8 => (c.toNat : Int)) = l.map id := List.map_congr_left fun c _ => by
    show UInt8.ofNat ((c.toNat : Int).toNat) = c
    rw [Int.toNat_natCast, UInt8.ofNat_toNat]
  rw [this, List.map_id]
def BRow (base : Nat) (w : World) (v : Value) (l : List UInt8) : Prop := OwnB Ebyte 5 base w v (nI l)
theorem nI_snoc (l : List UInt8) (x : Int) (h0 : 0 ≤ x) (h1 : x < 256) : nI (l ++ [UInt8.ofNat x.toNat]) = nI l ++ [x] := by
  rw [nI_app]
  congr 1
  show [(((UInt8.ofNat x.toNat).toNat : Nat) : Int)] = [x]
  rw [UInt8.toNat_ofNat']
  congr 1
  omega

theorem Mv.grown {p : Nat} {w wr wx : World} {r : Option Nat} (h : Mv p w wr) (g : wr.grownBy wx r) (hr : ∀ k, r = some k → w.heap.size ≤ k) : Mv p w wx :=
  ⟨g.os.trans h.os, g.tape.trans h.tape, g.output.trans h.output, Nat.le_trans h.size g.size, fun k hk hn => (g.block k (Nat.lt_of_lt_of_le hk h.size) (fun e => by have := hr k e.symm; omega)).trans (h.block k hk hn)⟩
theorem At.grown {w w' : World} {X : Cx} {p : Pv} {i : Nat} {r : Option Nat} (h : At w X p i) (g : w.grownBy w' r) (hr : ∀ k, r = some k → X.b < k) : At w' X p i := by
  have hl := h.low
  exact h.mv_ ⟨g.os, g.tape, g.output, g.size, fun k hk => g.block k (by have := h.lt; omega) (fun e => by have := hr k e.symm; omega)⟩ (g.block _ h.lt (fun e => by have := hr _ e.symm; omega))
section
variable {base : Nat} {w w' : World} {v : Value} {l : List UInt8}
theorem BRow.form (h : BRow base w v l) : ∃ A c, v = .slice A l.length c ∧ l.length ≤ c ∧ c ≤ maxLen := by
  obtain ⟨A, c, h1, h2, h3⟩ := OwnB.form h
  rw [nI_len] at h1 h2
  exact ⟨A, c, h1, h2, h3⟩
theorem BRow.lt (h : BRow base w v l) : ∀ k, v.ownBlock = some k → base ≤ k ∧ k < w.heap.size := OwnB.lt h
set_option maxRecDepth 100000 in
/-- 'string(b)'. -/
theorem conv_brow (h : BRow base w v l) : (convert 60 9 v).run Tryz.prog w = .ok (.string ⟨l.toArray⟩) w := by
  have hform := h.form
  obtain ⟨A, c, rfl, _, _⟩ := hform
  have hA : SeqAt Ebyte w w.heap.size A (nI l) := by
    have h' := h
    unfold BRow at h'
    rw [← nI_len l] at h'
    exact OwnB.seq h'
  rw [← strOf_nI, ← nI_len l]
  rcases Nat.eq_zero_or_pos (nI l).length with h0 | h0
  · have hl := List.eq_nil_of_length_eq_zero h0
    rw [hl]
    rcases A with _ | a
    · exact run_convert_bytes_nil (P := Tryz.prog) w 60 5 Tryz.underlying60 Tryz.underlying5 0 c 9 Tryz.underlying9
    · rcases h.1.2 with ⟨h', _⟩ | ⟨g, cap, cur, h', _⟩
      · cases h'
      · injection h' with h1 _ _
        injection h1 with h1
        subst h1
        exact run_convert_bytes_arg (P := Tryz.prog) w 60 5 Tryz.underlying60 Tryz.underlying5 g 0 0 c [] rfl (fun i hi => by omega) 9 Tryz.underlying9
  · obtain ⟨b, off, rfl, hb, hc⟩ := hA h0
    refine run_convert_bytes_arg (P := Tryz.prog) w 60 5 Tryz.underlying60 Tryz.underlying5 b off (nI l).length c (nI l) rfl (fun i hi => ?_) 9 Tryz.underlying9
    rw [hc i (by simpa [Ebyte] using hi)]
    congr 1
    have hf := Ebyte.flat_at (nI l) i hi 0 (by decide)
    have e : i * Ebyte.k + 0 = i := by show i * 1 + 0 = i; omega
    rw [e] at hf
    rw [List.getD_eq_getElem?_getD, hf, List.getD_eq_getElem?_getD, List.getElem?_eq_getElem hi]
    rfl
end

end Go.Proofs.YtblkejnckbeieaaGreatDoor

namespace Go.Proofs.YtblkejnckbeieaaGreatDoor.SetPure

abbrev Rg := Int × Int

/-- A number is in some ranges. -/
def InS (s : List Rg) (x : Int) : Prop := ∃ r ∈ s, r.1 ≤ x ∧ x ≤ r.2
def inB (s : List Rg) (x : Int) : Bool := s.any fun r => decide (r.1 ≤ x) && decide (x ≤ r.2)
theorem inB_iff (s : List Rg) (x : Int) : inB s x = true ↔ InS s x := by
  simp [inB, InS]
theorem inB_false (s : List Rg) (x : Int) : inB s x = false ↔ ¬ InS s x := by
  rw [← inB_iff]; simp

/-- Ranges that rise from lo on, with a number between each two. -/
def CanonFrom : Int → List Rg → Prop
  | _, [] => True
  | lo, r :: s => lo ≤ r.1 ∧ r.1 ≤ r.2 ∧ r.2 ≤ 1114111 ∧ CanonFrom (r.2 + 2) s
def Canon (s : List Rg) : Prop := CanonFrom 0 s

theorem InS_nil (x : Int) : ¬ InS [] x := by simp [InS]
theorem InS_cons (r : Rg) (s : List Rg) (x : Int) : InS (r :: s) x ↔ (r.1 ≤ x ∧ x ≤ r.2) ∨ InS s x := by
  simp [InS]
theorem InS_append (s t : List Rg) (x : Int) : InS (s ++ t) x ↔ InS s x ∨ InS t x := by
  simp only [InS, List.mem_append]
  constructor
  · rintro ⟨r, h | h, hr⟩
    · exact .inl ⟨r, h, hr⟩
    · exact .inr ⟨r, h, hr⟩
  · rintro (⟨r, h, hr⟩ | ⟨r, h, hr⟩)
    · exact ⟨r, .inl h, hr⟩
    · exact ⟨r, .inr h, hr⟩

theorem CanonFrom.weaken {lo lo' : Int} {s : List Rg} (h : CanonFrom lo s) (hl : lo' ≤ lo) : CanonFrom lo' s := by
  cases s with
  | nil => trivial
  | cons r s => exact ⟨by have := h.1; omega, h.2⟩
theorem CanonFrom.lo {lo : Int} {s : List Rg} (h : CanonFrom lo s) {x : Int} (hx : InS s x) : lo ≤ x ∧ x ≤ 1114111 := by
  induction s generalizing lo with
  | nil => exact absurd hx (InS_nil x)
  | cons r s ih =>
    obtain ⟨h1, h2, h3, h4⟩ := h
    rcases (InS_cons r s x).1 hx with hr | hr
    · omega
    · have := ih h4 hr
      omega
/-- The form is one: two sets in it that hold the same are the same. -/
theorem CanonFrom.unique {a b : Int} {s t : List Rg} (hs : CanonFrom a s) (ht : CanonFrom b t) (h : ∀ x, InS s x ↔ InS t x) : s = t := by
  induction s generalizing a b t with
  | nil =>
    cases t with
    | nil => rfl
    | cons q t => exact absurd ((h q.1).2 ((InS_cons q t q.1).2 (.inl ⟨by omega, ht.2.1⟩))) (InS_nil _)
  | cons r s ih =>
    cases t with
    | nil => exact absurd ((h r.1).1 ((InS_cons r s r.1).2 (.inl ⟨by omega, hs.2.1⟩))) (InS_nil _)
    | cons q t =>
      obtain ⟨hs1, hs2, hs3, hs4⟩ := hs
      obtain ⟨ht1, ht2, ht3, ht4⟩ := ht
      have low : ∀ {r q : Rg} {s t : List Rg}, r.1 ≤ r.2 → CanonFrom (q.2 + 2) t → q.1 ≤ q.2 → (∀ x, InS (r :: s) x → InS (q :: t) x) → q.1 ≤ r.1 := by
        intro r q s t hr hq hq1 hx
        rcases (InS_cons q t r.1).1 (hx r.1 ((InS_cons r s r.1).2 (.inl ⟨by omega, hr⟩))) with h | h
        · exact h.1
        · have := hq.lo h; omega
      have e1 : r.1 = q.1 := by
        have h1 := low hs2 ht4 ht2 (fun x hx => (h x).1 hx)
        have h2 := low ht2 hs4 hs2 (fun x hx => (h x).2 hx)
        omega
      have high : ∀ {r q : Rg} {s t : List Rg}, r.1 = q.1 → q.1 ≤ q.2 → CanonFrom (q.2 + 2) t → (∀ x, InS (r :: s) x → InS (q :: t) x) → r.2 ≤ q.2 := by
        intro r q s t he hq hc hx
        rcases Int.lt_or_le q.2 r.2 with hlt | hle
        · rcases (InS_cons q t (q.2 + 1)).1 (hx (q.2 + 1) ((InS_cons r s (q.2 + 1)).2 (.inl ⟨by omega, by omega⟩))) with h | h
          · omega
          · have := hc.lo h; omega
        · exact hle
      have e2 : r.2 = q.2 := by
        have h1 := high e1 ht2 ht4 (fun x hx => (h x).1 hx)
        have h2 := high e1.symm hs2 hs4 (fun x hx => (h x).2 hx)
        omega
      have e : r = q := Prod.ext e1 e2
      subst e
      refine congrArg _ (ih hs4 ht4 fun x => ?_)
      constructor
      · intro hx
        have hlo := hs4.lo hx
        rcases (InS_cons r t x).1 ((h x).1 ((InS_cons r s x).2 (.inr hx))) with h | h
        · omega
        · exact h
      · intro hx
        have hlo := ht4.lo hx
        rcases (InS_cons r s x).1 ((h x).2 ((InS_cons r t x).2 (.inr hx))) with h | h
        · omega
        · exact h
theorem Canon.unique {s t : List Rg} (hs : Canon s) (ht : Canon t) (h : ∀ x, InS s x ↔ InS t x) : s = t := CanonFrom.unique hs ht h

theorem CanonFrom.len {lo : Int} {s : List Rg} (h : CanonFrom lo s) (hl : lo ≤ 1114113) : 2 * (s.length : Int) ≤ 1114113 - lo := by
  induction s generalizing lo with
  | nil => simp; omega
  | cons r s ih =>
    obtain ⟨h1, h2, h3, h4⟩ := h
    have := ih h4 (by omega)
    simp only [List.length_cons]
    omega
theorem Canon.len {s : List Rg} (h : Canon s) : s.length ≤ 557056 := by
  have := CanonFrom.len h (by omega)
  omega

/-- Appending a range behind what is there. -/
theorem CanonFrom.snoc {lo : Int} {s : List Rg} {r : Rg} (h : CanonFrom lo s) (h0 : lo ≤ r.1) (h1 : r.1 ≤ r.2) (h2 : r.2 ≤ 1114111) (h3 : ∀ q ∈ s, q.2 + 2 ≤ r.1) : CanonFrom lo (s ++ [r]) := by
  induction s generalizing lo with
  | nil => exact ⟨h0, h1, h2, trivial⟩
  | cons q s ih => exact ⟨h.1, h.2.1, h.2.2.1, ih h.2.2.2 (h3 q (List.mem_cons_self ..)) (fun p hp => h3 p (List.mem_cons_of_mem _ hp))⟩
theorem CanonFrom.init {lo : Int} {s : List Rg} {r : Rg} (h : CanonFrom lo (s ++ [r])) : CanonFrom lo s ∧ lo ≤ r.1 ∧ r.1 ≤ r.2 ∧ r.2 ≤ 1114111 ∧ ∀ q ∈ s, q.2 + 2 ≤ r.1 := by
  induction s generalizing lo with
  | nil => exact ⟨trivial, h.1, h.2.1, h.2.2.1, fun q hq => by cases hq⟩
  | cons q s ih =>
    obtain ⟨h1, h2, h3, h4⟩ := h
    obtain ⟨i1, i2, i3, i4, i5⟩ := ih h4
    refine ⟨⟨h1, h2, h3, i1⟩, by omega, i3, i4, fun p hp => ?_⟩
    rcases List.mem_cons.1 hp with rfl | hp
    · exact i2
    · exact i5 p hp

/-! ### How many -/
/-- How many numbers from lo on, of n, are in it. -/
def cnt (f : Int → Bool) (lo : Int) : Nat → Nat
  | 0 => 0
  | n + 1 => cnt f lo n + if f (lo + n) then 1 else 0
theorem cnt_add (f : Int → Bool) (lo : Int) (m n : Nat) : cnt f lo (m + n) = cnt f lo m + cnt f (lo + m) n := by
  induction n with
  | zero => rfl
  | succ n ih =>
    rw [← Nat.add_assoc]
    simp only [cnt]
    rw [ih, show lo + ((m + n : Nat) : Int) = lo + m + n by omega]
    omega
theorem cnt_congr {f g : Int → Bool} {lo : Int} {n : Nat} (h : ∀ x, lo ≤ x → x < lo + n → f x = g x) : cnt f lo n = cnt g lo n := by
  induction n with
  | zero => rfl
  | succ n ih =>
    simp only [cnt]
    rw [ih (fun x h1 h2 => h x h1 (by omega)), h (lo + n) (by omega) (by omega)]
theorem cnt_none {f : Int → Bool} {lo : Int} {n : Nat} (h : ∀ x, lo ≤ x → x < lo + n → f x = false) : cnt f lo n = 0 := by
  induction n with
  | zero => rfl
  | succ n ih =>
    simp only [cnt]
    rw [ih (fun x h1 h2 => h x h1 (by omega)), h (lo + n) (by omega) (by omega)]
    rfl
theorem cnt_all {f : Int → Bool} {lo : Int} {n : Nat} (h : ∀ x, lo ≤ x → x < lo + n → f x = true) : cnt f lo n = n := by
  induction n with
  | zero => rfl
  | succ n ih =>
    simp only [cnt]
    rw [ih (fun x h1 h2 => h x h1 (by omega)), h (lo + n) (by omega) (by omega)]
    rfl
theorem cnt_le {f g : Int → Bool} {lo : Int} {n : Nat} (h : ∀ x, f x = true → g x = true) : cnt f lo n ≤ cnt g lo n := by
  induction n with
  | zero => exact Nat.le_refl _
  | succ n ih =>
    simp only [cnt]
    have := h (lo + n)
    cases hf : f (lo + n) with
    | false => simp; omega
    | true => simp [this hf]; omega
/-- Both together. -/
theorem cnt_both (f g : Int → Bool) (lo : Int) (n : Nat) : cnt (fun x => f x || g x) lo n + cnt (fun x => f x && g x) lo n = cnt f lo n + cnt g lo n := by
  induction n with
  | zero => rfl
  | succ n ih =>
    simp only [cnt]
    rcases Bool.eq_false_or_eq_true (f (lo + n)) with hf | hf <;> rcases Bool.eq_false_or_eq_true (g (lo + n)) with hg | hg <;> simp [hf, hg] <;> omega

def sizeL : List Rg → Int
  | [] => 0
  | r :: s => (r.2 - r.1 + 1) + sizeL s
theorem sizeL_append (s t : List Rg) : sizeL (s ++ t) = sizeL s + sizeL t := by
  induction s with
  | nil => simp [sizeL]
  | cons r s ih => simp only [List.cons_append, sizeL, ih]; omega
theorem CanonFrom.size {lo : Int} {s : List Rg} (h : CanonFrom lo s) : ∀ n : Nat, lo + n = 1114112 → sizeL s = cnt (inB s) lo n := by
  induction s generalizing lo with
  | nil => intro n _; rw [cnt_none (f := inB []) (fun x _ _ => rfl)]; rfl
  | cons r s ih =>
    intro n hn
    obtain ⟨h1, h2, h3, h4⟩ := h
    obtain ⟨a, ha⟩ : ∃ a : Nat, lo + a = r.1 := ⟨(r.1 - lo).toNat, by omega⟩
    obtain ⟨b, hb⟩ : ∃ b : Nat, r.1 + b = r.2 + 1 := ⟨(r.2 + 1 - r.1).toNat, by omega⟩
    obtain ⟨c, hc⟩ : ∃ c : Nat, r.2 + 1 + c = 1114112 := ⟨(1114111 - r.2).toNat, by omega⟩
    have hnabc : n = a + (b + c) := by omega
    rw [hnabc, cnt_add, cnt_add, ha, hb]
    have e1 : cnt (inB (r :: s)) lo a = 0 := cnt_none fun x hx1 hx2 => by
      rw [inB_false, InS_cons]
      rintro (h | h)
      · omega
      · have := h4.lo h; omega
    have e2 : cnt (inB (r :: s)) r.1 b = b := cnt_all fun x hx1 hx2 => by
      rw [inB_iff, InS_cons]
      exact .inl ⟨hx1, by omega⟩
    have e3 : cnt (inB (r :: s)) (r.2 + 1) c = sizeL s := by
      cases c with
      | zero =>
        have : s = [] := by
          cases s with
          | nil => rfl
          | cons q s => have := h4.1; have := h4.2.1; have := h4.2.2.1; omega
        subst this; rfl
      | succ c =>
        have hw := ih h4 c (by omega)
        rw [hw, show c + 1 = 1 + c by omega, cnt_add]
        have z : cnt (inB (r :: s)) (r.2 + 1) 1 = 0 := cnt_none fun x hx1 hx2 => by
          rw [inB_false, InS_cons]
          rintro (h | h)
          · omega
          · have := h4.lo h; omega
        rw [z, Nat.zero_add, show r.2 + 1 + ((1 : Nat) : Int) = r.2 + 2 by omega]
        refine congrArg _ (cnt_congr fun x hx1 hx2 => ?_)
        simp only [inB, List.any_cons]
        have : (decide (r.1 ≤ x) && decide (x ≤ r.2)) = false := by simp; omega
        rw [this, Bool.false_or]
    rw [e1, e2]
    simp only [sizeL]
    omega
theorem Canon.size {s : List Rg} (h : Canon s) : sizeL s = cnt (inB s) 0 1114112 := CanonFrom.size h 1114112 (by omega)

/-! ### Of: the merge of ranges that rise by their beginnings -/
def clip (r : Rg) : Rg := (max r.1 0, min r.2 1114111)
/-- One range more behind a merged list. -/
def push (out : List Rg) (r : Rg) : List Rg :=
  match out.getLast? with
  | none => [r]
  | some q => if r.1 ≤ q.2 + 1 then out.dropLast ++ [(q.1, max q.2 r.2)] else out ++ [r]
def mergeL (l : List Rg) : List Rg := l.foldl push []

theorem push_snoc (s : List Rg) (q r : Rg) : push (s ++ [q]) r = if r.1 ≤ q.2 + 1 then s ++ [(q.1, max q.2 r.2)] else s ++ [q] ++ [r] := by
  simp [push]

theorem push_spec {out : List Rg} {r : Rg} (hc : Canon out) (hlast : ∀ q ∈ out.getLast?, q.1 ≤ r.1) (h0 : 0 ≤ r.1) (h1 : r.1 ≤ r.2) (h2 : r.2 ≤ 1114111) :
    Canon (push out r) ∧ (∀ x, InS (push out r) x ↔ InS out x ∨ (r.1 ≤ x ∧ x ≤ r.2)) ∧ (∀ q ∈ (push out r).getLast?, q.1 ≤ r.1) := by
  rcases List.eq_nil_or_concat out with rfl | ⟨s, q, rfl⟩
  · refine ⟨⟨h0, h1, h2, trivial⟩, fun x => ?_, fun q hq => ?_⟩
    · rw [show push [] r = [r] from rfl, InS_cons]
      constructor
      · rintro (h | h)
        · exact .inr h
        · exact absurd h (InS_nil x)
      · rintro (h | h)
        · exact absurd h (InS_nil x)
        · exact .inl h
    · simp [push] at hq; subst hq; omega
  · rw [List.concat_eq_append] at *
    have hq : q.1 ≤ r.1 := hlast q (by simp)
    obtain ⟨i1, i2, i3, i4, i5⟩ := CanonFrom.init hc
    rw [push_snoc]
    by_cases h : r.1 ≤ q.2 + 1
    · rw [if_pos h]
      refine ⟨CanonFrom.snoc i1 i2 (by simp only; omega) (by simp only; omega) i5, fun x => ?_, fun p hp => ?_⟩
      · rw [InS_append, InS_append, InS_cons, InS_cons]
        simp only
        constructor
        · rintro (h | h | h)
          · exact .inl (.inl h)
          · rcases Int.lt_or_le q.2 x with hx | hx
            · exact .inr ⟨by omega, by omega⟩
            · exact .inl (.inr (.inl ⟨h.1, hx⟩))
          · exact absurd h (InS_nil x)
        · rintro ((h | h | h) | h)
          · exact .inl h
          · exact .inr (.inl ⟨h.1, by omega⟩)
          · exact absurd h (InS_nil x)
          · exact .inr (.inl ⟨by omega, by omega⟩)
      · simp at hp; subst hp; exact hq
    · rw [if_neg h]
      refine ⟨CanonFrom.snoc hc h0 h1 h2 (fun p hp => ?_), fun x => ?_, fun p hp => ?_⟩
      · rcases List.mem_append.1 hp with hp | hp
        · have := i5 p hp; omega
        · simp at hp; subst hp; omega
      · rw [InS_append (s ++ [q]), InS_cons]
        constructor
        · rintro (h | h | h)
          · exact .inl h
          · exact .inr h
          · exact absurd h (InS_nil x)
        · rintro (h | h)
          · exact .inl h
          · exact .inr (.inl h)
      · simp at hp; subst hp; omega

theorem fold_spec (l : List Rg) (out : List Rg) (hc : Canon out) (hl : ∀ r ∈ l, 0 ≤ r.1 ∧ r.1 ≤ r.2 ∧ r.2 ≤ 1114111) (hs : l.Pairwise fun a b => a.1 ≤ b.1) (hf : ∀ q ∈ out.getLast?, ∀ r ∈ l, q.1 ≤ r.1) :
    Canon (l.foldl push out) ∧ ∀ x, InS (l.foldl push out) x ↔ InS out x ∨ InS l x := by
  induction l generalizing out with
  | nil => exact ⟨hc, fun x => by simp [InS_nil]⟩
  | cons r l ih =>
    obtain ⟨h0, h1, h2⟩ := hl r (List.mem_cons_self ..)
    obtain ⟨p1, p2, p3⟩ := push_spec hc (fun q hq => hf q hq r (List.mem_cons_self ..)) h0 h1 h2
    rw [List.pairwise_cons] at hs
    obtain ⟨j1, j2⟩ := ih (push out r) p1 (fun q hq => hl q (List.mem_cons_of_mem _ hq)) hs.2 (fun q hq t ht => by have := p3 q hq; have := hs.1 t ht; omega)
    refine ⟨j1, fun x => ?_⟩
    rw [List.foldl_cons, j2, p2, InS_cons]
    constructor
    · rintro ((h | h) | h)
      · exact .inl h
      · exact .inr (.inl h)
      · exact .inr (.inr h)
    · rintro (h | h | h)
      · exact .inl (.inl h)
      · exact .inl (.inr h)
      · exact .inr h
theorem mergeL_spec {l : List Rg} (hl : ∀ r ∈ l, 0 ≤ r.1 ∧ r.1 ≤ r.2 ∧ r.2 ≤ 1114111) (hs : l.Pairwise fun a b => a.1 ≤ b.1) : Canon (mergeL l) ∧ ∀ x, InS (mergeL l) x ↔ InS l x := by
  obtain ⟨h1, h2⟩ := fold_spec l [] trivial hl hs (fun q hq => by simp at hq)
  exact ⟨h1, fun x => (h2 x).trans ⟨fun h => h.resolve_left (InS_nil x), .inr⟩⟩

/-- What 'Of' keeps of its ranges. -/
def kept (l : List Rg) : List Rg := (l.map clip).filter fun r => decide (r.1 ≤ r.2)
theorem kept_ok (l : List Rg) : ∀ r ∈ kept l, 0 ≤ r.1 ∧ r.1 ≤ r.2 ∧ r.2 ≤ 1114111 := by
  intro r hr
  simp only [kept, List.mem_filter, List.mem_map, decide_eq_true_eq] at hr
  obtain ⟨⟨q, _, rfl⟩, h⟩ := hr
  refine ⟨?_, h, ?_⟩
  · simp only [clip]; omega
  · simp only [clip]; omega
theorem kept_in (l : List Rg) (x : Int) : InS (kept l) x ↔ InS l x ∧ 0 ≤ x ∧ x ≤ 1114111 := by
  simp only [InS, kept, List.mem_filter, List.mem_map, decide_eq_true_eq]
  constructor
  · rintro ⟨r, ⟨⟨q, hq, rfl⟩, h⟩, h1, h2⟩
    simp only [clip] at h1 h2
    exact ⟨⟨q, hq, by omega, by omega⟩, by omega, by omega⟩
  · rintro ⟨⟨q, hq, h1, h2⟩, h3, h4⟩
    exact ⟨clip q, ⟨⟨q, hq, rfl⟩, by simp only [clip]; omega⟩, by simp only [clip]; omega, by simp only [clip]; omega⟩
theorem InS_perm {s t : List Rg} (h : s.Perm t) (x : Int) : InS s x ↔ InS t x := by
  simp only [InS, h.mem_iff]

/-! ### Not -/
def notL : Int → List Rg → List Rg
  | next, [] => if next ≤ 1114111 then [(next, 1114111)] else []
  | next, r :: s => if next < r.1 then (next, r.1 - 1) :: notL (r.2 + 1) s else notL (r.2 + 1) s
theorem notL_spec {lo next : Int} {s : List Rg} (h : CanonFrom lo s) (h1 : next ≤ lo) : CanonFrom next (notL next s) ∧ ∀ x, InS (notL next s) x ↔ next ≤ x ∧ x ≤ 1114111 ∧ ¬ InS s x := by
  induction s generalizing lo next with
  | nil =>
    simp only [notL]
    split
    · refine ⟨⟨by simp, by simp only; omega, by simp, trivial⟩, fun x => ?_⟩
      rw [InS_cons]
      constructor
      · rintro (h | h)
        · exact ⟨h.1, h.2, InS_nil x⟩
        · exact absurd h (InS_nil x)
      · rintro ⟨a, b, _⟩
        exact .inl ⟨a, b⟩
    · refine ⟨trivial, fun x => ⟨fun h => absurd h (InS_nil x), fun h => by omega⟩⟩
  | cons r s ih =>
    obtain ⟨c1, c2, c3, c4⟩ := h
    obtain ⟨i1, i2⟩ := ih (next := r.2 + 1) c4 (by omega)
    simp only [notL]
    split
    · refine ⟨⟨by simp, by simp only; omega, by simp only; omega, i1.weaken (by simp only; omega)⟩, fun x => ?_⟩
      rw [InS_cons, i2, InS_cons]
      simp only
      constructor
      · rintro (h | h)
        · refine ⟨h.1, by omega, ?_⟩
          rintro (h' | h')
          · omega
          · have := c4.lo h'; omega
        · refine ⟨by omega, h.2.1, ?_⟩
          rintro (h' | h')
          · omega
          · exact h.2.2 h'
      · rintro ⟨a, b, c⟩
        rcases Int.lt_or_le x r.1 with hx | hx
        · exact .inl ⟨a, by omega⟩
        · refine .inr ⟨?_, b, fun h => c (.inr h)⟩
          rcases Int.lt_or_le r.2 x with hx2 | hx2
          · omega
          · exact absurd (.inl ⟨hx, hx2⟩) c
    · refine ⟨i1.weaken (by omega), fun x => ?_⟩
      rw [i2, InS_cons]
      constructor
      · rintro ⟨a, b, c⟩
        refine ⟨by omega, b, ?_⟩
        rintro (h' | h')
        · omega
        · exact c h'
      · rintro ⟨a, b, c⟩
        refine ⟨?_, b, fun h => c (.inr h)⟩
        rcases Int.lt_or_le r.2 x with hx2 | hx2
        · omega
        · exact absurd (.inl ⟨by omega, hx2⟩) c

/-! ### And -/
def andF : Nat → List Rg → List Rg → List Rg
  | n + 1, a :: s, b :: t => (if max a.1 b.1 ≤ min a.2 b.2 then [(max a.1 b.1, min a.2 b.2)] else []) ++ (if a.2 < b.2 then andF n s (b :: t) else andF n (a :: s) t)
  | _, _, _ => []
theorem andF_nil (n : Nat) (t : List Rg) : andF n [] t = [] := by cases n <;> rfl
theorem andF_nil' (n : Nat) (s : List Rg) : andF n s [] = [] := by cases n <;> cases s <;> rfl
theorem andF_spec (n : Nat) {la lb : Int} {s t : List Rg} (hs : CanonFrom la s) (ht : CanonFrom lb t) (hn : s.length + t.length ≤ n) :
    CanonFrom (max la lb) (andF n s t) ∧ ∀ x, InS (andF n s t) x ↔ InS s x ∧ InS t x := by
  induction n generalizing la lb s t with
  | zero =>
    have : s = [] := List.eq_nil_of_length_eq_zero (by omega)
    subst this
    exact ⟨trivial, fun x => ⟨fun h => absurd h (InS_nil x), fun h => h.1⟩⟩
  | succ n ih =>
    cases s with
    | nil => exact ⟨trivial, fun x => ⟨fun h => absurd h (InS_nil x), fun h => h.1⟩⟩
    | cons a s =>
      cases t with
      | nil => exact ⟨trivial, fun x => ⟨fun h => absurd h (InS_nil x), fun h => h.2⟩⟩
      | cons b t =>
        obtain ⟨a1, a2, a3, a4⟩ := hs
        obtain ⟨b1, b2, b3, b4⟩ := ht
        simp only [List.length_cons] at hn
        simp only [andF]
        by_cases hlt : a.2 < b.2
        · rw [if_pos hlt]
          obtain ⟨i1, i2⟩ := ih (s := s) (t := b :: t) a4 ⟨b1, b2, b3, b4⟩ (by simp only [List.length_cons]; omega)
          have hin : ∀ x, InS (a :: s) x ∧ InS (b :: t) x ↔ (max a.1 b.1 ≤ x ∧ x ≤ min a.2 b.2) ∨ (InS s x ∧ InS (b :: t) x) := by
            intro x
            rw [InS_cons a]
            constructor
            · rintro ⟨h | h, h'⟩
              · rcases (InS_cons b t x).1 h' with h'' | h''
                · exact .inl (by omega)
                · have := b4.lo h''; omega
              · exact .inr ⟨h, h'⟩
            · rintro (h | h)
              · exact ⟨.inl (by omega), (InS_cons b t x).2 (.inl (by omega))⟩
              · exact ⟨.inr h.1, h.2⟩
          by_cases hr : max a.1 b.1 ≤ min a.2 b.2
          · rw [if_pos hr]
            refine ⟨⟨by simp only; omega, hr, by simp only; omega, i1.weaken (by simp only; omega)⟩, fun x => ?_⟩
            rw [InS_append, InS_cons, i2, hin]
            constructor
            · rintro ((h | h) | h)
              · exact .inl h
              · exact absurd h (InS_nil x)
              · exact .inr h
            · rintro (h | h)
              · exact .inl (.inl h)
              · exact .inr h
          · rw [if_neg hr]
            refine ⟨i1.weaken (by omega), fun x => ?_⟩
            rw [List.nil_append, i2, hin]
            exact ⟨.inr, fun h => h.resolve_left (by omega)⟩
        · rw [if_neg hlt]
          obtain ⟨i1, i2⟩ := ih (s := a :: s) (t := t) ⟨a1, a2, a3, a4⟩ b4 (by simp only [List.length_cons]; omega)
          have hin : ∀ x, InS (a :: s) x ∧ InS (b :: t) x ↔ (max a.1 b.1 ≤ x ∧ x ≤ min a.2 b.2) ∨ (InS (a :: s) x ∧ InS t x) := by
            intro x
            rw [InS_cons b]
            constructor
            · rintro ⟨h', h | h⟩
              · rcases (InS_cons a s x).1 h' with h'' | h''
                · exact .inl (by omega)
                · have := a4.lo h''; omega
              · exact .inr ⟨h', h⟩
            · rintro (h | h)
              · exact ⟨(InS_cons a s x).2 (.inl (by omega)), .inl (by omega)⟩
              · exact ⟨h.1, .inr h.2⟩
          by_cases hr : max a.1 b.1 ≤ min a.2 b.2
          · rw [if_pos hr]
            refine ⟨⟨by simp only; omega, hr, by simp only; omega, i1.weaken (by simp only; omega)⟩, fun x => ?_⟩
            rw [InS_append, InS_cons, i2, hin]
            constructor
            · rintro ((h | h) | h)
              · exact .inl h
              · exact absurd h (InS_nil x)
              · exact .inr h
            · rintro (h | h)
              · exact .inl (.inl h)
              · exact .inr h
          · rw [if_neg hr]
            refine ⟨i1.weaken (by omega), fun x => ?_⟩
            rw [List.nil_append, i2, hin]
            exact ⟨.inr, fun h => h.resolve_left (by omega)⟩
def andL (s t : List Rg) : List Rg := andF (s.length + t.length) s t
theorem andL_spec {s t : List Rg} (hs : Canon s) (ht : Canon t) : Canon (andL s t) ∧ ∀ x, InS (andL s t) x ↔ InS s x ∧ InS t x := by
  have := andF_spec (s.length + t.length) hs ht (Nat.le_refl _)
  exact ⟨this.1.weaken (by omega), this.2⟩

end Go.Proofs.YtblkejnckbeieaaGreatDoor.SetPure

namespace Go.Proofs.YtblkejnckbeieaaGreatDoor
open Go.RowKit SetPure

/-- The row behind a slice has elements of that type. -/
def TyOf (w : World) (v : Value) (t : TypeId) : Prop := ∀ a n c, v = .slice (some a) n c → ∃ cs fz, w.heap[a.block]? = some (.cells cs t fz)
theorem TyOf.none_ (w : World) (n c : Nat) (t : TypeId) : TyOf w (.slice none n c) t := fun a n c h => by cases h
theorem TyOf.keep {w w' : World} {v : Value} {t : TypeId} (h : TyOf w v t) (hk : ∀ a n c, v = .slice (some a) n c → w'.heap[a.block]? = w.heap[a.block]?) : TyOf w' v t := fun a n c e => by
  obtain ⟨cs, fz, h1⟩ := h a n c e
  exact ⟨cs, fz, (hk a n c e).trans h1⟩
theorem TyOf.lt {w : World} {v : Value} {t : TypeId} (h : TyOf w v t) {a : Addr} {n c : Nat} (e : v = .slice (some a) n c) : a.block < w.heap.size := by
  obtain ⟨cs, fz, h1⟩ := h a n c e
  exact (Array.getElem?_eq_some_iff.1 h1).1
theorem TyOf.below {w w' : World} {v : Value} {t : TypeId} (h : TyOf w v t) (hb : Below w.heap.size w w') : TyOf w' v t := h.keep fun _ _ _ e => hb.block _ (h.lt e)
theorem TyOf.own {α : Type} {E : Enc α} {e : TypeId} {w0 w : World} {v : Value} {l : List α} (h : Own E e w0 w v l) : TyOf w v e := fun a n c hv => by
  rcases h.1.2 with ⟨h1, _⟩ | ⟨g, cap, cur, h1, _, hg, _⟩
  · rw [h1] at hv; cases hv
  · rw [h1] at hv
    injection hv with hv
    injection hv with hv
    subst hv
    exact ⟨_, _, hg⟩
/-- A call's end: it hands back a new row of its own, of that type. -/
def RetTy {α : Type} (E : Enc α) (t : TypeId) (w : World) (l : List α) (e : Ending) (w' : World) : Prop := ∃ v, e = .returned v ∧ IsSeq E w' v l ∧ Below w.heap.size w w' ∧ TyOf w' v t
theorem Own.retTy {α : Type} {E : Enc α} {e : TypeId} {w0 w : World} {v : Value} {l : List α} (h : Own E e w0 w v l) : RetTy E e w0 l (.returned v) w := ⟨v, rfl, h.isSeq, h.2, TyOf.own h⟩

theorem getD_at' {l : List Rg} {k : Nat} {r : Rg} (hk : k < l.length) (hx : l.getD k (0, 0) = r) : l[k] = r := by
  rw [← hx, List.getD_eq_getElem?_getD, List.getElem?_eq_getElem hk]; rfl
theorem take_next' {l : List Rg} {k : Nat} {r : Rg} (hk : k < l.length) (hx : l.getD k (0, 0) = r) : l.take (k + 1) = l.take k ++ [r] := by
  rw [List.take_add_one, List.getElem?_eq_getElem hk, getD_at' hk hx]; rfl
theorem drop_next' {l : List Rg} {k : Nat} {r : Rg} (hk : k < l.length) (hx : l.getD k (0, 0) = r) : l.drop k = r :: l.drop (k + 1) := by
  rw [List.drop_eq_getElem_cons hk, getD_at' hk hx]
theorem mem_at' {l : List Rg} {k : Nat} {r : Rg} (hk : k < l.length) (hx : l.getD k (0, 0) = r) : r ∈ l := by
  rw [← getD_at' hk hx]; exact List.getElem_mem hk
theorem Canon.ok {lo : Int} {s : List Rg} (h : CanonFrom lo s) (hl : 0 ≤ lo) : ∀ r ∈ s, 0 ≤ r.1 ∧ r.1 ≤ r.2 ∧ r.2 ≤ 1114111 := by
  induction s generalizing lo with
  | nil => intro r hr; cases hr
  | cons q s ih =>
    intro r hr
    rcases List.mem_cons.1 hr with rfl | hr
    · exact ⟨by have := h.1; omega, h.2.1, h.2.2.1⟩
    · exact ih h.2.2.2 (by have := h.1; have := h.2.1; omega) r hr
theorem sizeL_bd {s : List Rg} (h : ∀ r ∈ s, 0 ≤ r.1 ∧ r.1 ≤ r.2 ∧ r.2 ≤ 1114111) : 0 ≤ sizeL s ∧ sizeL s ≤ 1114112 * s.length := by
  induction s with
  | nil => simp [sizeL]
  | cons q s ih =>
    have h1 := h q (List.mem_cons_self ..)
    have h2 := ih (fun r hr => h r (List.mem_cons_of_mem _ hr))
    simp only [sizeL, List.length_cons]
    omega

theorem stood_range : Tryz.prog.stoodInHeld 51 = false := by kernel_rfl
@[go_sem] theorem guard_range (op : BinOp) (x y : Operand) (xs ys : Array Value) (w : World) : (eqGuard op 51 x y (.agg xs) (.agg ys)).run Tryz.prog w = .ok () w := run_eqGuard_agg w op _ x y xs ys (by kernel_rfl)
def rangeEq (a b c d : Int) : Bool := a == c && b == d
theorem rangeEq_iff (a b c d : Int) : rangeEq a b c d = true ↔ (a, b) = (c, d) := by simp [rangeEq]
/-- Two ranges are one if both their ends are. -/
theorem eq_range (a b c d : Int) (w : World) : (Op.equalIn 10000 51 (.agg #[.int .i64 a, .int .i64 b]) (.agg #[.int .i64 c, .int .i64 d])).run Tryz.prog w = .ok (rangeEq a b c d) w := by
  have u3 := Tryz.underlying3
  have a3 := Tryz.isAgg3
  have z3 := Tryz.sizeOf3
  have hS : Tryz.prog.underlying 51 = some (.struct (Tryz.prog.fieldsOf 51)) := by kernel_rfl
  rw [show (10000 : Nat) = 9999 + 1 from rfl, run_equalIn_agg w 9999 51 _ _ hS stood_range]
  simp only [Program.fieldsOf, Tryz.underlying51]
  go_simp
  by_cases h1 : a = c <;> by_cases h2 : b = d <;> simp [rangeEq, h1, h2]

@[go_sem ↓] theorem neq_range (a b c d : Int) (w : World) : (binOp .neq 51 (.agg #[.int .i64 a, .int .i64 b]) (.agg #[.int .i64 c, .int .i64 d])).run Tryz.prog w = .ok (.bool (!rangeEq a b c d)) w := by
  rw [run_neq_struct, eq_range]; rfl
@[go_sem ↓] theorem eql_range (a b c d : Int) (w : World) : (binOp .eql 51 (.agg #[.int .i64 a, .int .i64 b]) (.agg #[.int .i64 c, .int .i64 d])).run Tryz.prog w = .ok (.bool (rangeEq a b c d)) w := by
  rw [run_eql_struct, eq_range]; rfl

end Go.Proofs.YtblkejnckbeieaaGreatDoor

namespace Go.Proofs.YtblkejnckbeieaaGreatDoor
open Go.RowKit SetPure

theorem info_range : (Tryz.prog.info? 51).map (fun i => (i.zero, i.size, i.bytes)) = some (some (.agg #[.int .i64 0, .int .i64 0]), 2, 16) := by kernel_rfl
theorem elSet : ElemOf Tryz.prog 26 51 Epair.k 16 := by
  obtain ⟨i, hi, hz0, hz1, hz2⟩ := info_parts info_range
  exact ⟨i, _, Tryz.underlying26, hi, hz0, hz1, hz2, rfl⟩
theorem elRanges : ElemOf Tryz.prog 25 51 Epair.k 16 := by
  obtain ⟨i, hi, hz0, hz1, hz2⟩ := info_parts info_range
  exact ⟨i, _, Tryz.underlying25, hi, hz0, hz1, hz2, rfl⟩

theorem notL_step {next : Int} {s : List Rg} {k : Nat} {r : Rg} (hk : k < s.length) (hr : s.getD k (0, 0) = r) : notL next (s.drop k) = if next < r.1 then (next, r.1 - 1) :: notL (r.2 + 1) (s.drop (k + 1)) else notL (r.2 + 1) (s.drop (k + 1)) := by
  rw [drop_next' hk hr]; rfl

set_option maxHeartbeats 800000 in
theorem not_any (A : Option Addr) (c B : Nat) (l : List Rg) (w : World) (hcan : Canon l) (hA : SeqAt Epair w B A l) (hB : B ≤ w.heap.size) :
    Calls Tryz.prog 57 #[.slice A l.length c] w (RetTy Epair 51 w (notL 0 l)) := by
  have hok := Canon.ok hcan (by omega)
  have hlen := hcan.len
  have HA := Lib.hid hA
  have HO := Lib.hid hok
  clear hA hcan hok
  go_enter Tryz.func57, Tryz.ntmps57
  go_wp2
  go_loopw [3, 4, 9] (fun v nx i wr => ∃ (k : Nat) (next : Int) (O : List Rg), k ≤ l.length ∧ i = .int .i64 k ∧ nx = .int .i64 next ∧ 0 ≤ next ∧ next ≤ 1114112 ∧ O.length ≤ k ∧ Own Epair 51 w wr v O ∧ Hid (notL 0 l = O ++ notL next (l.drop k)))
    (fun _ _ i _ => l.length + 1 - (intOf i).toNat)
  case atStart => exact ⟨0, 0, [], by omega, rfl, rfl, by omega, by omega, by simp, Own.nil_ _, rfl⟩
  case round =>
    obtain ⟨k, next, O, hk, rfl, rfl, hn0, hn1, hOl, hown, hrest⟩ := hrel
    have hz := hown.size
    by_cases hlt : k < l.length
    · obtain ⟨b, off, rfl, hb, hc⟩ := (HA.out.below (hown.2.mono hB)).pairs_ (by omega)
      obtain ⟨h0, h1⟩ := hc k hlt
      clear hc
      obtain ⟨⟨x, y⟩, hr⟩ : ∃ r, l.getD k (0, 0) = r := ⟨_, rfl⟩
      rw [hr] at h0 h1
      have hq := HO.out _ (mem_at' hlt hr)
      have HS := Lib.hid (notL_step (next := next) hlt hr)
      clear hr
      simp only at h0 h1 hq
      obtain ⟨q1, q2, q3⟩ := hq
      by_cases hx : next < x
      · go_wp2_with (at_builtin; (refine wpList_append_seq _ rfl (.tmp 17) (.tmp 23) 26 rfl 16 elSet rfl ((hown.alloc _).alloc _) 1 rfl (SeqAt.new_at (E := Epair) (wr.alloc _) [(next, x - 1)] 51 (wr.heap.size + 1) (by simp)) rfl (by simp only [maxLen]; omega) (by omega) ?_); intro v1 w1 hown1 hg1; have hy1 := grown_cell hown hg1 (b := wr.heap.size) (o := 1) (u := .int .i64 y) (by go_simp) (Nat.le_refl _))
        go_roundw
        case rel => exact ⟨k + 1, y + 1, O ++ [(next, x - 1)], by omega, by go_num, rfl, by omega, by omega, by simp; omega, hown1, Lib.hid (by rw [hrest.out, HS.out, if_pos (by simp only; omega)]; simp)⟩
        case measure => simp [intOf]; omega
      · go_wp2
        go_roundw
        case rel => exact ⟨k + 1, y + 1, O, by omega, by go_num, rfl, by omega, by omega, by omega, hown.alloc _, Lib.hid (by rw [hrest.out, HS.out, if_neg (by simp only; omega)])⟩
        case measure => simp [intOf]; omega
    · obtain rfl : k = l.length := by omega
      by_cases hx : next ≤ 1114111
      · go_wp2_with (at_builtin; refine wpList_append_seq _ rfl (.tmp 31) (.tmp 34) 26 rfl 16 elSet rfl (hown.alloc _) 1 rfl (SeqAt.new (E := Epair) wr [(next, 1114111)] 51) rfl (by simp only [maxLen]; omega) (by omega) ?_; intro v1 w1 hown1 hg1)
        go_ret
        rw [hrest.out, List.drop_eq_nil_of_le (Nat.le_refl _)]
        simp only [notL, if_pos hx]
        exact hown1.retTy
      · go_wp2
        go_ret
        rw [hrest.out, List.drop_eq_nil_of_le (Nat.le_refl _)]
        rw [notL, if_neg (by omega), List.append_nil]
        exact hown.retTy

end Go.Proofs.YtblkejnckbeieaaGreatDoor

namespace Go.Proofs.YtblkejnckbeieaaGreatDoor
open Go.RowKit SetPure Go.Shelf Go.Lib Go.Sort

def ltFrom (x y : Rg) : Bool := decide (x.1 < y.1)
theorem swo_ltFrom : SWO ltFrom where
  irrefl := fun x => by simp [ltFrom]
  trans := fun x y z h1 h2 => by simp [ltFrom] at *; omega
  ntrans := fun x y z h1 h2 => by simp [ltFrom] at *; omega

theorem flatK_list {α : Type} [Inhabited α] (E : Enc α) (d : Array α) : (flatK E.enc E.k d).toList = d.toList.flatMap E.enc := by
  apply List.ext_getElem?
  intro t
  by_cases ht : t < d.size * E.k
  · have hk := E.pos
    have hq : t / E.k < d.toList.length := by rw [Array.length_toList]; exact Nat.div_lt_of_lt_mul (by rw [Nat.mul_comm]; exact ht)
    have hm : t % E.k < E.k := Nat.mod_lt _ hk
    have h1 := E.flat_at d.toList (t / E.k) hq (t % E.k) hm
    rw [show t / E.k * E.k + t % E.k = t by rw [Nat.mul_comm]; exact Nat.div_add_mod t E.k] at h1
    rw [h1]
    have h2 := get_flatK E.enc E.k d t ht
    rw [getElem!_pos _ t (by simpa using ht)] at h2
    rw [Array.getElem?_toList, Array.getElem?_eq_getElem (by simpa using ht), h2]
    have hq' : t / E.k < d.size := by simpa using hq
    rw [getElem!_pos d _ hq', getElem!_pos _ (t % E.k) (by rw [E.len]; exact hm)]
    rw [List.getElem?_eq_getElem (by rw [E.len]; exact hm)]
    simp
  · rw [List.getElem?_eq_none (by simp; omega), List.getElem?_eq_none (by rw [E.flat_len]; simp; omega)]

theorem putCells_take (F : Array Value) (cur : Array Value) (h : F.size ≤ cur.size) : (putCells id 0 F cur).toList.take F.size = F.toList := by
  apply List.ext_getElem?
  intro t
  rw [List.getElem?_take]
  by_cases ht : t < F.size
  · rw [if_pos ht]
    simp only [putCells, Array.getElem?_toList, Array.getElem?_mapIdx]
    rw [Array.getElem?_eq_getElem (show t < cur.size by omega), Array.getElem?_eq_getElem ht]
    simp only [Option.map_some, Nat.zero_le, Nat.zero_add, ht, and_self, if_true, Nat.sub_zero, id]
    rw [getElem!_pos F t ht]
  · rw [if_neg ht, List.getElem?_eq_none (by simpa using ht)]

/-- The row behind the sort. -/
theorem own_sorted {α : Type} [Inhabited α] {E : Enc α} {e : TypeId} {base g c n : Nat} {w : World} {L L' : List α} {os : Array Obj} (h : OwnB E e base w (.slice (some ⟨g, 0, none⟩) L.length c) L) (hl : L'.length = L.length) :
    OwnB E e base (grow (putRowK E.enc E.k (Sort.ahead w n) g 0 L'.toArray) os) (.slice (some ⟨g, 0, none⟩) L.length c) L' ∧
    (∀ k, k < w.heap.size → k ≠ g → (grow (putRowK E.enc E.k (Sort.ahead w n) g 0 L'.toArray) os).heap[k]? = w.heap[k]?) ∧
    w.heap.size ≤ (grow (putRowK E.enc E.k (Sort.ahead w n) g 0 L'.toArray) os).heap.size := by
  have hsz : (putRowK E.enc E.k (Sort.ahead w n) g 0 L'.toArray).heap.size = w.heap.size := by simp [putRowK, putRow, mapBlock, Sort.ahead]
  have hheap : ∀ k, (putRowK E.enc E.k (Sort.ahead w n) g 0 L'.toArray).heap[k]? = if g = k then (w.heap[k]?).map (onCells (putCells id 0 (flatK E.enc E.k L'.toArray))) else w.heap[k]? := by
    intro k
    simp only [putRowK, putRow, mapBlock, Sort.ahead, Array.getElem?_modify]
  have hgrow : ∀ k, k < w.heap.size → (grow (putRowK E.enc E.k (Sort.ahead w n) g 0 L'.toArray) os).heap[k]? = (putRowK E.enc E.k (Sort.ahead w n) g 0 L'.toArray).heap[k]? := by
    intro k hk
    simp only [grow]
    rw [Array.getElem?_append_left (by rw [hsz]; exact hk)]
  have hsize : w.heap.size ≤ (grow (putRowK E.enc E.k (Sort.ahead w n) g 0 L'.toArray) os).heap.size := by
    simp only [grow, Array.size_append, hsz]; omega
  refine ⟨?_, fun k hk hne => by rw [hgrow k hk, hheap, if_neg (Ne.symm hne)], hsize⟩
  obtain ⟨h1, h2⟩ := h
  refine ⟨?_, Nat.le_trans h2 hsize⟩
  rcases h1.2 with ⟨h', _⟩ | ⟨g', cap, cur, h', hb, hg, hnc, hm, hs, ht⟩
  · cases h'
  · injection h' with e1 _ e3
    injection e1 with e1
    injection e1 with e1 _ _
    subst e1; subst e3
    refine ⟨E.flat_len L', .inr ⟨g, c, putCells id 0 (flatK E.enc E.k L'.toArray) cur, by rw [hl], hb, ?_, by rw [hl]; exact hnc, hm, ?_, ?_⟩⟩
    · rw [hgrow g (Array.getElem?_eq_some_iff.1 hg).1, hheap, if_pos rfl, hg]; rfl
    · simp [putCells, hs]
    · have hF : (flatK E.enc E.k L'.toArray).size = L'.length * E.k := by simp
      have := putCells_take (flatK E.enc E.k L'.toArray) cur (by rw [hF, hs, hl]; exact Nat.mul_le_mul_right _ hnc)
      rw [hF, flatK_list] at this
      exact this

end Go.Proofs.YtblkejnckbeieaaGreatDoor
