/- Chapter 13, the plain law of SplitOrder: the bytes of rows that rise, and how many texts they hold. -/
import Derived.Test.YtemjgnpkhomofaaSplitHas
import Derived.Test.YtemjgnpkhomofaaSetFA
import Derived.Laws.Strings
namespace Go.Proofs.Ytemjgnpkhomofaa
open SetPure
namespace UtfPure

def bytesOf (l : List Int) : List UInt8 := l.map fun n => UInt8.ofNat n.toNat
theorem toList_nums (l : List Int) : (strOfNums l).toList = bytesOf l := by rw [ByteArray.toList_eq]; rfl
theorem byte_lt {a b : Int} (ha : 0 ≤ a ∧ a ≤ 255) (hb : 0 ≤ b ∧ b ≤ 255) : (UInt8.ofNat a.toNat < UInt8.ofNat b.toNat) ↔ a < b := by
  rw [UInt8.lt_iff_toNat_lt, UInt8.toNat_ofNat', UInt8.toNat_ofNat']; omega
theorem byte_eq {a b : Int} (ha : 0 ≤ a ∧ a ≤ 255) (hb : 0 ≤ b ∧ b ≤ 255) : (UInt8.ofNat a.toNat = UInt8.ofNat b.toNat) ↔ a = b := by
  rw [← UInt8.toNat_inj, UInt8.toNat_ofNat', UInt8.toNat_ofNat']; omega
/-- What is greater is neither less nor the same. -/
theorem bytes_gt : ∀ {l m : List Int}, (∀ x ∈ l, 0 ≤ x ∧ x ≤ 255) → (∀ x ∈ m, 0 ≤ x ∧ x ≤ 255) → lexP l m → (Op.bytesLess (bytesOf m) (bytesOf l) || bytesOf m == bytesOf l) = false
  | _, [], _, _, h => by simp [lexP] at h
  | [], b :: y, _, _, _ => by simp [bytesOf, Op.bytesLess]
  | a :: x, b :: y, hl, hm, h => by
    have ha := hl a (List.mem_cons_self ..)
    have hb := hm b (List.mem_cons_self ..)
    have e1 : bytesOf (b :: y) = UInt8.ofNat b.toNat :: bytesOf y := rfl
    have e2 : bytesOf (a :: x) = UInt8.ofNat a.toNat :: bytesOf x := rfl
    rw [e1, e2]
    rcases h with h | ⟨rfl, h⟩
    · have n1 : ¬ (UInt8.ofNat b.toNat < UInt8.ofNat a.toNat) := fun hh => by have := (byte_lt hb ha).1 hh; omega
      have n2 : ¬ (UInt8.ofNat b.toNat = UInt8.ofNat a.toNat) := fun hh => by have := (byte_eq hb ha).1 hh; omega
      simp [Op.bytesLess, n1, n2]
    · have ih := bytes_gt (fun x hx => hl x (List.mem_cons_of_mem _ hx)) (fun x hx => hm x (List.mem_cons_of_mem _ hx)) h
      rw [Bool.or_eq_false_iff] at ih ⊢
      constructor
      · simp [Op.bytesLess, ih.1]
      · rw [beq_eq_false_iff_ne] at ih ⊢
        intro hh
        injection hh with _ hh
        exact ih.2 hh
theorem str_gt {y x : Int} (h0 : 0 ≤ y) (h : y < x) (h1 : x ≤ 1114111) : (Op.bytesLess (strOfNums (encU x)).toList (strOfNums (encU y)).toList || (strOfNums (encU x)).toList == (strOfNums (encU y)).toList) = false := by
  rw [toList_nums, toList_nums]
  exact bytes_gt (enc_bd h0 (by omega)) (enc_bd (by omega) h1) (lex_enc h0 h h1)

theorem fits_each {w : List Rg} {s : List Int} (h : fits w s = true) {k : Nat} (hk : k < w.length) : (w.getD k (0, 0)).1 ≤ s.getD k 0 ∧ s.getD k 0 ≤ (w.getD k (0, 0)).2 := by
  induction w generalizing s k with
  | nil => simp at hk
  | cons r w ih =>
    obtain ⟨b, t, rfl, h1, h2, h3⟩ := (fits_cons r w s).1 h
    cases k with
    | zero => exact ⟨h1, h2⟩
    | succ k => simpa using ih h3 (k := k) (by simpa using hk)
theorem leaf_at {x y : Int} (h : Leaf (x, y)) {k : Nat} (hk : k < (encU x).length) :
    (rowOf x y).getD k (0, 0) = ((encU x).getD k 0, (encU y).getD k 0) ∧ 0 ≤ (encU x).getD k 0 ∧ (encU x).getD k 0 ≤ (encU y).getD k 0 ∧ (encU y).getD k 0 ≤ 255 := by
  have hlo := h.lo
  have hle := h.le
  have hhi := h.hi
  simp only at hlo hle hhi
  have hl : (encU x).length = (encU y).length := enc_len hlo (by omega) h.same h.some_
  have hr := rowOf_at hl hk
  refine ⟨hr, (enc_at_bd hlo (by omega) k).1, ?_, (enc_at_bd (by omega) hhi k).2⟩
  have hf : fits (rowOf x y) (encU y) = true := (fits_leaf h _).2 ⟨y, hle, Int.le_refl _, rfl⟩
  have := (fits_each hf (k := k) (by rw [rowOf_len hl]; exact hk)).1
  rw [hr] at this
  exact this
theorem prodW_snoc (w : List Rg) (r : Rg) : prodW (w ++ [r]) = prodW w * (r.2 - r.1 + 1) := by simp [prodW]
theorem pw_le {k : Nat} (h : k ≤ 4) : (256 : Int) ^ k ≤ 4294967296 ∧ 0 ≤ (256 : Int) ^ k := by
  obtain rfl | rfl | rfl | rfl | rfl : k = 0 ∨ k = 1 ∨ k = 2 ∨ k = 3 ∨ k = 4 := by omega
  all_goals decide
theorem pw_step {k : Nat} {a d : Int} (h0 : 0 ≤ a) (h : a ≤ 256 ^ k) (d0 : 0 ≤ d) (d1 : d ≤ 256) : 0 ≤ a * d ∧ a * d ≤ 256 ^ (k + 1) := by
  refine ⟨Int.mul_nonneg h0 d0, ?_⟩
  rw [Int.pow_succ]
  exact Int.mul_le_mul h d1 d0 (by exact Int.le_trans h0 h)

theorem sizeL_snoc (L : List Rg) (r : Rg) : sizeL (L ++ [r]) = sizeL L + (r.2 - r.1 + 1) := by
  induction L with
  | nil => simp [sizeL]
  | cons q L ih =>
    have e1 : sizeL ((q :: L) ++ [r]) = q.2 - q.1 + 1 + sizeL (L ++ [r]) := rfl
    have e2 : sizeL (q :: L) = q.2 - q.1 + 1 + sizeL L := rfl
    rw [e1, e2, ih]; omega

set_option maxRecDepth 100000 in
/-- The rows hold as many texts as the set has scalars. -/
theorem order_size {o l : List Rg} (hc : Canon o) (ho : ∀ z, inB o z = (inB l z && inR z)) :
    sizeL (splitL o) = ((cntF fun z => (inB l z && inR z) && !(inB [(55296, 57343)] z && inR z) : Nat) : Int) := by
  obtain ⟨s1, s2, s3⟩ := splitL_spec hc (Int.le_refl 0)
  have hrs := rise_size 0 1114112 (by omega) (fun r hr => ⟨(s1 r hr).2, (s1 r hr).1.le, (s1 r hr).1.hi⟩) s2
  rw [hrs]
  unfold cntF
  refine congrArg (Nat.cast (R := Int)) (cnt_congr fun x h1 h2 => ?_)
  rw [Bool.eq_iff_iff, inB_iff, s3, ← inB_iff, ho]
  generalize inB l x = b
  simp only [isScalar, inB, inR, List.any_cons, List.any_nil, Bool.or_false, Bool.and_eq_true, Bool.not_eq_true', Bool.and_eq_false_iff, decide_eq_true_eq, decide_eq_false_iff_not, Bool.or_eq_true]
  cases b <;> simp <;> omega

end UtfPure
end Go.Proofs.Ytemjgnpkhomofaa
