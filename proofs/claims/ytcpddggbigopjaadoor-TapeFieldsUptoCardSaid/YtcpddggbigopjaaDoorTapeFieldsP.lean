/- Chapter 06: records in plain words; the document's and the program's conditions are one. -/
import Derived.Test.YtcpddggbigopjaaDoorTapePure
import Derived.Lib.IndexMore
import Derived.Lib.IndexBytes
namespace Go.Proofs.YtcpddggbigopjaaDoor
open Go.RowKit
namespace TapePure

/-- What stands ahead of the first c, or all; whether there is one. -/
def upto (c : UInt8) : List UInt8 → List UInt8 × Bool
  | [] => ([], false)
  | b :: t => if b = c then ([], true) else (b :: (upto c t).1, (upto c t).2)
theorem upto_cons (c b : UInt8) (t : List UInt8) : upto c (b :: t) = if b = c then ([], true) else (b :: (upto c t).1, (upto c t).2) := rfl
theorem upto_len (c : UInt8) (l : List UInt8) : (upto c l).1.length ≤ l.length ∧ ((upto c l).2 = true → (upto c l).1.length < l.length) := by
  induction l with
  | nil => exact ⟨Nat.le_refl _, fun h => by cases h⟩
  | cons b t ih =>
    unfold upto
    split
    · exact ⟨Nat.zero_le _, fun _ => by simp⟩
    · simp only [List.length_cons]
      exact ⟨by have := ih.1; omega, fun h => by have := ih.2 h; omega⟩
theorem upto_none (c : UInt8) (l : List UInt8) (h : (upto c l).2 = false) : (upto c l).1 = l := by
  induction l with
  | nil => rfl
  | cons b t ih =>
    unfold upto at h ⊢
    split at h
    · cases h
    · rename_i hb
      rw [if_neg hb]
      simp only at h ⊢
      rw [ih h]
theorem upto_take (c : UInt8) (l : List UInt8) : (upto c l).1 = l.take (upto c l).1.length := by
  induction l with
  | nil => rfl
  | cons b t ih =>
    unfold upto
    split
    · rfl
    · simp only [List.length_cons, List.take_succ_cons]
      rw [← ih]
theorem index_upto (c : UInt8) (l : List UInt8) : Lib.index l [c] = if (upto c l).2 = true then ((upto c l).1.length : Int) else -1 := by
  induction l with
  | nil => rfl
  | cons b t ih =>
    have e : Lib.index (b :: t) [c] = if [c].isPrefixOf (b :: t) then 0 else if Lib.index t [c] == -1 then -1 else Lib.index t [c] + 1 := rfl
    rw [e, ih, upto_cons]
    by_cases hb : b = c
    · subst hb
      simp
    · have hb2 : ¬ c = b := fun h => hb h.symm
      have hp : [c].isPrefixOf (b :: t) = false := by simp [List.isPrefixOf, hb2]
      rw [hp, if_neg hb]
      obtain ⟨n, hn⟩ : ∃ n, (upto c t).1.length = n := ⟨_, rfl⟩
      cases hs : (upto c t).2
      · simp
      · have hne : (((upto c t).1.length : Int) == -1) = false := beq_eq_false_iff_ne.2 (by omega)
        simp only [Bool.false_eq_true, if_false, if_true, hne, List.length_cons]
        omega
theorem cut_upto (c : UInt8) (l : List UInt8) : Lib.cut l [c] = ((upto c l).1, if (upto c l).2 = true then l.drop ((upto c l).1.length + 1) else [], (upto c l).2) := by
  unfold Lib.cut
  rw [index_upto]
  cases hs : (upto c l).2
  · simp
    exact (upto_none c l hs).symm
  · simp
    exact (upto_take c l).symm

def decF : Int → List UInt8 → Int × Bool
  | v, [] => (v, true)
  | v, c :: t => if (c.toNat : Int) < 48 ∨ 57 < (c.toNat : Int) then (0, false) else decF (10 * v + ((c.toNat : Int) - 48)) t
def decL (l : List UInt8) (m : Int) : Int × Bool := if (l.length : Int) < 1 ∨ m < (l.length : Int) then (0, false) else decF 0 l
theorem decF_nonneg {l : List UInt8} : ∀ {v : Int}, 0 ≤ v → 0 ≤ (decF v l).1 := by
  induction l with
  | nil => intro v hv; exact hv
  | cons c t ih =>
    intro v hv
    unfold decF
    split
    · exact Int.le_refl _
    · exact ih (by omega)
theorem decL_nonneg (l : List UInt8) (m : Int) : 0 ≤ (decL l m).1 := by
  unfold decL
  split
  · exact Int.le_refl _
  · exact decF_nonneg (Int.le_refl _)

/-- One record ahead of all else: its key and its value, and how long it is. -/
def recStep (l : List UInt8) : Option ((List UInt8 × List UInt8) × Nat) :=
  if (upto 32 l).2 = false ∨ (decL (upto 32 l).1 9).2 = false ∨ (upto 32 l).1.getD 0 0 = 48 ∨ (l.length : Int) < (decL (upto 32 l).1 9).1 ∨ (decL (upto 32 l).1 9).1 < (upto 32 l).1.length + 4 then none
  else if l.getD ((decL (upto 32 l).1 9).1.toNat - 1) 0 ≠ 10 then none
  else if (upto 61 ((l.take ((decL (upto 32 l).1 9).1.toNat - 1)).drop ((upto 32 l).1.length + 1))).2 = false ∨ (upto 61 ((l.take ((decL (upto 32 l).1 9).1.toNat - 1)).drop ((upto 32 l).1.length + 1))).1 = [] then none
  else some (((upto 61 ((l.take ((decL (upto 32 l).1 9).1.toNat - 1)).drop ((upto 32 l).1.length + 1))).1,
    ((l.take ((decL (upto 32 l).1 9).1.toNat - 1)).drop ((upto 32 l).1.length + 1)).drop ((upto 61 ((l.take ((decL (upto 32 l).1 9).1.toNat - 1)).drop ((upto 32 l).1.length + 1))).1.length + 1)), (decL (upto 32 l).1 9).1.toNat)

/-- The program's conditions. -/
theorem prog_fail {l d : List UInt8} {n : Int} (hd : (upto 32 l).1 = d) (hn : (decL d 9).1 = n) (h : (decL d 9).2 = false ∨ d.getD 0 0 = 48 ∨ (l.length : Int) < n ∨ n < d.length + 2 ∨ l.getD (n.toNat - 1) 0 ≠ 10) : recStep l = none := by
  unfold recStep
  rw [hd, hn]
  by_cases h1 : (upto 32 l).2 = false ∨ (decL d 9).2 = false ∨ d.getD 0 0 = 48 ∨ (l.length : Int) < n ∨ n < d.length + 4
  · rw [if_pos h1]
  · rw [if_neg h1]
    rcases h with h | h | h | h | h
    · exact absurd (.inr (.inl h)) h1
    · exact absurd (.inr (.inr (.inl h))) h1
    · exact absurd (.inr (.inr (.inr (.inl h)))) h1
    · exact absurd (.inr (.inr (.inr (.inr (by omega))))) h1
    · rw [if_pos h]
theorem prog_go {l d : List UInt8} {n : Int} (hd : (upto 32 l).1 = d) (hn : (decL d 9).1 = n) (h1 : (decL d 9).2 = true) (h2 : d.getD 0 0 ≠ 48) (h3 : n ≤ (l.length : Int)) (h4 : (d.length : Int) + 2 ≤ n) (h5 : l.getD (n.toNat - 1) 0 = 10)
    {r : List UInt8} (hr : (l.take (n.toNat - 1)).drop (d.length + 1) = r) :
    recStep l = if (upto 61 r).2 = false ∨ (upto 61 r).1 = [] then none else some (((upto 61 r).1, r.drop ((upto 61 r).1.length + 1)), n.toNat) := by
  have hs : (upto 32 l).2 = true := by
    cases hh : (upto 32 l).2
    · have := upto_none 32 l hh
      rw [hd] at this
      subst this
      omega
    · rfl
  unfold recStep
  rw [hd, hn, hr]
  have hrl : r.length = n.toNat - 1 - (d.length + 1) := by
    rw [← hr, List.length_drop, List.length_take]; omega
  by_cases h6 : n < d.length + 4
  · rw [if_pos (.inr (.inr (.inr (.inr h6))))]
    symm
    refine if_pos ?_
    cases hf : (upto 61 r).2
    · exact .inl rfl
    · right
      have hl := (upto_len 61 r).2 hf
      exact List.eq_nil_of_length_eq_zero (by omega)
  · rw [if_neg (by rw [hs, h1]; simp only [Bool.true_eq_false, false_or]; rintro (h | h | h) <;> first | exact h2 h | omega), if_neg (by simpa using h5)]

/-- All records of a text. -/
def recs : Nat → List UInt8 → Option (List (List UInt8 × List UInt8))
  | 0, _ => some []
  | f + 1, l => if l = [] then some [] else match recStep l with
    | none => none
    | some (kv, n) => (recs f (l.drop n)).map (kv :: ·)

end TapePure
end Go.Proofs.YtcpddggbigopjaaDoor
