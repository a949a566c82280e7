/- Chapter 06: all records of a text, in plain words. -/
import Derived.Test.YtcpddggbigopjaaDoorTapeFieldsP
namespace Go.Proofs.YtcpddggbigopjaaDoor
open Go.RowKit
namespace TapePure

theorem recStep_pos {l : List UInt8} {kv : List UInt8 × List UInt8} {n : Nat} (h : recStep l = some (kv, n)) : 1 ≤ n := by
  unfold recStep at h
  by_cases h1 : (upto 32 l).2 = false ∨ (decL (upto 32 l).1 9).2 = false ∨ (upto 32 l).1.getD 0 0 = 48 ∨ (l.length : Int) < (decL (upto 32 l).1 9).1 ∨ (decL (upto 32 l).1 9).1 < (upto 32 l).1.length + 4
  · rw [if_pos h1] at h; cases h
  · rw [if_neg h1] at h
    split at h
    · cases h
    · split at h
      · cases h
      · injection h with h
        injection h with _ h
        have : ¬ (decL (upto 32 l).1 9).1 < (upto 32 l).1.length + 4 := fun hh => h1 (.inr (.inr (.inr (.inr hh))))
        omega
def recsL (l : List UInt8) : Option (List (List UInt8 × List UInt8)) := recs l.length l
theorem recs_fuel : ∀ (f : Nat) (l : List UInt8), l.length ≤ f → recs f l = recsL l
  | 0, l, h => by
    obtain rfl := List.eq_nil_of_length_eq_zero (Nat.le_zero.1 h)
    rfl
  | f + 1, [], _ => rfl
  | f + 1, c :: t, h => by
    unfold recsL
    rw [List.length_cons]
    unfold recs
    rw [if_neg (by simp), if_neg (by simp)]
    cases hs : recStep (c :: t) with
    | none => rfl
    | some p =>
      obtain ⟨kv, n⟩ := p
      have hn := recStep_pos hs
      have hd : ((c :: t).drop n).length ≤ t.length := by rw [List.length_drop, List.length_cons]; omega
      simp only
      rw [recs_fuel f _ (by rw [List.length_cons] at h; omega), recs_fuel t.length _ hd]
theorem recsL_nil : recsL [] = some [] := rfl
theorem recsL_none {l : List UInt8} (hl : l ≠ []) (h : recStep l = none) : recsL l = none := by
  cases l with
  | nil => exact absurd rfl hl
  | cons c t =>
    have e : recsL (c :: t) = (if c :: t = [] then some [] else match recStep (c :: t) with
      | none => none
      | some (kv, n) => (recs t.length ((c :: t).drop n)).map (kv :: ·)) := rfl
    rw [e, if_neg (by simp), h]
theorem recsL_some {l : List UInt8} (hl : l ≠ []) {kv : List UInt8 × List UInt8} {n : Nat} (h : recStep l = some (kv, n)) : recsL l = (recsL (l.drop n)).map (kv :: ·) := by
  cases l with
  | nil => exact absurd rfl hl
  | cons c t =>
    have hn := recStep_pos h
    have e : recsL (c :: t) = (if c :: t = [] then some [] else match recStep (c :: t) with
      | none => none
      | some (kv, n) => (recs t.length ((c :: t).drop n)).map (kv :: ·)) := rfl
    rw [e, if_neg (by simp), h]
    simp only
    rw [recs_fuel t.length _ (by rw [List.length_drop, List.length_cons]; omega)]
/-- The invariant of a loop over records. -/
theorem recs_next {l0 rest : List UInt8} {done : List (List UInt8 × List UInt8)} (h : recsL l0 = (recsL rest).map (done ++ ·)) (hl : rest ≠ []) {kv : List UInt8 × List UInt8} {n : Nat} (hs : recStep rest = some (kv, n)) :
    recsL l0 = (recsL (rest.drop n)).map ((done ++ [kv]) ++ ·) := by
  rw [h, recsL_some hl hs, Option.map_map]
  congr 1
  funext x
  simp
theorem recs_fail {l0 rest : List UInt8} {done : List (List UInt8 × List UInt8)} (h : recsL l0 = (recsL rest).map (done ++ ·)) (hl : rest ≠ []) (hs : recStep rest = none) : recsL l0 = none := by
  rw [h, recsL_none hl hs]; rfl
theorem recs_end {l0 : List UInt8} {done : List (List UInt8 × List UInt8)} (h : recsL l0 = (recsL []).map (done ++ ·)) : recsL l0 = some done := by
  rw [h, recsL_nil]; simp

end TapePure
end Go.Proofs.YtcpddggbigopjaaDoor
