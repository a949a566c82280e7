/- slices.Sort at a slice of strings, by the library's contract: the row holds the one rising list of what it held. -/
import Derived.Test.YtpidgcjioocmhaaSortSlice
import Derived.Shelf.Sort.Plain
namespace Go.Proofs.Ytpidgcjioocmhaa
open Go.RowKit Go.Shelf Go.Lib Go.Sort

def bytesOf (l : List ByteArray) : List (List UInt8) := l.map fun b => b.data.toList
theorem bytesOf_get (l : List ByteArray) (j : Nat) (hj : j < l.length) : encStr ((bytesOf l).toArray[j]!) = .string l[j] := by
  rw [getElem!_pos _ j (by simpa [bytesOf] using hj)]
  simp [bytesOf, encStr]

theorem flatK_str (S : List ByteArray) (j : Nat) (hj : j < S.length) : (flatK Estr.enc 1 S.toArray)[j]! = .string S[j] := by
  rw [get_flatK _ _ _ _ (by simpa using hj), Nat.div_one, Nat.mod_one, getElem!_pos S.toArray j (by simpa using hj)]
  rfl

theorem putRow_str (S : List ByteArray) (w : World) (g : Nat) : putRow encStr w g 0 (bytesOf S).toArray = putRowK Estr.enc Estr.k w g 0 S.toArray := by
  unfold putRowK putRow
  congr 1
  funext cur
  unfold putCells
  have h1 : (bytesOf S).toArray.size = S.length := by simp [bytesOf]
  have h2 : (flatK Estr.enc Estr.k S.toArray).size = S.length := by rw [size_flatK]; simp [Estr]
  rw [h1, h2]
  apply Array.ext
  · simp
  · intro i hi1 hi2
    simp only [Array.getElem_mapIdx]
    by_cases hc : 0 ≤ i ∧ i < 0 + S.length
    · rw [if_pos hc, if_pos hc]
      have hi : i < S.length := by omega
      rw [Nat.sub_zero, bytesOf_get S i hi]
      show _ = id ((flatK Estr.enc 1 S.toArray)[i]!)
      rw [flatK_str S i hi]; rfl
    · rw [if_neg hc, if_neg hc]

theorem sorted_unique {l s : List (List UInt8)} (hp : l.Perm s) (hs : s.Pairwise (· ≤ ·)) : (l.mergeSort fun x y => decide (x ≤ y)) = s := by
  have h1 : (l.mergeSort fun x y => decide (x ≤ y)).Pairwise (fun x y => x ≤ y) := by
    have := List.pairwise_mergeSort (le := fun x y : List UInt8 => decide (x ≤ y)) (fun a b c hab hbc => by simp only [decide_eq_true_eq] at *; exact List.le_trans hab hbc)
      (fun a b => by simp only [Bool.or_eq_true, decide_eq_true_eq]; exact List.le_total a b) l
    simpa using this
  exact List.Perm.eq_of_pairwise (fun a b _ _ hab hba => List.le_antisymm hab hba) h1 hs ((List.mergeSort_perm _ _).trans hp)

theorem sort_strs (base : Nat) (v : Value) (L S : List ByteArray) (w : World) (hown : OwnB Estr 9 base w v L) (hlen : L.length < 4611686018427387904) (hpos : 0 < L.length)
    (hp : (bytesOf L).Perm (bytesOf S)) (hs : (bytesOf S).Pairwise (· ≤ ·)) :
    Calls Try.prog 45 #[v] w fun e w' => e = .returned (.tuple #[]) ∧ OwnB Estr 9 base w' v S ∧ Below base w w' := by
  have hSL : S.length = L.length := by have := hp.length_eq; simpa [bytesOf] using this.symm
  have hrow := hown.1
  rcases hrow.2 with ⟨h', h0⟩ | ⟨g, cap, cur, rfl, hbg, hg, hnc, hm, hsz, ht⟩
  · omega
  · have hgl := (Array.getElem?_eq_some_iff.1 hg).1
    have hH : Holds encStr w g 0 (bytesOf L).toArray := by
      intro j hj
      have hj' : j < L.length := by simpa [bytesOf] using hj
      have hx := hrow.cellAt j (by show j < L.length * 1; omega)
      refine ⟨?_, by rw [Nat.zero_add]; exact hrow.frozenAt j⟩
      rw [Nat.zero_add, hx, bytesOf_get L j hj']
      have := Estr.flat_at L j hj' 0 (by decide)
      simp only [Estr, Nat.mul_one, Nat.add_zero] at this
      exact this
    have hs' := Any.slices_Sort_string Try.lays190 g 0 cap (bytesOf L) w hH hgl (by simpa [bytesOf] using hlen)
    rw [show (bytesOf L).length = L.length by simp [bytesOf], sorted_unique hp hs] at hs'
    refine hs'.mono ?_
    rintro e w' ⟨rfl, n, os, rfl⟩
    obtain ⟨o1, o2, o3⟩ := own_sorted (os := os) (n := n) hown hSL
    rw [putRow_str]
    refine ⟨rfl, ?_, ⟨rfl, rfl, rfl, o3, fun k hk => o2 k (by have := hown.2; omega) (by omega)⟩⟩
    exact o1

end Go.Proofs.Ytpidgcjioocmhaa
