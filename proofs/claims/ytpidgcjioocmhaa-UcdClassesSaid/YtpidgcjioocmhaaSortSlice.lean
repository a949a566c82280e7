/- sort.Slice at a slice of ranges, by the library's contract: the row holds a permutation of what it held, rising by From. -/
import Derived.Test.YtpidgcjioocmhaaSetsB
import Derived.Test.YtpidgcjioocmhaaShelf
namespace Go.Proofs.Ytpidgcjioocmhaa
open Go.RowKit SetPure Go.Shelf Go.Lib Go.Sort

def ltFrom (x y : Rg) : Bool := decide (x.1 < y.1)
theorem swo_ltFrom : SWO ltFrom where
  irrefl := fun x => by simp [ltFrom]
  trans := fun x y z h1 h2 => by simp [ltFrom] at *; omega
  ntrans := fun x y z h1 h2 => by simp [ltFrom] at *; omega

theorem flatK_list {α : Type} [Inhabited α] (E : Enc α) (d : Array α) : (flatK E.enc E.k d).toList = d.toList.flatMap E.enc := by
  apply List.ext_getElem?
  intro t
  by_cases ht : t < d.size * E.k
  · have hk := E.pos
    have hq : t / E.k < d.toList.length := by rw [Array.length_toList]; exact Nat.div_lt_of_lt_mul (by rw [Nat.mul_comm]; exact ht)
    have hm : t % E.k < E.k := Nat.mod_lt _ hk
    have h1 := E.flat_at d.toList (t / E.k) hq (t % E.k) hm
    rw [show t / E.k * E.k + t % E.k = t by rw [Nat.mul_comm]; exact Nat.div_add_mod t E.k] at h1
    rw [h1]
    have h2 := get_flatK E.enc E.k d t ht
    rw [getElem!_pos _ t (by simpa using ht)] at h2
    rw [Array.getElem?_toList, Array.getElem?_eq_getElem (by simpa using ht), h2]
    have hq' : t / E.k < d.size := by simpa using hq
    rw [getElem!_pos d _ hq', getElem!_pos _ (t % E.k) (by rw [E.len]; exact hm)]
    rw [List.getElem?_eq_getElem (by rw [E.len]; exact hm)]
    simp
  · rw [List.getElem?_eq_none (by simp; omega), List.getElem?_eq_none (by rw [E.flat_len]; simp; omega)]

theorem putCells_take (F : Array Value) (cur : Array Value) (h : F.size ≤ cur.size) : (putCells id 0 F cur).toList.take F.size = F.toList := by
  apply List.ext_getElem?
  intro t
  rw [List.getElem?_take]
  by_cases ht : t < F.size
  · rw [if_pos ht]
    simp only [putCells, Array.getElem?_toList, Array.getElem?_mapIdx]
    rw [Array.getElem?_eq_getElem (show t < cur.size by omega), Array.getElem?_eq_getElem ht]
    simp only [Option.map_some, Nat.zero_le, Nat.zero_add, ht, and_self, if_true, Nat.sub_zero, id]
    rw [getElem!_pos F t ht]
  · rw [if_neg ht, List.getElem?_eq_none (by simpa using ht)]

/-- The row behind the sort. -/
theorem own_sorted {α : Type} [Inhabited α] {E : Enc α} {e : TypeId} {base g c n : Nat} {w : World} {L L' : List α} {os : Array Obj} (h : OwnB E e base w (.slice (some ⟨g, 0, none⟩) L.length c) L) (hl : L'.length = L.length) :
    OwnB E e base (grow (putRowK E.enc E.k (Sort.ahead w n) g 0 L'.toArray) os) (.slice (some ⟨g, 0, none⟩) L.length c) L' ∧
    (∀ k, k < w.heap.size → k ≠ g → (grow (putRowK E.enc E.k (Sort.ahead w n) g 0 L'.toArray) os).heap[k]? = w.heap[k]?) ∧
    w.heap.size ≤ (grow (putRowK E.enc E.k (Sort.ahead w n) g 0 L'.toArray) os).heap.size := by
  have hsz : (putRowK E.enc E.k (Sort.ahead w n) g 0 L'.toArray).heap.size = w.heap.size := by simp [putRowK, putRow, mapBlock, Sort.ahead]
  have hheap : ∀ k, (putRowK E.enc E.k (Sort.ahead w n) g 0 L'.toArray).heap[k]? = if g = k then (w.heap[k]?).map (onCells (putCells id 0 (flatK E.enc E.k L'.toArray))) else w.heap[k]? := by
    intro k
    simp only [putRowK, putRow, mapBlock, Sort.ahead, Array.getElem?_modify]
  have hgrow : ∀ k, k < w.heap.size → (grow (putRowK E.enc E.k (Sort.ahead w n) g 0 L'.toArray) os).heap[k]? = (putRowK E.enc E.k (Sort.ahead w n) g 0 L'.toArray).heap[k]? := by
    intro k hk
    simp only [grow]
    rw [Array.getElem?_append_left (by rw [hsz]; exact hk)]
  have hsize : w.heap.size ≤ (grow (putRowK E.enc E.k (Sort.ahead w n) g 0 L'.toArray) os).heap.size := by
    simp only [grow, Array.size_append, hsz]; omega
  refine ⟨?_, fun k hk hne => by rw [hgrow k hk, hheap, if_neg (Ne.symm hne)], hsize⟩
  obtain ⟨h1, h2⟩ := h
  refine ⟨?_, Nat.le_trans h2 hsize⟩
  rcases h1.2 with ⟨h', _⟩ | ⟨g', cap, cur, h', hb, hg, hnc, hm, hs, ht⟩
  · cases h'
  · injection h' with e1 _ e3
    injection e1 with e1
    injection e1 with e1 _ _
    subst e1; subst e3
    refine ⟨E.flat_len L', .inr ⟨g, c, putCells id 0 (flatK E.enc E.k L'.toArray) cur, by rw [hl], hb, ?_, by rw [hl]; exact hnc, hm, ?_, ?_⟩⟩
    · rw [hgrow g (Array.getElem?_eq_some_iff.1 hg).1, hheap, if_pos rfl, hg]; rfl
    · simp [putCells, hs]
    · have hF : (flatK E.enc E.k L'.toArray).size = L'.length * E.k := by simp
      have := putCells_take (flatK E.enc E.k L'.toArray) cur (by rw [hF, hs, hl]; exact Nat.mul_le_mul_right _ hnc)
      rw [hF, flatK_list] at this
      exact this

end Go.Proofs.Ytpidgcjioocmhaa
