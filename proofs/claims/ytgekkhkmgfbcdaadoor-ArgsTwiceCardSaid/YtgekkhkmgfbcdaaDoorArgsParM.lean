/- Chapter 25: Parse's memory: the values, the places that are left, the texts; what each callee does to it. -/
import Derived.Test.YtgekkhkmgfbcdaaDoorArgsParP
namespace Go.Proofs.YtgekkhkmgfbcdaaDoor
open Go.Shelf Go.RowKit

theorem cell_heap {w w' : World} {b : Nat} (h : w'.heap[b]? = w.heap[b]?) (o : Nat) : w'.cell? ⟨b, o, none⟩ = w.cell? ⟨b, o, none⟩ := by
  simp only [World.cell?, h]
theorem frozen_heap {w w' : World} {b : Nat} (h : w'.heap[b]? = w.heap[b]?) (o : Nat) : w'.frozen? ⟨b, o, none⟩ = w.frozen? ⟨b, o, none⟩ := by
  simp only [World.frozen?, h]
theorem PlRow.heap {po pb q : Nat} {R : List Nat} {w w' : World} (h : PlRow po pb q R w) (hq : w'.heap[q]? = w.heap[q]?) : PlRow po pb q R w' :=
  ⟨fun i u hu => (cell_heap hq i).trans (h.cells i u hu), fun i hi => by rw [cell_heap hq]; exact h.room i hi, fun i hi => by rw [frozen_heap hq]; exact h.free i hi⟩

/-- What Parse holds: the options at block N, the blob at N + 1, the fault at N + 2, the texts' variable at pl, the places at q, the counter at pi. -/
structure PInv (w : World) (N pl q pi : Nat) (A : Option Addr) (c : Nat) (L : List ByteArray) (R : List Nat) (vs : List Value) (i : Int) : Prop where
  lt : N + 2 < pl ∧ pl < q ∧ q < pi ∧ pi < w.heap.size
  len : vs.length = 18
  opt : w.heap[N]? = some (.cells (optC vs).toArray 39)
  blb : w.heap[N + 1]? = some (.cells #[vs.getD 17 undef] 9)
  flt : w.heap[N + 2]? = some (.cells #[.int .i64 0, .int .i64 0] 27)
  lst : w.heap[pl]? = some (.cells #[.slice A L.length c] 22)
  row : PlRow N (N + 1) q R w
  cnt : w.heap[pi]? = some (.cells #[.int .i64 i] 3)
  txt : 0 < L.length → ∃ g o, A = some ⟨g, o, none⟩ ∧ N + 2 < g ∧ g < pl ∧ ∀ k, k < L.length → w.cell? ⟨g, o + k, none⟩ = some (.string (L.getD k ⟨#[]⟩))

section
variable {w w' : World} {N pl q pi : Nat} {A : Option Addr} {c : Nat} {L : List ByteArray} {R : List Nat} {vs : List Value} {i : Int}
/-- All blocks but the options', the blob's and the places' stand. -/
theorem PInv.move (h : PInv w N pl q pi A c L R vs i) (hs : w.heap.size ≤ w'.heap.size) (hk : ∀ b, b < w.heap.size → b ≠ N → b ≠ N + 1 → b ≠ q → w'.heap[b]? = w.heap[b]?)
    {R' : List Nat} {vs' : List Value} (hl : vs'.length = 18) (ho : w'.heap[N]? = some (.cells (optC vs').toArray 39)) (hb : w'.heap[N + 1]? = some (.cells #[vs'.getD 17 undef] 9)) (hr : PlRow N (N + 1) q R' w') :
    PInv w' N pl q pi A c L R' vs' i := by
  have hlt := h.lt
  refine ⟨by omega, hl, ho, hb, ?_, ?_, hr, ?_, fun hn => ?_⟩
  · rw [hk (N + 2) (by omega) (by omega) (by omega) (by omega)]; exact h.flt
  · rw [hk pl (by omega) (by omega) (by omega) (by omega)]; exact h.lst
  · rw [hk pi (by omega) (by omega) (by omega) (by omega)]; exact h.cnt
  · obtain ⟨g, o, e, h1, h2, h3⟩ := h.txt hn
    exact ⟨g, o, e, h1, h2, fun k hk' => by rw [cell_heap (hk g (by omega) (by omega) (by omega) (by omega))]; exact h3 k hk'⟩
theorem PInv.below (h : PInv w N pl q pi A c L R vs i) (hb : Below w.heap.size w w') : PInv w' N pl q pi A c L R vs i := by
  have hlt := h.lt
  exact h.move hb.size (fun b hb' _ _ _ => hb.block b hb') h.len (by rw [hb.block N (by omega)]; exact h.opt) (by rw [hb.block (N + 1) (by omega)]; exact h.blb) (h.row.heap (hb.block q (by omega)))
theorem PInv.del (h : PInv w N pl q pi A c L R vs i) (hg : w.grownBy w' (some q)) {R' : List Nat} (hr : PlRow N (N + 1) q R' w') : PInv w' N pl q pi A c L R' vs i := by
  have hlt := h.lt
  have hne : ∀ b, b ≠ q → some b ≠ some q := fun b hb e => hb (Option.some.inj e)
  exact h.move hg.size (fun b hb' _ _ h3 => hg.block b hb' (hne b h3)) h.len (by rw [hg.block N (by omega) (hne N (by omega))]; exact h.opt) (by rw [hg.block (N + 1) (by omega) (hne _ (by omega))]; exact h.blb) hr
theorem PInv.set (h : PInv w N pl q pi A c L R vs i) {j : Nat} (hj : j < 18) {u : Value} (hb : Below w.heap.size (w.setCell (valA N (N + 1) j) u) w') : PInv w' N pl q pi A c L R (vs.set j u) i := by
  have hlt := h.lt
  have hkb : ∀ b, b < w.heap.size → b ≠ (valA N (N + 1) j).block → w'.heap[b]? = w.heap[b]? := fun b hb1 hne => (hb.block b hb1).trans (heap_setCell_ne w (fun e => hne e.symm) u)
  have hsz : w.heap.size ≤ w'.heap.size := by have := hb.size; rwa [size_setCell] at this
  by_cases h17 : j = 17
  · subst h17
    have ha : (valA N (N + 1) 17) = ⟨N + 1, 0, none⟩ := rfl
    rw [ha] at hb hkb
    refine h.move hsz (fun b hb1 _ h2 _ => hkb b hb1 h2) (by rw [List.length_set]; exact h.len) ?_ ?_ (h.row.heap (hkb q (by omega) (by show q ≠ N + 1; omega)))
    · rw [hkb N (by omega) (by show N ≠ N + 1; omega), h.opt]
      congr 3
      unfold optC
      refine List.map_congr_left fun t ht => ?_
      have hne : t ≠ 17 := by
        have : ∀ t ∈ permN, t ≠ 17 := by decide
        exact this t ht
      rw [List.getD_eq_getElem?_getD, List.getD_eq_getElem?_getD, List.getElem?_set_ne (fun e => hne e.symm)]
    · rw [hb.block (N + 1) (by omega)]
      have e : (vs.set 17 u).getD 17 undef = u := by rw [List.getD_eq_getElem?_getD, List.getElem?_set_self (by rw [h.len]; decide)]; rfl
      rw [e]
      simp only [World.setCell, Array.getElem?_modify, if_true, h.blb, Option.map_some]
      rfl
  · have ha : (valA N (N + 1) j) = ⟨N, offN j, none⟩ := by unfold valA; rw [if_neg h17]
    rw [ha] at hb hkb
    refine h.move hsz (fun b hb1 h1 _ _ => hkb b hb1 h1) (by rw [List.length_set]; exact h.len) ?_ ?_ (h.row.heap (hkb q (by omega) (by show q ≠ N; omega)))
    · rw [hb.block N (by omega)]
      simp only [World.setCell, Array.getElem?_modify, if_true, h.opt, Option.map_some]
      rw [← optC_set h.len (by omega)]
      simp
    · rw [hkb (N + 1) (by omega) (by show N + 1 ≠ N; omega), h.blb, List.getD_eq_getElem?_getD, List.getD_eq_getElem?_getD, List.getElem?_set_ne (fun e => h17 e)]
/-- The cell of a value. -/
theorem PInv.val (h : PInv w N pl q pi A c L R vs i) {j : Nat} (hj : j < 18) : (∃ b o, valA N (N + 1) j = ⟨b, o, none⟩ ∧ N ≤ b) ∧ w.cell? (valA N (N + 1) j) = some (vs.getD j undef) ∧ w.frozen? (valA N (N + 1) j) = false := by
  by_cases h17 : j = 17
  · subst h17
    exact ⟨⟨N + 1, 0, rfl, by omega⟩, by show w.cell? ⟨N + 1, 0, none⟩ = _; rw [Lib.cell_of_heap h.blb]; rfl, Lib.frozen_of_heap h.blb 0⟩
  · have ha : (valA N (N + 1) j) = ⟨N, offN j, none⟩ := by unfold valA; rw [if_neg h17]
    rw [ha]
    refine ⟨⟨N, offN j, rfl, Nat.le_refl _⟩, ?_, Lib.frozen_of_heap h.opt _⟩
    rw [Lib.cell_of_heap h.opt, List.getElem?_toArray]
    have key : ∀ (a : Fin 17), permN[offN a.val]? = some a.val := by decide
    have hk := key ⟨j, by omega⟩
    simp only at hk
    simp only [optC, List.getElem?_map, hk, Option.map_some]
/-- The counter is laid anew. -/
theorem PInv.recount (h : PInv w N pl q pi A c L R vs i) (i' : Int) : PInv (w.alloc (.cells #[.int .i64 i'] 3)) N pl q w.heap.size A c L R vs i' := by
  have h' := h.below ((Below.refl _ w).alloc (Nat.le_refl _) (.cells #[.int .i64 i'] 3))
  have hlt := h.lt
  exact ⟨⟨hlt.1, hlt.2.1, by omega, by simp⟩, h'.len, h'.opt, h'.blb, h'.flt, h'.lst, h'.row, heap_alloc_new w _, h'.txt⟩
end

end Go.Proofs.YtgekkhkmgfbcdaaDoor
