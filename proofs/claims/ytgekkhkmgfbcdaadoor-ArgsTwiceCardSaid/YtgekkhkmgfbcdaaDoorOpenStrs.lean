/- An argument that is a slice of texts, opened; what the bound of an '..UptoSaid' gives of it. -/
import Derived.Test.YtgekkhkmgfbcdaaDoorLib
import Derived.Test.YtgekkhkmgfbcdaaDoorBulk
import Derived.SliceStrings
import Derived.OpenShut
namespace Go.Proofs.YtgekkhkmgfbcdaaDoor
open Go.ChangeShapes Go.WideShapes Go.RowKit Go.ChangeShapes

theorem seqAt_of_strs {w : World} {a : Addr} {l : List ByteArray} (h : ∀ i, i < l.length → w.cell? (a.add i) = some (.string (l.getD i ⟨#[]⟩))) : SeqAt Estr w w.heap.size (some a) l := by
  intro hn
  obtain ⟨b, off, spot⟩ := a
  have h00 := h 0 hn
  have hspot : spot = none := by simpa [Addr.add] using World.cell?_spot h00
  subst hspot
  refine ⟨b, off, rfl, ?_, fun j hj => ?_⟩
  · have := World.block_lt_of_cell? w _ h00
    simpa [add_off] using this
  · have hj : j < l.length := by simpa [Estr] using hj
    have c0 := h j hj
    rw [add_off] at c0
    have hf := Estr.flat_at l j hj 0 (by decide)
    have e : j * Estr.k + 0 = j := by show j * 1 + 0 = j; omega
    rw [e] at hf
    rw [List.getD_eq_getElem?_getD, hf, c0, List.getD_eq_getElem?_getD, List.getElem?_eq_getElem hj]
    rfl

section
variable {H : Type} {enc : TypeId × Value → H} {P : Program} {W : World}
theorem open_strs {t e : TypeId} {v : Value} {d : DataW H} {p : List MemPlace} (ht : P.underlying t = some (.slice e)) (he : P.underlying e = some .string) (ce : P.cellsOf e = 1)
    (hv : ∃ A n c, v = .slice A n c) (h : DataW.Trod enc P W 0 (fun _ => true) true t v d p) :
    ∃ A c, ∃ l : List ByteArray, v = .slice A l.length c ∧ ((d = .nil ∧ l = []) ∨ ∃ sp, d = .slice (strs l) sp) ∧ SeqAt Estr W W.heap.size A l ∧ l.length ≤ c ∧ c ≤ maxLen := by
  obtain ⟨A, n, c, rfl⟩ := hv
  obtain ⟨fuel, hf⟩ := h
  have hcs : (Value.slice A n c).cells.toList = [.slice A n c] := by simp [Value.cells]
  rw [hcs] at hf
  rcases open_strings ht he ce hf with ⟨hc, hx⟩ | ⟨a, len, cap, ss, hc, _, hl, hm, hss, hx, hcell, _⟩
  · simp only [List.cons.injEq, and_true, Value.slice.injEq] at hc
    obtain ⟨rfl, rfl, rfl⟩ := hc
    simp only [Prod.mk.injEq] at hx
    obtain ⟨rfl, rfl⟩ := hx
    exact ⟨none, 0, [], rfl, .inl ⟨rfl, rfl⟩, SeqAt.nil_, by simp, by simp [maxLen]⟩
  · simp only [List.cons.injEq, and_true, Value.slice.injEq] at hc
    obtain ⟨rfl, rfl, rfl⟩ := hc
    simp only [Prod.mk.injEq] at hx
    obtain ⟨rfl, rfl⟩ := hx
    simp only [if_true] at hss
    have hlen : (ss.take n).length = n := by rw [List.length_take]; omega
    refine ⟨some a, c, ss.take n, by rw [hlen], .inr ⟨_, rfl⟩, seqAt_of_strs fun i hi => ?_, by rw [hlen]; exact hl, hm⟩
    rw [hlen] at hi
    rw [hcell i (by omega), List.getD_eq_getElem?_getD, List.getD_eq_getElem?_getD, List.getElem?_take, if_pos hi, List.getElem?_eq_getElem (by omega)]
    rfl
end

def total (l : List ByteArray) : Nat := (l.map (·.size)).sum
theorem bulk_strs {H : Type} (l : List ByteArray) : l.length + total l ≤ Rows.uptoBulkAll (strs (H := H) l) := by
  induction l with
  | nil => simp [total, strs, Rows.uptoBulkAll]
  | cons x l ih =>
    show _ ≤ Rows.uptoBulk _ + Rows.uptoBulkAll (strs (H := H) l)
    have h2 : x.data.toList.length = x.size := by rw [Array.length_toList]; rfl
    simp only [Rows.uptoBulk, List.length_cons, total, List.map_cons, List.sum_cons]
    unfold total at ih
    omega
theorem strs_bulk {H : Type} {d : DataW H} {ds : List (DataW H)} {l : List ByteArray} (hk : Rows.uptoSmall H ds = true) (hd : d ∈ ds) (h : (d = .nil ∧ l = []) ∨ ∃ sp, d = .slice (strs l) sp) : l.length + total l ≤ 1048576 := by
  have hb : Rows.uptoBulkAll ds ≤ 1048576 := of_decide_eq_true hk
  have hp := bulk_part hd
  rcases h with ⟨rfl, rfl⟩ | ⟨sp, rfl⟩
  · simp [total]
  · have := bulk_strs (H := H) l
    simp only [Rows.uptoBulk] at hp
    omega

end Go.Proofs.YtgekkhkmgfbcdaaDoor
