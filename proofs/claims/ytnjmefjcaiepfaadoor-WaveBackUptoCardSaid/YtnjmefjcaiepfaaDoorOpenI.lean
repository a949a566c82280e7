/- An argument that is a slice of ints: the list that it reads as, where it lies, and the bound that the form's own reach gives. -/
import Derived.Test.YtnjmefjcaiepfaaDoorLib
import Derived.Test.YtnjmefjcaiepfaaDoorRow
import Derived.ChangeSlices
import Derived.SizedLaws
import Derived.Deep.CondSized
namespace Go.Proofs.YtnjmefjcaiepfaaDoor
open Go.ChangeShapes Go.WideShapes Go.ChangeAt Go.RowKit

theorem seqAt_ints {w : World} {a : Addr} {l : List Int} (h : ∀ i, i < l.length → w.cell? (a.add i) = some (.int .i64 (l.getD i 0))) : SeqAt Eint w w.heap.size (some a) l := by
  intro hn
  obtain ⟨b, off, spot⟩ := a
  have h00 := h 0 hn
  have hspot : spot = none := by simpa [Addr.add] using World.cell?_spot h00
  subst hspot
  refine ⟨b, off, rfl, ?_, fun j hj => ?_⟩
  · have := World.block_lt_of_cell? w _ h00
    simpa [add_off] using this
  · have hj2 : j < l.length := by simpa [Eint] using hj
    have c0 := h j hj2
    rw [add_off] at c0
    rw [c0]
    have hf : l.flatMap Eint.enc = l.map (fun x => Value.int .i64 x) := by
      clear h h00 c0 hj hj2 hn
      induction l with
      | nil => rfl
      | cons a l ih => rw [List.flatMap_cons, ih]; rfl
    rw [hf, List.getD_eq_getElem?_getD, List.getD_eq_getElem?_getD, List.getElem?_map, List.getElem?_eq_getElem hj2]
    rfl
section
variable {H : Type} {enc : TypeId × Value → H} {P : Program} {W : World}
theorem open_intsL {t e : TypeId} {v : Value} {d : DataW H} {p : List MemPlace} {ts : List TypeId} {ds : List (DataW H)} {j : Nat} (ht : P.underlying t = some (.slice e)) (he : P.underlying e = some (.int .i64)) (hc1 : P.cellsOf e = 1) (hb : P.bytesOf e = 8)
    (hv : ∃ A n c, v = .slice A n c) (h : DataW.Trod enc P W 0 (fun _ => true) true t v d p) (hsz : (DataW.weightsEach P ts ds).all (· ≤ reachBytes) = true) (hj : ts[j]? = some t) (hd : ds[j]? = some d) :
    ∃ A c, ∃ l : List Int, v = .slice A l.length c ∧ SeqAt Eint W W.heap.size A l ∧ l.length ≤ 17592186044416 ∧ ∀ x ∈ l, (Lit.int .i64 x).wf = true := by
  obtain ⟨A, n, c, rfl⟩ := hv
  obtain ⟨fuel, hf⟩ := h
  have hcs : (Value.slice A n c).cells.toList = [.slice A n c] := by simp [Value.cells]
  rw [hcs] at hf
  rcases open_ints ht he hc1 hf with ⟨hc, hx⟩ | ⟨a, len, cap, zs, hc, _, hl, hm, hzl, hx, hall, hwf⟩
  · simp only [List.cons.injEq, and_true, Value.slice.injEq] at hc
    obtain ⟨rfl, rfl, rfl⟩ := hc
    exact ⟨none, 0, [], rfl, SeqAt.nil_, by simp, fun x hx => by cases hx⟩
  · simp only [List.cons.injEq, and_true, Value.slice.injEq] at hc
    obtain ⟨rfl, rfl, rfl⟩ := hc
    simp only [Prod.mk.injEq] at hx
    obtain ⟨rfl, rfl⟩ := hx
    have hlen : n ≤ zs.length := by rw [hzl]; split <;> omega
    have htl : (zs.take n).length = n := by rw [List.length_take]; omega
    refine ⟨some a, c, zs.take n, by rw [htl], seqAt_ints fun i hi => ?_, ?_, fun x hx => hwf x (List.mem_of_mem_take hx)⟩
    · rw [htl] at hi
      rw [hall i (by omega), List.getD_eq_getElem?_getD, List.getD_eq_getElem?_getD, List.getElem?_take_of_lt hi]
    · have := sized_slice hsz hj hd ht
      rw [hb] at this
      have e1 : (lits (H := H) .i64 (zs.take n)).length = n := by unfold lits; rw [List.length_map, htl]
      rw [htl]
      simp only [reachBytes, e1] at this
      omega
end
end Go.Proofs.YtnjmefjcaiepfaaDoor
