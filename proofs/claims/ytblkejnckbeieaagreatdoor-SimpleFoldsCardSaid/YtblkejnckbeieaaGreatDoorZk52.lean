/- An argument that is a slice of pairs of ints: the list that it reads as, where it lies, and the bound that the form's own reach gives.
  An argument that is a slice of arrays of two ints ('[][2]int'), opened. -/
import Derived.Test.YtblkejnckbeieaaGreatDoorZk1
import Derived.Test.YtblkejnckbeieaaGreatDoorZk39
import Derived.Deep.SlicePairs
import Derived.SizedLaws
import Derived.Deep.CondSized
import Derived.OpenShut
namespace Go.Proofs.YtblkejnckbeieaaGreatDoor
open Go.ChangeShapes Go.WideShapes Go.ChangeAt Go.RowKit Go.Deep

theorem seqAt_of_cells {w : World} {a : Addr} {len : Nat} {x y : Nat → Int} (h : ∀ i, i < len → w.cell? (a.add (i * 2)) = some (.int .i64 (x i)) ∧ w.cell? (a.add (i * 2 + 1)) = some (.int .i64 (y i))) :
    SeqAt Epair w w.heap.size (some a) ((List.range len).map fun i => (x i, y i)) := by
  intro hn
  rw [List.length_map, List.length_range] at hn
  obtain ⟨b, off, spot⟩ := a
  have h00 := (h 0 hn).1
  have hspot : spot = none := by simpa [Addr.add] using World.cell?_spot h00
  subst hspot
  refine ⟨b, off, rfl, ?_, fun j hj => ?_⟩
  · have := World.block_lt_of_cell? w _ h00
    simpa [add_off] using this
  · rw [List.length_map, List.length_range] at hj
    have hj : j < len * 2 := hj
    have hi : j / 2 < len := by omega
    obtain ⟨c0, c1⟩ := h (j / 2) hi
    rw [add_off] at c0 c1
    have hf := Epair.flat_at ((List.range len).map fun i => (x i, y i)) (j / 2) (by simpa using hi) (j % 2) (Nat.mod_lt _ (by decide))
    have e : j / 2 * Epair.k + j % 2 = j := by show j / 2 * 2 + j % 2 = j; omega
    rw [e] at hf
    rw [List.getD_eq_getElem?_getD, hf]
    simp only [List.getElem_map, List.getElem_range]
    rcases Nat.mod_two_eq_zero_or_one j with h2 | h2
    · rw [show j = j / 2 * 2 by omega, c0, show j / 2 * 2 % 2 = 0 by omega]
      simp [Epair, show j / 2 * 2 / 2 = j / 2 by omega]
    · rw [show off + j = off + (j / 2 * 2 + 1) by omega, c1, h2]; rfl

section
variable {H : Type} {enc : TypeId × Value → H} {P : Program} {W : World}

theorem open_pairs {t e ti : TypeId} {f0 f1 : Field} {v : Value} {d : DataW H} {p : List MemPlace} {ts : List TypeId} {ds : List (DataW H)} {j : Nat} (ht : P.underlying t = some (.slice e)) (he : P.underlying e = some (.struct #[f0, f1]))
    (ce : P.cellsOf e = 2) (o0 : f0.offset = 0) (o1 : f1.offset = 1) (t0 : f0.type = ti) (t1 : f1.type = ti) (ci : P.cellsOf ti = 1) (hi : P.underlying ti = some (.int .i64)) (hb : P.bytesOf e = 16)
    (hv : ∃ A n c, v = .slice A n c) (h : DataW.Trod enc P W 0 (fun _ => true) true t v d p) (hsz : (DataW.weightsEach P ts ds).all (· ≤ reachBytes) = true) (hj : ts[j]? = some t) (hd : ds[j]? = some d) :
    ∃ A c, ∃ l : List (Int × Int), v = .slice A l.length c ∧ SeqAt Epair W W.heap.size A l ∧ l.length ≤ 8796093022208 ∧ ((d = .nil ∧ l.length = 0) ∨ ∃ elems spare, d = .slice elems spare ∧ elems.length = l.length) ∧ ∀ x ∈ p, x.block < W.heap.size := by
  obtain ⟨A, n, c, rfl⟩ := hv
  subst t0
  obtain ⟨fuel, hf⟩ := h
  have hcs : (Value.slice A n c).cells.toList = [.slice A n c] := by simp [Value.cells]
  rw [hcs] at hf
  rcases open_slice_pairs ht he ce o0 o1 ci (by rw [t1]; exact ci) hf with ⟨hc, hx⟩ | ⟨a, len, cap, m, k, V0, V1, D0, D1, P0, P1, hc, _, hl, hm, hmm, hx, hall⟩
  · simp only [List.cons.injEq, and_true, Value.slice.injEq] at hc
    obtain ⟨rfl, rfl, rfl⟩ := hc
    simp only [Prod.mk.injEq] at hx
    obtain ⟨rfl, rfl⟩ := hx
    exact ⟨none, 0, [], rfl, SeqAt.nil_, by simp, .inl ⟨rfl, rfl⟩, fun x hx => by cases hx⟩
  · simp only [List.cons.injEq, and_true, Value.slice.injEq] at hc
    obtain ⟨rfl, rfl, rfl⟩ := hc
    simp only [Prod.mk.injEq] at hx
    obtain ⟨rfl, rfl⟩ := hx
    simp only [if_true] at hmm
    subst hmm
    have hint : ∀ i, i < m → ∃ x y, V0 i = .int .i64 x ∧ V1 i = .int .i64 y ∧ P0 i = [] ∧ P1 i = [] := fun i him => by
      obtain ⟨x, e1, e2, _⟩ := DataW.trod_int hi (hall i him).2.2.1
      obtain ⟨y, e3, e4, _⟩ := DataW.trod_int (by rw [t1]; exact hi) (hall i him).2.2.2
      simp only [List.cons.injEq, and_true] at e1 e3
      simp only [Prod.mk.injEq] at e2 e4
      exact ⟨x, y, e1, e3, e2.2, e4.2⟩
    have hcell : ∀ i, i < n → W.cell? (a.add (i * 2)) = some (.int .i64 (intOf (V0 i))) ∧ W.cell? (a.add (i * 2 + 1)) = some (.int .i64 (intOf (V1 i))) := fun i hin => by
      obtain ⟨x, y, e0, e1, _⟩ := hint i (by omega)
      obtain ⟨c0, c1, _⟩ := hall i (by omega)
      rw [c0, c1, e0, e1]
      exact ⟨rfl, rfl⟩
    refine ⟨some a, m, (List.range n).map fun i => (intOf (V0 i), intOf (V1 i)), by simp, seqAt_of_cells hcell, ?_, .inr ⟨_, _, rfl, by simp⟩, fun x hx => ?_⟩
    · have := sized_slice hsz hj hd ht
      rw [hb] at this
      simp only [List.length_map, List.length_range, reachBytes] at this ⊢
      omega
    · rcases List.mem_append.1 hx with h1 | h2
      · simp only [MemPlace.row, List.mem_map, List.mem_range] at h1
        obtain ⟨i, hi2, rfl⟩ := h1
        have := World.block_lt_of_cell? W _ (hall 0 (by omega)).1
        show a.block < W.heap.size
        simpa [Addr.add] using this
      · obtain ⟨i, hi2, hxi⟩ := List.mem_flatMap.1 h2
        obtain ⟨_, _, _, _, e1, e2⟩ := hint i (List.mem_range.1 hi2)
        rw [e1, e2] at hxi
        cases hxi

end
end Go.Proofs.YtblkejnckbeieaaGreatDoor

namespace Go.Proofs.YtblkejnckbeieaaGreatDoor
open Go.ChangeShapes Go.WideShapes Go.ChangeAt Go.RowKit Go.Deep

section
variable {H : Type} {enc : TypeId × Value → H} {P : Program} {w : World} {base : Nat} {spare : Nat → Bool} {held : Bool}

theorem open_slice_arr2 {t e ti : TypeId} {fuel : Nat} {cs : List Value} {x : DataW H × List MemPlace} (ht : P.underlying t = some (.slice e)) (he : P.underlying e = some (.array 2 ti))
    (ce : P.cellsOf e = 2) (ci : P.cellsOf ti = 1)
    (h : DataW.trod enc P w base spare held fuel t cs = some x) :
    (cs = [.slice none 0 0] ∧ x = (.nil, [])) ∨
    ∃ (a : Addr) (len cap m n : Nat) (V0 V1 : Nat → Value) (D0 D1 : Nat → DataW H) (P0 P1 : Nat → List MemPlace), cs = [.slice (some a) len cap] ∧ base ≤ a.block ∧ len ≤ cap ∧ cap ≤ maxLen ∧ m = (if spare a.block then cap else len) ∧
      x = (.slice ((List.range len).map fun i => .agg [D0 i, D1 i]) ((List.range (m - len)).map fun j => .agg [D0 (len + j), D1 (len + j)]), MemPlace.row a (m * 2) ++ (List.range m).flatMap fun i => P0 i ++ P1 i) ∧
      ∀ i, i < m → w.cell? (a.add (i * 2)) = some (V0 i) ∧ w.cell? (a.add (i * 2 + 1)) = some (V1 i) ∧
        DataW.trod enc P w base spare held n ti [V0 i] = some (D0 i, P0 i) ∧ DataW.trod enc P w base spare held n ti [V1 i] = some (D1 i, P1 i) := by
  rcases open_slice ht h with h0 | ⟨a, len, cap, m, n, D, Pl, rfl, hb, hl, hm, hmm, rfl, hx⟩
  · exact Or.inl h0
  right
  have hlm : len ≤ m := by rw [hmm]; split <;> omega
  have each : ∀ i, i < m → ∃ q : Value × Value × (DataW H × List MemPlace) × (DataW H × List MemPlace), w.cell? (a.add (i * 2)) = some q.1 ∧ w.cell? (a.add (i * 2 + 1)) = some q.2.1 ∧
      DataW.trod enc P w base spare held (n - 1) ti [q.1] = some q.2.2.1 ∧ DataW.trod enc P w base spare held (n - 1) ti [q.2.1] = some q.2.2.2 ∧ D i = .agg [q.2.2.1.1, q.2.2.2.1] ∧ Pl i = q.2.2.1.2 ++ q.2.2.2.2 := by
    intro i hi
    obtain ⟨cs', h1, h2⟩ := hx i hi
    rw [ce] at h1
    obtain ⟨_, hlen, hcell⟩ := World.cells?_some h1
    obtain ⟨xs, k, hk, hxy, _, hxl, hf⟩ := DataW.trod_array he h2
    have hk' : k = n - 1 := by omega
    subst hk'
    match xs, hxl, cs', hlen with
    | [y0, y1], _, [v0, v1], _ =>
      have g0 := hf 0 (by omega)
      have g1 := hf 1 (by omega)
      simp [ci] at g0 g1
      have e0 := hcell 0 (by omega)
      have e1 := hcell 1 (by omega)
      rw [add_add] at e0 e1
      simp only [Prod.mk.injEq] at hxy
      exact ⟨(v0, v1, y0, y1), by simpa using e0, by simpa using e1, g0, g1, by simpa using hxy.1, by simpa using hxy.2⟩
  obtain ⟨q, hq⟩ := choose_lt each
  refine ⟨a, len, cap, m, n - 1, fun i => (q i).1, fun i => (q i).2.1, fun i => (q i).2.2.1.1, fun i => (q i).2.2.2.1, fun i => (q i).2.2.1.2, fun i => (q i).2.2.2.2, rfl, hb, hl, hm, hmm, ?_,
    fun i hi => ⟨(hq i hi).1, (hq i hi).2.1, (hq i hi).2.2.1, (hq i hi).2.2.2.1⟩⟩
  rw [ce, List.map_congr_left (fun i hi => (hq i (by have := List.mem_range.1 hi; omega)).2.2.2.2.1), List.map_congr_left (fun j hj => (hq (len + j) (by have := List.mem_range.1 hj; omega)).2.2.2.2.1),
    flatMap_congr_range (fun i hi => (hq i hi).2.2.2.2.2)]
end

section
variable {H : Type} {enc : TypeId × Value → H} {P : Program} {W : World}

theorem open_arr2 {t e ti : TypeId} {v : Value} {d : DataW H} {p : List MemPlace} {ts : List TypeId} {ds : List (DataW H)} {j : Nat} (ht : P.underlying t = some (.slice e)) (he : P.underlying e = some (.array 2 ti))
    (ce : P.cellsOf e = 2) (ci : P.cellsOf ti = 1) (hi : P.underlying ti = some (.int .i64)) (hb : P.bytesOf e = 16)
    (hv : ∃ A n c, v = .slice A n c) (h : DataW.Trod enc P W 0 (fun _ => true) true t v d p) (hsz : (DataW.weightsEach P ts ds).all (· ≤ reachBytes) = true) (hj : ts[j]? = some t) (hd : ds[j]? = some d) :
    ∃ A c, ∃ l : List (Int × Int), v = .slice A l.length c ∧ SeqAt Epair W W.heap.size A l ∧ l.length ≤ 8796093022208 ∧ ((d = .nil ∧ l.length = 0) ∨ ∃ elems spare, d = .slice elems spare ∧ elems.length = l.length) ∧ ∀ x ∈ p, x.block < W.heap.size := by
  obtain ⟨A, n, c, rfl⟩ := hv
  obtain ⟨fuel, hf⟩ := h
  have hcs : (Value.slice A n c).cells.toList = [.slice A n c] := by simp [Value.cells]
  rw [hcs] at hf
  rcases open_slice_arr2 ht he ce ci hf with ⟨hc, hx⟩ | ⟨a, len, cap, m, k, V0, V1, D0, D1, P0, P1, hc, _, hl, hm, hmm, hx, hall⟩
  · simp only [List.cons.injEq, and_true, Value.slice.injEq] at hc
    obtain ⟨rfl, rfl, rfl⟩ := hc
    simp only [Prod.mk.injEq] at hx
    obtain ⟨rfl, rfl⟩ := hx
    exact ⟨none, 0, [], rfl, SeqAt.nil_, by simp, .inl ⟨rfl, rfl⟩, fun x hx => by cases hx⟩
  · simp only [List.cons.injEq, and_true, Value.slice.injEq] at hc
    obtain ⟨rfl, rfl, rfl⟩ := hc
    simp only [Prod.mk.injEq] at hx
    obtain ⟨rfl, rfl⟩ := hx
    simp only [if_true] at hmm
    subst hmm
    have hint : ∀ i, i < m → ∃ x y, V0 i = .int .i64 x ∧ V1 i = .int .i64 y ∧ P0 i = [] ∧ P1 i = [] := fun i him => by
      obtain ⟨x, e1, e2, _⟩ := DataW.trod_int hi (hall i him).2.2.1
      obtain ⟨y, e3, e4, _⟩ := DataW.trod_int hi (hall i him).2.2.2
      simp only [List.cons.injEq, and_true] at e1 e3
      simp only [Prod.mk.injEq] at e2 e4
      exact ⟨x, y, e1, e3, e2.2, e4.2⟩
    have hcell : ∀ i, i < n → W.cell? (a.add (i * 2)) = some (.int .i64 (intOf (V0 i))) ∧ W.cell? (a.add (i * 2 + 1)) = some (.int .i64 (intOf (V1 i))) := fun i hin => by
      obtain ⟨x, y, e0, e1, _⟩ := hint i (by omega)
      obtain ⟨c0, c1, _⟩ := hall i (by omega)
      rw [c0, c1, e0, e1]
      exact ⟨rfl, rfl⟩
    refine ⟨some a, m, (List.range n).map fun i => (intOf (V0 i), intOf (V1 i)), by simp, seqAt_of_cells hcell, ?_, .inr ⟨_, _, rfl, by simp⟩, fun x hx => ?_⟩
    · have := sized_slice hsz hj hd ht
      rw [hb] at this
      simp only [List.length_map, List.length_range, reachBytes] at this ⊢
      omega
    · rcases List.mem_append.1 hx with h1 | h2
      · simp only [MemPlace.row, List.mem_map, List.mem_range] at h1
        obtain ⟨i, hi2, rfl⟩ := h1
        have := World.block_lt_of_cell? W _ (hall 0 (by omega)).1
        show a.block < W.heap.size
        simpa [Addr.add] using this
      · obtain ⟨i, hi2, hxi⟩ := List.mem_flatMap.1 h2
        obtain ⟨_, _, _, _, e1, e2⟩ := hint i (List.mem_range.1 hi2)
        rw [e1, e2] at hxi
        cases hxi


theorem open_str {t : TypeId} {v : Value} {d : DataW H} {p : List MemPlace} {ts : List TypeId} {ds : List (DataW H)} {j : Nat} (ht : P.underlying t = some .string) (hv : ∃ s, v = .string s)
    (h : DataW.Trod enc P W 0 (fun _ => true) true t v d p) (hsz : (DataW.weightsEach P ts ds).all (· ≤ reachBytes) = true) (hj : ts[j]? = some t) (hd : ds[j]? = some d) :
    ∃ s : ByteArray, v = .string s ∧ s.size ≤ 140737488355328 ∧ p = [] := by
  obtain ⟨s, rfl⟩ := hv
  obtain ⟨fuel, hf⟩ := h
  have hcs : (Value.string s).cells.toList = [.string s] := by simp [Value.cells]
  rw [hcs] at hf
  obtain ⟨s', e, hx, _⟩ := DataW.trod_string ht hf
  simp only [List.cons.injEq, and_true, Value.string.injEq] at e
  subst e
  simp only [Prod.mk.injEq] at hx
  obtain ⟨rfl, rfl⟩ := hx
  have := sized_string hsz hj hd
  have h2 : s.data.toList.length = s.size := by rw [Array.length_toList]; rfl
  refine ⟨s, rfl, ?_, rfl⟩
  simp only [reachBytes] at this
  omega

end
end Go.Proofs.YtblkejnckbeieaaGreatDoor
