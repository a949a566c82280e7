/- What every law's row asks behind its walk: the law returned true and nothing that was there has turned.
  An argument that is a slice of pairs of ints: the list that it reads as, where it lies, and the bound that the form's own reach gives.
  An argument that is a slice of ints: the list that it reads as, where it lies, and the bound that the form's own reach gives.
  An argument that is a slice of bytes: the list that it reads as, and where it lies. -/
import Derived.Test.YtmmmcfflhlkiiaaZc1
import Derived.Test.YtmmmcfflhlkiiaaZc2
import Derived.Test.YtmmmcfflhlkiiaaRows
import Derived.WalkKit
import Derived.ProofKit
import Derived.OpenShut
import Derived.ShutString
import Derived.ChangeOld
import Derived.Below
import Derived.JoinedCond
import Derived.Deep.SlicePairs
import Derived.SizedLaws
import Derived.Deep.CondSized
import Derived.ChangeSlices
namespace Go.Proofs.Ytmmmcfflhlkiiaa
open Go.ChangeShapes Go.WideShapes Go.ChangeAt Go.RowKit

theorem ownKnob_ : ownKnob Try.prog.godebug = none := by kernel_rfl
theorem laidOut_ : laidOutB Try.prog = true := by kernel_rfl

/-- The arguments read behind the call as they did ahead of it. -/
theorem trodAll_below {H : Type} {enc : TypeId × Value → H} {P : Program} {W W' : World} (hl : laidOutB P = true) (hb : Below W.heap.size W W') :
    ∀ (ts : List TypeId) (vs : List Value) (ds : List (DataW H)) (ps : List MemPlace), (ts.all fun t => P.readableRec t && decide (t < P.types.size)) = true →
      DataW.TrodAll enc P W 0 (fun _ => true) true ts vs ds ps → (∀ x ∈ ps, x.block < W.heap.size) → DataW.TrodAll enc P W' 0 (fun b => decide (b < W.heap.size)) true ts vs ds ps
  | [], [], [], _, _, h, _ => h
  | t :: ts, v :: vs, d :: ds, ps, hr, h, hlt => by
    obtain ⟨p, q, h1, h2, rfl⟩ := h
    simp only [List.all_cons, Bool.and_eq_true, decide_eq_true_eq] at hr
    exact ⟨p, q, Below.trod hl hr.1.1 hr.1.2 h1 hb (fun x hx => hlt x (List.mem_append_left _ hx)), trodAll_below hl hb ts vs ds q (by simpa using hr.2) h2 (fun x hx => hlt x (List.mem_append_right _ hx)), rfl⟩
  | [], _ :: _, _, _, _, h, _ => h.elim
  | [], [], _ :: _, _, _, h, _ => h.elim
  | _ :: _, [], _, _, _, h, _ => h.elim
  | _ :: _, _ :: _, [], _, _, h, _ => h.elim

/-- The row's step behind the walk, of a law that lists no variable. -/
theorem law_post {H : Type} {enc : TypeId × Value → H} {P : Program} {f : Func} {s : ChangeSpec} {tb : TypeId} {W W' : World} {args : Array Value} {ds gs : List (DataW H)} {before : List MemPlace}
    (hl : laidOutB P = true) (hr : (f.params.toList.all fun t => P.readableRec t && decide (t < P.types.size)) = true) (hvars : s.vars = []) (hres : f.resultTypes = #[tb]) (hub : P.underlying tb = some .bool)
    (hW : DataW.Whole enc P f.params.toList s.vars false W args.toList ds gs before) (hfn : s.fn H (ds ++ gs) = { results := [.lit (.bool true)], args := ds })
    (hb : Below W.heap.size W W') : s.post enc P f false true false false W args (.bool true) W' := by
  have hW' := hW
  obtain ⟨p, q, hA, hV, rfl, hfz, hnd⟩ := hW
  rw [hvars] at hV
  obtain ⟨rfl, rfl⟩ := trodVars_none hV
  rw [List.append_nil] at hfn hW'
  refine ⟨ds, [], p, [], p, [], by simpa using hW', ?_, ?_, ?_, hb.frame _, fun h => by cases h⟩
  · rw [List.append_nil, hfn, hres]
    exact trodAll_mk1 (shut_bool hub _)
  · rw [List.append_nil, hfn]
    exact trodAll_below hl hb _ _ _ _ hr hA (fun x hx => hW'.lt x (by simpa using hx))
  · rw [hvars, List.append_nil, hfn]
    rfl

end Go.Proofs.Ytmmmcfflhlkiiaa

namespace Go.Proofs.Ytmmmcfflhlkiiaa
open Go.ChangeShapes Go.WideShapes Go.ChangeAt Go.RowKit Go.Deep

theorem seqAt_of_cells {w : World} {a : Addr} {len : Nat} {x y : Nat → Int} (h : ∀ i, i < len → w.cell? (a.add (i * 2)) = some (.int .i64 (x i)) ∧ w.cell? (a.add (i * 2 + 1)) = some (.int .i64 (y i))) :
    SeqAt Epair w w.heap.size (some a) ((List.range len).map fun i => (x i, y i)) := by
  intro hn
  rw [List.length_map, List.length_range] at hn
  obtain ⟨b, off, spot⟩ := a
  have h00 := (h 0 hn).1
  have hspot : spot = none := by simpa [Addr.add] using World.cell?_spot h00
  subst hspot
  refine ⟨b, off, rfl, ?_, fun j hj => ?_⟩
  · have := World.block_lt_of_cell? w _ h00
    simpa [add_off] using this
  · rw [List.length_map, List.length_range] at hj
    have hj : j < len * 2 := hj
    have hi : j / 2 < len := by omega
    obtain ⟨c0, c1⟩ := h (j / 2) hi
    rw [add_off] at c0 c1
    have hf := Epair.flat_at ((List.range len).map fun i => (x i, y i)) (j / 2) (by simpa using hi) (j % 2) (Nat.mod_lt _ (by decide))
    have e : j / 2 * Epair.k + j % 2 = j := by show j / 2 * 2 + j % 2 = j; omega
    rw [e] at hf
    rw [List.getD_eq_getElem?_getD, hf]
    simp only [List.getElem_map, List.getElem_range]
    rcases Nat.mod_two_eq_zero_or_one j with h2 | h2
    · rw [show j = j / 2 * 2 by omega, c0, show j / 2 * 2 % 2 = 0 by omega]
      simp [Epair, show j / 2 * 2 / 2 = j / 2 by omega]
    · rw [show off + j = off + (j / 2 * 2 + 1) by omega, c1, h2]; rfl

section
variable {H : Type} {enc : TypeId × Value → H} {P : Program} {W : World}

theorem open_pairs {t e ti : TypeId} {f0 f1 : Field} {v : Value} {d : DataW H} {p : List MemPlace} {ts : List TypeId} {ds : List (DataW H)} {j : Nat} (ht : P.underlying t = some (.slice e)) (he : P.underlying e = some (.struct #[f0, f1]))
    (ce : P.cellsOf e = 2) (o0 : f0.offset = 0) (o1 : f1.offset = 1) (t0 : f0.type = ti) (t1 : f1.type = ti) (ci : P.cellsOf ti = 1) (hi : P.underlying ti = some (.int .i64)) (hb : P.bytesOf e = 16)
    (hv : ∃ A n c, v = .slice A n c) (h : DataW.Trod enc P W 0 (fun _ => true) true t v d p) (hsz : (DataW.weightsEach P ts ds).all (· ≤ reachBytes) = true) (hj : ts[j]? = some t) (hd : ds[j]? = some d) :
    ∃ A c, ∃ l : List (Int × Int), v = .slice A l.length c ∧ SeqAt Epair W W.heap.size A l ∧ l.length ≤ 8796093022208 ∧ ((d = .nil ∧ l.length = 0) ∨ ∃ elems spare, d = .slice elems spare ∧ elems.length = l.length) ∧ ∀ x ∈ p, x.block < W.heap.size := by
  obtain ⟨A, n, c, rfl⟩ := hv
  subst t0
  obtain ⟨fuel, hf⟩ := h
  have hcs : (Value.slice A n c).cells.toList = [.slice A n c] := by simp [Value.cells]
  rw [hcs] at hf
  rcases open_slice_pairs ht he ce o0 o1 ci (by rw [t1]; exact ci) hf with ⟨hc, hx⟩ | ⟨a, len, cap, m, k, V0, V1, D0, D1, P0, P1, hc, _, hl, hm, hmm, hx, hall⟩
  · simp only [List.cons.injEq, and_true, Value.slice.injEq] at hc
    obtain ⟨rfl, rfl, rfl⟩ := hc
    simp only [Prod.mk.injEq] at hx
    obtain ⟨rfl, rfl⟩ := hx
    exact ⟨none, 0, [], rfl, SeqAt.nil_, by simp, .inl ⟨rfl, rfl⟩, fun x hx => by cases hx⟩
  · simp only [List.cons.injEq, and_true, Value.slice.injEq] at hc
    obtain ⟨rfl, rfl, rfl⟩ := hc
    simp only [Prod.mk.injEq] at hx
    obtain ⟨rfl, rfl⟩ := hx
    simp only [if_true] at hmm
    subst hmm
    have hint : ∀ i, i < m → ∃ x y, V0 i = .int .i64 x ∧ V1 i = .int .i64 y ∧ P0 i = [] ∧ P1 i = [] := fun i him => by
      obtain ⟨x, e1, e2, _⟩ := DataW.trod_int hi (hall i him).2.2.1
      obtain ⟨y, e3, e4, _⟩ := DataW.trod_int (by rw [t1]; exact hi) (hall i him).2.2.2
      simp only [List.cons.injEq, and_true] at e1 e3
      simp only [Prod.mk.injEq] at e2 e4
      exact ⟨x, y, e1, e3, e2.2, e4.2⟩
    have hcell : ∀ i, i < n → W.cell? (a.add (i * 2)) = some (.int .i64 (intOf (V0 i))) ∧ W.cell? (a.add (i * 2 + 1)) = some (.int .i64 (intOf (V1 i))) := fun i hin => by
      obtain ⟨x, y, e0, e1, _⟩ := hint i (by omega)
      obtain ⟨c0, c1, _⟩ := hall i (by omega)
      rw [c0, c1, e0, e1]
      exact ⟨rfl, rfl⟩
    refine ⟨some a, m, (List.range n).map fun i => (intOf (V0 i), intOf (V1 i)), by simp, seqAt_of_cells hcell, ?_, .inr ⟨_, _, rfl, by simp⟩, fun x hx => ?_⟩
    · have := sized_slice hsz hj hd ht
      rw [hb] at this
      simp only [List.length_map, List.length_range, reachBytes] at this ⊢
      omega
    · rcases List.mem_append.1 hx with h1 | h2
      · simp only [MemPlace.row, List.mem_map, List.mem_range] at h1
        obtain ⟨i, hi2, rfl⟩ := h1
        have := World.block_lt_of_cell? W _ (hall 0 (by omega)).1
        show a.block < W.heap.size
        simpa [Addr.add] using this
      · obtain ⟨i, hi2, hxi⟩ := List.mem_flatMap.1 h2
        obtain ⟨_, _, _, _, e1, e2⟩ := hint i (List.mem_range.1 hi2)
        rw [e1, e2] at hxi
        cases hxi

end
end Go.Proofs.Ytmmmcfflhlkiiaa

namespace Go.Proofs.Ytmmmcfflhlkiiaa
open Go.ChangeShapes Go.WideShapes Go.ChangeAt Go.RowKit

theorem seqAt_ints {w : World} {a : Addr} {l : List Int} (h : ∀ i, i < l.length → w.cell? (a.add i) = some (.int .i64 (l.getD i 0))) : SeqAt Eint w w.heap.size (some a) l := by
  intro hn
  obtain ⟨b, off, spot⟩ := a
  have h00 := h 0 hn
  have hspot : spot = none := by simpa [Addr.add] using World.cell?_spot h00
  subst hspot
  refine ⟨b, off, rfl, ?_, fun j hj => ?_⟩
  · have := World.block_lt_of_cell? w _ h00
    simpa [add_off] using this
  · have hj2 : j < l.length := by simpa [Eint] using hj
    have c0 := h j hj2
    rw [add_off] at c0
    rw [c0]
    have hf : l.flatMap Eint.enc = l.map (fun x => Value.int .i64 x) := by
      clear h h00 c0 hj hj2 hn
      induction l with
      | nil => rfl
      | cons a l ih => rw [List.flatMap_cons, ih]; rfl
    rw [hf, List.getD_eq_getElem?_getD, List.getD_eq_getElem?_getD, List.getElem?_map, List.getElem?_eq_getElem hj2]
    rfl
section
variable {H : Type} {enc : TypeId × Value → H} {P : Program} {W : World}
theorem open_intsL {t e : TypeId} {v : Value} {d : DataW H} {p : List MemPlace} {ts : List TypeId} {ds : List (DataW H)} {j : Nat} (ht : P.underlying t = some (.slice e)) (he : P.underlying e = some (.int .i64)) (hc1 : P.cellsOf e = 1) (hb : P.bytesOf e = 8)
    (hv : ∃ A n c, v = .slice A n c) (h : DataW.Trod enc P W 0 (fun _ => true) true t v d p) (hsz : (DataW.weightsEach P ts ds).all (· ≤ reachBytes) = true) (hj : ts[j]? = some t) (hd : ds[j]? = some d) :
    ∃ A c, ∃ l : List Int, v = .slice A l.length c ∧ SeqAt Eint W W.heap.size A l ∧ l.length ≤ 17592186044416 ∧ ∀ x ∈ l, (Lit.int .i64 x).wf = true := by
  obtain ⟨A, n, c, rfl⟩ := hv
  obtain ⟨fuel, hf⟩ := h
  have hcs : (Value.slice A n c).cells.toList = [.slice A n c] := by simp [Value.cells]
  rw [hcs] at hf
  rcases open_ints ht he hc1 hf with ⟨hc, hx⟩ | ⟨a, len, cap, zs, hc, _, hl, hm, hzl, hx, hall, hwf⟩
  · simp only [List.cons.injEq, and_true, Value.slice.injEq] at hc
    obtain ⟨rfl, rfl, rfl⟩ := hc
    exact ⟨none, 0, [], rfl, SeqAt.nil_, by simp, fun x hx => by cases hx⟩
  · simp only [List.cons.injEq, and_true, Value.slice.injEq] at hc
    obtain ⟨rfl, rfl, rfl⟩ := hc
    simp only [Prod.mk.injEq] at hx
    obtain ⟨rfl, rfl⟩ := hx
    have hlen : n ≤ zs.length := by rw [hzl]; split <;> omega
    have htl : (zs.take n).length = n := by rw [List.length_take]; omega
    refine ⟨some a, c, zs.take n, by rw [htl], seqAt_ints fun i hi => ?_, ?_, fun x hx => hwf x (List.mem_of_mem_take hx)⟩
    · rw [htl] at hi
      rw [hall i (by omega), List.getD_eq_getElem?_getD, List.getD_eq_getElem?_getD, List.getElem?_take_of_lt hi]
    · have := sized_slice hsz hj hd ht
      rw [hb] at this
      have e1 : (lits (H := H) .i64 (zs.take n)).length = n := by unfold lits; rw [List.length_map, htl]
      rw [htl]
      simp only [reachBytes, e1] at this
      omega
end
end Go.Proofs.Ytmmmcfflhlkiiaa

namespace Go.Proofs.Ytmmmcfflhlkiiaa
open Go.ChangeShapes Go.WideShapes Go.ChangeAt Go.RowKit

theorem seqAt_byts {w : World} {a : Addr} {l : List Int} (h : ∀ i, i < l.length → w.cell? (a.add i) = some (.int .u8 (l.getD i 0))) : SeqAt Ebyte w w.heap.size (some a) l := by
  intro hn
  obtain ⟨b, off, spot⟩ := a
  have h00 := h 0 hn
  have hspot : spot = none := by simpa [Addr.add] using World.cell?_spot h00
  subst hspot
  refine ⟨b, off, rfl, ?_, fun j hj => ?_⟩
  · have := World.block_lt_of_cell? w _ h00
    simpa [add_off] using this
  · have hj2 : j < l.length := by simpa [Ebyte] using hj
    have c0 := h j hj2
    rw [add_off] at c0
    rw [c0]
    have hf : l.flatMap Ebyte.enc = l.map (fun x => Value.int .u8 x) := by
      clear h h00 c0 hj hj2 hn
      induction l with
      | nil => rfl
      | cons a l ih => rw [List.flatMap_cons, ih]; rfl
    rw [hf, List.getD_eq_getElem?_getD, List.getD_eq_getElem?_getD, List.getElem?_map, List.getElem?_eq_getElem hj2]
    rfl
section
variable {H : Type} {enc : TypeId × Value → H} {P : Program} {W : World}
theorem open_bytsL {t e : TypeId} {v : Value} {d : DataW H} {p : List MemPlace} {ts : List TypeId} {ds : List (DataW H)} {j : Nat} (ht : P.underlying t = some (.slice e)) (he : P.underlying e = some (.int .u8)) (hc1 : P.cellsOf e = 1) (hb : P.bytesOf e = 1)
    (hv : ∃ A n c, v = .slice A n c) (h : DataW.Trod enc P W 0 (fun _ => true) true t v d p) (hsz : (DataW.weightsEach P ts ds).all (· ≤ reachBytes) = true) (hj : ts[j]? = some t) (hd : ds[j]? = some d) :
    ∃ A c, ∃ l : List Int, v = .slice A l.length c ∧ SeqAt Ebyte W W.heap.size A l ∧ l.length ≤ 140737488355328 ∧ ∀ x ∈ l, (Lit.int .u8 x).wf = true := by
  obtain ⟨A, n, c, rfl⟩ := hv
  obtain ⟨fuel, hf⟩ := h
  have hcs : (Value.slice A n c).cells.toList = [.slice A n c] := by simp [Value.cells]
  rw [hcs] at hf
  rcases open_ints ht he hc1 hf with ⟨hc, hx⟩ | ⟨a, len, cap, zs, hc, _, hl, hm, hzl, hx, hall, hwf⟩
  · simp only [List.cons.injEq, and_true, Value.slice.injEq] at hc
    obtain ⟨rfl, rfl, rfl⟩ := hc
    exact ⟨none, 0, [], rfl, SeqAt.nil_, by simp, fun x hx => by cases hx⟩
  · simp only [List.cons.injEq, and_true, Value.slice.injEq] at hc
    obtain ⟨rfl, rfl, rfl⟩ := hc
    simp only [Prod.mk.injEq] at hx
    obtain ⟨rfl, rfl⟩ := hx
    have hlen : n ≤ zs.length := by rw [hzl]; split <;> omega
    have htl : (zs.take n).length = n := by rw [List.length_take]; omega
    refine ⟨some a, c, zs.take n, by rw [htl], seqAt_byts fun i hi => ?_, ?_, fun x hx => hwf x (List.mem_of_mem_take hx)⟩
    · rw [htl] at hi
      rw [hall i (by omega), List.getD_eq_getElem?_getD, List.getD_eq_getElem?_getD, List.getElem?_take_of_lt hi]
    · have := sized_slice hsz hj hd ht
      rw [hb] at this
      have e1 : (lits (H := H) .u8 (zs.take n)).length = n := by unfold lits; rw [List.length_map, htl]
      rw [htl]
      simp only [reachBytes, e1] at this
      omega
end
end Go.Proofs.Ytmmmcfflhlkiiaa
