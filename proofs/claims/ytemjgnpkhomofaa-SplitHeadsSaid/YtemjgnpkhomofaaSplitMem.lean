/- How rows of ranges lie in memory: each in a block of its own, whose kind no other row of theirs has. -/
import Derived.Test.YtemjgnpkhomofaaUtfEncode
import Derived.Test.YtemjgnpkhomofaaSetFA
namespace Go.Proofs.Ytemjgnpkhomofaa
open Go.RowKit SetPure UtfPure

/-- Blocks of cells of a kind stand. -/
def KeepT (T : TypeId) (w w' : World) : Prop := ∀ (b : Nat) (cur : Array Value) (fr : Nat × Nat), w.heap[b]? = some (.cells cur T fr) → w'.heap[b]? = some (.cells cur T fr)
section
variable {T : TypeId} {w w' w2 : World}
theorem KeepT.refl (w : World) : KeepT T w w := fun _ _ _ h => h
theorem KeepT.trans (h : KeepT T w w') (k : KeepT T w' w2) : KeepT T w w2 := fun b cur fr hb => k b cur fr (h b cur fr hb)
theorem KeepT.of_below (hb : Below w.heap.size w w') : KeepT T w w' := fun b cur fr h => by
  rw [hb.block b (Array.getElem?_eq_some_iff.1 h).1]; exact h
theorem KeepT.of_grown {α : Type} {E : Enc α} {e : TypeId} {w0 : World} {v : Value} {l : List α} (hown : Own E e w0 w v l) (hne : e ≠ T) (hg : w.grownBy w' v.ownBlock) : KeepT T w w' := fun b cur fr h => by
  have hlt := (Array.getElem?_eq_some_iff.1 h).1
  rw [hg.block b hlt ?_]
  · exact h
  · intro eq
    rcases hown.1.2 with ⟨rfl, _⟩ | ⟨g, cap, cur', rfl, _, hgo, _⟩
    · cases eq
    · simp only [Value.ownBlock, Option.some.injEq] at eq
      subst eq
      rw [h] at hgo
      injection hgo with hgo
      injection hgo with _ h2 _
      exact hne h2.symm
end

abbrev Sl := Option Addr × Nat × Nat
def Eslice : Enc Sl := ⟨fun a => [.slice a.1 a.2.1 a.2.2], 1, by decide, fun _ => rfl, fun a u hu => by simp at hu; subst hu; rfl⟩
theorem info_rowE : (Try.prog.info? 40).map (fun i => (i.zero, i.size, i.bytes)) = some (some (.slice none 0 0), 1, 24) := by kernel_rfl
theorem elRows : ElemOf Try.prog 29 40 Eslice.k 24 := by
  obtain ⟨i, hi, hz0, hz1, hz2⟩ := info_parts info_rowE
  exact ⟨i, _, Try.underlying29, hi, hz0, hz1, hz2, rfl⟩
theorem elRow : ElemOf Try.prog 40 39 Epair.k 16 := by
  obtain ⟨i, hi, hz0, hz1, hz2⟩ := info_parts info_range
  exact ⟨i, _, Try.underlying40, hi, hz0, hz1, hz2, rfl⟩

/-- A slice that reads as a row, in a block of ranges. -/
def RowAt (w : World) (s : Sl) (row : List Rg) : Prop :=
  ∃ (b : Nat) (cur : Array Value) (fr : Nat × Nat), s.1 = some ⟨b, 0, none⟩ ∧ s.2.1 = row.length ∧ row.length ≤ s.2.2 ∧ s.2.2 ≤ maxLen ∧ w.heap[b]? = some (.cells cur 39 fr) ∧ ∀ j, j < row.length * 2 → cur[j]? = some ((row.flatMap Epair.enc).getD j undef)
theorem RowAt.keep {w w' : World} {s : Sl} {row : List Rg} (h : RowAt w s row) (hk : KeepT 39 w w') : RowAt w' s row := by
  obtain ⟨b, cur, fr, h1, h2, h3, h4, h5, h6⟩ := h
  exact ⟨b, cur, fr, h1, h2, h3, h4, hk b cur fr h5, h6⟩
theorem RowAt.of_own {w0 w : World} {v : Value} {row : List Rg} (h : Own Epair 39 w0 w v row) (hn : row ≠ []) : ∃ s : Sl, v = .slice s.1 s.2.1 s.2.2 ∧ RowAt w s row := by
  rcases h.1.2 with ⟨_, h0⟩ | ⟨g, cap, cur, rfl, _, hg, hnc, hm, hs, ht⟩
  · exact absurd (List.eq_nil_of_length_eq_zero h0) hn
  · refine ⟨(some ⟨g, 0, none⟩, row.length, cap), rfl, g, cur, (0, 0), rfl, rfl, hnc, hm, hg, fun j hj => ?_⟩
    have ht' : cur.toList.take (row.length * 2) = row.flatMap Epair.enc := ht
    have hlen : (row.flatMap Epair.enc).length = row.length * 2 := Epair.flat_len row
    rw [← Array.getElem?_toList, List.getD_eq_getElem?_getD, ← ht', List.getElem?_take, if_pos hj]
    have hsz : cur.toList.length = cap * 2 := by rw [Array.length_toList]; exact hs
    rw [List.getElem?_eq_getElem (by omega)]
    rfl
theorem RowAt.isSeq {w : World} {s : Sl} {row : List Rg} (h : RowAt w s row) : IsSeq Epair w (.slice s.1 s.2.1 s.2.2) row := by
  obtain ⟨b, cur, fr, h1, h2, h3, h4, h5, h6⟩ := h
  refine ⟨s.1, s.2.2, by rw [h2], h3, h4, fun _ => ⟨b, 0, h1, (Array.getElem?_eq_some_iff.1 h5).1, fun j hj => ?_⟩⟩
  rw [Nat.zero_add, cell_of_row _ _ _ _ _ fr h5]
  exact h6 j hj

def RowsAt (w : World) (ss : List Sl) (rows : List (List Rg)) : Prop := ss.length = rows.length ∧ ∀ (i : Nat) (s : Sl) (row : List Rg), ss[i]? = some s → rows[i]? = some row → RowAt w s row
theorem RowsAt.nil_ (w : World) : RowsAt w [] [] := ⟨rfl, fun i s row h _ => by simp at h⟩
theorem RowsAt.keep {w w' : World} {ss : List Sl} {rows : List (List Rg)} (h : RowsAt w ss rows) (hk : KeepT 39 w w') : RowsAt w' ss rows := ⟨h.1, fun i s row h1 h2 => (h.2 i s row h1 h2).keep hk⟩
theorem RowsAt.append {w : World} {ss ss' : List Sl} {rows rows' : List (List Rg)} (h : RowsAt w ss rows) (k : RowsAt w ss' rows') : RowsAt w (ss ++ ss') (rows ++ rows') := by
  refine ⟨by rw [List.length_append, List.length_append, h.1, k.1], fun i s row h1 h2 => ?_⟩
  rcases Nat.lt_or_ge i ss.length with hi | hi
  · rw [List.getElem?_append_left hi] at h1
    rw [List.getElem?_append_left (by rw [← h.1]; exact hi)] at h2
    exact h.2 i s row h1 h2
  · rw [List.getElem?_append_right hi] at h1
    rw [List.getElem?_append_right (by rw [← h.1]; exact hi), ← h.1] at h2
    exact k.2 _ s row h1 h2
theorem RowsAt.one {w : World} {s : Sl} {row : List Rg} (h : RowAt w s row) : RowsAt w [s] [row] := by
  refine ⟨rfl, fun i s' row' h1 h2 => ?_⟩
  cases i with
  | zero => simp at h1 h2; subst h1; subst h2; exact h
  | succ i => simp at h1

end Go.Proofs.Ytemjgnpkhomofaa
