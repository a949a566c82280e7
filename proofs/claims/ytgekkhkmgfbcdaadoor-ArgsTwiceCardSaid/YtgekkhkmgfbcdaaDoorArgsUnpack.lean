/- Chapter 25: the walk of args' Unpack. -/
import Derived.Test.YtgekkhkmgfbcdaaDoorArgsOne
namespace Go.Proofs.YtgekkhkmgfbcdaaDoor
open Go.Shelf Go.RowKit

theorem elStr : ElemOf Tryd.prog 22 9 1 16 := by
  obtain ⟨i, hi, hz, hs, hb⟩ := info_parts (show (Tryd.prog.info? 9).map (fun i => (i.zero, i.size, i.bytes)) = some (some (.string ⟨#[]⟩), 1, 16) by kernel_rfl)
  exact ⟨i, _, Tryd.underlying22, hi, hz, hs, hb, rfl⟩

theorem OwnB.isSeq {α : Type} {E : Enc α} {e : TypeId} {base : Nat} {w : World} {v : Value} {l : List α} (h : OwnB E e base w v l) : IsSeq E w v l := by
  obtain ⟨A, c, rfl, h1, h2⟩ := h.form
  exact ⟨A, c, rfl, h1, h2, SeqAt.of_own h.1⟩
theorem OwnB.below_ {α : Type} {E : Enc α} {e : TypeId} {base : Nat} {w0 w w1 : World} {v : Value} {l : List α} (h : OwnB E e base w v l) (hg : w.grownBy w1 v.ownBlock) (hb : Below base w0 w) : Below base w0 w1 :=
  hb.grown hg h.2 (fun k hk => (h.1.lt k hk).1)

theorem drop_list (s : ByteArray) (i : Nat) : (s.extract i s.size).data.toList = s.data.toList.drop i := by
  rw [ByteArray.data_extract, Array.toList_extract, List.extract_eq_take_drop]
  exact List.take_of_length_le (by rw [List.length_drop, len_bytes]; omega)
theorem mid_list (s : ByteArray) (i j : Nat) : (s.extract i j).data.toList = (s.data.toList.drop i).take (j - i) := by
  rw [ByteArray.data_extract, Array.toList_extract, List.extract_eq_take_drop]
theorem size_drop (s : ByteArray) (i : Nat) : (s.extract i s.size).size = s.size - i := by
  rw [← len_bytes, drop_list, List.length_drop, len_bytes]

theorem one_none {s : ByteArray} {i : Nat} (w : World) (hs : s.size ≤ 140737488355328) (hB : Base w) (h : ArgsP.oneL (s.data.toList.drop i) = none) :
    Calls Tryd.prog 24 #[.string (s.extract i s.size)] w fun e w' => e = .returned (.tuple #[.string ⟨#[]⟩, .int .i64 0, .bool false]) ∧ Below w.heap.size w w' := by
  refine (one_any (s.extract i s.size) w (by rw [size_drop]; omega) hB).mono ?_
  rintro e w' ⟨rfl, hb⟩
  exact ⟨by rw [oneV_none (by rw [drop_list]; exact h)], hb⟩
theorem one_some {s x : ByteArray} {i k n : Nat} (w : World) (hs : s.size ≤ 140737488355328) (hB : Base w) (h : ArgsP.oneL (s.data.toList.drop i) = some (k, n)) (hx : x = (s.extract i s.size).extract (k + 1) (k + 1 + n)) :
    Calls Tryd.prog 24 #[.string (s.extract i s.size)] w fun e w' => e = .returned (.tuple #[.string x, .int .i64 ((k + 2 + n : Nat) : Int), .bool true]) ∧ Below w.heap.size w w' := by
  refine (one_any (s.extract i s.size) w (by rw [size_drop]; omega) hB).mono ?_
  rintro e w' ⟨rfl, hb⟩
  refine ⟨?_, hb⟩
  unfold oneV
  rw [drop_list, h, hx]

/-- A call that unpacks a text: its texts, or where it is none. -/
def RetUnp (s : ByteArray) (w : World) (e : Ending) (w' : World) : Prop :=
  Below w.heap.size w w' ∧ match ArgsP.unp s.data.toList 0 with
  | .ok l => ∃ v, e = .returned (.tuple #[v, .agg #[.int .i64 0, .int .i64 0]]) ∧ IsSeq Estr w' v (l.map bytesOf) ∧ ∀ k, v.ownBlock = some k → w.heap.size ≤ k
  | .error i => e = .returned (.tuple #[.slice none 0 0, .agg #[.int .i64 4, .int .i64 i]])

theorem unp_snoc {s : List UInt8} {i k n : Nat} {l : List ByteArray} {x : ByteArray} (h : ArgsP.unp s 0 = (ArgsP.unp s i).map (l.map (·.data.toList) ++ ·)) (hi : i < s.length) (ho : ArgsP.oneL (s.drop i) = some (k, n)) (hx : x.data.toList = (s.drop (i + k + 1)).take n) :
    ArgsP.unp s 0 = (ArgsP.unp s (i + k + 2 + n)).map ((l ++ [x]).map (·.data.toList) ++ ·) := by
  rw [h, ArgsP.unp_good hi ho]
  cases ArgsP.unp s (i + k + 2 + n) with
  | error _ => rfl
  | ok r => show Except.ok _ = Except.ok _; simp [hx]

theorem unp_all {s : List UInt8} {i : Nat} {l : List ByteArray} (h : ArgsP.unp s 0 = (ArgsP.unp s i).map (l.map (·.data.toList) ++ ·)) (hi : s.length ≤ i) : ArgsP.unp s 0 = .ok (l.map (·.data.toList)) := by
  rw [h, ArgsP.unp_end hi]; show Except.ok (l.map _ ++ []) = _; rw [List.append_nil]
theorem unp_none {s : List UInt8} {i : Nat} {l : List ByteArray} (h : ArgsP.unp s 0 = (ArgsP.unp s i).map (l.map (·.data.toList) ++ ·)) (hi : i < s.length) (ho : ArgsP.oneL (s.drop i) = none) : ArgsP.unp s 0 = .error i := by
  rw [h, ArgsP.unp_bad hi ho]; rfl
theorem map_bytes (l : List ByteArray) : (l.map (·.data.toList)).map bytesOf = l := by
  rw [List.map_map]
  have : (bytesOf ∘ fun x : ByteArray => x.data.toList) = id := by funext x; simp [bytesOf]
  rw [this, List.map_id]

/-- The two cells of a struct that the call made first. -/
theorem two_cells {w wr : World} {a b : Value} {T : TypeId} (hb : Below (w.heap.size + 1) (w.alloc (.cells #[a, b] T)) wr) :
    wr.cell? ⟨w.heap.size, 0, none⟩ = some a ∧ wr.cell? ⟨w.heap.size, 1, none⟩ = some b ∧ wr.frozen? ⟨w.heap.size, 0, none⟩ = false ∧ wr.frozen? ⟨w.heap.size, 1, none⟩ = false := by
  have hh : wr.heap[w.heap.size]? = some (.cells #[a, b] T) := (hb.block _ (Nat.lt_succ_self _)).trans (heap_alloc_new w _)
  exact ⟨by rw [Lib.cell_of_heap hh]; rfl, by rw [Lib.cell_of_heap hh]; rfl, Lib.frozen_of_heap hh 0, Lib.frozen_of_heap hh 1⟩

set_option maxRecDepth 100000 in
set_option maxHeartbeats 1000000 in
theorem unpack_any (s : ByteArray) (w : World) (hs : s.size ≤ 1099511627776) (hB : Base w) :
    Calls Tryd.prog 11 #[.string s] w (RetUnp s w) := by
  have H := Lib.hid hB
  clear hB
  go_enter Tryd.func11, Tryd.ntmps11
  go_wp2
  go_loopw [4, 5] (fun v i wr => ∃ (k : Nat) (l : List ByteArray), i = .int .i64 k ∧ k ≤ s.size ∧ l.length ≤ k ∧ OwnB Estr 9 (w.heap.size + 1) wr v l ∧ Below (w.heap.size + 1) (w.alloc (.cells #[.int .i64 0, .int .i64 0] 27)) wr ∧
      Hid (ArgsP.unp s.data.toList 0 = (ArgsP.unp s.data.toList k).map (l.map (·.data.toList) ++ ·))) (fun _ i _ => s.size - (intOf i).toNat)
  case atStart => exact ⟨0, [], rfl, by omega, by simp, OwnB.nil_ (by simp), Below.refl _ _, Lib.hid (by cases ArgsP.unp s.data.toList 0 <;> rfl)⟩
  case round =>
    obtain ⟨k, l, rfl, hk, hlk, hO, hb, HU⟩ := hrel
    have hbw : Below w.heap.size w wr := ((Below.refl _ w).alloc (Nat.le_refl _) _).trans (hb.mono (by simp))
    have hs2 : s.size ≤ 140737488355328 := by omega
    by_cases hlt : k < s.size
    · cases ho : ArgsP.oneL (s.data.toList.drop k) with
      | none =>
        have HN := Lib.hid ho
        have HE := Lib.hid (unp_none HU.out (by rw [len_bytes]; exact hlt) ho)
        clear ho
        go_wp2_with (go_at_call 24; refine (one_none (s := s) (i := k) _ hs2 (H.out.later hbw) HN.out).mono ?_; rintro e w1 ⟨rfl, hb1⟩; obtain ⟨hc0, hc1, hf0, hf1⟩ := two_cells (hb.trans (hb1.mono hO.2)))
        refine bodyPost_ret (v := .tuple #[.slice none 0 0, .agg #[.int .i64 4, .int .i64 k]]) (by simp [results, Tryd.results11, go_sem, hc0, hc1]) rfl ⟨?_, ?_⟩
        · exact ((hbw.trans (hb1.mono hbw.size)).setCell (p := ⟨_, 0, none⟩) (Nat.le_refl _) _).setCell (p := ⟨_, 1, none⟩) (Nat.le_refl _) _
        · rw [HE.out]
      | some p =>
        obtain ⟨m, n⟩ := p
        obtain ⟨x, hx⟩ : ∃ x, x = (s.extract k s.size).extract (m + 1) (m + 1 + n) := ⟨_, rfl⟩
        have hxl : x.data.toList = (s.data.toList.drop (k + m + 1)).take n := by
          rw [hx, mid_list, drop_list, List.drop_drop, Nat.add_sub_cancel_left, Nat.add_assoc]
        have HS := Lib.hid (unp_snoc HU.out (by rw [len_bytes]; exact hlt) ho hxl)
        have hfit := (ArgsP.oneL_some ho).2.2.1
        rw [List.length_drop, len_bytes] at hfit
        have HN := Lib.hid ho
        have HX := Lib.hid hx
        clear ho hx hxl
        go_wp2_with (first
          | (go_at_call 24; refine (one_some (s := s) (x := x) (i := k) (k := m) (n := n) _ hs2 (H.out.later hbw) HN.out HX.out).mono ?_; rintro e w1 ⟨rfl, hb1⟩; have hO1 := hO.below hb1)
          | (at_builtin; (refine wpList_append_seqB _ rfl (.tmp 25) (.tmp 27) 22 rfl 16 elStr rfl (hO1.alloc _) 1 rfl (SeqAt.new (E := Estr) _ [x] 9) rfl (by simp only [maxLen]; omega) (by omega) ?_); intro v2 w2 hO2 hg2))
        go_roundw
        case rel =>
          exact ⟨k + m + 2 + n, l ++ [x], by go_num, by omega, by simp; omega, hO2, (hO1.alloc _).below_ hg2 ((hb.trans (hb1.mono hO.2)).alloc (by simpa using hO1.2) _), Lib.hid HS.out⟩
        case measure => simp [intOf]; omega
    · obtain ⟨hc0, hc1, hf0, hf1⟩ := two_cells hb
      have HE := Lib.hid (unp_all HU.out (by rw [len_bytes]; omega))
      obtain ⟨A, c, rfl, h1, h2⟩ := hO.form
      go_wp2
      refine bodyPost_ret (v := .tuple #[.slice A l.length c, .agg #[.int .i64 0, .int .i64 0]]) (by simp [results, Tryd.results11, go_sem, hc0, hc1]) rfl ⟨?_, ?_⟩
      · exact (hbw.setCell (p := ⟨_, 0, none⟩) (Nat.le_refl _) _).setCell (p := ⟨_, 1, none⟩) (Nat.le_refl _) _
      · rw [HE.out]
        exact ⟨_, rfl, by rw [map_bytes]; exact ((hO.setBelow (a := ⟨_, 0, none⟩) (Nat.lt_succ_self _) _).setBelow (a := ⟨_, 1, none⟩) (Nat.lt_succ_self _) _).isSeq, fun k hk => by have := (hO.lt k hk).1; omega⟩

end Go.Proofs.YtgekkhkmgfbcdaaDoor
