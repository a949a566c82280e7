/- The walks of strings.Builder's methods in this dump (its copyCheck's refused way is never come to): what a builder that the call made holds behind each.
  The walk of strings.Join with one byte between the texts, over this dump's Builder. -/
import Derived.Test.YtblkejnckbeieaaGreatDoorZk1
import Derived.Test.YtblkejnckbeieaaGreatDoorRows
import Derived.Test.YtblkejnckbeieaaGreatDoorShelf
import Derived.WalkKit
import Derived.Shelf.Strings.BuilderK
namespace Go.Proofs.YtblkejnckbeieaaGreatDoor
open Go.Shelf Go.RowKit

/-- The builder at block b holds these bytes; b and its row lie from block B on. -/
def Bld (B b : Nat) (l : List UInt8) (w : World) : Prop := Lib.IsBuilderF 88 5 B b (Lib.byteCells l) w
/-- Below block B all stands; above it too, but for the builder and rows of bytes. -/
def Kept (B b : Nat) (w w' : World) : Prop := Below B w w' ∧ Lib.OthersKept 5 (some b) w w'
theorem Kept.refl (B b : Nat) (w : World) : Kept B b w w := ⟨Below.refl _ _, Lib.OthersKept.refl _ _ _⟩
theorem Kept.trans {B b : Nat} {w w1 w2 : World} (h : Kept B b w w1) (k : Kept B b w1 w2) : Kept B b w w2 := ⟨h.1.trans k.1, h.2.trans k.2⟩

theorem bld_info : ∃ j, Tryz.prog.info? 88 = some j ∧ j.size = 2 := Option.map_eq_some_iff.1 (show (Tryz.prog.info? 88).map (·.size) = some 2 by kernel_rfl)
theorem byte_info : ∃ i, Tryz.prog.info? 5 = some i ∧ i.zero = some (.int .u8 0) ∧ i.size = 1 ∧ i.bytes = 1 := info_parts (show (Tryz.prog.info? 5).map (fun i => (i.zero, i.size, i.bytes)) = some (some (.int .u8 0), 1, 1) by kernel_rfl)

set_option maxHeartbeats 1000000 in
set_option maxRecDepth 100000 in
theorem copyCheck_fresh (b : Nat) (w : World) (h0 : w.cell? ⟨b, 0, none⟩ = some (.pointer none)) (hsh : w.shape? b = some (88, 2)) (hfz : w.frozen? ⟨b, 0, none⟩ = false) :
    Calls Tryz.prog 85 #[.pointer (some ⟨b, 0, none⟩)] w fun e w' => e = .returned (.tuple #[]) ∧ w' = w.setCell ⟨b, 0, none⟩ (.pointer (some ⟨b, 0, none⟩)) := by
  obtain ⟨j, hj, hjs⟩ := bld_info
  go_enter Tryz.func85, Tryz.ntmps85
  go_wp2
  rw [Lib.run_to_unsafe w ⟨b, 0, none⟩ Tryz.underlying86 Tryz.underlying122 hj (by rw [hjs]; decide) hsh (Nat.zero_lt_succ 1)]
  simp only [Result.andThen]
  rw [Oper.upon_value]
  go_wp2
  rw [run_callFunc_extern Tryz.func129 (by kernel_rfl) (by kernel_rfl) (by kernel_rfl) (e := Extern.AbiNoEscape.same) (by kernel_rfl)]
  rw [Lib.run_noEscape]
  simp only [Result.andThen]
  rw [Oper.upon_value]
  go_wp2
  rw [Lib.run_from_unsafe w ⟨b, 0, none⟩ Tryz.underlying122 Tryz.underlying86 hj hsh (by kernel_rfl)]
  simp only [Result.andThen]
  rw [Oper.upon_value]
  go_wp2
  go_end0
  exact ⟨rfl, rfl⟩

set_option maxHeartbeats 1000000 in
set_option maxRecDepth 100000 in
theorem copyCheck_used (b : Nat) (w : World) (h0 : w.cell? ⟨b, 0, none⟩ = some (.pointer (some ⟨b, 0, none⟩))) :
    Calls Tryz.prog 85 #[.pointer (some ⟨b, 0, none⟩)] w fun e w' => e = .returned (.tuple #[]) ∧ w' = w := by
  obtain ⟨j, hj, hjs⟩ := bld_info
  go_enter Tryz.func85, Tryz.ntmps85
  go_wp2
  rw [Lib.run_neq_ptr_same w _ Tryz.underlying86 hj]
  go_wp2
  go_end0
  exact ⟨rfl, rfl⟩

theorem copyCheck_any (B b : Nat) (bs : List Value) (w : World) (h : Lib.IsBuilderF 88 5 B b bs w) :
    Calls Tryz.prog 85 #[.pointer (some ⟨b, 0, none⟩)] w fun e w' => e = .returned (.tuple #[]) ∧ Lib.BuilderAtF 88 5 B b (.pointer (some ⟨b, 0, none⟩)) bs w' ∧ Kept B b w w' := by
  rcases h with h | h
  · refine (copyCheck_fresh b w h.cell0 h.shape h.frozen0).mono ?_
    rintro e w' ⟨rfl, rfl⟩
    exact ⟨rfl, h.used _, (Below.refl B w).setCell (p := ⟨b, 0, none⟩) h.1 _, (Lib.OthersKept.refl _ _ w).setCell ⟨b, 0, none⟩ rfl _⟩
  · refine (copyCheck_used b w h.cell0).mono ?_
    rintro e w' ⟨rfl, rfl⟩
    exact ⟨rfl, h, Kept.refl _ _ _⟩

set_option maxHeartbeats 2000000 in
set_option maxRecDepth 100000 in
theorem writeByte_cells (B b : Nat) (bs : List Value) (c : Int) (w : World) (h : Lib.IsBuilderF 88 5 B b bs w) (hlen : bs.length + 1 ≤ 140737488355328) (hBw : B ≤ w.heap.size) :
    Calls Tryz.prog 42 #[.pointer (some ⟨b, 0, none⟩), .int .u8 c] w fun e w' => e = .returned .nilIface ∧ Lib.IsBuilderF 88 5 B b (bs ++ [.int .u8 c]) w' ∧ Kept B b w w' := by
  obtain ⟨i0, hi, hz0, hz1, hz2⟩ := byte_info
  go_enter Tryz.func42, Tryz.ntmps42
  go_wp2_with (go_at_call 85; refine (copyCheck_any B b bs _ h).mono ?_)
  rintro e w1 ⟨rfl, h1, hb1, hk1⟩
  obtain ⟨hB, v, hbk, hown, hne⟩ := h1
  have c0 : w1.cell? ⟨b, 0, none⟩ = some (.pointer (some ⟨b, 0, none⟩)) := by rw [Lib.cell_of_heap hbk]; rfl
  have c1 : w1.cell? ⟨b, 1, none⟩ = some v := by rw [Lib.cell_of_heap hbk]; rfl
  go_wp2_with (at_builtin; refine wpList_append_ownF _ rfl _ _ 60 rfl B 5 i0 (.int .u8 0) 1 1 Tryz.underlying60 hi hz0 hz1 hz2 rfl (by decide) _ _ _ rfl (hown.alloc _) ⟨w1.heap.size, 0, none⟩ 1 1 [.int .u8 c] rfl rfl ?c1 ?c2 ?c3 ?c4 ?c5 ?_)
  case c1 =>
    intro j u hj
    match j, hj with
    | 0, hj => simp at hj; subst hj; simp [Addr.add]
  case c2 => intro u hu; simp at hu; subst hu; rfl
  case c3 => unfold maxLen; omega
  case c4 => omega
  case c5 => have := hb1.size; simp; omega
  intro v' w2 hown' hgrow _
  have hlt : b < w1.heap.size := by
    rcases Nat.lt_or_ge b w1.heap.size with h' | h'
    · exact h'
    · simp [Array.getElem?_eq_none h'] at hbk
  have hb2 : w2.heap[b]? = some (.cells #[.pointer (some ⟨b, 0, none⟩), v] 88 (0, 0)) := by
    rw [hgrow.block b (by simp; omega) (fun e => hne e.symm), Lib.alloc_old w1 _ b hlt]
    exact hbk
  have d0 : w2.cell? ⟨b, 0, none⟩ = some (.pointer (some ⟨b, 0, none⟩)) := by rw [Lib.cell_of_heap hb2]; rfl
  have d1 : w2.cell? ⟨b, 1, none⟩ = some v := by rw [Lib.cell_of_heap hb2]; rfl
  have f1 : w2.frozen? ⟨b, 1, none⟩ = false := Lib.frozen_of_heap hb2 1
  obtain ⟨g, cap, rfl⟩ : ∃ g cap, v' = .slice (some ⟨g, 0, none⟩) (bs.length + 1) cap := by
    rcases hown'.2 with ⟨_, h0⟩ | ⟨g, cap, cur, fz, hv, _⟩
    · omega
    · exact ⟨g, cap, hv⟩
  go_wp2
  go_ret
  refine ⟨rfl, .inr ?_, ?_, ((hk1.alloc _).grown hgrow (Lib.ownsRowF_kind (hown.alloc _))).setCell ⟨b, 1, none⟩ rfl _⟩
  · exact Lib.BuilderAtF.put (T := 88) (e := 5) hB hb2 (bs' := bs ++ [.int .u8 c]) (by simpa using hown') (by decide)
  · exact ((hb1.alloc (by have := hb1.size; omega) _).grown hgrow (by have := hb1.size; simp; omega) (fun k hk => (hown.lt k hk).1)).setCell (p := ⟨b, 1, none⟩) hB _

set_option maxHeartbeats 2000000 in
set_option maxRecDepth 100000 in
theorem writeString_cells (B b : Nat) (bs : List Value) (s : ByteArray) (w : World) (h : Lib.IsBuilderF 88 5 B b bs w) (hlen : bs.length + s.size ≤ 140737488355328) (hBw : B ≤ w.heap.size) :
    Calls Tryz.prog 43 #[.pointer (some ⟨b, 0, none⟩), .string s] w fun e w' => e = .returned (.tuple #[.int .i64 s.size, .nilIface]) ∧ Lib.IsBuilderF 88 5 B b (bs ++ Lib.strCells s) w' ∧ Kept B b w w' := by
  obtain ⟨i0, hi, hz0, hz1, hz2⟩ := byte_info
  go_enter Tryz.func43, Tryz.ntmps43
  go_wp2_with (go_at_call 85; refine (copyCheck_any B b bs _ h).mono ?_)
  rintro e w1 ⟨rfl, h1, hb1, hk1⟩
  obtain ⟨hB, v, hbk, hown, hne⟩ := h1
  have c0 : w1.cell? ⟨b, 0, none⟩ = some (.pointer (some ⟨b, 0, none⟩)) := by rw [Lib.cell_of_heap hbk]; rfl
  have c1 : w1.cell? ⟨b, 1, none⟩ = some v := by rw [Lib.cell_of_heap hbk]; rfl
  go_wp2_with (at_builtin; refine Lib.wpList_append_own_stringF _ rfl _ _ 60 9 rfl B 5 i0 Tryz.underlying60 Tryz.underlying9 hi hz0 hz1 hz2 _ _ _ rfl hown s rfl ?c3 ?c4 ?c5 ?_)
  case c3 => unfold maxLen; omega
  case c4 => omega
  case c5 => have := hb1.size; omega
  intro v' w2 hown' hgrow _
  have hlt : b < w1.heap.size := by
    rcases Nat.lt_or_ge b w1.heap.size with h' | h'
    · exact h'
    · simp [Array.getElem?_eq_none h'] at hbk
  have hb2 : w2.heap[b]? = some (.cells #[.pointer (some ⟨b, 0, none⟩), v] 88 (0, 0)) := by
    rw [hgrow.block b hlt (fun e => hne e.symm)]
    exact hbk
  have d0 : w2.cell? ⟨b, 0, none⟩ = some (.pointer (some ⟨b, 0, none⟩)) := by rw [Lib.cell_of_heap hb2]; rfl
  have d1 : w2.cell? ⟨b, 1, none⟩ = some v := by rw [Lib.cell_of_heap hb2]; rfl
  have f1 : w2.frozen? ⟨b, 1, none⟩ = false := Lib.frozen_of_heap hb2 1
  obtain ⟨ao, n', cap, rfl⟩ : ∃ ao n' cap, v' = .slice ao n' cap := by
    rcases hown'.2 with ⟨hv, _⟩ | ⟨g, cap, cur, fz, hv, _⟩
    · exact ⟨_, _, _, hv⟩
    · exact ⟨_, _, _, hv⟩
  go_wp2
  go_ret2
  refine ⟨rfl, .inr ?_, ?_, (hk1.grown hgrow (Lib.ownsRowF_kind hown)).setCell ⟨b, 1, none⟩ rfl _⟩
  · exact Lib.BuilderAtF.put (T := 88) (e := 5) hB hb2 (bs' := bs ++ Lib.strCells s) (by simpa [Lib.strCells_length] using hown') (by decide)
  · exact (hb1.grown hgrow (by have := hb1.size; omega) (fun k hk => (hown.lt k hk).1)).setCell (p := ⟨b, 1, none⟩) hB _

/-- The three methods, over lists of bytes. -/
theorem writeByte_any {B b : Nat} {l : List UInt8} {w : World} (c : UInt8) (x : Int) (hx : x = c.toNat) (h : Bld B b l w) (hlen : l.length + 1 ≤ 140737488355328) (hBw : B ≤ w.heap.size) :
    Calls Tryz.prog 42 #[.pointer (some ⟨b, 0, none⟩), .int .u8 x] w fun e w' => e = .returned .nilIface ∧ Bld B b (l ++ [c]) w' ∧ Kept B b w w' := by
  subst hx
  refine (writeByte_cells B b (Lib.byteCells l) c.toNat w h (by rw [Lib.byteCells_length]; exact hlen) hBw).mono ?_
  rintro e w' ⟨rfl, hb, hk⟩
  refine ⟨rfl, ?_, hk⟩
  show Lib.IsBuilderF _ _ B b (Lib.byteCells (l ++ [c])) w'
  have : Lib.byteCells (l ++ [c]) = Lib.byteCells l ++ [.int .u8 c.toNat] := by simp [Lib.byteCells]
  rw [this]; exact hb
theorem writeString_any {B b : Nat} {l : List UInt8} {w : World} (s : ByteArray) (h : Bld B b l w) (hlen : l.length + s.size ≤ 140737488355328) (hBw : B ≤ w.heap.size) :
    Calls Tryz.prog 43 #[.pointer (some ⟨b, 0, none⟩), .string s] w fun e w' => e = .returned (.tuple #[.int .i64 s.size, .nilIface]) ∧ Bld B b (l ++ s.data.toList) w' ∧ Kept B b w w' := by
  refine (writeString_cells B b (Lib.byteCells l) s w h (by rw [Lib.byteCells_length]; exact hlen) hBw).mono ?_
  rintro e w' ⟨rfl, hb, hk⟩
  refine ⟨rfl, ?_, hk⟩
  show Lib.IsBuilderF _ _ B b (Lib.byteCells (l ++ s.data.toList)) w'
  have : Lib.byteCells (l ++ s.data.toList) = Lib.byteCells l ++ Lib.strCells s := by simp [Lib.byteCells, Lib.strCells]
  rw [this]; exact hb
theorem string_any {B b : Nat} {l : List UInt8} {w : World} (h : Bld B b l w) (hBw : B ≤ w.heap.size) :
    Calls Tryz.prog 44 #[.pointer (some ⟨b, 0, none⟩)] w fun e w' => e = .returned (.string ⟨l.toArray⟩) ∧ Bld B b l w' ∧ Kept B b w w' :=
  (Tryz.Builder_String_any_k B b l w h hBw).mono fun _ _ ⟨he, hb, h1, h2⟩ => ⟨he, hb, h1, h2⟩
theorem bldAt_below {T e : TypeId} {B b : Nat} {p : Value} {bs : List Value} {w w' : World} (h : Lib.BuilderAtF T e B b p bs w) (hb : Below w.heap.size w w') : Lib.BuilderAtF T e B b p bs w' := by
  have hlt := h.lt
  obtain ⟨hB, v, hbk, hown, hne⟩ := h
  exact ⟨hB, v, (hb.block b hlt).trans hbk, hown.kept (row := none) ⟨hb.os, hb.tape, hb.output, hb.size, fun k hk _ => hb.block k hk⟩ (by cases hv : v.ownBlock <;> simp), hne⟩
theorem Bld.below {B b : Nat} {l : List UInt8} {w w' : World} (h : Bld B b l w) (hb : Below w.heap.size w w') : Bld B b l w' := by
  rcases h with h | h
  · exact .inl (bldAt_below h hb)
  · exact .inr (bldAt_below h hb)
theorem Bld.new (w : World) : Bld w.heap.size w.heap.size [] (w.alloc (.cells #[.pointer none, .slice none 0 0] 88)) := Lib.IsBuilderF.of (Lib.fresh_isBuilder _ _ w)

end Go.Proofs.YtblkejnckbeieaaGreatDoor

namespace Go.Proofs.YtblkejnckbeieaaGreatDoor
open Go.RowKit

/-- The texts in a row, with the byte between. -/
def joinL (x : UInt8) : List ByteArray → List UInt8
  | [] => []
  | a :: l => a.data.toList ++ l.flatMap fun y => x :: y.data.toList
def sizes (L : List ByteArray) : Nat := (L.map ByteArray.size).sum
theorem sizes_snoc (L : List ByteArray) (a : ByteArray) : sizes (L ++ [a]) = sizes L + a.size := by simp [sizes]
theorem sizes_take (L : List ByteArray) (k : Nat) : sizes (L.take k) ≤ sizes L := by
  induction L generalizing k with
  | nil => simp [sizes]
  | cons a l ih =>
    cases k with
    | zero => simp [sizes]
    | succ k => have := ih k; simp only [sizes, List.take_succ_cons, List.map_cons, List.sum_cons] at this ⊢; omega
theorem joinL_snoc (x : UInt8) {L : List ByteArray} (h : L ≠ []) (a : ByteArray) : joinL x (L ++ [a]) = joinL x L ++ [x] ++ a.data.toList := by
  cases L with
  | nil => exact absurd rfl h
  | cons b l => simp [joinL]
theorem flat_sizes (x : UInt8) (L : List ByteArray) : (L.flatMap fun y => x :: y.data.toList).length = L.length + sizes L := by
  induction L with
  | nil => rfl
  | cons a l ih =>
    rw [List.flatMap_cons, List.length_append, ih, List.length_cons, List.length_cons, Array.length_toList]
    simp only [sizes, List.map_cons, List.sum_cons]
    have : a.data.size = a.size := rfl
    omega
theorem joinL_len (x : UInt8) (L : List ByteArray) : (joinL x L).length ≤ L.length + sizes L := by
  cases L with
  | nil => exact Nat.zero_le _
  | cons a l =>
    show (a.data.toList ++ l.flatMap _).length ≤ _
    rw [List.length_append, flat_sizes, Array.length_toList, List.length_cons]
    simp only [sizes, List.map_cons, List.sum_cons]
    have : a.data.size = a.size := rfl
    omega
theorem take_snoc_bytes (L : List ByteArray) (k : Nat) (h : k < L.length) : L.take (k + 1) = L.take k ++ [L[k]] := List.take_succ_eq_append_getElem h

theorem grow_new {w : World} (x : Int) (N : Nat) (hN : w.heap.size = N) (h0 : 0 ≤ x) (hn : x ≤ 281474976710656) :
    Calls Tryz.prog 88 #[.pointer (some ⟨N, 0, none⟩), .int .i64 x] (w.alloc (.cells #[.pointer none, .slice none 0 0] 88)) fun e w' => e = .returned (.tuple #[]) ∧ Bld N N [] w' ∧ Below N w w' := by
  subst hN
  obtain ⟨n, rfl⟩ : ∃ n : Nat, x = n := ⟨x.toNat, by omega⟩
  refine (Tryz.Builder_Grow_fresh w.heap.size w.heap.size n _ (Nat.le_refl _) (heap_alloc_new w _) (by simp) (by omega)).mono ?_
  rintro e w' ⟨rfl, h1, h2⟩
  exact ⟨rfl, .inr (Lib.BuilderAtF.of h1), ((Below.refl _ w).alloc (Nat.le_refl _) _).trans h2⟩

/-- What Join holds in its second loop. -/
structure JnS (w wr : World) (N : Nat) (out : List UInt8) : Prop where
  bel : Below N w wr
  bld : Bld N N out wr
theorem JnS.wrote {w wr wx : World} {N : Nat} {out out' : List UInt8} (h : JnS w wr N out) (k : Kept N N wr wx) (hb : Bld N N out' wx) : JnS w wx N out' := ⟨h.bel.trans k.1, hb⟩

set_option maxRecDepth 100000 in
set_option maxHeartbeats 3200000 in
theorem join_any (x : UInt8) (A : Option Addr) (c n : Nat) (L : List ByteArray) (w : World) (hn : L.length = n) (hA : SeqAt Estr w w.heap.size A L) (hc : n ≤ c) (h1 : n ≤ 1000000000) (h2 : sizes L ≤ 1000000000000) :
    Calls Tryz.prog 49 #[.slice A n c, .string ⟨#[x]⟩] w fun e w' => e = .returned (.string ⟨(joinL x L).toArray⟩) ∧ Below w.heap.size w w' := by
  have HA := Lib.hid hA
  have HN := Lib.hid hn
  have H2 := Lib.hid h2
  clear hA hn h2
  obtain ⟨N, hN⟩ : ∃ N, w.heap.size = N := ⟨_, rfl⟩
  have HW := Lib.hid hN
  have hcell : ∀ i (hi : i < L.length), ∃ b off, A = some ⟨b, off, none⟩ ∧ b < N ∧ w.cell? ⟨b, off + i, none⟩ = some (.string L[i]) := fun i hi => by
    obtain ⟨b, off, e, hb, h⟩ := HA.out.at_ hi
    have := h 0 (by decide)
    exact ⟨b, off, e, by rw [← hN]; exact hb, by simpa [Estr] using this⟩
  have HC := Lib.hid hcell
  clear hcell hN
  by_cases hz : n = 0
  · subst hz
    obtain rfl : L = [] := List.eq_nil_of_length_eq_zero HN.out
    go_enter Tryz.func49, Tryz.ntmps49
    go_wp2
    go_ret
    exact ⟨rfl, Below.refl _ _⟩
  by_cases hz1 : n = 1
  · subst hz1
    obtain ⟨a, rfl⟩ := List.length_eq_one_iff.1 HN.out
    obtain ⟨b, off, rfl, _, h⟩ := HC.out 0 (by simp)
    simp only [List.getElem_cons_zero, Nat.add_zero] at h
    go_enter Tryz.func49, Tryz.ntmps49
    go_wp2
    go_ret
    exact ⟨by simp [joinL], Below.refl _ _⟩
  have hn2 : 2 ≤ n := by omega
  have hi0 : ¬ (n : Int) = 0 := by omega
  have hi1 : ¬ (n : Int) = 1 := by omega
  obtain ⟨b, off, rfl, hb, _⟩ := HC.out 0 (by rw [HN.out]; omega)
  have HC2 : Hid (∀ i (hi : i < L.length), w.cell? ⟨b, off + i, none⟩ = some (.string L[i])) := Lib.hid fun i hi => by
    obtain ⟨b', off', e, _, h⟩ := HC.out i hi
    injection e with e
    injection e with e1 e2
    subst e1; subst e2
    exact h
  have hq : (1 : Int) < 9223372036854775807 / ((n : Int) - 1) := Int.lt_of_lt_of_le (by decide) ((Int.le_ediv_iff_mul_le (a := 2) (b := 9223372036854775807) (c := (n : Int) - 1) (by omega)).2 (by omega))
  have HSt : Hid (∀ k, sizes (L.take k) ≤ 1000000000000) := Lib.hid fun k => Nat.le_trans (sizes_take L k) H2.out
  clear HC hz hz1
  go_enter Tryz.func49, Tryz.ntmps49
  go_wp2
  go_loop [5, 41] (fun s5 s41 => ∃ k m : Nat, k ≤ n ∧ m ≤ 1000000000000 ∧ Hid (sizes (L.take k) = m) ∧ s41 = .int .i64 k ∧ s5 = .int .i64 ((n : Int) - 1 + m)) (fun _ s41 => n + 1 - (intOf s41).toNat)
  case atStart => exact ⟨0, 0, Nat.zero_le _, Nat.zero_le _, Lib.hid rfl, rfl, by simp⟩
  case round =>
    obtain ⟨k, m, hk, hm, HM, rfl, rfl⟩ := hrel
    clear hq
    by_cases hlt : k < n
    · have hkk : (k : Int) < (n : Int) := by omega
      have hk0 : (0 : Int) ≤ (k : Int) := by omega
      have hkL : k < L.length := by rw [HN.out]; exact hlt
      have hx := HC2.out k hkL
      have HM2 := Lib.hid (show sizes (L.take (k + 1)) = m + (L[k]).size by rw [take_snoc_bytes L k hkL, sizes_snoc, HM.out])
      obtain ⟨y, hy⟩ : ∃ y, L[k] = y := ⟨_, rfl⟩
      rw [hy] at hx HM2
      have hys : m + y.size ≤ 1000000000000 := by rw [← HM2.out]; exact HSt.out _
      clear hy hkL
      go_wp2
      go_round
      case rel => exact ⟨k + 1, m + y.size, by omega, hys, HM2, by go_num, by go_num⟩
      case measure => simp [intOf]; omega
    · obtain rfl : k = n := by omega
      go_upto_region 19 with fail
      rw [HW.out]
      go_upto_region 20 with (go_at_call 88; (with_reducible refine (grow_new _ N HW.out (by omega) (by omega)).mono ?_); rintro e w1 ⟨rfl, hb1, hbl1⟩)
      have hkL : 0 < L.length := by rw [HN.out]; omega
      obtain ⟨y0, hy0⟩ : ∃ y, L[0] = y := ⟨_, rfl⟩
      have hx0 : w1.cell? ⟨b, off, none⟩ = some (.string y0) := (hbl1.cell (p := ⟨b, off, none⟩) hb).trans (by rw [← hy0]; exact HC2.out 0 hkL)
      have HJ0 : Hid (joinL x (L.take (0 + 1)) = y0.data.toList) := Lib.hid (by rw [take_snoc_bytes L 0 hkL, hy0]; simp [joinL])
      have hys : y0.size ≤ 1000000000000 := by
        have := HSt.out (0 + 1)
        rw [take_snoc_bytes L 0 hkL, sizes_snoc, hy0] at this
        omega
      have HBL := Lib.hid hbl1
      have hNw : N ≤ w1.heap.size := by rw [← HW.out]; have := hbl1.size; rw [HW.out] at this ⊢; exact this
      clear hy0 hkL hbl1
      go_upto_region 21 with (go_at_call 43; (with_reducible refine (writeString_any _ hb1 (by simp; omega) hNw).mono ?_); rintro e w2 ⟨rfl, hb2, hk2⟩)
      have HJS : Hid (JnS w w2 N (joinL x (L.take (0 + 1)))) := Lib.hid ⟨HBL.out.trans hk2.1, by rw [HJ0.out]; exact hb2⟩
      have hc2 : ¬ (c : Int) = 1 := by omega
      have hc3 : (1 : Int) ≤ (c : Int) := by omega
      have hc4 : (1 : Int) ≤ (k : Int) := by omega
      have hc5 : (k : Int) ≤ (c : Int) := by omega
      clear hb2 hk2 hb1 hx0 HJ0
      go_wp2
      go_loopw [65] (fun s65 wr => ∃ q : Nat, q + 1 ≤ k ∧ s65 = .int .i64 q ∧ Hid (JnS w wr N (joinL x (L.take (q + 1))))) (fun s65 _ => k + 1 - (intOf s65).toNat)
      case atStart => exact ⟨0, by omega, rfl, HJS⟩
      case round =>
        obtain ⟨q, hq, rfl, HS⟩ := hrel
        clear HJS
        by_cases hqk : q + 1 < k
        · have hqq : (q : Int) < (k : Int) - 1 := by omega
          have hq0 : (0 : Int) ≤ (q : Int) := by omega
          have hkL : q + 1 < L.length := by rw [HN.out]; exact hqk
          obtain ⟨y, hy⟩ : ∃ y, L[q + 1] = y := ⟨_, rfl⟩
          have hx0 : wr.cell? ⟨b, off + 1 + q, none⟩ = some (.string y) := (HS.out.bel.cell (p := ⟨b, off + 1 + q, none⟩) hb).trans (by rw [← hy]; have := HC2.out (q + 1) hkL; rw [show off + (q + 1) = off + 1 + q by omega] at this; exact this)
          have HJ2 : Hid (joinL x (L.take (q + 1 + 1)) = joinL x (L.take (q + 1)) ++ [x] ++ y.data.toList) := Lib.hid (by
            rw [take_snoc_bytes L (q + 1) hkL, hy]
            exact joinL_snoc x (fun e => by have := congrArg List.length e; rw [List.length_take, List.length_nil] at this; omega) y)
          have hol := joinL_len x (L.take (q + 1))
          have h3 := HSt.out (q + 1)
          have hys : y.size ≤ 1000000000000 := by
            have := HSt.out (q + 1 + 1)
            rw [take_snoc_bytes L (q + 1) hkL, sizes_snoc, hy] at this
            omega
          rw [List.length_take] at hol
          obtain ⟨out, hout⟩ : ∃ out, joinL x (L.take (q + 1)) = out := ⟨_, rfl⟩
          rw [hout] at HS HJ2 hol
          have HOl : Hid (out.length ≤ 2000000000000) := Lib.hid (by omega)
          have HO1 : Hid (out.length + (ByteArray.mk #[x]).size ≤ 140737488355328) := Lib.hid (by have := HOl.out; show out.length + 1 ≤ _; omega)
          have HNr : Hid (N ≤ wr.heap.size) := Lib.hid (by rw [← HW.out]; exact HS.out.bel.size)
          clear hy hkL hol h3 hout hqk
          go_upto_region 25 with (go_at_call 43; (with_reducible refine (writeString_any _ HS.out.bld HO1.out HNr.out).mono ?_); rintro e w3 ⟨rfl, hb3, hk3⟩)
          have HS3 : Hid (JnS w w3 N (out ++ [x])) := Lib.hid (HS.out.wrote hk3 hb3)
          have HNr3 : Hid (N ≤ w3.heap.size) := Lib.hid (Nat.le_trans HNr.out hk3.1.size)
          clear hb3 hk3
          go_wp2_with (go_at_call 43; (with_reducible refine (writeString_any _ HS3.out.bld (by have := HOl.out; simp; omega) HNr3.out).mono ?_); rintro e w4 ⟨rfl, hb4, hk4⟩)
          exact ⟨⟨q + 1, by omega, by simp, by rw [HJ2.out]; exact Lib.hid (HS3.out.wrote hk4 hb4)⟩, by simp only [intOf]; omega⟩
        · have hqq : ¬ (q : Int) < (k : Int) - 1 := by omega
          have HNr : Hid (N ≤ wr.heap.size) := Lib.hid (by rw [← HW.out]; exact HS.out.bel.size)
          have HT : Hid (L.take (q + 1) = L) := Lib.hid (List.take_of_length_le (by rw [HN.out]; omega))
          rw [HT.out] at HS
          go_wp2_with (go_at_call 44; (with_reducible refine (string_any HS.out.bld HNr.out).mono ?_); rintro e w3 ⟨rfl, hb3, hk3⟩)
          go_ret
          exact ⟨rfl, by rw [HW.out]; exact HS.out.bel.trans hk3.1⟩

end Go.Proofs.YtblkejnckbeieaaGreatDoor
