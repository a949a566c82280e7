/- Chapter 25: what the walks ask of the library's variables, and the library's calls in the walk's words. -/
import Derived.Test.YtgekkhkmgfbcdaaDoorLib
import Derived.Test.YtgekkhkmgfbcdaaDoorBuild
import Derived.Test.YtgekkhkmgfbcdaaDoorArgsP
import Derived.Lib.LaidTab
import Derived.IntWalk
namespace Go.Proofs.YtgekkhkmgfbcdaaDoor
open Go.Shelf Go.RowKit Go.Sort

/-- The library's variables that are read: MaxLen holds a number, the table of powers its numbers, the two errors something. -/
structure Base (w : World) : Prop where
  most : ∃ m, w.cell? ⟨1, 0, none⟩ = some (.int .i64 m)
  pows : Lib.TabIs Tryd.prog w "internal/strconv.uint64pow10" .u64 Lib.pow10Tab
  syn : ∃ ev, w.cell? ⟨2, 0, none⟩ = some ev ∧ (ev = .nilIface ∨ ∃ te pe, ev = .iface te pe)
  rng : ∃ ev, w.cell? ⟨3, 0, none⟩ = some ev ∧ (ev = .nilIface ∨ ∃ te pe, ev = .iface te pe)

theorem cell_lt {w : World} {b o : Nat} {v : Value} (h : w.cell? ⟨b, o, none⟩ = some v) : b < w.heap.size := by
  rcases Nat.lt_or_ge b w.heap.size with h' | h'
  · exact h'
  · simp [World.cell?, Array.getElem?_eq_none h'] at h
theorem var_below {w w' : World} {n : String} {cs : Array Value} (hb : Below w.heap.size w w') (h : w.var? Tryd.prog n = some cs) : w'.var? Tryd.prog n = some cs := by
  unfold World.var? at h ⊢
  cases hg : Tryd.prog.globalNamed n with
  | none => rw [hg] at h; cases h
  | some g =>
    rw [hg] at h
    simp only [Option.bind_some] at h ⊢
    have hlt : g < w.heap.size := by
      rcases Nat.lt_or_ge g w.heap.size with h' | h'
      · exact h'
      · rw [Array.getElem?_eq_none h'] at h; cases h
    rw [hb.block g hlt]
    exact h
theorem Base.below {w w' : World} (h : Base w) (hb : Below w.heap.size w w') : Base w' := by
  refine ⟨?_, var_below hb h.pows, ?_, ?_⟩
  · obtain ⟨m, hm⟩ := h.most
    exact ⟨m, (hb.cell (p := ⟨_, 0, none⟩) (cell_lt hm)).trans hm⟩
  · obtain ⟨ev, hv, hx⟩ := h.syn
    exact ⟨ev, (hb.cell (p := ⟨_, 0, none⟩) (cell_lt hv)).trans hv, hx⟩
  · obtain ⟨ev, hv, hx⟩ := h.rng
    exact ⟨ev, (hb.cell (p := ⟨_, 0, none⟩) (cell_lt hv)).trans hv, hx⟩
theorem Base.later {w0 w : World} (h : Base w0) (hb : Below w0.heap.size w0 w) : Base w := h.below hb

def bytesOf (l : List UInt8) : ByteArray := ⟨l.toArray⟩
theorem bytesOf_list (l : List UInt8) : (bytesOf l).data.toList = l := by simp [bytesOf]
theorem bytesOf_size (l : List UInt8) : (bytesOf l).size = l.length := by simp [bytesOf, ByteArray.size]

theorem itoa_w (d : ByteArray) (n : Int) (w : World) (h : Lib.itoa n = d.data.toList) (h0 : -9223372036854775808 ≤ n) (h1 : n ≤ 9223372036854775807) (hB : Base w) :
    Calls Tryd.prog 20 #[.int .i64 n] w fun e w' => e = .returned (.string d) ∧ Below w.heap.size w w' := by
  refine (Tryd.strconv_Itoa n h0 h1 w hB.pows).mono ?_
  rintro e w' ⟨rfl, k, os, rfl⟩
  rw [h]
  refine ⟨rfl, ?_⟩
  have h1 : Below w.heap.size w (w.drewN k) := below_drewN (Below.refl _ w) k
  exact ⟨rfl, h1.tape, rfl, by simp [grow], fun j hj => by simp only [grow]; rw [Array.getElem?_append_left (by simpa using hj)]; rfl⟩

/-- Atoi: what it answers, by what the text is. -/
theorem atoi_ok (s : ByteArray) (n : Int) (w : World) (hs : s.size ≤ 281474976710656) (h : Lib.atoiAll s.data.toList = .ok n) :
    Calls Tryd.prog 35 #[.string s] w fun e w' => e = .returned (.tuple #[.int .i64 n, .nilIface]) ∧ Below w.heap.size w w' := by
  refine (Tryd.strconv_Atoi_ok s (by omega) n h w).mono ?_
  rintro e w' ⟨rfl, h⟩
  refine ⟨rfl, ?_⟩
  rcases h with rfl | ⟨t, rfl⟩
  · exact Below.refl _ _
  · exact Lib.below_freeze (((Below.refl w.heap.size w).drew).alloc (Nat.le_refl _) _) (p := ⟨w.heap.size, _, none⟩) (Nat.le_refl _) _
theorem atoi_no (s : ByteArray) (w : World) (hs : s.size ≤ 281474976710656) (hB : Base w) (h : ∀ n, Lib.atoiAll s.data.toList ≠ .ok n) :
    Calls Tryd.prog 35 #[.string s] w fun e w' => ∃ n N, e = .returned (.tuple #[.int .i64 n, .iface 102 (.pointer (some ⟨N, 0, none⟩))]) ∧ Below w.heap.size w w' := by
  cases hr : Lib.atoiAll s.data.toList with
  | ok n => exact absurd hr (h n)
  | «syntax» =>
    obtain ⟨ev, hv, hx⟩ := hB.syn
    refine (Tryd.strconv_Atoi_syntax s hs hr ev w hv hx).mono ?_
    rintro e w' ⟨N, rfl, _, _, hb⟩
    exact ⟨_, N, rfl, hb⟩
  | range =>
    obtain ⟨ev, hv, hx⟩ := hB.rng
    refine (Tryd.strconv_Atoi_range s hs hr ev w hv hx).mono ?_
    rintro e w' ⟨N, rfl, _, _, hb⟩
    exact ⟨_, N, rfl, hb⟩

theorem cut_w (s sep a r : ByteArray) (ok : Bool) (w : World) (hs : s.size < 4294967281) (hB : Base w) (h : Lib.cut s.data.toList sep.data.toList = (a.data.toList, r.data.toList, ok)) :
    Calls Tryd.prog 34 #[.string s, .string sep] w fun e w' => e = .returned (.tuple #[.string a, .string r, .bool ok]) ∧ Below w.heap.size w w' := by
  obtain ⟨m, hm⟩ := hB.most
  refine (Tryd.strings_Cut s sep m w hs hm).mono ?_
  rintro e w' ⟨rfl, n, rfl⟩
  rw [h]
  exact ⟨rfl, below_drewN (Below.refl _ _) _⟩
theorem len_bytes (s : ByteArray) : s.data.toList.length = s.size := Array.length_toList
theorem bytes_at {s : ByteArray} {i : Nat} (h : i < s.size) : s.data.toList[i]? = some s[i] := by
  have h' : i < s.data.toList.length := by rw [len_bytes]; exact h
  rw [List.getElem?_eq_getElem h']
  rfl

end Go.Proofs.YtgekkhkmgfbcdaaDoor
