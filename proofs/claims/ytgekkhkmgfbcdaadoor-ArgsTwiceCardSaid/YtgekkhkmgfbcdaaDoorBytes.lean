/- Lists of bytes in memory, and their conversions to strings (for seats without the texts of the encoders). -/
import Derived.Test.YtgekkhkmgfbcdaaDoorLib
import Derived.Laws.BitsLemmas
import Derived.Laws.BytesArg
namespace Go.Proofs.YtgekkhkmgfbcdaaDoor
open Go.RowKit

theorem ints_cells (w : World) (g : Nat) (hg : w.heap.size = g) (xs : List Int) (t : TypeId) : ∀ i, i < xs.length → (w.alloc (.cells (xs.map (Value.int .u8)).toArray t)).cell? ⟨g, 0 + i, none⟩ = some (.int .u8 (xs.getD i 0)) := by
  intro i hi
  subst hg
  rw [Nat.zero_add, cell_of_row _ _ _ _ _ (0, 0) (heap_alloc_new w _), List.getElem?_toArray, List.getElem?_map, List.getElem?_eq_getElem hi, List.getD_eq_getElem?_getD, List.getElem?_eq_getElem hi]
  rfl
/-- 'string([]byte{..})'. -/
theorem conv_new (w : World) (xs : List Int) (n : Nat) (hn : xs.length = n) : (convert 58 9 (.slice (some ⟨w.heap.size, 0, none⟩) n n)).run Tryd.prog (w.alloc (.cells (xs.map (Value.int .u8)).toArray 5)) = .ok (.string (strOfNums xs)) (w.alloc (.cells (xs.map (Value.int .u8)).toArray 5)) := by
  subst hn
  exact run_convert_bytes_arg (P := Tryd.prog) _ 58 5 Tryd.underlying58 Tryd.underlying5 w.heap.size 0 xs.length xs.length xs rfl (ints_cells w _ rfl xs _) 9 Tryd.underlying9

def Ebyte : Enc Int := ⟨fun a => [.int .u8 a], 1, by decide, fun _ => rfl, fun a u hu => by simp at hu; subst hu; rfl⟩
set_option maxRecDepth 100000 in
theorem info_byteE : (Tryd.prog.info? 5).map (fun i => (i.zero, i.size, i.bytes)) = some (some (.int .u8 0), 1, 1) := by kernel_rfl
set_option maxRecDepth 100000 in
theorem elByte : ElemOf Tryd.prog 58 5 Ebyte.k 1 := by
  obtain ⟨i, hi, hz0, hz1, hz2⟩ := info_parts info_byteE
  exact ⟨i, _, Tryd.underlying58, hi, hz0, hz1, hz2, rfl⟩

set_option maxRecDepth 100000 in
theorem conv_own {w0 w : World} {v : Value} {l : List Int} (h : Own Ebyte 5 w0 w v l) : (convert 58 9 v).run Tryd.prog w = .ok (.string (strOfNums l)) w := by
  obtain ⟨A, c, rfl, _, _, hA⟩ := h.isSeq
  rcases Nat.eq_zero_or_pos l.length with h0 | h0
  · obtain rfl := List.eq_nil_of_length_eq_zero h0
    rcases A with _ | a
    · exact run_convert_bytes_nil (P := Tryd.prog) w 58 5 Tryd.underlying58 Tryd.underlying5 0 c 9 Tryd.underlying9
    · rcases h.1.2 with ⟨h', _⟩ | ⟨g, cap, cur, h', _⟩
      · cases h'
      · injection h' with h1 _ _
        injection h1 with h1
        subst h1
        exact run_convert_bytes_arg (P := Tryd.prog) w 58 5 Tryd.underlying58 Tryd.underlying5 g 0 0 c [] rfl (fun i hi => by omega) 9 Tryd.underlying9
  · obtain ⟨b, off, rfl, hb, hc⟩ := hA h0
    refine run_convert_bytes_arg (P := Tryd.prog) w 58 5 Tryd.underlying58 Tryd.underlying5 b off l.length c l rfl (fun i hi => ?_) 9 Tryd.underlying9
    rw [hc i (by simpa [Ebyte] using hi)]
    congr 1
    have hf := Ebyte.flat_at l i hi 0 (by decide)
    have e : i * Ebyte.k + 0 = i := by show i * 1 + 0 = i; omega
    rw [e] at hf
    rw [List.getD_eq_getElem?_getD, hf, List.getD_eq_getElem?_getD, List.getElem?_eq_getElem hi]
    rfl


theorem own_byte (w : World) (x : Int) : Own Ebyte 5 w (w.alloc (.cells #[.int .u8 x] 5)) (.slice (some ⟨w.heap.size, 0, none⟩) 1 1) [x] :=
  ⟨⟨rfl, .inr ⟨w.heap.size, 1, #[.int .u8 x], rfl, Nat.le_refl _, heap_alloc_new w _, Nat.le_refl _, by simp [maxLen], rfl, rfl⟩⟩, (Below.refl _ w).alloc (Nat.le_refl _) _⟩
theorem conv_one (w : World) (x : Int) : (convert 58 9 (.slice (some ⟨w.heap.size, 0, none⟩) 1 1)).run Tryd.prog (w.alloc (.cells #[.int .u8 x] 5)) = .ok (.string (strOfNums [x])) (w.alloc (.cells #[.int .u8 x] 5)) := conv_new w [x] 1 rfl
theorem cat_list (a b : ByteArray) : (a ++ b).data.toList = a.data.toList ++ b.data.toList := by rw [ByteArray.data_append, Array.toList_append]
theorem nums_list (l : List Int) : (strOfNums l).data.toList = l.map fun n => UInt8.ofNat n.toNat := rfl
theorem nums_size (l : List Int) : (strOfNums l).size = l.length := by
  show (l.map fun n => UInt8.ofNat n.toNat).toArray.size = _
  simp

end Go.Proofs.YtgekkhkmgfbcdaaDoor
