/- The walks of the two encoders at UTF-8: the document's Bytes, the program's put and Encode of one scalar. -/
import Derived.Test.YtemjgnpkhomofaaLib
import Derived.Test.YtemjgnpkhomofaaBits
import Derived.Test.YtemjgnpkhomofaaSplitLen
namespace Go.Proofs.Ytemjgnpkhomofaa
open Go.RowKit SetPure UtfPure

def strU (r : Int) : ByteArray := strOfNums (encU r)

theorem ints_cells (w : World) (g : Nat) (hg : w.heap.size = g) (xs : List Int) (t : TypeId) : ∀ i, i < xs.length → (w.alloc (.cells (xs.map (Value.int .u8)).toArray t)).cell? ⟨g, 0 + i, none⟩ = some (.int .u8 (xs.getD i 0)) := by
  intro i hi
  subst hg
  rw [Nat.zero_add, cell_of_row _ _ _ _ _ (0, 0) (heap_alloc_new w _), List.getElem?_toArray, List.getElem?_map, List.getElem?_eq_getElem hi, List.getD_eq_getElem?_getD, List.getElem?_eq_getElem hi]
  rfl
/-- 'string([]byte{..})'. -/
theorem conv_new (w : World) (xs : List Int) (n : Nat) (hn : xs.length = n) : (convert 44 9 (.slice (some ⟨w.heap.size, 0, none⟩) n n)).run Try.prog (w.alloc (.cells (xs.map (Value.int .u8)).toArray 5)) = .ok (.string (strOfNums xs)) (w.alloc (.cells (xs.map (Value.int .u8)).toArray 5)) := by
  subst hn
  exact run_convert_bytes_arg (P := Try.prog) _ 44 5 Try.underlying44 Try.underlying5 w.heap.size 0 xs.length xs.length xs rfl (ints_cells w _ rfl xs _) 9 Try.underlying9

set_option maxHeartbeats 1600000 in
set_option maxRecDepth 100000 in
theorem bytes_any (r : Int) (w : World) (h0 : 0 ≤ r) (h1 : r ≤ 1114111) :
    Calls Try.prog 14 #[.int .i64 r, .int .i64 1] w fun e w' => e = .returned (.string (strU r)) ∧ Below w.heap.size w w' := by
  unfold strU encU
  by_cases c1 : r < 128
  · rw [if_pos c1]
    have hcv := conv_new w [r] 1 rfl
    simp only [List.map_cons, List.map_nil] at hcv
    go_enter Try.func14, Try.ntmps14
    go_wp2
    go_ret
    exact ⟨rfl, (Below.refl _ w).alloc (Nat.le_refl _) _⟩
  · rw [if_neg c1]
    by_cases c2 : r < 2048
    · rw [if_pos c2]
      have hcv := conv_new w [192 + r / 64, 128 + r % 64] 2 rfl
      simp only [List.map_cons, List.map_nil] at hcv
      go_enter Try.func14, Try.ntmps14
      go_wp2
      go_ret
      exact ⟨rfl, (Below.refl _ w).alloc (Nat.le_refl _) _⟩
    · rw [if_neg c2]
      by_cases c3 : r < 65536
      · rw [if_pos c3]
        have hcv := conv_new w [224 + r / 4096, 128 + r / 64 % 64, 128 + r % 64] 3 rfl
        simp only [List.map_cons, List.map_nil] at hcv
        go_enter Try.func14, Try.ntmps14
        go_wp2
        go_ret
        exact ⟨rfl, (Below.refl _ w).alloc (Nat.le_refl _) _⟩
      · rw [if_neg c3]
        have hcv := conv_new w [240 + r / 262144, 128 + r / 4096 % 64, 128 + r / 64 % 64, 128 + r % 64] 4 rfl
        simp only [List.map_cons, List.map_nil] at hcv
        go_enter Try.func14, Try.ntmps14
        go_wp2
        go_ret
        exact ⟨rfl, (Below.refl _ w).alloc (Nat.le_refl _) _⟩

theorem scalar_any (r : Int) (w : World) : Calls Try.prog 12 #[.int .i64 r] w fun e w' => e = .returned (.bool (isScalar r)) ∧ w = w' := by
  unfold isScalar
  by_cases c1 : 0 ≤ r
  · by_cases c2 : r ≤ 1114111
    · by_cases c3 : r < 55296
      · go_enter Try.func12, Try.ntmps12
        go_wp2
        go_ret
        exact ⟨ret_bool (by simp [c1, c2, c3] <;> omega), rfl⟩
      · go_enter Try.func12, Try.ntmps12
        go_wp2
        go_ret
        exact ⟨ret_bool (by simp [c1, c2, c3] <;> omega), rfl⟩
    · go_enter Try.func12, Try.ntmps12
      go_wp2
      go_ret
      exact ⟨ret_bool (by simp [c2] <;> omega), rfl⟩
  · go_enter Try.func12, Try.ntmps12
    go_wp2
    go_ret
    exact ⟨ret_bool (by simp [c1] <;> omega), rfl⟩

def Ebyte : Enc Int := ⟨fun a => [.int .u8 a], 1, by decide, fun _ => rfl, fun a u hu => by simp at hu; subst hu; rfl⟩
theorem info_byteE : (Try.prog.info? 5).map (fun i => (i.zero, i.size, i.bytes)) = some (some (.int .u8 0), 1, 1) := by kernel_rfl
theorem elByte : ElemOf Try.prog 44 5 Ebyte.k 1 := by
  obtain ⟨i, hi, hz0, hz1, hz2⟩ := info_parts info_byteE
  exact ⟨i, _, Try.underlying44, hi, hz0, hz1, hz2, rfl⟩

set_option maxHeartbeats 1600000 in
set_option maxRecDepth 100000 in
theorem put_any (r : Int) (w : World) (h0 : 0 ≤ r) (h1 : r ≤ 1114111) :
    Calls Try.prog 57 #[.slice none 0 0, .int .i64 r, .int .i64 1] w (fun e w' => ∃ v, e = .returned v ∧ Own Ebyte 5 w w' v (encU r)) := by
  have hb2 : Below w.heap.size w ((w.alloc (.cells #[.slice none 0 0] 44)).alloc (.cells #[.int .i64 1] 3)) := ((Below.refl _ w).alloc (Nat.le_refl _) _).alloc (by simp) _
  have hnil : Own Ebyte 5 w ((w.alloc (.cells #[.slice none 0 0] 44)).alloc (.cells #[.int .i64 1] 3)) (.slice none 0 0) ([] : List Int) := Own.nil_of hb2
  have HN := Lib.hid hnil
  clear hnil hb2
  unfold encU
  by_cases c1 : r < 128
  · rw [if_pos c1]
    go_enter Try.func57, Try.ntmps57
    go_wp2_with (at_builtin; (refine wpList_append_seq _ rfl (.tmp 66) (.tmp 69) 44 rfl 1 elByte rfl (HN.out.alloc _) 1 rfl (SeqAt.new_at (E := Ebyte) _ [r] 5 (w.heap.size + 1 + 1) (by simp)) rfl (by simp [maxLen]) (by simp) ?_); intro v1 w1 ho1 hg1)
    go_ret
    exact ⟨_, rfl, ho1⟩
  · rw [if_neg c1]
    have e1 := and63 r h0 (by omega)
    have e2 := or128 (r % 64) (by omega) (by omega)
    by_cases c2 : r < 2048
    · rw [if_pos c2]
      have e3 := or192 (r / 64) (by omega) (by omega)
      go_enter Try.func57, Try.ntmps57
      go_wp2_with (at_builtin; (refine wpList_append_seq _ rfl (.tmp 74) (.tmp 83) 44 rfl 1 elByte rfl (HN.out.alloc _) 2 rfl (SeqAt.new_at (E := Ebyte) _ [192 + r / 64, 128 + r % 64] 5 (w.heap.size + 1 + 1) (by simp)) rfl (by simp [maxLen]) (by simp) ?_); intro v1 w1 ho1 hg1)
      go_ret
      exact ⟨_, rfl, ho1⟩
    · rw [if_neg c2]
      have e4 := and63 (r / 64) (by omega) (by omega)
      have e5 := or128 (r / 64 % 64) (by omega) (by omega)
      by_cases c3 : r < 65536
      · rw [if_pos c3]
        have e6 := or224 (r / 4096) (by omega) (by omega)
        go_enter Try.func57, Try.ntmps57
        go_wp2_with (at_builtin; (refine wpList_append_seq _ rfl (.tmp 88) (.tmp 102) 44 rfl 1 elByte rfl (HN.out.alloc _) 3 rfl (SeqAt.new_at (E := Ebyte) _ [224 + r / 4096, 128 + r / 64 % 64, 128 + r % 64] 5 (w.heap.size + 1 + 1) (by simp)) rfl (by simp [maxLen]) (by simp) ?_); intro v1 w1 ho1 hg1)
        go_ret
        exact ⟨_, rfl, ho1⟩
      · rw [if_neg c3]
        have e7 := and63 (r / 4096) (by omega) (by omega)
        have e8 := or128 (r / 4096 % 64) (by omega) (by omega)
        have e9 := or240 (r / 262144) (by omega) (by omega)
        go_enter Try.func57, Try.ntmps57
        go_wp2_with (at_builtin; (refine wpList_append_seq _ rfl (.tmp 9) (.tmp 28) 44 rfl 1 elByte rfl (HN.out.alloc _) 4 rfl (SeqAt.new_at (E := Ebyte) _ [240 + r / 262144, 128 + r / 4096 % 64, 128 + r / 64 % 64, 128 + r % 64] 5 (w.heap.size + 1 + 1) (by simp)) rfl (by simp [maxLen]) (by simp) ?_); intro v1 w1 ho1 hg1)
        go_ret
        exact ⟨_, rfl, ho1⟩

end Go.Proofs.Ytemjgnpkhomofaa
