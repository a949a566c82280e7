/- The walk of utfsplit.Row's Has. -/
import Derived.Test.YtemjgnpkhomofaaSplitSplit
namespace Go.Proofs.Ytemjgnpkhomofaa
open Go.RowKit SetPure UtfPure

def intsOf (s : ByteArray) : List Int := s.data.toList.map fun c => (c.toNat : Int)
theorem intsOf_len (s : ByteArray) : (intsOf s).length = s.size := by unfold intsOf; rw [List.length_map, Array.length_toList]; rfl
theorem intsOf_at (s : ByteArray) {k : Nat} (hk : k < s.size) : (intsOf s).getD k 0 = ((s[k]'hk).toNat : Int) := by
  have hk' : k < (intsOf s).length := by rw [intsOf_len]; exact hk
  rw [List.getD_eq_getElem?_getD, List.getElem?_eq_getElem hk']
  simp [intsOf]
  rfl
theorem intsOf_bd (s : ByteArray) {k : Nat} (hk : k < s.size) : 0 ≤ ((s[k]'hk).toNat : Int) ∧ ((s[k]'hk).toNat : Int) ≤ 255 := by
  have := UInt8.toNat_lt (s[k]'hk); omega
theorem intsOf_nums {l : List Int} (h : ∀ x ∈ l, 0 ≤ x ∧ x ≤ 255) : intsOf (strOfNums l) = l := by
  unfold intsOf strOfNums
  simp only [List.map_map]
  refine (List.map_congr_left fun x hx => ?_).trans (List.map_id l)
  have := h x hx
  simp only [Function.comp, UInt8.toNat_ofNat', id]
  omega
theorem fits_length {w : List Rg} {s : List Int} (h : fits w s = true) : w.length = s.length := by
  induction w generalizing s with
  | nil => rw [(fits_nil s).1 h]; rfl
  | cons r w ih =>
    obtain ⟨b, t, rfl, _, _, h3⟩ := (fits_cons r w s).1 h
    simp [ih h3]
theorem fits_drop {w : List Rg} {s : List Int} {k : Nat} {x y c : Int} (hk : k < w.length) (hs : k < s.length) (hr : w.getD k (0, 0) = (x, y)) (hc : s.getD k 0 = c) : fits (w.drop k) (s.drop k) = ((decide (x ≤ c) && decide (c ≤ y)) && fits (w.drop (k + 1)) (s.drop (k + 1))) := by
  rw [drop_next' hk hr, List.drop_eq_getElem_cons hs]
  have : s[k] = c := by rw [← hc, List.getD_eq_getElem?_getD, List.getElem?_eq_getElem hs]; rfl
  rw [this]
  rfl

set_option maxHeartbeats 1600000 in
theorem has_row (v : Value) (row : List Rg) (s : ByteArray) (w : World) (hv : IsSeq Epair w v row) (hr : row.length ≤ 1000000) (hs : s.size ≤ maxLen) :
    Calls Try.prog 16 #[v, .string s] w fun e w' => e = .returned (.bool (fits row (intsOf s))) ∧ Below w.heap.size w w' := by
  obtain ⟨A, c, rfl, _, _, hA⟩ := hv
  unfold maxLen at hs
  have HA := Lib.hid hA
  clear hA
  by_cases hn : s.size = row.length
  · have hb1 : ((s.size : Int) != (row.length : Int)) = false := by simp; omega
    have HL := Lib.hid (intsOf_len s)
    have HN := Lib.hid hn
    go_enter Try.func16, Try.ntmps16
    clear hn
    go_wp2
    go_loopw [5, 6, 7, 15] (fun _ _ _ ix wr => ∃ k : Nat, k ≤ row.length ∧ ix = .int .i64 k ∧ Below w.heap.size w wr ∧ Hid (fits row (intsOf s) = fits (row.drop k) ((intsOf s).drop k))) (fun _ _ _ ix _ => row.length + 1 - (intOf ix).toNat)
    case atStart => exact ⟨0, by omega, rfl, Below.refl _ _, rfl⟩
    case round =>
      obtain ⟨k, hk, rfl, hbw, hrest⟩ := hrel
      have hz := hbw.size
      by_cases hlt : k < row.length
      · have hks : k < s.size := by have := HN.out; omega
        obtain ⟨b, off, rfl, hb, hc⟩ := (HA.out.below hbw).pairs_ (by omega)
        obtain ⟨h0, h1⟩ := hc k hlt
        clear hc
        obtain ⟨⟨x, y⟩, hr'⟩ : ∃ r, row.getD k (0, 0) = r := ⟨_, rfl⟩
        rw [hr'] at h0 h1
        simp only at h0 h1
        obtain ⟨c', hc'⟩ : ∃ c' : Int, ((s[k]'hks).toNat : Int) = c' := ⟨_, rfl⟩
        have hbd := intsOf_bd s hks
        have HD := Lib.hid (fits_drop (s := intsOf s) hlt (by rw [HL.out]; exact hks) hr' ((intsOf_at s hks).trans hc'))
        rw [hc'] at hbd
        clear hr'
        obtain ⟨bd1, bd2⟩ := hbd
        have hki : (k : Int) < (row.length : Int) := by omega
        have hkj : (k : Int) < (s.size : Int) := by omega
        by_cases c1 : x ≤ c'
        · have d1 : decide (c' < x) = false := by simp; omega
          by_cases c2 : c' ≤ y
          · have d2 : decide (y < c') = false := by simp; omega
            have HF := Lib.hid (show fits row (intsOf s) = fits (row.drop (k + 1)) ((intsOf s).drop (k + 1)) by rw [hrest.out, HD.out, decide_eq_true c1, decide_eq_true c2]; rfl)
            go_wp2
            go_roundw
            case rel => exact ⟨k + 1, by omega, by go_num, hbw.alloc hz _, HF⟩
            case measure => simp [intOf]; omega
          · have d2 : decide (y < c') = true := by simp; omega
            have HF := Lib.hid (show fits row (intsOf s) = false by rw [hrest.out, HD.out, decide_eq_false c2, Bool.and_false, Bool.false_and])
            go_wp2
            go_ret
            exact ⟨ret_bool HF.out.symm, hbw.alloc hz _⟩
        · have d1 : decide (c' < x) = true := by simp; omega
          have HF := Lib.hid (show fits row (intsOf s) = false by rw [hrest.out, HD.out, decide_eq_false c1, Bool.false_and, Bool.false_and])
          go_wp2
          go_ret
          exact ⟨ret_bool HF.out.symm, hbw.alloc hz _⟩
      · obtain rfl : k = row.length := by omega
        have HE := Lib.hid (show fits (row.drop row.length) ((intsOf s).drop row.length) = true by
          rw [List.drop_length, List.drop_of_length_le (by rw [HL.out, HN.out]; omega)]; rfl)
        go_wp2
        go_ret
        exact ⟨ret_bool (by rw [hrest.out, HE.out]), hbw⟩
  · have hb1 : ((s.size : Int) != (row.length : Int)) = true := by simp; omega
    have HF := Lib.hid (show fits row (intsOf s) = false from by
      rw [← Bool.not_eq_true]
      intro h
      have := fits_length h
      rw [intsOf_len] at this
      exact hn this.symm)
    clear hn
    go_enter Try.func16, Try.ntmps16
    go_wp2
    go_ret
    exact ⟨ret_bool HF.out.symm, Below.refl _ _⟩

end Go.Proofs.Ytemjgnpkhomofaa
