/- Chapter 25: the walk of the document's Show. -/
import Derived.Test.YtgekkhkmgfbcdaaDoorArgsShow
import Derived.Test.YtgekkhkmgfbcdaaDoorArgsRefPack
namespace Go.Proofs.YtgekkhkmgfbcdaaDoor
open Go.Shelf Go.RowKit

/-- A text is empty or not, as the walk asks. -/
theorem str_ne {x : ByteArray} (h : x.size ≠ 0) : x.toList.isEmpty = false := by
  rw [ByteArray.toList_eq]
  cases hl : x.data.toList with
  | nil => exact absurd (by rw [← len_bytes, hl]; rfl) h
  | cons a b => rfl

set_option maxRecDepth 100000 in
set_option maxHeartbeats 4000000 in
theorem refShow_any {vs : List Value} (hT : Typed vs) (hI : Ints vs) (w : World) (hP : (showT vs).length ≤ 140737488355328) :
    Calls Tryd.prog 17 #[.agg vs.toArray] w fun e w' => e = .returned (.string (bytesOf (showT vs))) ∧ Below w.heap.size w w' := by
  have HT := Lib.hid hT
  have HI := Lib.hid hI
  have HP := Lib.hid hP
  obtain ⟨cv, hcv⟩ : ∃ cv, vs.toArray = cv := ⟨_, rfl⟩
  have HCv := Lib.hid hcv
  rw [hcv]
  clear hT hI hP hcv
  go_enter Tryd.func17, Tryd.ntmps17
  go_wp2_with (go_at_call 18; refine (keys_any _).mono ?_; rintro e w1 ⟨rfl, rfl⟩)
  have hb0 : Below w.heap.size w ((w.alloc (.cells cv 46)).alloc (.cells keyC.toArray 9)) := ((Below.refl _ w).alloc (Nat.le_refl _) _).alloc (by simp) _
  have q1 : ((w.alloc (.cells cv 46)).alloc (.cells keyC.toArray 9)).heap[w.heap.size + 1]? = some (.cells keyC.toArray 9) := by
    have := heap_alloc_new (w.alloc (.cells cv 46)) (.cells keyC.toArray 9)
    rw [show (w.alloc (.cells cv 46)).heap.size = w.heap.size + 1 by simp] at this
    exact this
  have q0 : ((w.alloc (.cells cv 46)).alloc (.cells keyC.toArray 9)).heap[w.heap.size]? = some (.cells cv 46) := (Below.heap_alloc _ _ _ (by simp)).trans (heap_alloc_new w _)
  have hsz : ((w.alloc (.cells cv 46)).alloc (.cells keyC.toArray 9)).heap.size = w.heap.size + 1 + 1 := by simp
  generalize (w.alloc (.cells cv 46)).alloc (.cells keyC.toArray 9) = W at hb0 q0 q1 hsz ⊢
  obtain ⟨N, hN⟩ : ∃ N, w.heap.size = N := ⟨_, rfl⟩
  rw [hN] at q0 q1 hsz ⊢
  rw [← HCv.out] at q0
  have HV := Lib.hid (fun j => Lib.cell_of_heap q0 j)
  have HK := Lib.hid (fun j => Lib.cell_of_heap q1 j)
  have HBW := Lib.hid hb0
  clear hb0 q0 q1 hN
  go_loopw [4, 5] (fun s4 s5 wr => ∃ k : Nat, k ≤ 18 ∧ s5 = .int .i64 k ∧ Own Estr 9 W wr s4 (prsOf vs (jsOf vs k))) (fun _ s5 _ => 18 - (intOf s5).toNat)
  case atStart => exact ⟨0, by omega, rfl, Own.nil_ _⟩
  case round =>
    obtain ⟨k, hk, rfl, hO⟩ := hrel
    have hb := hO.2
    by_cases hlt : k < 18
    · have ck : wr.cell? ⟨N + 1, k, none⟩ = some (.string (keyN k)) := (hb.cell (p := ⟨N + 1, k, none⟩) (by show N + 1 < _; omega)).trans ((HK.out k).trans (by rw [List.getElem?_toArray]; exact keyC_at hlt))
      have cv0 : wr.cell? ⟨N, k, none⟩ = vs[k]? := (hb.cell (p := ⟨N, k, none⟩) (by show N < _; omega)).trans ((HV.out k).trans (by rw [List.getElem?_toArray]))
      obtain ⟨x, hx⟩ : ∃ x, valS (vs.getD k undef) = x := ⟨_, rfl⟩
      have HX := Lib.hid hx
      obtain ⟨key, hkey⟩ : ∃ key, keyN k = key := ⟨_, rfl⟩
      rw [hkey] at ck
      have HKey := Lib.hid hkey
      have hkk : (k : Int) < 18 := by omega
      have hk0 : (0 : Int) ≤ (k : Int) := by omega
      have HO := Lib.hid hO
      have hg : ∀ v, vs[k]? = some v → vs.getD k undef = v := fun v e => by rw [List.getD_eq_getElem?_getD, e]; rfl
      have HG := Lib.hid hg
      have zW := hb.size
      clear hx hkey hO hg
      go_upto_if 13 with fail
      go_cut [6] (fun s6 wx => s6 = .string x ∧ Below wr.heap.size wr wx)
      case first =>
        by_cases h5 : k < 5
        · obtain ⟨n, hn⟩ := (HT.out.2 k hlt).1 h5
          obtain ⟨n1, n2⟩ := HI.out k h5 n hn
          have hv := HX.out
          rw [HG.out _ hn] at hv
          rw [hn] at cv0
          have h5' : (k : Int) < 5 := by omega
          by_cases h0 : n = 0
          · have h0' : (n != 0) = false := by simp [h0]
            have HE : Hid (x = ⟨#[]⟩) := Lib.hid (by rw [← hv]; unfold valS; simp only; rw [if_pos h0])
            clear hv hn h0
            go_wp2
            go_meet
            exact ⟨by rw [HE.out], Below.refl _ _⟩
          · have h0' : (n != 0) = true := by simp [h0]
            have HE : Hid (x = bytesOf (Lib.itoa n)) := Lib.hid (by rw [← hv]; unfold valS; simp only; rw [if_neg h0])
            clear hv hn h0
            go_wp2_with (go_at_call 23; refine (decimal_any n _ n1 n2).mono ?_; rintro e w2 ⟨rfl, hb2⟩)
            go_meet
            exact ⟨by rw [HE.out], hb2⟩
        · by_cases h15 : k < 15
          · obtain ⟨b, hb'⟩ := (HT.out.2 k hlt).2.1 (by omega) h15
            have hv := HX.out
            rw [HG.out _ hb'] at hv
            rw [hb'] at cv0
            have e5 : 5 + (k - 5) = k := by omega
            rw [← e5] at cv0
            have h5' : ¬ (k : Int) < 5 := by omega
            have h15' : (k : Int) < 15 := by omega
            cases b
            · have HE : Hid (x = ⟨#[]⟩) := Lib.hid (by rw [← hv]; rfl)
              clear hv hb' e5
              go_wp2
              go_meet
              exact ⟨by rw [HE.out], Below.refl _ _⟩
            · have HE : Hid (x = ⟨#[121, 101, 115]⟩) := Lib.hid (by rw [← hv]; rfl)
              clear hv hb' e5
              go_wp2
              go_meet
              exact ⟨by rw [HE.out], Below.refl _ _⟩
          · obtain ⟨s, hs⟩ := (HT.out.2 k hlt).2.2 (by omega)
            have hv := HX.out
            rw [HG.out _ hs] at hv
            rw [hs] at cv0
            have e5 : 15 + (k - 15) = k := by omega
            rw [← e5] at cv0
            have h5' : ¬ (k : Int) < 5 := by omega
            have h15' : ¬ (k : Int) < 15 := by omega
            have HE : Hid (x = s) := Lib.hid (by rw [← hv]; rfl)
            clear hv hs e5
            go_wp2
            go_meet
            exact ⟨by rw [HE.out], Below.refl _ _⟩
      case rest =>
        obtain ⟨rfl, hbx⟩ := hcut
        have HO2 := Lib.hid (HO.out.below hbx)
        have ck2 := (hbx.cell (p := ⟨N + 1, k, none⟩) (by show N + 1 < _; omega)).trans ck
        have hl2 : (prsOf vs (jsOf vs k)).length ≤ 36 := by rw [prsOf_len]; have := jsOf_len vs k; omega
        have HL2 := Lib.hid hl2
        clear hl2 ck cv0
        by_cases hx0 : x.size = 0
        · obtain rfl := size_zero hx0
          have HJ : Hid (jsOf vs (k + 1) = jsOf vs k) := Lib.hid (jsOf_no (by unfold nz; rw [HX.out]; rfl))
          go_wp2
          go_roundw
          case rel => exact ⟨k + 1, by omega, by go_num, by rw [HJ.out]; exact HO2.out⟩
          case measure => simp [intOf]; omega
        · have HJ : Hid (prsOf vs (jsOf vs (k + 1)) = prsOf vs (jsOf vs k) ++ [key, x]) := Lib.hid (by rw [prsOf_yes (by unfold nz; rw [HX.out]; simpa using hx0), HX.out, HKey.out])
          have hx1 := str_ne hx0
          have hx2 : (!x.toList.isEmpty) = true := by rw [hx1]; rfl
          clear hx0
          go_upto_region 16 with (at_builtin; (refine wpList_append_seq _ rfl (.tmp 38) (.tmp 43) 22 rfl 16 elStr rfl (HO2.out.alloc _) 1 rfl (SeqAt.new (E := Estr) _ [key] 9) rfl (by have := HL2.out; simp only [maxLen]; omega) (by have := HL2.out; omega) ?_); intro v3 w3 hO3 hg3)
          have HO3 := Lib.hid hO3
          clear hO3 hg3
          go_wp2_with (at_builtin; (refine wpList_append_seq _ rfl (.tmp 45) (.tmp 47) 22 rfl 16 elStr rfl (HO3.out.alloc _) 1 rfl (SeqAt.new (E := Estr) _ [x] 9) rfl (by have := HL2.out; rw [List.length_append]; simp only [maxLen, List.length_singleton]; omega) (by have := HL2.out; rw [List.length_append]; simp only [List.length_singleton]; omega) ?_); intro v4 w4 hO4 hg4)
          go_roundw
          case rel => exact ⟨k + 1, by omega, by go_num, by rw [HJ.out]; simpa using hO4⟩
          case measure => simp [intOf]; omega
    · obtain rfl : k = 18 := by omega
      obtain ⟨A, c, rfl, _, _, hA⟩ := hO.isSeq
      have hl : (prsOf vs (jsOf vs 18)).length ≤ 36 := by rw [prsOf_len]; have := jsOf_len vs 18; omega
      have HPk := Lib.hid (refPack_any A c (prsOf vs (jsOf vs 18)) wr wr.heap.size hA (Nat.le_refl _) (by omega) HP.out)
      obtain ⟨n, hn⟩ : ∃ n, (prsOf vs (jsOf vs 18)).length = n := ⟨_, rfl⟩
      rw [hn] at HPk ⊢
      clear hn hA
      go_wp2_with (go_at_call 10; refine HPk.out.mono ?_; rintro e w2 ⟨rfl, hb2⟩)
      go_ret
      exact ⟨rfl, HBW.out.trans ((hb.mono HBW.out.size).trans (hb2.mono (Nat.le_trans HBW.out.size hb.size)))⟩

end Go.Proofs.YtgekkhkmgfbcdaaDoor
