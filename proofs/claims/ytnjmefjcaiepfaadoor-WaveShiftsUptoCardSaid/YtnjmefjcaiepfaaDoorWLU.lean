/- The law WaveSums. -/
import Derived.Test.YtnjmefjcaiepfaaDoorWLS
namespace Go.Proofs.YtnjmefjcaiepfaaDoor
open Go.RowKit WaveP

theorem byN_one (c : Nat) (hc : c < 256) : byN (strOfNums [(c : Int)]) 0 = c := by
  unfold byN
  rw [strOfNums_data]
  simp
  omega
theorem agree_one (t s : ByteArray) (c p : Nat) (hs : byN s 0 = c) : agree (byN t) (byN s) 1 p = if byN t p == c then 1 else 0 := by
  show cntN 0 _ + (if (byN t (p + 0) == byN s 0) = true then 1 else 0) = _
  rw [hs]
  show 0 + _ = _
  rw [Nat.zero_add, Nat.add_zero]
theorem agL_byte (t : ByteArray) (c : Nat) (hc : c < 256) : agL t (strOfNums [(c : Int)]) = (List.range t.size).map (fun p => ((if byN t p == c then 1 else 0 : Nat) : Int)) := by
  have h1 : (strOfNums [(c : Int)]).size = 1 := by rw [strOfNums_size]; rfl
  unfold agL
  rw [h1, if_pos ⟨by decide, by decide⟩, Nat.add_sub_cancel]
  refine List.map_congr_left fun p _ => ?_
  rw [agree_one t _ c p (byN_one c hc)]
theorem plN_length (f : Nat → Bool) (k : Nat) : (plN f k).length = cntN k f := by
  induction k with
  | zero => rfl
  | succ k ih =>
    rw [plN_succ, cntN_succ, List.length_append, ih]
    split <;> rfl
theorem getD_map_range (f : Nat → Int) (n p : Nat) (hp : p < n) : ((List.range n).map f).getD p 0 = f p := by
  rw [List.getD_eq_getElem?_getD, List.getElem?_map, List.getElem?_range hp]; rfl
theorem pl_byte (t : ByteArray) (c : Nat) (hc : c < 256) : (plL t (strOfNums [(c : Int)])).length = cntN t.size (fun p => byN t p == c) := by
  have h1 : (strOfNums [(c : Int)]).size = 1 := by rw [strOfNums_size]; rfl
  unfold plL
  rw [plN_length, agL_byte t c hc, h1, List.length_map, List.length_range]
  refine cntN_congr fun p hp => ?_
  unfold isN
  rw [getD_map_range _ _ _ hp]
  cases h : (byN t p == c) <;> simp
theorem plL_none (t : ByteArray) : plL t ⟨#[]⟩ = [] := by
  unfold plL
  rw [agL_far (fun h => absurd h.1 (by decide))]
  rfl

set_option maxHeartbeats 1600000 in
set_option maxRecDepth 100000 in
theorem sums_nat (t : ByteArray) (c : Nat) (w : World) (ht : t.size ≤ 1048576) (hc : c < 256) (hT : ∀ w', Below w.heap.size w w' → TabsW w') :
    Calls Tryd.prog 6 #[.string t, .int .u8 c] w fun e w' => e = .returned (.bool true) ∧ Below w.heap.size w w' := by
  have HT := Lib.hid hT
  have HS := Lib.hid (speaks_any w hT)
  obtain ⟨s, hs⟩ : ∃ s, s = strOfNums [(c : Int)] := ⟨_, rfl⟩
  have hs1 : s.size = 1 := by rw [hs, strOfNums_size]; rfl
  have HA := Lib.hid (fun w1 (hb : Below w.heap.size w w1) => agree_any t s w1 (fun _ => by omega) (by unfold maxLen; omega) (by unfold maxLen; omega) (tabs_later hT hb))
  have HP := Lib.hid (fun w1 (hb : Below w.heap.size w w1) => places_any t s w1 (fun _ => by omega) (by unfold maxLen; omega) (by unfold maxLen; omega) (tabs_later hT hb))
  have HE := Lib.hid (fun w1 (hb : Below w.heap.size w w1) => (plL_none t) ▸ places_any t ⟨#[]⟩ w1 (fun _ => by omega) (by unfold maxLen; omega) (by decide) (tabs_later hT hb))
  obtain ⟨n, hn⟩ : ∃ n, t.size = n := ⟨_, rfl⟩
  obtain ⟨q, hq⟩ : ∃ q : Nat → Bool, q = fun p => byN t p == c := ⟨_, rfl⟩
  have HL := Lib.hid (show agL t s = (List.range n).map (fun p => ((if q p then 1 else 0 : Nat) : Int)) by rw [hs, hq, ← hn]; exact agL_byte t c hc)
  have HN := Lib.hid (show (agL t s).length = n by rw [hs, agL_byte t c hc, List.length_map, List.length_range, hn])
  have HPL := Lib.hid (show (plL t s).length = cntN n q by rw [hs, hq, ← hn]; exact pl_byte t c hc)
  have hcv : ∀ w : World, (convert 31 9 (.slice (some ⟨w.heap.size, 0, none⟩) 1 1)).run Tryd.prog (w.alloc (.cells #[.int .u8 (c : Int)] 5)) = .ok (.string s) (w.alloc (.cells #[.int .u8 (c : Int)] 5)) := fun w => by
    rw [hs]
    exact run_convert_bytes_arg (P := Tryd.prog) _ 31 5 Tryd.underlying31 Tryd.underlying5 w.heap.size 0 1 1 [(c : Int)] rfl (fun i hi => by
      obtain rfl : i = 0 := by omega
      rw [cell_of_row _ _ _ _ _ (0, 0) (heap_alloc_new w _)]; rfl) 9 Tryd.underlying9
  have HQ := Lib.hid (show ∀ k (hk : k < t.size), q k = ((t[k]'hk).toNat == c) from fun k hk => by rw [hq, at_byN hk])
  have hcl : (c : Int) ≤ 255 := by omega
  have hcn := cntN_le n q
  clear hT hs hq
  have HM1 : Hid True := Lib.hid trivial
  have HM2 : Hid True := Lib.hid trivial
  go_enter Tryd.func6, Tryd.ntmps6
  go_wp2_with (go_at_call 10; (refine HS.out.mono ?_); rintro e w1 ⟨rfl, hb1⟩)
  go_loopw [5, 6] (fun m i wr => ∃ k : Nat, k ≤ n ∧ i = .int .i64 k ∧ m = .int .i64 (cntN k q : Nat) ∧ wr = w1) (fun _ i _ => n + 1 - (intOf i).toNat)
  case atStart => exact ⟨0, by omega, rfl, rfl, rfl⟩
  case round =>
    obtain ⟨k, hk, rfl, rfl, hw⟩ := hrel
    obtain rfl : w1 = wr := hw.symm
    by_cases hkn : k < n
    · have hks : k < t.size := by omega
      have HQ2 := HQ.out k hks
      have HC := Lib.hid (cntN_succ k q)
      have hle := cntN_le k q
      obtain ⟨m, hm⟩ : ∃ m, m = cntN k q := ⟨_, rfl⟩
      rw [← hm] at HC hle ⊢
      obtain ⟨x, hx⟩ : ∃ x, (t[k]'hks).toNat = x := ⟨_, rfl⟩
      rw [hx] at HQ2
      have HQ3 := Lib.hid HQ2
      clear hm HQ2
      by_cases hxc : x = c
      · have HC2 := Lib.hid (show cntN (k + 1) q = m + 1 by rw [HC.out, HQ3.out, if_pos (by simp [hxc])])
        go_wp2
        go_roundw
        case rel => exact ⟨k + 1, by omega, by go_num, by rw [HC2.out]; go_num, trivial⟩
        case measure => simp [intOf]; omega
      · have HC2 := Lib.hid (show cntN (k + 1) q = m by rw [HC.out, HQ3.out, if_neg (by simp [hxc]), Nat.add_zero])
        go_wp2
        go_roundw
        case rel => exact ⟨k + 1, by omega, by go_num, by rw [HC2.out], trivial⟩
        case measure => simp [intOf]; omega
    · obtain rfl : k = n := by omega
      obtain ⟨m, hm⟩ : ∃ m, m = cntN k q := ⟨_, rfl⟩
      have HM := Lib.hid hm
      rw [← hm] at hcn HPL ⊢
      clear hm
      have hbA := hb1.alloc hb1.size (.cells #[.int .u8 (c : Int)] 5)
      go_wp2_with (first
        | (go_at_call 16; clear HM1; (refine (HP.out _ hbA).mono ?_); rintro e w2 ⟨v2, rfl, ⟨A2, c2, rfl, hc2, hd2, hS2⟩, hb2⟩; clear hc2 hd2 hS2; (rw [HPL.out]))
        | (go_at_call 13; (refine (HA.out _ (hbA.trans (hb2.mono hbA.size))).mono ?_); rintro e w3 ⟨v3, rfl, ⟨A3, c3, rfl, hc3, hd3, hS3⟩, hb3⟩; have HS3 := Lib.hid hS3; clear hc3 hd3 hS3; (rw [HN.out]))
        | fail)
      have hb3w := (hbA.trans (hb2.mono hbA.size)).trans (hb3.mono (hbA.trans (hb2.mono hbA.size)).size)
      clear hb2 hbA hb1
      go_loopw [9, 11] (fun m i wr => ∃ j : Nat, j ≤ k ∧ i = .int .i64 j ∧ m = .int .i64 (cntN j q : Nat) ∧ wr = w3) (fun _ i _ => k + 1 - (intOf i).toNat)
      case atStart => exact ⟨0, by omega, rfl, rfl, rfl⟩
      case round =>
        obtain ⟨j, hj, rfl, rfl, hw⟩ := hrel
        obtain rfl : w3 = wr := hw.symm
        by_cases hjk : j < k
        · obtain ⟨b, o, rfl, _, hc0⟩ := HS3.out.int_ (show j < (agL t s).length by rw [HN.out]; exact hjk)
          have hv : (agL t s)[j]'(by rw [HN.out]; exact hjk) = ((if q j then 1 else 0 : Nat) : Int) := by
            have h1 : (agL t s).getD j 0 = ((if q j then 1 else 0 : Nat) : Int) := by rw [HL.out]; exact getD_map_range _ _ _ hjk
            rw [← h1, List.getD_eq_getElem?_getD, List.getElem?_eq_getElem (by rw [HN.out]; exact hjk)]; rfl
          rw [hv] at hc0
          have HC := Lib.hid (cntN_succ j q)
          have hle := cntN_le j q
          obtain ⟨m2, hm2⟩ : ∃ m2, m2 = cntN j q := ⟨_, rfl⟩
          rw [← hm2] at HC hle ⊢
          obtain ⟨y, hy⟩ : ∃ y, y = (if q j then 1 else 0 : Nat) := ⟨_, rfl⟩
          have hy2 : y ≤ 1 := by rw [hy]; split <;> omega
          rw [← hy] at HC hc0
          clear hm2 hv hy
          go_wp2
          go_roundw
          case rel => exact ⟨j + 1, by omega, by go_num, by rw [HC.out]; go_num, trivial⟩
          case measure => simp [intOf]; omega
        · obtain rfl : j = k := by omega
          rw [← HM.out]
          go_wp2_with (go_at_call 16; clear HM2; (refine (HE.out _ hb3w).mono ?_); rintro e w4 ⟨v4, rfl, ⟨A4, c4, rfl, hc4, hd4, hS4⟩, hb4⟩; clear hc4 hd4 hS4)
          go_ret
          exact ⟨rfl, hb3w.trans (hb4.mono hb3w.size)⟩

theorem sums_any (t : ByteArray) (a : Int) (w : World) (ht : t.size ≤ 1048576) (ha : (Lit.int .u8 a).wf = true) (hT : ∀ w', Below w.heap.size w w' → TabsW w') :
    Calls Tryd.prog 6 #[.string t, .int .u8 a] w fun e w' => e = .returned (.bool true) ∧ Below w.heap.size w w' := by
  have h : 0 ≤ a ∧ a ≤ 255 := by
    have h1 : IntKind.u8.min = 0 := by decide +kernel
    have h2 : IntKind.u8.max = 255 := by decide +kernel
    simp only [Lit.wf, h1, h2] at ha
    simpa using ha
  obtain ⟨c, rfl⟩ := Int.eq_ofNat_of_zero_le h.1
  exact sums_nat t c w ht (by omega) hT
end Go.Proofs.YtnjmefjcaiepfaaDoor
