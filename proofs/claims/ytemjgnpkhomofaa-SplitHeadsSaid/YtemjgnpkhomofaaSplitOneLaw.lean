/- Chapter 13, the walk of SplitOne. -/
import Derived.Test.YtemjgnpkhomofaaSplitOneC
namespace Go.Proofs.Ytemjgnpkhomofaa
open Go.RowKit SetPure UtfPure

theorem intsOf_append (s t : ByteArray) : intsOf (s ++ t) = intsOf s ++ intsOf t := by
  unfold intsOf; rw [ByteArray.data_append, Array.toList_append, List.map_append]
theorem strU_ints {r : Int} (h0 : 0 ≤ r) (h1 : r ≤ 1114111) : intsOf (strU r) = encU r := intsOf_nums (enc_bd h0 h1)
theorem rowOf_same {r : Int} {k : Nat} (hk : k < (encU r).length) : (rowOf r r).getD k (0, 0) = ((encU r).getD k 0, (encU r).getD k 0) := rowOf_at rfl hk

set_option maxHeartbeats 1600000 in
theorem one_any (r : Int) (w : World) : Calls Try.prog 4 #[.int .i64 r] w fun e w' => e = .returned (.bool true) ∧ Below w.heap.size w w' := by
  obtain ⟨bs, hbs⟩ : ∃ b, isScalar r = b := ⟨_, rfl⟩
  cases bs with
  | false =>
    have HS := Lib.hid hbs
    clear hbs
    go_enter Try.func4, Try.ntmps4
    go_wp2_with (first
      | (go_at_call 7; refine (speaks_any _).mono ?_; rintro e w1 ⟨rfl, hb1⟩; have HO := Lib.hid (set_of (IsSeq.new w1 [(r, r)] 39 1 (by simp) (by simp [maxLen])) (by simp)); have HW := Lib.hid (show Below w1.heap.size w1 (w1.alloc (.cells (([(r, r)] : List Rg).flatMap Epair.enc).toArray 39)) from (Below.refl _ w1).alloc (Nat.le_refl _) _))
      | (go_at_call 15; refine HO.out.mono ?_; rintro e w2 ⟨x, o, rfl, hset, hp, hb2⟩; have hsp := one_split hset.2 hp; rw [HS.out] at hsp; have hsp : splitL o = [] := hsp)
      | (go_at_call 9; refine (split_none hset hsp).mono ?_; rintro e w3 ⟨A, c, rfl, hb3⟩)
      | (go_at_call 12; refine (scalar_any r _).mono ?_; rintro e w4 ⟨rfl, rfl⟩; rw [HS.out]))
    go_ret
    have z1 := hb1.size
    have z2 := Nat.le_trans z1 HW.out.size
    have z3 := Nat.le_trans z2 hb2.size
    exact ⟨rfl, ((hb1.trans (HW.out.mono z1)).trans (hb2.mono z2)).trans (hb3.mono z3)⟩
  | true =>
    have HS := Lib.hid hbs
    have hbd : 0 ≤ r ∧ r ≤ 1114111 := by
      simp only [isScalar, Bool.and_eq_true, decide_eq_true_eq] at hbs
      exact hbs.1
    obtain ⟨h0, h1⟩ := hbd
    have HF1 := Lib.hid (show fits (rowOf r r) (intsOf (strU r)) = true by rw [fits_one hbs, strU_ints h0 h1]; simp)
    have HF2 := Lib.hid (show fits (rowOf r r) (intsOf (strU r ++ ⟨#[97]⟩)) = false by
      rw [fits_one hbs, intsOf_append, strU_ints h0 h1]
      refine decide_eq_false fun h => ?_
      have := congrArg List.length h
      simp [intsOf] at this)
    have hl := enc_pos r
    have HSU := Lib.hid (strU_size r)
    have HRL := Lib.hid (show (rowOf r r).length ≤ 1000000 by rw [rowOf_len rfl]; omega)
    clear hbs
    have hsz : (strU r).size ≤ 4 := by rw [strU_size]; exact hl.2
    have HM1 : Hid True := trivial
    obtain ⟨m, hm⟩ : ∃ m, (encU r).length = m := ⟨_, rfl⟩
    have HM := Lib.hid hm
    have hsm : (strU r).size = m := (strU_size r).trans hm
    rw [hm] at hl
    clear hm
    go_enter Try.func4, Try.ntmps4
    go_wp2_with (first
      | (go_at_call 7; refine (speaks_any _).mono ?_; rintro e w1 ⟨rfl, hb1⟩; have HO := Lib.hid (set_of (IsSeq.new w1 [(r, r)] 39 1 (by simp) (by simp [maxLen])) (by simp)); have HW := Lib.hid (show Below w1.heap.size w1 (w1.alloc (.cells (([(r, r)] : List Rg).flatMap Epair.enc).toArray 39)) from (Below.refl _ w1).alloc (Nat.le_refl _) _))
      | (go_at_call 15; refine HO.out.mono ?_; rintro e w2 ⟨x, o, rfl, hset, hp, hb2⟩; have hsp := one_split hset.2 hp; rw [HS.out] at hsp; have hsp : splitL o = [(r, r)] := hsp)
      | (go_at_call 9; refine (split_one hset hsp).mono ?_; rintro e w3 ⟨bb, off, c, g, sc, rfl, hb3, hbb, hcell, hrow⟩; rw [HM.out] at hcell hrow; have HR := Lib.hid hrow; have HC := Lib.hid hcell; clear hrow hcell)
      | (go_at_call 12; refine (scalar_any r _).mono ?_; rintro e w4 ⟨rfl, rfl⟩; rw [HS.out])
      | (go_at_call 14; refine (bytes_any r _ h0 h1).mono ?_; rintro e w5 ⟨rfl, hb5⟩; have hcell5 := (hb5.cell (p := ⟨bb, off, none⟩) hbb).trans HC.out)
      | (go_at_call 16; clear HM1; refine (has_row _ _ _ _ (HR.out.below hb5) HRL.out (by unfold maxLen; omega)).mono ?_; rintro e w6 ⟨rfl, hb6⟩; rw [HF1.out]; have hcell6 := (hb6.cell (p := ⟨bb, off, none⟩) (Nat.lt_of_lt_of_le hbb hb5.size)).trans hcell5)
      | (go_at_call 16; refine (has_row _ _ _ _ ((HR.out.below hb5).below hb6) HRL.out (by unfold maxLen; rw [ByteArray.size_append]; have : (ByteArray.mk #[97]).size = 1 := rfl; omega)).mono ?_; rintro e w7 ⟨rfl, hb7⟩; rw [HF2.out]; have hcell7 := (hb7.cell (p := ⟨bb, off, none⟩) (Nat.lt_of_lt_of_le (Nat.lt_of_lt_of_le hbb hb5.size) hb6.size)).trans hcell6))
    have HW7 := Lib.hid (show Below w.heap.size w w7 ∧ bb < w7.heap.size ∧ IsSeq Epair w7 (.slice (some ⟨g, 0, none⟩) m sc) (rowOf r r) from by
      have z1 := hb1.size
      have z2 := Nat.le_trans z1 HW.out.size
      have z3 := Nat.le_trans z2 hb2.size
      have z4 := Nat.le_trans z3 hb3.size
      have z5 := Nat.le_trans z4 hb5.size
      have z6 := Nat.le_trans z5 hb6.size
      exact ⟨(((((hb1.trans (HW.out.mono z1)).trans (hb2.mono z2)).trans (hb3.mono z3)).trans (hb5.mono z4)).trans (hb6.mono z5)).trans (hb7.mono z6), Nat.lt_of_lt_of_le (Nat.lt_of_lt_of_le (Nat.lt_of_lt_of_le hbb hb5.size) hb6.size) hb7.size, ((HR.out.below hb5).below hb6).below hb7⟩)
    clear hcell5 hcell6 hb1 hb2 hb3 hb5 hb6 hbb HR HC HO HW hset hp hsp
    go_loopw [5] (fun ix wr => ∃ k : Nat, k ≤ m ∧ ix = .int .i64 k ∧ Below w7.heap.size w7 wr) (fun ix _ => m + 1 - (intOf ix).toNat)
    case atStart => exact ⟨0, by omega, rfl, Below.refl _ _⟩
    case round =>
      obtain ⟨k, hk, rfl, hbw⟩ := hrel
      have hz := hbw.size
      by_cases hlt : k < m
      · have hks : k < (strU r).size := by omega
        obtain ⟨hbT, hbb, hsq⟩ := HW7.out
        have hcw := (hbw.cell (p := ⟨bb, off, none⟩) hbb).trans hcell7
        obtain ⟨A, c', hA, _, _, hAt⟩ := hsq.below hbw
        injection hA with hA1 hA2 hA3
        subst hA1
        obtain ⟨b', off', hbo, hb', hc⟩ := hAt.pairs_ (by omega)
        injection hbo with hbo
        injection hbo with hbo1 hbo2 hbo3
        subst hbo1; subst hbo2
        obtain ⟨c0, c1⟩ := hc k (by rw [← hA2]; exact hlt)
        rw [rowOf_same (by rw [HM.out]; exact hlt)] at c0 c1
        obtain ⟨x, hx⟩ : ∃ x, (encU r).getD k 0 = x := ⟨_, rfl⟩
        rw [hx] at c0 c1
        simp only [Nat.zero_add] at c0 c1
        have hsx : (((strU r)[k]'hks).toNat : Int) = x := (strU_at h0 h1 hks).trans hx
        have hxb : 0 ≤ x ∧ x ≤ 255 := by rw [← hx]; exact enc_at_bd h0 h1 k
        obtain ⟨hx0, hx1⟩ := hxb
        have hre : rangeEq x x x x = true := by simp [rangeEq]
        clear hx hc hAt hsq hA2 hA3
        go_wp2
        go_quiet (fail)
        go_wp2
        go_roundw
        case rel => exact ⟨k + 1, by omega, by go_num, below_drewN hbw _⟩
        case measure => simp [intOf]; omega
      · obtain rfl : k = m := by omega
        go_wp2
        go_ret
        exact ⟨rfl, HW7.out.1.trans (hbw.mono HW7.out.1.size)⟩

end Go.Proofs.Ytemjgnpkhomofaa
