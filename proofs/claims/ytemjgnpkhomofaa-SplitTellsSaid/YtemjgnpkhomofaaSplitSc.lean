/- Chapter 13: the walks of the document's Scalar and Fits. -/
import Derived.Test.YtemjgnpkhomofaaSplitTellsP
import Derived.Test.YtemjgnpkhomofaaSplitOneLaw
import Derived.Test.YtemjgnpkhomofaaRefIn
import Derived.Test.YtemjgnpkhomofaaTwo
namespace Go.Proofs.Ytemjgnpkhomofaa
open Go.RowKit SetPure UtfPure

theorem intsOf_inj {s t : ByteArray} (h : intsOf s = intsOf t) : s = t := by
  have h2 : s.data.toList = t.data.toList := by
    refine (List.map_inj_right (f := fun c : UInt8 => (c.toNat : Int)) (fun x y e => ?_)).1 h
    have e1 : (x.toNat : Int) = (y.toNat : Int) := e
    have e2 : x.toNat = y.toNat := by omega
    exact UInt8.toNat_inj.1 e2
  cases s; cases t
  simp only at h2
  rw [Array.toList_inj.1 h2]
theorem str_beq (a b : ByteArray) : (a.toList == b.toList) = decide (a = b) := by
  rw [ByteArray.toList_eq, ByteArray.toList_eq, Bool.eq_iff_iff, beq_iff_eq, decide_eq_true_eq]
  constructor
  · intro h
    cases a; cases b
    simp only at h
    rw [Array.toList_inj.1 h]
  · rintro rfl; rfl
theorem decT_snoc (v : Int) (l : List Int) (x : Int) : decT v (l ++ [x]) = 64 * decT v l + x % 64 := by simp [decT]

set_option maxHeartbeats 1600000 in
theorem refScalar_any (s : ByteArray) (w : World) (hs : s.size ≤ maxLen) : Calls Try.prog 23 #[.string s] w fun e w' => e = .returned (.int .i64 (refSc (intsOf s))) ∧ Below w.heap.size w w' := by
  have hl := intsOf_len s
  unfold maxLen at hs
  by_cases hsz : 1 ≤ s.size ∧ s.size ≤ 4
  · have hpos : 0 < s.size := by omega
    have HAT := Lib.hid (fun k (hk : k < s.size) => intsOf_at s hk)
    have HSD := Lib.hid (fun k (hk : k < s.size) => intsOf_bd s hk)
    obtain ⟨c0, hc0⟩ : ∃ c0 : Int, ((s[0]'hpos).toNat : Int) = c0 := ⟨_, rfl⟩
    have x0 := HAT.out 0 hpos
    have b0 := HSD.out 0 hpos
    rw [hc0] at x0 b0
    obtain ⟨b00, b01⟩ := b0
    have HX0 := Lib.hid x0
    have m31 : bits BinOp.and IntKind.i64 c0 31 = c0 % 32 := and_low c0 5 (by decide) b00 (by omega)
    have m15 : bits BinOp.and IntKind.i64 c0 15 = c0 % 16 := and_low c0 4 (by decide) b00 (by omega)
    have m7 : bits BinOp.and IntKind.i64 c0 7 = c0 % 8 := and_low c0 3 (by decide) b00 (by omega)
    obtain ⟨v, hv⟩ : ∃ v, decU (intsOf s) = v := ⟨_, rfl⟩
    have HV := Lib.hid hv
    have HLL := Lib.hid hl
    -- what the scalar's test and the bytes' test say
    have HRS := Lib.hid (fun h : isScalar v = false => show refSc (intsOf s) = -1 by
      unfold refSc; rw [hv, if_neg (by simp [h])])
    have HRN := Lib.hid (fun (h : isScalar v = true) (h2 : strU v ≠ s) => show refSc (intsOf s) = -1 by
      unfold refSc
      rw [hv, if_neg]
      rintro ⟨_, _, h3⟩
      exact h2 (intsOf_inj ((strU_ints (scalar_bd h).1 (scalar_bd h).2).trans h3)))
    have HRY := Lib.hid (fun (h : isScalar v = true) (h2 : strU v = s) => show refSc (intsOf s) = v by
      unfold refSc
      rw [hv, if_pos ⟨by omega, h, by rw [← strU_ints (scalar_bd h).1 (scalar_bd h).2, h2]⟩])
    have HBD := Lib.hid (fun h : isScalar v = true => scalar_bd h)
    clear hs hv x0
    have h4 : s.size = 1 ∨ s.size = 2 ∨ s.size = 3 ∨ s.size = 4 := by omega
    clear hsz
    rcases h4 with hn | hn | hn | hn
    · obtain rfl : c0 = v := by
        rw [← HV.out]
        unfold decU
        rw [HLL.out, if_pos hn, HX0.out]
      clear hl m31 m15 m7 HV
      go_enter Try.func23, Try.ntmps23
      go_upto_region 11 with (fail)
      obtain ⟨bs, hbs⟩ : ∃ b, isScalar c0 = b := ⟨_, rfl⟩
      have HSB := Lib.hid hbs
      cases bs with
      | false =>
        have HF := Lib.hid (HRS.out hbs)
        clear hbs
        go_wp2_with (go_at_call 12; refine (scalar_any c0 _).mono ?_; rintro e w6 ⟨rfl, rfl⟩; rw [HSB.out])
        go_ret
        exact ⟨ret_int HF.out.symm, Below.refl _ _⟩
      | true =>
        have hbd := HBD.out hbs
        by_cases heq : strU c0 = s
        · have HF := Lib.hid (HRY.out hbs heq)
          have hne : ((strU c0).toList == s.toList) = true := by rw [str_beq]; exact decide_eq_true heq
          clear hbs heq
          go_wp2_with (first
            | (go_at_call 12; refine (scalar_any c0 _).mono ?_; rintro e w6 ⟨rfl, rfl⟩; rw [HSB.out])
            | (go_at_call 14; refine (bytes_any c0 _ hbd.1 hbd.2).mono ?_; rintro e w7 ⟨rfl, hb7⟩))
          go_ret
          exact ⟨ret_int HF.out.symm, hb7⟩
        · have HF := Lib.hid (HRN.out hbs heq)
          have hne : ((strU c0).toList == s.toList) = false := by rw [str_beq]; exact decide_eq_false heq
          clear hbs heq
          go_wp2_with (first
            | (go_at_call 12; refine (scalar_any c0 _).mono ?_; rintro e w6 ⟨rfl, rfl⟩; rw [HSB.out])
            | (go_at_call 14; refine (bytes_any c0 _ hbd.1 hbd.2).mono ?_; rintro e w7 ⟨rfl, hb7⟩))
          go_ret
          exact ⟨ret_int HF.out.symm, hb7⟩
    all_goals
      go_enter Try.func23, Try.ntmps23
      go_upto_region 6 with (fail)
      go_quiet (fail)
      go_wp2
      go_loopw [3, 4] (fun vx ix wr => ∃ (k : Nat) (u : Int), 1 ≤ k ∧ k ≤ s.size ∧ ix = .int .i64 k ∧ vx = .int .i64 u ∧ Hid (u = decT (headM s.size c0) (((intsOf s).drop 1).take (k - 1))) ∧ (0 ≤ u ∧ ((k = 1 ∧ u < 32) ∨ (k = 2 ∧ u < 2048) ∨ (k = 3 ∧ u < 131072) ∨ (k = 4 ∧ u < 8388608))) ∧ Below w.heap.size w wr) (fun _ ix _ => s.size + 1 - (intOf ix).toNat)
      case atStart => exact ⟨1, _, by omega, by omega, rfl, rfl, Lib.hid (by simp [decT, headM, hn]), by omega, below_drewN (Below.refl _ _) _⟩
      case round =>
        obtain ⟨k, u, hk1, hk, rfl, rfl, hu, ⟨hu0, hub⟩, hbw⟩ := hrel
        by_cases hlt : k < s.size
        · obtain ⟨ck, hck⟩ : ∃ ck : Int, ((s[k]'hlt).toNat : Int) = ck := ⟨_, rfl⟩
          have xk := HAT.out k hlt
          have bk := HSD.out k hlt
          rw [hck] at xk bk
          obtain ⟨bk0, bk1⟩ := bk
          have mk : bits BinOp.and IntKind.i64 ck 63 = ck % 64 := and63 ck bk0 (by omega)
          have HN := Lib.hid (show 64 * u + ck % 64 = decT (headM s.size c0) (((intsOf s).drop 1).take k) by
            have hx : ((intsOf s).drop 1).getD (k - 1) 0 = ck := by
              rw [← xk, List.getD_eq_getElem?_getD, List.getD_eq_getElem?_getD, List.getElem?_drop, show 1 + (k - 1) = k by omega]
            have ht := take_nextG (l := (intsOf s).drop 1) (k := k - 1) (by rw [List.length_drop, HLL.out]; omega) hx
            rw [show k - 1 + 1 = k by omega] at ht
            rw [ht, decT_snoc, ← hu.out])
          have hki : (k : Int) < (s.size : Int) := by omega
          clear xk
          go_wp2
          go_roundw
          case rel => exact ⟨k + 1, 64 * u + ck % 64, by omega, by omega, by go_num, rfl, by simpa using HN, by omega, hbw⟩
          case measure => simp [intOf]; omega
        · obtain rfl : k = s.size := by omega
          obtain rfl : u = v := by
            rw [← HV.out, hu.out]
            unfold decU
            rw [HLL.out, if_neg (by omega), HX0.out, List.take_of_length_le (by rw [List.length_drop, HLL.out]; exact Nat.le_refl _)]
          clear hu
          obtain ⟨bs, hbs⟩ : ∃ b, isScalar u = b := ⟨_, rfl⟩
          have HSB := Lib.hid hbs
          cases bs with
          | false =>
            have HF := Lib.hid (HRS.out hbs)
            clear hbs
            go_wp2_with (go_at_call 12; refine (scalar_any u _).mono ?_; rintro e w6 ⟨rfl, rfl⟩; rw [HSB.out])
            go_ret
            exact ⟨ret_int HF.out.symm, hbw⟩
          | true =>
            have hbd := HBD.out hbs
            by_cases heq : strU u = s
            · have HF := Lib.hid (HRY.out hbs heq)
              have hne : ((strU u).toList == s.toList) = true := by rw [str_beq]; exact decide_eq_true heq
              clear hbs heq
              go_wp2_with (first
                | (go_at_call 12; refine (scalar_any u _).mono ?_; rintro e w6 ⟨rfl, rfl⟩; rw [HSB.out])
                | (go_at_call 14; refine (bytes_any u _ hbd.1 hbd.2).mono ?_; rintro e w7 ⟨rfl, hb7⟩))
              go_ret
              exact ⟨ret_int HF.out.symm, hbw.trans (hb7.mono hbw.size)⟩
            · have HF := Lib.hid (HRN.out hbs heq)
              have hne : ((strU u).toList == s.toList) = false := by rw [str_beq]; exact decide_eq_false heq
              clear hbs heq
              go_wp2_with (first
                | (go_at_call 12; refine (scalar_any u _).mono ?_; rintro e w6 ⟨rfl, rfl⟩; rw [HSB.out])
                | (go_at_call 14; refine (bytes_any u _ hbd.1 hbd.2).mono ?_; rintro e w7 ⟨rfl, hb7⟩))
              go_ret
              exact ⟨ret_int HF.out.symm, hbw.trans (hb7.mono hbw.size)⟩
  · have HF := Lib.hid (show refSc (intsOf s) = -1 by unfold refSc; rw [hl, if_neg (fun h => hsz h.1)])
    have h2 : ((s.size : Int) == 0) = true ∨ ((s.size : Int) == 0) = false ∧ decide ((4 : Int) < s.size) = true := by
      rcases Nat.eq_zero_or_pos s.size with h | h
      · left; simp [h]
      · right; exact ⟨beq_eq_false_iff_ne.2 (by omega), decide_eq_true (by omega)⟩
    rcases h2 with h2 | ⟨h2, h3⟩
    all_goals
      clear hsz hl
      go_enter Try.func23, Try.ntmps23
      go_wp2
      go_ret
      exact ⟨ret_int HF.out.symm, Below.refl _ _⟩

set_option maxHeartbeats 800000 in
theorem refFits_any (A : Option Addr) (c : Nat) (l : List Rg) (s : ByteArray) (w : World) (hl : l.length ≤ 8796093022208) (hA : SeqAt Epair w w.heap.size A l) (hs : s.size ≤ maxLen) :
    Calls Try.prog 10 #[.slice A l.length c, .string s] w fun e w' => e = .returned (.bool (decide (0 ≤ refSc (intsOf s)) && inB l (refSc (intsOf s)))) ∧ Below w.heap.size w w' := by
  have HA := Lib.hid hA
  have HR := Lib.hid (refScalar_any s w hs)
  clear hA
  obtain ⟨v, hv⟩ : ∃ v, refSc (intsOf s) = v := ⟨_, rfl⟩
  rw [hv] at HR ⊢
  clear hv
  by_cases h0 : 0 ≤ v
  · rw [decide_eq_true h0, Bool.true_and]
    go_enter Try.func10, Try.ntmps10
    go_wp2_with (first
      | (go_at_call 23; refine HR.out.mono ?_; rintro e w1 ⟨rfl, hb1⟩)
      | (go_at_call 13; refine (refIn_any A c w1.heap.size l v w1 hl ((HA.out.below hb1).more hb1.size) (Nat.le_refl _)).mono ?_; rintro e w2 ⟨rfl, hb2⟩))
    go_ret
    exact ⟨rfl, hb1.trans (hb2.mono hb1.size)⟩
  · rw [decide_eq_false h0, Bool.false_and]
    go_enter Try.func10, Try.ntmps10
    go_wp2_with (go_at_call 23; refine HR.out.mono ?_; rintro e w1 ⟨rfl, hb1⟩)
    go_ret
    exact ⟨rfl, hb1⟩

end Go.Proofs.Ytemjgnpkhomofaa
