/- The walk of the law WaveBack: the second list is shorter. -/
import Derived.Test.YtnjmefjcaiepfaaDoorWLB
namespace Go.Proofs.YtnjmefjcaiepfaaDoor
open Go.RowKit WaveP WaveP.Cx
attribute [local go_sem] run_store_complex3

set_option maxHeartbeats 3200000 in
set_option maxRecDepth 100000 in
theorem back_law2 (A A' : Option Addr) (c c' : Nat) (re im : List Int) (nn : Int) (w : World) (ha : re.length ≤ 1048576) (hb : im.length ≤ 1048576) (hA : SeqAt Eint w w.heap.size A re) (hA' : SeqAt Eint w w.heap.size A' im) (hT : ∀ w', Below w.heap.size w w' → TabsW w')
    (hcase : im.length < re.length) :
    Calls Tryd.prog 3 #[.slice A re.length c, .slice A' im.length c', .int .i64 nn] w fun e w' => e = .returned (.bool true) ∧ Below w.heap.size w w' := by
  have HA := Lib.hid hA
  have HB := Lib.hid hA'
  have HT := Lib.hid hT
  have HS := Lib.hid (speaks_any w hT)
  obtain ⟨la, hla⟩ : ∃ la, la = re.length := ⟨_, rfl⟩
  obtain ⟨lb, hlb⟩ : ∃ lb, lb = im.length := ⟨_, rfl⟩
  have HLA := Lib.hid hla
  have HLB := Lib.hid hlb
  rw [← hla] at ha ⊢
  rw [← hlb] at hb ⊢
  rw [← hla, ← hlb] at hcase
  obtain ⟨k, hkk⟩ : ∃ k, k = lb := ⟨_, rfl⟩
  have hk1 : k ≤ la := by omega
  have hk2 : k ≤ lb := by omega
  have HK3 := Lib.hid hkk
  have HCS := Lib.hid hcase
  clear hla hlb hA hA' hT hkk hcase
  go_enter Tryd.func3, Tryd.ntmps3
  go_wp2_with (go_at_call 10; (refine HS.out.mono ?_); rintro e w1 ⟨rfl, hb1⟩; have HA1 := Lib.hid (SeqAt.on' HA.out hb1); have HB1 := Lib.hid (SeqAt.on' HB.out hb1))
  go_loopw [7, 8] (fun vx i wr => ∃ j : Nat, j ≤ k ∧ i = .int .i64 j ∧ Hid (XsB re im k w1 wr vx j)) (fun _ i _ => k + 1 - (intOf i).toNat)
  case atStart => exact ⟨0, by omega, rfl, Lib.hid (Own.nil_ w1)⟩
  case round =>
    obtain ⟨j, hj, rfl, HX⟩ := hrel
    have hbe := HX.out.2
    by_cases hjk : j < k
    · obtain ⟨ba, oa, rfl, hba, hca⟩ := HA1.out.ints_ (by have := HLA.out; omega)
      obtain ⟨bb, ob, rfl, hbb, hcb⟩ := HB1.out.ints_ (by have := HLB.out; omega)
      have c0 := (hbe.cell (p := ⟨ba, oa + j, none⟩) hba).trans (hca j (by rw [← HLA.out]; omega))
      have c1 := (hbe.cell (p := ⟨bb, ob + j, none⟩) hbb).trans (hcb j (by rw [← HLB.out]; omega))
      obtain ⟨x, hx⟩ : ∃ x, x = re.getD j 0 := ⟨_, rfl⟩
      obtain ⟨y, hy⟩ : ∃ y, y = im.getD j 0 := ⟨_, rfl⟩
      rw [← hx] at c0
      rw [← hy] at c1
      obtain ⟨x1, x2⟩ := low9_range x
      obtain ⟨y1, y2⟩ := low9_range y
      have hgw : gwB re im k j = (wI (low9 x), wI (low9 y)) := by unfold gwB; rw [if_pos hjk, hx, hy]; rfl
      have HGW := Lib.hid hgw
      have HNX := Lib.hid (range_cx (gwB re im k) j)
      obtain ⟨p, hp⟩ : ∃ p, p = low9 x := ⟨_, rfl⟩
      obtain ⟨q, hq⟩ : ∃ q, q = low9 y := ⟨_, rfl⟩
      have hw1 : IntKind.i64.wrap (bits .and .i64 x 511 - 255) = p := by rw [hp]; exact IntWalk.i64_in _ (by unfold low9 at x1 x2; omega)
      have hw2 : IntKind.i64.wrap (bits .and .i64 y 511 - 255) = q := by rw [hq]; exact IntWalk.i64_in _ (by unfold low9 at y1 y2; omega)
      rw [← hp, ← hq] at HGW
      obtain ⟨p1, hp1⟩ : ∃ p1, floatOfInt .f64 p = p1 := ⟨_, rfl⟩
      obtain ⟨q1, hq1⟩ : ∃ q1, floatOfInt .f64 q = q1 := ⟨_, rfl⟩
      have HGW2 := Lib.hid (show gwB re im k j = (p1, q1) by rw [HGW.out, ← hp1, ← hq1]; rfl)
      have HXd : Hid (Own Ecx 25 w1 wr u7 ((List.range j).map (gwB re im k))) := HX
      clear hca hcb hx hy hgw HGW hp hq x1 x2 y1 y2
      have t1 : j < la := by omega
      have t2 : j < lb := by omega
      go_upto_region 7 with fail
      go_region_law (refine step_append_seq rfl (.tmp 31) (.tmp 47) 24 rfl 16 elCx rfl (by first | exact (HXd.out.alloc _).drew | exact HXd.out.alloc _ | exact (HXd.out.drew).alloc _) 1 rfl (by first | exact SeqAt.new (E := Ecx) _ [(p1, q1)] 25 | exact (SeqAt.new (E := Ecx) _ [(p1, q1)] 25).drew) rfl (by rw [List.length_map, List.length_range]; unfold maxLen; omega) (by rw [List.length_map, List.length_range]; omega) ?_; intro v2 w2 hO2 hg2; (rw [← HGW2.out, HNX.out] at hO2); have HX2 := Lib.hid (show XsB re im k w1 w2 v2 (j + 1) from hO2); clear hO2 hg2)
      all_goals
        go_wp2
        exact ⟨⟨j + 1, by omega, by go_num, HX2⟩, by simp [intOf]; omega⟩
    · obtain rfl : j = k := by omega
      obtain ⟨w2, rfl⟩ : ∃ w2 : World, w2 = wr := ⟨_, rfl⟩
      have HX2 : ∃ (A7 : Option Addr) (c7 : Nat), u7 = .slice A7 j c7 := by
        obtain ⟨A7, c7, e, _⟩ := HX.out.isSeq
        rw [List.length_map, List.length_range] at e
        exact ⟨A7, c7, e⟩
      obtain ⟨A7, c7, rfl⟩ := HX2
      have t1 : j < la := by have := HK3.out; have := HCS.out; omega
      have t2 : ¬ j < lb := by have := HK3.out; omega
      have HWB := Lib.hid (hb1.trans (hbe.mono hb1.size))
      have hb1w := Lib.hid hb1
      have hj20 : j ≤ 1048576 := by omega
      clear hb1 hbe hj hjk hk1 hk2 HK3 HA HB HA1 HB1
      go_wp2
      go_loopw [9] (fun i wx => ∃ l : Nat, l ≤ 13 ∧ i = .int .i64 ((2 ^ l : Nat) : Int) ∧ wx = w2 ∧ Hid (∀ p, l = p + 1 → 2 ^ p < j)) (fun i _ => 16385 - (intOf i).toNat)
      case atStart => exact ⟨0, by omega, rfl, rfl, Lib.hid fun p hp => absurd hp (by omega)⟩
      case round =>
        obtain ⟨l, hl, rfl, hw, HLO⟩ := hrel
        obtain rfl : w2 = wr := hw.symm
        obtain ⟨n, hn⟩ : ∃ n, n = 2 ^ l := ⟨_, rfl⟩
        have hn0 : 0 < n := by rw [hn]; exact Nat.two_pow_pos l
        have hn1 : n ≤ 8192 := by
          have : 2 ^ l ≤ 2 ^ 13 := Nat.pow_le_pow_right (by decide) hl
          omega
        have HNP := Lib.hid hn
        rw [← hn]
        by_cases hlt : n < j ∧ n ≤ 4096
        · obtain ⟨q1, q2⟩ := hlt
          have hl3 : l + 1 ≤ 13 := by
            refine Nat.le_of_not_lt fun h => ?_
            have h13 : l = 13 := by omega
            rw [h13] at hn
            omega
          have HLO2 := Lib.hid (show ∀ p, l + 1 = p + 1 → 2 ^ p < j from fun p hp => by
            obtain rfl : p = l := by omega
            rw [← HNP.out]; exact q1)
          clear hn
          go_wp2
          exact ⟨⟨l + 1, hl3, by rw [Nat.pow_succ, ← HNP.out]; go_num, trivial, HLO2⟩, by simp [intOf]; omega⟩
        · clear hn
          by_cases h4 : 4096 < n
          · have hj4 : 4096 < j := by
              have h13 : l = 13 := by
                refine Nat.le_antisymm hl (Nat.le_of_not_lt fun h => ?_)
                have : 2 ^ l ≤ 2 ^ 12 := Nat.pow_le_pow_right (by decide) (by omega)
                have := HNP.out
                omega
              exact HLO.out 12 h13
            have HTN := Lib.hid (none_any A7 j c7 false w2 (by unfold maxLen; omega) (.inr (.inl hj4)))
            by_cases q1 : n < j
            · have q2 : ¬ n ≤ 4096 := by omega
              go_wp2_with (go_at_call 11; (refine HTN.out.mono ?_); rintro e w3 ⟨rfl, rfl⟩)
              go_ret
              exact ⟨rfl, HWB.out⟩
            · go_wp2_with (go_at_call 11; (refine HTN.out.mono ?_); rintro e w3 ⟨rfl, rfl⟩)
              go_ret
              exact ⟨rfl, HWB.out⟩
          · have q1 : ¬ n < j := by omega
            have hl12 : l ≤ 12 := by
              refine Nat.le_of_not_lt fun h => ?_
              have h13 : l = 13 := by omega
              have := HNP.out
              rw [h13] at this
              omega
            have hjn : j ≤ n := by omega
            have hn4 : n ≤ 4096 := by omega
            have HTW := Lib.hid (tabs_later HT.out HWB.out)
            have HTR := Lib.hid (show ∀ b, Calls Tryd.prog 11 #[.slice A7 j c7, .bool b] w2 (fun e w' => ∃ (A10 : Option Addr) (ln c10 : Nat), e = .returned (.slice A10 ln c10) ∧ ((ln = 0 ∧ (j = 0 ∨ j ≠ n)) ∨ (ln = j ∧ j = n ∧ 0 < j)) ∧ Below w2.heap.size w2 w') from fun b => by
              by_cases e0 : j = 0
              · refine (none_any A7 j c7 b w2 (by unfold maxLen; omega) (.inl e0)).mono ?_
                rintro e w' ⟨rfl, rfl⟩
                exact ⟨none, 0, 0, rfl, .inl ⟨rfl, .inl e0⟩, Below.refl _ _⟩
              · by_cases en : j = n
                · obtain ⟨Ax, cx, ev, _, _, hs⟩ := HX.out.isSeq
                  rw [List.length_map, List.length_range] at ev
                  injection ev with e1 e2 e3
                  subst e1
                  obtain ⟨bx, ox, rfl, _, hc⟩ := hs.cx_ (by omega)
                  refine (trans_len bx ox c7 j l (gwB re im j) (pxB re im j) b w2 hl12 (by rw [en]; exact HNP.out) hc (fun i _ => gwB_near re im j i) (pxB_bd re im j) HTW.out).mono ?_
                  rintro e w' ⟨A10, rfl, hb⟩
                  exact ⟨A10, j, j, rfl, .inr ⟨rfl, en, by omega⟩, hb⟩
                · refine (none_any A7 j c7 b w2 (by unfold maxLen; omega) (.inr (.inr fun L _ => ?_))).mono ?_
                  · have hl0 : l ≠ 0 := fun h => by have := HNP.out; rw [h] at this; omega
                    obtain ⟨p, rfl⟩ : ∃ p, l = p + 1 := ⟨l - 1, by omega⟩
                    exact between_pow (l := p) (HLO.out p rfl) (by rw [← HNP.out]; omega)
                  · rintro e w' ⟨rfl, rfl⟩
                    exact ⟨none, 0, 0, rfl, .inl ⟨rfl, .inr en⟩, Below.refl _ _⟩)
            clear hlt h4 q1
            go_upto_region 13 with fail
            go_cut [10] (fun s10 wx => ∃ (A10 : Option Addr) (ln c10 : Nat), s10 = .slice A10 ln c10 ∧ ((ln = 0 ∧ (j = 0 ∨ j ≠ n)) ∨ (ln = j ∧ j = n ∧ 0 < j)) ∧ Below w2.heap.size w2 wx)
            case first =>
              go_wp2_with (go_at_call 11; (refine (HTR.out _).mono ?_); rintro e w3 ⟨A10, ln, c10, rfl, h10, hb3⟩)
              go_meet
              exact ⟨A10, ln, c10, rfl, h10, hb3⟩
            case rest => as_aux_lemma =>
              obtain ⟨A10, ln, c10, rfl, h10, hb3⟩ := hcut
              obtain ⟨w3, rfl⟩ : ∃ w3 : World, w3 = wc := ⟨_, rfl⟩
              go_upto_region 14 with fail
              go_cut [7, 8, 9, 10, 106] (fun s7 _ s9 _ s106 wx => s7 = .slice A7 j c7 ∧ s9 = .int .i64 n ∧ s106 = .bool false ∧ wx = w3)
              case first =>
                rcases h10 with ⟨rfl, h10 | h10⟩ | ⟨rfl, rfl, h10⟩
                · subst h10
                  go_wp2
                  (go_meet; exact ⟨rfl, rfl, rfl, rfl⟩)
                · by_cases hj0 : j = 0
                  · subst hj0
                    go_wp2
                    (go_meet; exact ⟨rfl, rfl, rfl, rfl⟩)
                  · have hnj : ¬ n = j := fun h => h10 h.symm
                    have hj1 : ¬ 0 = j := fun h => hj0 h.symm
                    have hj2 : 0 < j := by omega
                    have hq1 : ((0 : Int) == (j : Int)) = false := beq_false_of_ne (by omega)
                    have hq2 : ((n : Int) == (j : Int)) = false := beq_false_of_ne (by omega)
                    go_wp2
                    (go_meet; exact ⟨rfl, rfl, rfl, rfl⟩)
                · have hj0 : ¬ ln = 0 := by omega
                  go_wp2
                  (go_meet; exact ⟨rfl, rfl, rfl, rfl⟩)
              case rest => as_aux_lemma =>
                obtain ⟨rfl, rfl, rfl, hw3⟩ := hcut
                obtain rfl : w3 = wc := hw3.symm
                have HWC := Lib.hid (HWB.out.trans (hb3.mono HWB.out.size))
                have HX3 : Hid (Own Ecx 25 w1 w3 (.slice A7 j c7) ((List.range j).map (gwB re im j))) := Lib.hid (HX.out.below hb3)
                have hbw13 := HX3.out.2
                clear h10 HX HTR HTW hb3
                go_wp2
                go_loopw [7] (fun v wr => ∃ (i : Nat) (Ai : Option Addr) (ci : Nat), j ≤ i ∧ i ≤ n ∧ v = .slice Ai i ci ∧ Hid (Own Ecx 25 w1 wr (.slice Ai i ci) ((List.range i).map (gwB re im j)))) (fun v _ => n + 1 - lenV v)
                case atStart => exact ⟨j, A7, c7, Nat.le_refl _, hjn, rfl, HX3⟩
                case round =>
                  obtain ⟨i, Ai, ci, hji, hin, rfl, HXi⟩ := hrel
                  clear HX3
                  by_cases hi : i < n
                  · have hz : gwB re im j i = (0, 0) := by unfold gwB; rw [if_neg (by omega)]
                    have HNX := Lib.hid (hz ▸ range_cx (gwB re im j) i)
                    clear hz
                    go_wp2_with (at_builtin; (refine wpList_append_seq _ rfl (.tmp 111) (.tmp 112) 24 rfl 16 elCx rfl (HXi.out.alloc _) 1 rfl (SeqAt.new (E := Ecx) _ [(0, 0)] 25) rfl (by rw [List.length_map, List.length_range]; unfold maxLen; omega) (by rw [List.length_map, List.length_range]; omega) ?_)
                                 intro v2 w4 hO2 hg2
                                 rw [HNX.out] at hO2
                                 obtain ⟨A2, c2, rfl, _, _, _⟩ := hO2.isSeq
                                 rw [List.length_map, List.length_range] at hO2
                                 have HX4 := Lib.hid hO2
                                 rw [List.length_map, List.length_range]
                                 clear hO2 hg2)
                    exact ⟨⟨i + 1, A2, c2, by omega, by omega, rfl, HX4⟩, by simp only [lenV]; omega⟩
                  · obtain rfl : i = n := by omega
                    have hin2 : ¬ i < i := by omega
                    have hji2 : ¬ i < j := by omega
                    have HWI := Lib.hid (hb1w.out.trans (HXi.out.2.mono hb1w.out.size))
                    obtain ⟨Ax, cx, ev, _, _, hs⟩ := HXi.out.isSeq
                    rw [List.length_map, List.length_range] at ev
                    injection ev with e1 e2 e3
                    subst e1
                    subst e3
                    have HSX := Lib.hid hs
                    obtain ⟨w4, rfl⟩ : ∃ w4 : World, w4 = wr := ⟨_, rfl⟩
                    clear hs HXi hji hin hi HLO HWC hbw13
                    go_upto_region 18 with fail
                    go_cut [11] (fun s11 wx => ∃ (A11 : Option Addr) (c11 : Nat), s11 = .slice A11 i c11 ∧ Hid (SeqAt Ecx wx wx.heap.size A11 ((List.range i).map (gwB re im j))) ∧ Below w4.heap.size w4 wx)
                    case first =>
                      go_wp2_with (at_builtin; (refine copy_stepC rfl (.tmp 114) (.tmp 115) rfl rfl rfl HSX.out (by simp) (by omega) ?_); intro A11 c11 w5 hb5 hS5)
                      go_meet
                      exact ⟨A11, c11, rfl, Lib.hid hS5, hb5⟩
                    case rest => as_aux_lemma =>
                      obtain ⟨A11, c11, rfl, HSW, hb5⟩ := hcut
                      obtain ⟨w5, rfl⟩ : ∃ w5 : World, w5 = wc := ⟨_, rfl⟩
                      have hb15 := HWI.out.trans (hb5.mono HWI.out.size)
                      have HT5 := Lib.hid (tabs_later HT.out hb15)
                      have HSXb := Lib.hid ((HSX.out.below hb5).more hb5.size)
                      obtain ⟨bx, ox, rfl, hbx, hcx⟩ := HSXb.out.cx_ hn0
                      obtain ⟨bw, ow, rfl, hbw, hcw⟩ := HSW.out.cx_ hn0
                      have HCX := Lib.hid hcx
                      have HCW := Lib.hid hcw
                      have HGN := Lib.hid (gwB_near re im j)
                      have HBD := Lib.hid (pxB_bd re im j)
                      have HM1 : Hid True := Lib.hid trivial
                      have HM2 : Hid True := Lib.hid trivial
                      clear hcx hcw hb5 HSX
                      go_upto_region 19 with fail
                      go_cut [12] (fun s12 wx => ∃ (by_ : Nat) (gy : Nat → Nat × Nat), s12 = .slice (some ⟨by_, 0, none⟩) i i ∧ wx.rowIs by_ 25 i (fun p => cpx (gy p)) ∧ Below w5.heap.size w5 wx ∧ Hid (∀ p, p < i → NrB (gy p).1 (pxB re im j p).re ∧ NrB (gy p).2 (pxB re im j p).im))
                      case first =>
                        go_wp2_with (first
                          | (go_at_call 11; clear HM1; (refine (forth_any bx ox ci i l (gwB re im j) (pxB re im j) 0 384 w5 hl12 HNP.out HCX.out (fun p _ => HGN.out p) HBD.out (by decide +kernel) (by decide +kernel) (by decide +kernel) HT5.out).mono ?_); rintro e w6 ⟨g6, rfl, hb6, hr6, hN6⟩)
                          | (go_at_call 11; clear HM2; (refine (back_any w5.heap.size 0 i i l g6 (F (Zn true) l (pxB re im j)) EB V21 w6 hl12 HNP.out (fun p hp => by rw [Nat.zero_add]; exact hr6.cell hp) (fun p hp => (hN6 p hp).mono (el_bk hl12)) (bd_bk hl12 HBD.out) (by decide +kernel) (by decide +kernel) (by decide +kernel) (fun q p hp hq => (back_quo hl12 HNP.out hp HBD.out hq).imp fun _ h => h.1) (tabs_later HT5.out hb6)).mono ?_); rintro e w7 ⟨g7, g8, rfl, hb7, hr7, hq7⟩)
                          | fail)
                        go_meet
                        refine ⟨_, g8, rfl, hr7, hb6.trans (hb7.mono hb6.size), Lib.hid fun p hp => ?_⟩
                        obtain ⟨h1, h2⟩ := hq7 p hp
                        obtain ⟨q, e1, e2⟩ := back_quo hl12 HNP.out hp HBD.out h2
                        have e3 : some q = some (g8 p) := e1.symm.trans h1
                        injection e3 with e3
                        rw [← e3]
                        exact e2
                      case rest => as_aux_lemma =>
                        obtain ⟨by_, gy, rfl, hry, hb6, HNY⟩ := hcut
                        obtain ⟨w6, rfl⟩ : ∃ w6 : World, w6 = wc := ⟨_, rfl⟩
                        have hlby : by_ < w6.heap.size := hry.lt
                        have hw56 := hb6.size
                        have CY := Lib.hid (show ∀ p, p < i → w6.cell? ⟨by_, p, none⟩ = some (.complex .f64 (gy p).1 (gy p).2) from fun p hp => hry.cell hp)
                        have CX := Lib.hid (show ∀ p, p < i → w6.cell? ⟨bx, ox + p, none⟩ = some (.complex .f64 (gwB re im j p).1 (gwB re im j p).2) from fun p hp => (hb6.cell (p := ⟨bx, ox + p, none⟩) hbx).trans (HCX.out p hp))
                        have CW := Lib.hid (show ∀ p, p < i → w6.cell? ⟨bw, ow + p, none⟩ = some (.complex .f64 (gwB re im j p).1 (gwB re im j p).2) from fun p hp => (hb6.cell (p := ⟨bw, ow + p, none⟩) hbw).trans (HCW.out p hp))
                        have hb16 := hb15.trans (hb6.mono hb15.size)
                        have hbx6 : bx < w6.heap.size := by omega
                        have hbw6 : bw < w6.heap.size := by omega
                        have HB16 := Lib.hid hb16
                        have GV := Lib.hid (gwB_val re im j)
                        clear hry hb6 hb15 hb16 HSXb HSW HCX HCW hbx hbw hw56
                        go_wp2
                        go_loopw [13] (fun s wr => ∃ p : Nat, p ≤ i ∧ s = .int .i64 p ∧ Below w6.heap.size w6 wr) (fun s _ => i + 1 - (intOf s).toNat)
                        case atStart => exact ⟨0, by omega, rfl, Below.refl _ _⟩
                        case round => as_aux_lemma =>
                          obtain ⟨p, hp, rfl, hbe⟩ := hrel
                          by_cases hpi : p < i
                          · have cy := (hbe.cell (p := ⟨by_, p, none⟩) hlby).trans (CY.out p hpi)
                            have cx := (hbe.cell (p := ⟨bx, ox + p, none⟩) hbx6).trans (CX.out p hpi)
                            have cw := (hbe.cell (p := ⟨bw, ow + p, none⟩) hbw6).trans (CW.out p hpi)
                            obtain ⟨⟨v1, v2⟩, v3, v4⟩ := GV.out p
                            obtain ⟨n1, n2⟩ := HNY.out p hpi
                            have HN1 := Lib.hid (fun w => (near_any w n1 v1 v2).mono (fun _ _ ⟨a, b⟩ => (⟨a, b.symm⟩ : _ ∧ _)))
                            have HN2 := Lib.hid (fun w => (near_any w n2 v3 v4).mono (fun _ _ ⟨a, b⟩ => (⟨a, b.symm⟩ : _ ∧ _)))
                            have ne := ne_cx v1 v3
                            obtain ⟨y1, hy1⟩ : ∃ y1, y1 = (gy p).1 := ⟨_, rfl⟩
                            obtain ⟨y2, hy2⟩ : ∃ y2, y2 = (gy p).2 := ⟨_, rfl⟩
                            obtain ⟨x1, hx1⟩ : ∃ x1, x1 = (gwB re im j p).1 := ⟨_, rfl⟩
                            obtain ⟨x2, hx2⟩ : ∃ x2, x2 = (gwB re im j p).2 := ⟨_, rfl⟩
                            rw [← hy1, ← hx1] at HN1
                            rw [← hy2, ← hx2] at HN2
                            have HNB := Lib.hid (show ∀ w a b, ((a = y1 ∧ b = x1) ∨ (a = y2 ∧ b = x2)) → Calls Tryd.prog 12 #[.float .f64 a, .float .f64 b] w fun e w' => e = .returned (.bool true) ∧ w' = w from fun w a b h => by
                              rcases h with ⟨rfl, rfl⟩ | ⟨rfl, rfl⟩
                              · exact HN1.out w
                              · exact HN2.out w)
                            rw [← hy1, ← hy2] at cy
                            rw [← hx1, ← hx2] at cx cw ne
                            clear v1 v2 v3 v4 n1 n2 hy1 hy2 hx1 hx2 HN1 HN2 HT HS HLA HLB HT5 HGN HBD CY CX CW HNY GV HWB hb1w
                            go_wp2
                            go_quiet ((go_at_call 12; exact Calls.quiet_of_same (HNB.out _ _ _ (by first | exact Or.inl ⟨rfl, rfl⟩ | exact Or.inr ⟨rfl, rfl⟩))))
                            go_wp2
                            exact ⟨⟨p + 1, by omega, by go_num, below_drewN hbe _⟩, by simp [intOf]; omega⟩
                          · obtain rfl : p = i := by omega
                            obtain ⟨w7, rfl⟩ : ∃ w7 : World, w7 = wr := ⟨_, rfl⟩
                            have hbw7 := (hbe.cell (p := ⟨bw, ow + 0, none⟩) hbw6).trans (CW.out 0 hn0)
                            rw [Nat.add_zero] at hbw7
                            have HW7 := Lib.hid (HB16.out.trans (hbe.mono HB16.out.size))
                            obtain ⟨⟨v1, v2⟩, v3, v4⟩ := GV.out 0
                            have hmk := run_make_row' (P := Tryd.prog) 24 25 (.complex .f64 0 0) 16 Tryd.underlying24 (by kernel_rfl) rfl .i64 .i64 p (by omega) (by omega)
                            obtain ⟨X0, hX0⟩ : ∃ X0, X0 = pxB re im j 0 := ⟨_, rfl⟩
                            have hnc0 := gwB_near re im j 0
                            have hbd0 := pxB_bd re im j 0
                            rw [← hX0] at v2 v4 hnc0 hbd0
                            obtain ⟨x1, hx1⟩ : ∃ x1, x1 = (gwB re im j 0).1 := ⟨_, rfl⟩
                            obtain ⟨x2, hx2⟩ : ∃ x2, x2 = (gwB re im j 0).2 := ⟨_, rfl⟩
                            rw [← hx1] at v1 v2 hnc0 hbw7
                            rw [← hx2] at v3 v4 hnc0 hbw7
                            have hro := World.rowIs_made w7 (.complex .f64 0 0) p 25
                            have hcr := hro.cell hn0
                            have hfr := hro.frozen 0
                            have hr1 := (hro.set 0 (.complex .f64 x1 x2)).congr (g := fun q => cpx (if q = 0 then (x1, x2) else (0, 0))) (fun q _ => by by_cases e : q = 0 <;> simp [e, cpx])
                            have hba1 := (Below.refl w7.heap.size w7).alloc (Nat.le_refl _) (.cells (madeCells #[Value.complex .f64 0 0] p) 25)
                            have hba := hba1.setCell (p := ⟨w7.heap.size, 0, none⟩) (Nat.le_refl _) (.complex .f64 x1 x2)
                            have hbwa := (hba1.cell (p := ⟨bw, ow, none⟩) (World.block_lt_of_cell? _ _ hbw7)).trans hbw7
                            have hwq := World.setCell_alloc_new (w := w7) (madeCells #[Value.complex .f64 0 0] p) 25 0 (.complex .f64 x1 x2)
                            rw [hwq] at hr1 hba
                            have HTF := Lib.hid (forth_any w7.heap.size 0 p p l (fun q => if q = 0 then (x1, x2) else (0, 0)) (fun q => if q = 0 then X0 else Cx.zero) 0 384 _ hl12 HNP.out (fun q hq => by rw [Nat.zero_add]; exact hr1.cell hq)
                              (fun q _ => by
                                by_cases e : q = 0
                                · simp only [if_pos e]; exact hnc0
                                · simp only [if_neg e]
                                  have z : fin 0 = true ∧ val 0 = 0 := by decide +kernel
                                  refine ⟨z.1, z.1, Rat.le_refl, ?_⟩
                                  simp only [Cx.sub_re, Cx.sub_im, cv2, Cx.zero, z.2]
                                  decide +kernel)
                              (fun q => by
                                by_cases e : q = 0
                                · simp only [if_pos e]; exact hbd0
                                · simp only [if_neg e]; exact Bd.zero_.mono (by decide +kernel)) (by decide +kernel) (by decide +kernel) (by decide +kernel) (tabs_later HT.out (HW7.out.trans (hba.mono HW7.out.size))))
                            have HBA := Lib.hid hba
                            have V1 := Lib.hid (show (fin x1 = true ∧ val x1 = X0.re) ∧ (fin x2 = true ∧ val x2 = X0.im) from ⟨⟨v1, v2⟩, v3, v4⟩)
                            have hbwb := (hba.cell (p := ⟨bw, ow, none⟩) (World.block_lt_of_cell? _ _ hbw7)).trans hbw7
                            clear hwq hr1 hro hnc0 hbd0 v1 v2 v3 v4 hX0 hx1 hx2 HGN HBD CY CX CW HNY GV hbe hbx6 hlby hba hba1
                            go_upto_region 29 with fail
                            clear hmk hcr hfr hbwa hbw7
                            go_cut [15] (fun s15 wx => ∃ (bz : Nat) (gz : Nat → Nat × Nat), s15 = .slice (some ⟨bz, 0, none⟩) p p ∧ wx.rowIs bz 25 p (fun q => cpx (gz q)) ∧ Below w7.heap.size w7 wx ∧ wx.cell? ⟨bw, ow, none⟩ = some (.complex .f64 x1 x2) ∧ Hid (∀ q, q < p → NrB (gz q).1 X0.re ∧ NrB (gz q).2 X0.im))
                            case first =>
                              go_wp2_with (go_at_call 11; (refine HTF.out.mono ?_); rintro e w8 ⟨gz, rfl, hb8, hr8, hN8⟩)
                              go_meet
                              have hsz : ∀ o, (w7.alloc o).heap.size = w7.heap.size + 1 := fun o => by simp
                              rw [hsz] at hr8
                              refine ⟨_, gz, rfl, hr8, HBA.out.trans (hb8.mono HBA.out.size), (hb8.cell (p := ⟨bw, ow, none⟩) (World.block_lt_of_cell? _ _ hbwb)).trans hbwb, Lib.hid fun q hq => ?_⟩
                              have h1 := hN8 q hq
                              rw [delta_F hl12] at h1
                              exact near_of (h1.mono (el_bk hl12)) (by decide +kernel)
                            case rest => as_aux_lemma =>
                              obtain ⟨bz, gz, rfl, hrz, hb8, hcw8, HNZ⟩ := hcut
                              obtain ⟨w8, rfl⟩ : ∃ w8 : World, w8 = wc := ⟨_, rfl⟩
                              have HW8 := Lib.hid (HW7.out.trans (hb8.mono HW7.out.size))
                              have hlz : bz < w8.heap.size := hrz.lt
                              have CZ := Lib.hid (show ∀ q, q < p → w8.cell? ⟨bz, q, none⟩ = some (.complex .f64 (gz q).1 (gz q).2) from fun q hq => hrz.cell hq)
                              have hlw : bw < w8.heap.size := World.block_lt_of_cell? _ _ hcw8
                              clear hrz hb8 HTF hbwb
                              go_wp2
                              go_loopw [16] (fun s wr => ∃ q : Nat, q ≤ p ∧ s = .int .i64 q ∧ Below w8.heap.size w8 wr) (fun s _ => p + 1 - (intOf s).toNat)
                              case atStart => exact ⟨0, by omega, rfl, Below.refl _ _⟩
                              case round => as_aux_lemma =>
                                obtain ⟨q, hq, rfl, hbe⟩ := hrel
                                by_cases hqp : q < p
                                · have cz := (hbe.cell (p := ⟨bz, q, none⟩) hlz).trans (CZ.out q hqp)
                                  have cw := (hbe.cell (p := ⟨bw, ow, none⟩) hlw).trans hcw8
                                  obtain ⟨n1, n2⟩ := HNZ.out q hqp
                                  obtain ⟨y1, hy1⟩ : ∃ y1, y1 = (gz q).1 := ⟨_, rfl⟩
                                  obtain ⟨y2, hy2⟩ : ∃ y2, y2 = (gz q).2 := ⟨_, rfl⟩
                                  rw [← hy1] at cz n1
                                  rw [← hy2] at cz n2
                                  have HNB := Lib.hid (show ∀ w a b, ((a = y1 ∧ b = x1) ∨ (a = y2 ∧ b = x2)) → Calls Tryd.prog 12 #[.float .f64 a, .float .f64 b] w fun e w' => e = .returned (.bool true) ∧ w' = w from fun w a b h => by
                                    rcases h with ⟨rfl, rfl⟩ | ⟨rfl, rfl⟩
                                    · exact (near_any w n1 V1.out.1.1 V1.out.1.2).mono (fun _ _ ⟨a, b⟩ => ⟨a, b.symm⟩)
                                    · exact (near_any w n2 V1.out.2.1 V1.out.2.2).mono (fun _ _ ⟨a, b⟩ => ⟨a, b.symm⟩))
                                  clear n1 n2 hy1 hy2 HT HS HLA HLB HT5 HWB hb1w HWI CZ HNZ
                                  go_wp2
                                  go_quiet ((go_at_call 12; exact Calls.quiet_of_same (HNB.out _ _ _ (by first | exact Or.inl ⟨rfl, rfl⟩ | exact Or.inr ⟨rfl, rfl⟩))))
                                  go_wp2
                                  exact ⟨⟨q + 1, by omega, by go_num, below_drewN hbe _⟩, by simp [intOf]; omega⟩
                                · obtain rfl : q = p := by omega
                                  go_wp2
                                  go_ret
                                  exact ⟨rfl, HW8.out.trans (hbe.mono HW8.out.size)⟩
end Go.Proofs.YtnjmefjcaiepfaaDoor
