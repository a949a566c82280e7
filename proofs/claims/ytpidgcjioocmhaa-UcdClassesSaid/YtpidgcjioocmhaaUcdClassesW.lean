/- Chapter 09: the walk of the law UcdClasses. -/
import Derived.Test.YtpidgcjioocmhaaUcdClassesLaw
import Derived.Deep.DeepCutAuto
import Derived.BigQuiet
namespace Go.Proofs.Ytpidgcjioocmhaa
open Go.RowKit SetPure Go.WideShapes Go.Op

set_option maxHeartbeats 4000000 in
set_option maxRecDepth 100000 in
theorem classes_law (r c : Int) (name : ByteArray) (w : World) (h0 : 0 ≤ c) (h1 : c ≤ 255) :
    Calls Try.prog 9 #[.string name, .int .i64 r, .int .u8 c] w fun e w' => e = .returned (.bool true) ∧ Below w.heap.size w w' := by
  obtain ⟨known, F, hK, hF, hC, hI⟩ := class_facts name
  have HC := Lib.hid hC
  have HI := Lib.hid hI
  have HK := Lib.hid hK
  have HF := Lib.hid hF
  clear hC hI hK hF
  go_enter Try.func9, Try.ntmps9
  go_upto_region 4 with (first
    | (go_at_call 10; refine (speaks_any _).mono ?_; rintro e w1 ⟨rfl, hb1⟩; have hH1 := (Hold.start w).go hb1)
    | (go_at_call 21; refine (HC.out _ _ _ hH1).mono ?_; rintro e w2 ⟨x, rfl, hH2, hx⟩; have HX := Lib.hid hx; clear hx))
  go_cut [9] (fun s9 wx => s9 = .bool (kn name 0) ∧ w2 = wx)
  case first => as_aux_lemma =>
    cases hq1 : (name.toList == [65, 110, 121]) <;> cases hq2 : (name.toList == [76]) <;> cases hq3 : (name.toList == [78])
    all_goals
      go_wp2
      go_meet
      exact ⟨congrArg Value.bool (by show _ = (_ || _ || _); rw [hq1, hq2, hq3]; rfl), rfl⟩
  case rest => as_aux_lemma =>
    obtain ⟨rfl, rfl⟩ := hcut
    go_wp2_with (go_at_call 23; refine (names9_cells _).mono ?_; rintro e w3 ⟨b9, o9, c9, rfl, hb9, hc9, hbl3⟩; have H9 := Lib.hid hc9; clear hc9)
    have hH3 := hH2.go hbl3
    go_loopw [9, 11] (fun s9 i wr => ∃ j : Nat, j ≤ 15 ∧ s9 = .bool (kn name j) ∧ i = .int .i64 j ∧ w3 = wr) (fun _ i _ => 16 - (intOf i).toNat)
    case atStart => exact ⟨0, by omega, rfl, rfl, rfl⟩
    case round => as_aux_lemma =>
      obtain ⟨j, hj, rfl, rfl, rfl⟩ := hrel
      by_cases hlt : j < 15
      · have c0 := H9.out j hlt
        have HN := Lib.hid (show kn name (j + 1) = (kn name j || ((nameC j).toList == name.toList)) from rfl)
        generalize nameC j = t at *
        cases hkj : kn name j
        all_goals
          have HJ := Lib.hid hkj
          clear hkj
          go_wp2
          go_roundw
          case rel => exact ⟨j + 1, by omega, by rw [HN.out, HJ.out]; rfl, by go_num, by first | rfl | trivial⟩
          case measure => simp [intOf]; omega
      · obtain rfl : j = 15 := by omega
        rw [HK.out]
        go_upto_region 10 with (fail)
        go_cut [76] (fun s wx => s = .bool false ∧ Hold w wx [])
        case first => as_aux_lemma =>
          cases known
          · have hFr := HF.out rfl r
            obtain rfl := HX.out rfl
            go_wp2_with (go_at_call 15; refine (hold_has_eq hH3 (List.Mem.head _) r false hFr).mono ?_; rintro e w4 ⟨rfl, hH4⟩)
            go_meet
            exact ⟨rfl, hH4.only⟩
          · have HI2 := Lib.hid (HI.out rfl)
            clear HI HF HX
            cases hFr : F r
            all_goals
              go_wp2_with (first
                | (go_at_call 15; refine (hold_has_eq hH3 (List.Mem.head _) r _ hFr).mono ?_; rintro e w4 ⟨rfl, hH4⟩)
                | (go_at_call 24; refine (HI2.out r _).mono ?_; rintro e w5 ⟨rfl, hb5⟩; rw [hFr]))
              go_meet
              exact ⟨rfl, (hH4.go hb5).only⟩
        case rest => as_aux_lemma =>
          obtain ⟨rfl, hH4⟩ := hcut
          clear hH3 hH2 hbl3 hH1 hb1 HX HI HF HK HC
          go_upto_region 13 with (go_at_call 22; refine (perl_all c h0 h1 _ _ _ hH4).mono ?_; rintro e w5 ⟨p, rfl, hH5, hp⟩; have HP := Lib.hid hp; clear hp)
          go_cut [14] (fun s wx => s = .bool (isLet c) ∧ w5 = wx)
          case first => as_aux_lemma =>
            by_cases hc : c = 100 ∨ c = 68 ∨ c = 115 ∨ c = 83 ∨ c = 119 ∨ c = 87
            · rcases hc with rfl | rfl | rfl | rfl | rfl | rfl
              all_goals
                go_wp2
                go_meet
                exact ⟨rfl, rfl⟩
            · have e1 : (c == 100) = false := by simp; omega
              have e2 : (c == 68) = false := by simp; omega
              have e3 : (c == 115) = false := by simp; omega
              have e4 : (c == 83) = false := by simp; omega
              have e5 : (c == 119) = false := by simp; omega
              have e6 : (c == 87) = false := by simp; omega
              have hi : isLet c = false := by simp [isLet]; omega
              go_wp2
              go_meet
              exact ⟨congrArg Value.bool hi.symm, rfl⟩
          case rest => as_aux_lemma =>
            obtain ⟨rfl, rfl⟩ := hcut
            obtain ⟨l, hl0⟩ : ∃ l, isLet c = l := ⟨_, rfl⟩
            rw [hl0]
            have hl : Hid (isLet c = l) := Lib.hid hl0
            clear hl0
            go_upto_region 14 with (fail)
            go_cut [137] (fun s wx => s = .bool false ∧ Hold w wx [])
            case first => as_aux_lemma =>
              have hout := Lib.hid (letF_out c r)
              have hone := Lib.hid (fun wx => conv_one wx c)
              have hin := Lib.hid (fun hl hr wx => in9_letter c hl r hr wx)
              cases l
              · obtain rfl := HP.out hl.out
                go_wp2
                go_meet
                exact ⟨rfl, hH5.only⟩
              · rcases r_cases r with ⟨d0, hR⟩ | ⟨d0, d1, hR⟩ | ⟨d0, d1, hR⟩
                · have hFr := hout.out hR
                  have d0 := of_decide_eq_true d0
                  clear hR
                  go_wp2_with (go_at_call 15; refine (hold_has_eq hH5 (List.Mem.head _) r _ hFr).mono ?_; rintro e w6 ⟨rfl, hH6⟩)
                  go_meet
                  exact ⟨rfl, hH6.only⟩
                · have hFr := hout.out hR
                  have d0 := of_decide_eq_false d0
                  have d1 := of_decide_eq_true d1
                  clear hR
                  go_wp2_with (go_at_call 15; refine (hold_has_eq hH5 (List.Mem.head _) r _ hFr).mono ?_; rintro e w6 ⟨rfl, hH6⟩)
                  go_meet
                  exact ⟨rfl, hH6.only⟩
                · have hin2 := Lib.hid (hin.out hl.out hR)
                  have d0 := of_decide_eq_false d0
                  have d1 := of_decide_eq_false d1
                  clear hR hin
                  cases hFr : letF c r
                  all_goals
                    go_wp2_with (first
                      | (go_at_call 15; refine (hold_has_eq hH5 (List.Mem.head _) r _ hFr).mono ?_; rintro e w6 ⟨rfl, hH6⟩; have hcv := hone.out w6)
                      | (go_at_call 24; refine (hin2.out _).mono ?_; rintro e w7 ⟨rfl, hb7⟩; rw [hFr]))
                    go_meet
                    exact ⟨rfl, ((hH6.alloc _).go hb7).only⟩
            case rest => as_aux_lemma =>
              obtain ⟨rfl, hH7⟩ := hcut
              go_wp2_with (go_at_call 25; refine (names_cells _).mono ?_; rintro e w8 ⟨b8, o8, c8, rfl, hb8, hc8, hbl8⟩; have H8 := Lib.hid hc8; clear hc8)
              have HR := Lib.hid (fun (k : Nat) (h0 : 1 ≤ k) (h1 : k < 18) => sorted_less (k - 1) (by omega))
              go_loopw [16] (fun i wr => ∃ j : Nat, 1 ≤ j ∧ j ≤ 18 ∧ i = .int .i64 j ∧ Below w8.heap.size w8 wr) (fun i _ => 19 - (intOf i).toNat)
              case atStart => exact ⟨1, by omega, by omega, rfl, Below.refl _ _⟩
              case round => as_aux_lemma =>
                obtain ⟨j, hj1, hj, rfl, hbw⟩ := hrel
                by_cases hlt : j < 18
                · have c0 := (hbw.cell (p := ⟨b8, o8 + (j - 1), none⟩) hb8).trans (H8.out (j - 1) (by omega))
                  have c1 := (hbw.cell (p := ⟨b8, o8 + j, none⟩) hb8).trans (H8.out j hlt)
                  have hls := HR.out j hj1 hlt
                  rw [show j - 1 + 1 = j by omega] at hls
                  generalize sortedL.getD (j - 1) ⟨#[]⟩ = t0 at c0 hls
                  generalize sortedL.getD j ⟨#[]⟩ = t1 at c1 hls
                  have e1 : IntKind.i64.wrap ((j : Int) - 1) = ((j - 1 : Nat) : Int) := by rw [show ((j : Int) - 1) = ((j - 1 : Nat) : Int) by omega]; exact IntWalk.i64_in _ (by omega)
                  have hjj : (((j - 1 : Nat) : Int)) < 18 := by omega
                  have hj2 : (j : Int) < 18 := by omega
                  generalize hm : j - 1 = m at c0 e1 hjj
                  go_wp2
                  go_quiet (fail)
                  go_wp2
                  go_roundw
                  case rel => exact ⟨j + 1, by omega, by omega, by go_num, below_drewN hbw _⟩
                  case measure => simp [intOf]; omega
                · have hge : 18 ≤ j := by omega
                  clear HR
                  have hH8 := (hH7.go hbl8).go hbw
                  go_wp2
                  go_loopw [17] (fun i w9 => ∃ j : Nat, j ≤ 18 ∧ i = .int .i64 j ∧ Hold wr w9 []) (fun i _ => 19 - (intOf i).toNat)
                  case atStart => exact ⟨0, by omega, rfl, Hold.start _⟩
                  case round => as_aux_lemma =>
                    obtain ⟨j, hj, rfl, hHv⟩ := hrel
                    have hbv := hHv.1
                    by_cases hlt : j < 18
                    · have c0 := (hbv.cell (p := ⟨b8, o8 + j, none⟩) (Nat.lt_of_lt_of_le hb8 hbw.size)).trans ((hbw.cell (p := ⟨b8, o8 + j, none⟩) hb8).trans (H8.out j hlt))
                      obtain ⟨n, hn, hnm⟩ := sorted_named j hlt
                      rw [hnm] at c0
                      have HC2 := Lib.hid (fun W w L hH => class_named n hn W w L hH)
                      clear hnm
                      generalize nameA n = t at *
                      have hj2 : (j : Int) < 18 := by omega
                      go_wp2_with (go_at_call 21; refine (HC2.out _ _ _ hHv).mono ?_; rintro e w10 ⟨x, rfl, hH10⟩)
                      go_roundw
                      case rel => exact ⟨j + 1, by omega, by go_num, hH10.only⟩
                      case measure => simp [intOf]; omega
                    · obtain rfl : j = 18 := by omega
                      go_wp2
                      go_ret
                      exact ⟨rfl, (hH8.go hbv).1⟩

end Go.Proofs.Ytpidgcjioocmhaa
