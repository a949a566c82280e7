/- The walk of the reference's 'Orbit'. -/
import Derived.Test.YtpidgcjioocmhaaOrbRef
import Derived.Test.YtpidgcjioocmhaaOrbAdd
namespace Go.Proofs.Ytpidgcjioocmhaa
open Go.RowKit OrbPure

theorem one_val {a b : Int} {v : Bool} (h : oneB a b = v) (w : World) (ha : -3000000 ≤ a) (ha' : a ≤ 3000000) (hb : -3000000 ≤ b) (hb' : b ≤ 3000000) :
    Calls Try.prog 29 #[.int .i64 a, .int .i64 b] w fun e w' => e = .returned (.bool v) ∧ Below w.heap.size w w' := by
  subst h
  exact one_any a b w ha ha' hb hb'

set_option maxHeartbeats 1600000 in
set_option maxRecDepth 100000 in
theorem refOrbit_some (r : Int) (w : World) (h0 : 0 ≤ r) (h1 : r ≤ 1114111) :
    Calls Try.prog 12 #[.int .i64 r] w (RetSeq Eint w (refOrb r)) := by
  go_enter Try.func12, Try.ntmps12
  go_upto_region 4 with (fail)
  go_cut [4] (fun s4 wx => ∃ g : Nat, w.heap.size ≤ g ∧ g < wx.heap.size ∧ s4 = .slice (some ⟨g, 0, none⟩) 20 20 ∧ Below w.heap.size w wx ∧ Hid (∀ i, i < 20 → wx.cell? ⟨g, i, none⟩ = some (.int .i64 ((triesL r).getD i 0))))
  case first =>
    go_wp2
    go_meet
    refine ⟨_, Nat.le_refl _, by simp, rfl, (Below.refl _ _).alloc (Nat.le_refl _) _, ?_⟩
    exact fun i hi => new_ints w (triesL r) 3 i hi
  case rest =>
    obtain ⟨g, hg, hg2, rfl, hb0, HT⟩ := hcut
    go_wp2
    go_loopw [3, 5] (fun s3 s5 wr => ∃ (i : Nat) (l : List Int), i ≤ 20 ∧ s5 = .int .i64 i ∧ IsSeq Eint wr s3 l ∧ l.length ≤ 20 * i ∧ Below w.heap.size w wr ∧ Below (g + 1) wc wr ∧ Hid (outer r i = l)) (fun _ i _ => 21 - (intOf i).toNat)
    case atStart => exact ⟨0, [], by omega, rfl, ⟨none, 0, rfl, by simp, by simp [maxLen], SeqAt.nil_⟩, by simp, hb0, Below.refl _ _, rfl⟩
    case round =>
      obtain ⟨i, l, hi, rfl, hs3, hll, hbw, hbg, HO⟩ := hrel
      by_cases hlt : i < 20
      · have ht0 := (hbg.cell (p := ⟨g, i, none⟩) (by simp)).trans (HT.out i hlt)
        generalize hT : (triesL r).getD i 0 = t at *
        have hTb := tries_bd h0 h1 hlt
        rw [hT] at hTb
        obtain ⟨ht1, ht2⟩ := hTb
        have HTi := Lib.hid hT
        clear hT
        obtain ⟨wo, rfl⟩ : ∃ wo : World, wo = wr := ⟨_, rfl⟩
        have hdi : decide ((i : Int) < 20) = true := by simp; omega
        go_wp2
        go_loopw [3, 6] (fun s3 s6 wr => ∃ (k : Nat) (l' : List Int), k ≤ 20 ∧ s6 = .int .i64 k ∧ IsSeq Eint wr s3 l' ∧ l'.length ≤ 20 * i + k ∧ Below w.heap.size w wr ∧ Below (g + 1) wc wr ∧ Hid (inner r t l k = l')) (fun _ k _ => 21 - (intOf k).toNat)
        case atStart => exact ⟨0, l, by omega, rfl, hs3, by omega, hbw, hbg, rfl⟩
        case round =>
          obtain ⟨k, l', hk, rfl, hs3', hll', hbw', hbg', HI⟩ := hrel
          clear hs3 hbw hbg ht0
          by_cases hlk : k < 20
          · have ht := (hbg'.cell (p := ⟨g, i, none⟩) (by simp)).trans ((HT.out i hlt).trans (by rw [HTi.out]))
            have hu := (hbg'.cell (p := ⟨g, k, none⟩) (by simp)).trans (HT.out k hlk)
            generalize hU : (triesL r).getD k 0 = u at *
            have hUb := tries_bd h0 h1 hlk
            rw [hU] at hUb
            obtain ⟨hu1, hu2⟩ := hUb
            have HUk := Lib.hid hU
            clear hU
            have hdk : decide ((k : Int) < 20) = true := by simp; omega
            go_upto_region 11 with (fail)
            go_cut [66] (fun s66 wx => s66 = .bool (hit r t u) ∧ Below wr.heap.size wr wx)
            case first =>
              have hlt' : g < wr.heap.size := by have := hbg'.size; omega
              have L1 : ∀ s : Later wr, s.here.cell? ⟨g, i, none⟩ = some (.int .i64 t) := fun s => (s.below.cell (p := ⟨g, i, none⟩) hlt').trans ht
              have L2 : ∀ s : Later wr, s.here.cell? ⟨g, k, none⟩ = some (.int .i64 u) := fun s => (s.below.cell (p := ⟨g, k, none⟩) hlt').trans hu
              have hki : (k : Int) < 20 := by omega
              have hii : (i : Int) < 20 := by omega
              refine wp_region_later (by kernel_rfl) (by kernel_rfl) ?_
              repeat (any_goals (first
                | go_big_quiet_step ((go_at_call 29; exact later_of (one_any _ _ _ (by omega) (by omega) (by omega) (by omega))))
                | quiet_step ((go_at_call 29; exact later_of (one_any _ _ _ (by omega) (by omega) (by omega) (by omega))))
                | (refine wpQuiet_step (fun K hK => ?_); go_simp; split <;> (refine hK _ ?_; clear hK K))))
              all_goals
                refine wpQuiet_nil ?_
                rintro _ ⟨⟨wx, hbx⟩, rfl⟩
                go_wp2
                go_meet
                exact ⟨val_bool (by first | (simp [hit, *]; done) | (simp [hit, *]; intros; omega)), hbx⟩
            case rest =>
              obtain ⟨rfl, hbx⟩ := hcut
              have HN := Lib.hid (inner_succ hlk HUk.out HI.out)
              have hlt' : g < wr.heap.size := by have := hbg'.size; omega
              have hz := hbx.size
              have hbw2 := hbw'.trans (hbx.mono hbw'.size)
              have hbg2 := hbg'.trans (hbx.mono (by omega))
              cases hh : hit r t u with
              | false =>
                rw [hh] at HN
                clear hh
                go_wp2
                go_roundw
                case rel => exact ⟨k + 1, l', by omega, by go_num, hs3'.below hbx, by omega, hbw2, hbg2, Lib.hid (by simpa using HN.out)⟩
                case measure => simp [intOf]; omega
              | true =>
                rw [hh] at HN
                clear hh
                have htx := (hbx.cell (p := ⟨g, i, none⟩) hlt').trans ht
                obtain ⟨A, c, rfl, hc1, hc2, hA⟩ := hs3'
                have hA2 := hA.below hbx
                go_wp2_with (go_at_call 30; refine (add_any A l'.length c wr.heap.size l' t _ rfl (by omega) hc1 hA2 hz).mono ?_; rintro e w1 ⟨v, rfl, hv, hb1⟩)
                go_roundw
                case rel => exact ⟨k + 1, addL l' t, by omega, by go_num, hv, by have := addL_len l' t; omega, hbw2.trans (hb1.mono hbw2.size), hbg2.trans (hb1.mono (by omega)), Lib.hid (by simpa using HN.out)⟩
                case measure => simp [intOf]; omega
          · obtain rfl : k = 20 := by omega
            have HN := Lib.hid (outer_succ hlt HTi.out HO.out HI.out)
            go_wp2
            go_roundw
            case rel => exact ⟨i + 1, l', by omega, by go_num, hs3', by omega, hbw', hbg', HN⟩
            case measure => simp [intOf]; omega
      · obtain rfl : i = 20 := by omega
        go_wp2
        go_ret
        exact ⟨_, rfl, by rw [show refOrb r = l from HO.out]; exact hs3, hbw⟩

end Go.Proofs.Ytpidgcjioocmhaa
