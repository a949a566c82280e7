/- Chapter 09, the walk of UcdCloses. -/
import Derived.Test.YtpidgcjioocmhaaUcdGrowsLaw
namespace Go.Proofs.Ytpidgcjioocmhaa
open Go.RowKit SetPure OrbPure

theorem and_closed {F : Int → Bool} (h : ∀ z, F z = true → inR z = true) (z : Int) : (closeF F z && F z) = F z := by
  cases hz : F z
  · simp
  · rw [closeF_ext h hz]; rfl
theorem any_next {s : List Int} {k : Nat} {r : Int} (f : Int → Bool) (hk : k < s.length) (hr : s.getD k 0 = r) : (s.take (k + 1)).any f = ((s.take k).any f || f r) := by
  rw [take_next hk hr, List.any_append]; simp

set_option maxHeartbeats 4000000 in
set_option maxRecDepth 100000 in
theorem closes_any (A : Option Addr) (c : Nat) (l : List Rg) (r : Int) (w : World) (hl : l.length ≤ 8796093022208) (hA : SeqAt Epair w w.heap.size A l) :
    Calls Try.prog 4 #[.slice A l.length c, .int .i64 r] w fun e w' => e = .returned (.bool true) ∧ Below w.heap.size w w' := by
  have HA := Lib.hid hA
  clear hA
  obtain ⟨F, hF⟩ : ∃ F : Int → Bool, (fun z => inB l z && inR z) = F := ⟨_, rfl⟩
  have HFR := Lib.hid (show ∀ z, F z = true → inR z = true from fun z hz => by rw [← hF] at hz; exact (Bool.and_eq_true_iff.1 hz).2)
  have HFE := Lib.hid hF
  clear hF
  obtain ⟨k1, hk1⟩ : ∃ k, cntF (closeF F) = k := ⟨_, rfl⟩
  obtain ⟨k2, hk2⟩ : ∃ k, cntF F = k := ⟨_, rfl⟩
  have b1 : k1 ≤ 1114112 := hk1 ▸ cntF_le _
  have b2 : k2 ≤ 1114112 := hk2 ▸ cntF_le _
  have b3 : k1 ≤ 3 * k2 := by rw [← hk1, ← hk2]; exact closeF_cnt F
  have HK1 := Lib.hid hk1
  have HK2 := Lib.hid hk2
  clear hk1 hk2
  have HO := Lib.hid (fun w => refOrbit_any r w)
  have HC := Lib.hid (show closeF F r = (orbAll r).any F from rfl)
  have ho3 := orbAll_len r
  generalize orbAll r = o at *
  go_enter Try.func4, Try.ntmps4
  go_wp2_with (go_at_call 10; refine (speaks_any _).mono ?_; rintro e w1 ⟨rfl, hb1⟩; have hz1 := hb1.size; have HS1 := Lib.hid ((Hold.start w).go hb1))
  go_loopw [5, 6] (fun va ix wr => ∃ k : Nat, k ≤ l.length ∧ ix = .int .i64 k ∧ Own Epair 29 w1 wr va (l.take k))
    (fun _ ix _ => l.length + 1 - (intOf ix).toNat)
  case atStart => exact ⟨0, by omega, rfl, Own.nil_ _⟩
  case round =>
    obtain ⟨k, hk, rfl, hown⟩ := hrel
    have hz := hown.size
    by_cases hlt : k < l.length
    · obtain ⟨b, off, rfl, hb, hc⟩ := (((HA.out.below hb1).more hz1).below hown.2).pairs_ (by omega)
      obtain ⟨h0, h1⟩ := hc k hlt
      clear hc
      obtain ⟨⟨x, y⟩, hr⟩ : ∃ r, l.getD k (0, 0) = r := ⟨_, rfl⟩
      rw [hr] at h0 h1
      simp only at h0 h1
      have HS := Lib.hid (take_next' hlt hr)
      clear hr
      have hlk : (l.take k).length = k := by rw [List.length_take]; omega
      have hbw : b < wr.heap.size := by omega
      have hki : (k : Int) < (l.length : Int) := by omega
      go_wp2_with (at_builtin; (refine wpList_append_seq _ rfl (.tmp 20) (.tmp 25) 27 rfl 16 elRanges rfl (hown.alloc _) 1 rfl (SeqAt.new (E := Epair) wr [(x, y)] 29) rfl (by simp only [maxLen]; omega) (by omega) ?_); intro v1 w1 ho1 hg1)
      go_roundw
      case rel => exact ⟨k + 1, by omega, by go_num, by rw [HS.out]; exact ho1⟩
      case measure => simp [intOf]; omega
    · obtain rfl : k = l.length := by omega
      rw [List.take_length] at hown
      have hW := (HS1.out.go hown.2).1
      have HSA := Lib.hid hown.isSeq
      have hH := Hold.start wr
      clear hown hb1 hz hz1
      go_wp2_with (first
        | (go_at_call 13; refine (hold_of hH HSA.out (by omega)).mono ?_; rintro e w2 ⟨xs, rfl, hH⟩; rw [HFE.out] at hH)
        | (go_at_call 14; refine (hold_close hH (by repeat (first | exact List.Mem.head _ | apply List.Mem.tail))).mono ?_; rintro e w3 ⟨xc, rfl, hH⟩)
        | (go_at_call 12; refine (HO.out _).mono ?_; rintro e w4 ⟨vo, rfl, ⟨A4, c4, rfl, _, _, hA4⟩, hb4⟩; have HA4 := Lib.hid hA4; have HH := Lib.hid (hH.go hb4); clear hA4))
      obtain ⟨wp, rfl⟩ : ∃ wp : World, wp = wr := ⟨_, rfl⟩
      have hz0 := hb4.size
      have hW4 := HH.out.1
      have HH4 := Lib.hid (HH.out.base (Below.refl _ _))
      go_loopw [9, 11] (fun wv ix wx => ∃ (k : Nat) (b : Bool), k ≤ o.length ∧ ix = .int .i64 k ∧ wv = .bool b ∧ Hid ((o.take k).any F = b) ∧ Hold w4 wx [(xc, closeF F), (xs, F)])
        (fun _ ix _ => 4 - (intOf ix).toNat)
      case atStart => exact ⟨0, false, by omega, rfl, rfl, rfl, HH4.out⟩
      case round =>
        obtain ⟨k, b, hk, rfl, rfl, hany, hHk⟩ := hrel
        by_cases hlt : k < o.length
        · obtain ⟨b', off, rfl, hb', hc⟩ := (HA4.out.below hHk.1).int_ hlt
          have hx : o.getD k 0 = o[k] := by rw [List.getD_eq_getElem?_getD, List.getElem?_eq_getElem hlt]; rfl
          have HN := Lib.hid (any_next F hlt hx)
          clear hx
          generalize o[k] = x at *
          have hki : (k : Int) < (o.length : Int) := by omega
          cases b
          · cases hfx : F x
            all_goals
              have HX := Lib.hid hfx
              clear hfx
              go_wp2_with (go_at_call 15; refine (hold_has_eq hHk (by repeat (first | exact List.Mem.head _ | apply List.Mem.tail)) x _ HX.out).mono ?_; rintro e w5 ⟨rfl, hH5⟩)
              go_roundw
              case rel => exact ⟨k + 1, _, by omega, by go_num, rfl, Lib.hid (by rw [HN.out, hany.out, HX.out]; rfl), hH5⟩
              case measure => simp [intOf]; omega
          · go_wp2
            go_roundw
            case rel => exact ⟨k + 1, true, by omega, by go_num, rfl, Lib.hid (by rw [HN.out, hany.out]; rfl), hHk⟩
            case measure => simp [intOf]; omega
        · obtain rfl : k = o.length := by omega
          have HCF := Lib.hid (show closeF F r = b by rw [HC.out, ← hany.out, List.take_length])
          have hH := hHk
          have HM1 : Hid True := trivial
          have b3i : (k1 : Int) ≤ 3 * (k2 : Int) := by omega
          cases b
          all_goals
            go_wp2_with (first
              | (go_at_call 15; refine (hold_has_eq hH (by repeat (first | exact List.Mem.head _ | apply List.Mem.tail)) r _ HCF.out).mono ?_; rintro e w6 ⟨rfl, hH⟩)
              | (go_at_call 14; refine (hold_close hH (by repeat (first | exact List.Mem.head _ | apply List.Mem.tail))).mono ?_; rintro e w6 ⟨y1, rfl, hH⟩)
              | (go_at_call 16; clear HM1; refine (hold_same hH (by repeat (first | exact List.Mem.head _ | apply List.Mem.tail)) (by repeat (first | exact List.Mem.head _ | apply List.Mem.tail)) (fun z _ => closeF_idem F z)).mono ?_; rintro e w6 ⟨rfl, hH⟩)
              | (go_at_call 17; refine (hold_and hH (by repeat (first | exact List.Mem.head _ | apply List.Mem.tail)) (by repeat (first | exact List.Mem.head _ | apply List.Mem.tail))).mono ?_; rintro e w6 ⟨y2, rfl, hH⟩)
              | (go_at_call 16; refine (hold_same hH (by repeat (first | exact List.Mem.head _ | apply List.Mem.tail)) (by repeat (first | exact List.Mem.head _ | apply List.Mem.tail)) (fun z _ => and_closed HFR.out z)).mono ?_; rintro e w6 ⟨rfl, hH⟩)
              | (go_at_call 18; refine (hold_size_eq hH (by repeat (first | exact List.Mem.head _ | apply List.Mem.tail)) HK1.out).mono ?_; clear HK1; rintro e w6 ⟨rfl, hH⟩)
              | (go_at_call 18; refine (hold_size_eq hH (by repeat (first | exact List.Mem.head _ | apply List.Mem.tail)) HK2.out).mono ?_; clear HK2; rintro e w6 ⟨rfl, hH⟩))
            go_ret
            exact ⟨rfl, ((Hold.rebase hW (Hold.rebase hW4 hH)).1)⟩

end Go.Proofs.Ytpidgcjioocmhaa
