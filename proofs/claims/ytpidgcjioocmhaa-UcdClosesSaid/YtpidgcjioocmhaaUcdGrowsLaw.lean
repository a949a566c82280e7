/- Chapter 09, the walk of UcdGrows. -/
import Derived.Test.YtpidgcjioocmhaaUcdCloseW
import Derived.Test.YtpidgcjioocmhaaUcdTurnedLaw
namespace Go.Proofs.Ytpidgcjioocmhaa
open Go.RowKit SetPure

theorem hold_close {W w : World} {L : List (Value × (Int → Bool))} {v : Value} {f : Int → Bool} (h : Hold W w L) (hv : (v, f) ∈ L) :
    Calls Try.prog 14 #[v] w fun e w' => ∃ x, e = .returned x ∧ Hold W w' ((x, closeF f) :: L) := close_any v f W w L h hv

set_option maxHeartbeats 4000000 in
set_option maxRecDepth 100000 in
theorem grows_any (A A' : Option Addr) (c c' : Nat) (l m : List Rg) (w : World) (hl : l.length ≤ 8796093022208) (hm : m.length ≤ 8796093022208) (hA : SeqAt Epair w w.heap.size A l) (hA' : SeqAt Epair w w.heap.size A' m) :
    Calls Try.prog 5 #[.slice A l.length c, .slice A' m.length c'] w fun e w' => e = .returned (.bool true) ∧ Below w.heap.size w w' := by
  have HA := Lib.hid hA
  have HA' := Lib.hid hA'
  clear hA hA'
  have HZ1 := Lib.hid (show cntF (fun z => closeF (fun z => inB l z && inR z) z && !closeF (fun z => (inB l z && inR z) || (inB m z && inR z)) z) = 0 from cntF_none fun z _ => by
    rw [closeF_or (fun z => inB l z && inR z) (fun z => inB m z && inR z)]
    cases closeF (fun z => inB l z && inR z) z <;> simp)
  have HZ2 := Lib.hid (show cntF (fun z => (inB l z && inR z) && !closeF (fun z => inB l z && inR z) z) = 0 from cntF_none fun z _ => by
    cases hz : (inB l z && inR z)
    · rfl
    · rw [closeF_ext (f := fun z => inB l z && inR z) (fun x hx => (Bool.and_eq_true_iff.1 hx).2) hz]; rfl)
  go_enter Try.func5, Try.ntmps5
  go_wp2_with (go_at_call 10; refine (speaks_any _).mono ?_; rintro e w1 ⟨rfl, hb1⟩; have hz1 := hb1.size; have HS1 := Lib.hid ((Hold.start w).go hb1))
  go_loopw [5, 7] (fun va ix wr => ∃ k : Nat, k ≤ l.length ∧ ix = .int .i64 k ∧ Own Epair 29 w1 wr va (l.take k))
    (fun _ ix _ => l.length + 1 - (intOf ix).toNat)
  case atStart => exact ⟨0, by omega, rfl, Own.nil_ _⟩
  case round =>
    obtain ⟨k, hk, rfl, hown⟩ := hrel
    have hz := hown.size
    by_cases hlt : k < l.length
    · obtain ⟨b, off, rfl, hb, hc⟩ := (((HA.out.below hb1).more hz1).below hown.2).pairs_ (by omega)
      obtain ⟨h0, h1⟩ := hc k hlt
      clear hc
      obtain ⟨⟨x, y⟩, hr⟩ : ∃ r, l.getD k (0, 0) = r := ⟨_, rfl⟩
      rw [hr] at h0 h1
      simp only at h0 h1
      have HS := Lib.hid (take_next' hlt hr)
      clear hr
      have hlk : (l.take k).length = k := by rw [List.length_take]; omega
      have hbw : b < wr.heap.size := by omega
      have hki : (k : Int) < (l.length : Int) := by omega
      go_wp2_with (at_builtin; (refine wpList_append_seq _ rfl (.tmp 20) (.tmp 25) 27 rfl 16 elRanges rfl (hown.alloc _) 1 rfl (SeqAt.new (E := Epair) wr [(x, y)] 29) rfl (by simp only [maxLen]; omega) (by omega) ?_); intro v1 w1 ho1 hg1)
      go_roundw
      case rel => exact ⟨k + 1, by omega, by go_num, by rw [HS.out]; exact ho1⟩
      case measure => simp [intOf]; omega
    · obtain rfl : k = l.length := by omega
      rw [List.take_length] at hown
      have hH1 := Lib.hid (HS1.out.go hown.2)
      have HSA := Lib.hid hown.isSeq
      obtain ⟨wp, rfl⟩ : ∃ wp : World, wp = wr := ⟨_, rfl⟩
      have hbp := hown.2
      clear hown hb1
      go_wp2
      go_loopw [6, 8] (fun va ix wr => ∃ k : Nat, k ≤ m.length ∧ ix = .int .i64 k ∧ Own Epair 29 wp wr va (m.take k))
        (fun _ ix _ => m.length + 1 - (intOf ix).toNat)
      case atStart => exact ⟨0, by omega, rfl, Own.nil_ _⟩
      case round =>
        obtain ⟨k, hk, rfl, hown⟩ := hrel
        have hz := hown.size
        by_cases hlt : k < m.length
        · obtain ⟨b, off, rfl, hb, hc⟩ := (((HA'.out.below hH1.out.1).more hH1.out.1.size).below hown.2).pairs_ (by omega)
          obtain ⟨h0, h1⟩ := hc k hlt
          clear hc
          obtain ⟨⟨x, y⟩, hr⟩ : ∃ r, m.getD k (0, 0) = r := ⟨_, rfl⟩
          rw [hr] at h0 h1
          simp only at h0 h1
          have HS := Lib.hid (take_next' hlt hr)
          clear hr
          have hlk : (m.take k).length = k := by rw [List.length_take]; omega
          have hbw : b < wr.heap.size := by omega
          have hki : (k : Int) < (m.length : Int) := by omega
          go_wp2_with (at_builtin; (refine wpList_append_seq _ rfl (.tmp 33) (.tmp 38) 27 rfl 16 elRanges rfl (hown.alloc _) 1 rfl (SeqAt.new (E := Epair) wr [(x, y)] 29) rfl (by simp only [maxLen]; omega) (by omega) ?_); intro v1 w1 ho1 hg1)
          go_roundw
          case rel => exact ⟨k + 1, by omega, by go_num, by rw [HS.out]; exact ho1⟩
          case measure => simp [intOf]; omega
        · obtain rfl : k = m.length := by omega
          rw [List.take_length] at hown
          have hW := (hH1.out.go hown.2).1
          have HSB := Lib.hid hown.isSeq
          have HSA2 := Lib.hid (HSA.out.below hown.2)
          have hH := Hold.start wr
          have HM1 : Hid True := trivial
          clear hown hbp hz hz1
          go_wp2_with (first
            | (go_at_call 13; clear HM1; refine (hold_of hH HSA2.out (by omega)).mono ?_; rintro e w2 ⟨xs, rfl, hH⟩)
            | (go_at_call 13; refine (hold_of hH (HSB.out.below hH.1) (by omega)).mono ?_; rintro e w2 ⟨xt, rfl, hH⟩)
            | (go_at_call 19; refine (hold_or hH (by repeat (first | exact List.Mem.head _ | apply List.Mem.tail)) (by repeat (first | exact List.Mem.head _ | apply List.Mem.tail))).mono ?_; rintro e w3 ⟨y3, rfl, hH⟩)
            | (go_at_call 14; refine (hold_close hH (by repeat (first | exact List.Mem.head _ | apply List.Mem.tail))).mono ?_; rintro e w3 ⟨y4, rfl, hH⟩)
            | (go_at_call 16; refine (hold_same hH (by repeat (first | exact List.Mem.head _ | apply List.Mem.tail)) (by repeat (first | exact List.Mem.head _ | apply List.Mem.tail)) (fun z _ => closeF_or (fun z => inB l z && inR z) (fun z => inB m z && inR z) z)).mono ?_; rintro e w3 ⟨rfl, hH⟩)
            | (go_at_call 20; refine (hold_less hH (by repeat (first | exact List.Mem.head _ | apply List.Mem.tail)) (by repeat (first | exact List.Mem.head _ | apply List.Mem.tail))).mono ?_; rintro e w3 ⟨y2, rfl, hH⟩)
            | (go_at_call 18; refine (hold_size_eq hH (by repeat (first | exact List.Mem.head _ | apply List.Mem.tail)) HZ1.out).mono ?_; clear HZ1; rintro e w3 ⟨rfl, hH⟩)
            | (go_at_call 18; refine (hold_size_eq hH (by repeat (first | exact List.Mem.head _ | apply List.Mem.tail)) HZ2.out).mono ?_; clear HZ2; rintro e w3 ⟨rfl, hH⟩))
          go_ret
          exact ⟨rfl, (Hold.rebase hW hH).1⟩

end Go.Proofs.Ytpidgcjioocmhaa
