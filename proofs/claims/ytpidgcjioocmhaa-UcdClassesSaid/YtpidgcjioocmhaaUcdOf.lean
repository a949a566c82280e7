/- The walks of ucd's of and blanks: a set of ranges that lie as arrays of two. -/
import Derived.Test.YtpidgcjioocmhaaSetF
namespace Go.Proofs.Ytpidgcjioocmhaa
open Go.RowKit SetPure

set_option maxHeartbeats 1600000 in
set_option maxRecDepth 100000 in
theorem ucdOf_any (v : Value) (l : List Rg) (W w : World) (L : List (Value × (Int → Bool))) (hH : Hold W w L) (hv : IsSeq Epair w v l) (hl : l.length ≤ 1000000) :
    Calls Try.prog 40 #[v] w fun e w' => ∃ x, e = .returned x ∧ Hold W w' ((x, fun z => inB l z && inR z) :: L) := by
  obtain ⟨A, c, rfl, _, _, hA⟩ := hv
  have HA := Lib.hid hA
  clear hA
  go_enter Try.func40, Try.ntmps40
  go_wp2
  go_loopw [3, 8] (fun vb i wr => ∃ k : Nat, k ≤ l.length ∧ i = .int .i64 k ∧ Own Epair 29 w wr vb (l.take k))
    (fun _ i _ => l.length + 1 - (intOf i).toNat)
  case atStart => exact ⟨0, by omega, rfl, Own.nil_ _⟩
  case round =>
    obtain ⟨k, hk, rfl, hown⟩ := hrel
    have hz := hown.size
    by_cases hlt : k < l.length
    · obtain ⟨b, off, rfl, hb, hc⟩ := (HA.out.below hown.2).pairs_ (by omega)
      obtain ⟨h0, h1⟩ := hc k hlt
      clear hc
      obtain ⟨⟨x, y⟩, hr⟩ : ∃ r, l.getD k (0, 0) = r := ⟨_, rfl⟩
      rw [hr] at h0 h1
      simp only at h0 h1
      have HS := Lib.hid (take_next' hlt hr)
      clear hr
      have hlk : (l.take k).length = k := by rw [List.length_take]; omega
      go_wp2_with (at_builtin; (refine wpList_append_seq _ rfl (.tmp 12) (.tmp 18) 27 rfl 16 elRanges rfl ((hown.alloc _).alloc _) 1 rfl (SeqAt.new_at (E := Epair) (wr.alloc _) [(x, y)] 29 (wr.heap.size + 1) (by simp)) rfl (by simp only [maxLen]; omega) (by omega) ?_); intro v1 w1 ho1 hg1)
      go_roundw
      case rel => exact ⟨k + 1, by omega, by go_num, by rw [HS.out]; exact ho1⟩
      case measure => simp [intOf]; omega
    · obtain rfl : k = l.length := by omega
      rw [List.take_length] at hown
      have hab := hown.2
      have hH2 := hH.go hab
      have HO := Lib.hid (hold_of hH2 hown.isSeq (by omega))
      clear hown
      go_wp2_with (go_at_call 13; refine HO.out.mono ?_; rintro e w1 ⟨x, rfl, hx⟩)
      go_ret
      exact ⟨x, rfl, hx⟩

def blanksL : List Rg := [(9, 13), (32, 32), (133, 133), (160, 160), (8192, 8202), (8232, 8233), (12288, 12288)]

set_option maxHeartbeats 400000 in
theorem blanks_any (W w : World) (L : List (Value × (Int → Bool))) (hH : Hold W w L) :
    Calls Try.prog 42 #[] w fun e w' => ∃ x, e = .returned x ∧ Hold W w' ((x, fun z => inB blanksL z && inR z) :: L) := by
  have hseq : IsSeq Epair (w.alloc (.cells (blanksL.flatMap Epair.enc).toArray 85)) (.slice (some ⟨w.heap.size, 0, none⟩) blanksL.length 7) blanksL :=
    IsSeq.new w _ _ 7 (by decide) (by simp [maxLen])
  have HO := Lib.hid (ucdOf_any _ _ W _ L (hH.alloc _) hseq (by decide))
  clear hseq
  go_enter Try.func42, Try.ntmps42
  go_wp2_with (go_at_call 40; refine HO.out.mono ?_; rintro e w1 ⟨x, rfl, hx⟩)
  go_ret
  exact ⟨x, rfl, hx⟩

end Go.Proofs.Ytpidgcjioocmhaa
