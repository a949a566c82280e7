/- The walk of the program's Encode of one scalar in UTF-8. -/
import Derived.Test.YtemjgnpkhomofaaUtfEnc
namespace Go.Proofs.Ytemjgnpkhomofaa
open Go.RowKit SetPure UtfPure

theorem conv_own {w0 w : World} {v : Value} {l : List Int} (h : Own Ebyte 5 w0 w v l) : (convert 44 9 v).run Try.prog w = .ok (.string (strOfNums l)) w := by
  obtain ⟨A, c, rfl, _, _, hA⟩ := h.isSeq
  rcases Nat.eq_zero_or_pos l.length with h0 | h0
  · obtain rfl := List.eq_nil_of_length_eq_zero h0
    rcases A with _ | a
    · exact run_convert_bytes_nil (P := Try.prog) w 44 5 Try.underlying44 Try.underlying5 0 c 9 Try.underlying9
    · rcases h.1.2 with ⟨h', _⟩ | ⟨g, cap, cur, h', _⟩
      · cases h'
      · injection h' with h1 _ _
        injection h1 with h1
        subst h1
        exact run_convert_bytes_arg (P := Try.prog) w 44 5 Try.underlying44 Try.underlying5 g 0 0 c [] rfl (fun i hi => by omega) 9 Try.underlying9
  · obtain ⟨b, off, rfl, hb, hc⟩ := hA h0
    refine run_convert_bytes_arg (P := Try.prog) w 44 5 Try.underlying44 Try.underlying5 b off l.length c l rfl (fun i hi => ?_) 9 Try.underlying9
    rw [hc i (by simpa [Ebyte] using hi)]
    congr 1
    have hf := Ebyte.flat_at l i hi 0 (by decide)
    have e : i * Ebyte.k + 0 = i := by show i * 1 + 0 = i; omega
    rw [e] at hf
    rw [List.getD_eq_getElem?_getD, hf, List.getD_eq_getElem?_getD, List.getElem?_eq_getElem hi]
    rfl

set_option maxHeartbeats 1600000 in
theorem encode_any (g : Nat) (r : Int) (w : World) (hg : g < w.heap.size) (hc : w.cell? ⟨g, 0, none⟩ = some (.int .i64 r)) (hr : isScalar r = true) :
    Calls Try.prog 36 #[.slice (some ⟨g, 0, none⟩) 1 1, .int .i64 1, .bool false] w fun e w' => e = .returned (.tuple #[.string (strU r), .int .i64 0]) ∧ Below w.heap.size w w' := by
  have hs : 0 ≤ r ∧ r ≤ 1114111 ∧ (r < 55296 ∨ 57343 < r) := by
    simp only [isScalar, Bool.and_eq_true, Bool.or_eq_true, decide_eq_true_eq] at hr; omega
  clear hr
  obtain ⟨h0, h1, h2⟩ := hs
  have HP := Lib.hid (put_any r w h0 h1)
  unfold strU
  generalize encU r = l at *
  go_enter Try.func36, Try.ntmps36
  go_wp2
  go_loopw [8, 10, 24] (fun vo _ ix wr => (ix = .int .i64 0 ∧ vo = .slice none 0 0 ∧ wr = w) ∨ (ix = .int .i64 1 ∧ Hid (Own Ebyte 5 w wr vo l))) (fun _ _ ix _ => 2 - (intOf ix).toNat)
  case atStart => exact .inl ⟨rfl, rfl, rfl⟩
  case round =>
    rcases hrel with ⟨rfl, rfl, rfl⟩ | ⟨rfl, hown⟩
    · rcases h2 with h2 | h2
      · have hd : decide (55296 ≤ r) = false := by simpa using h2
        go_wp2_with (go_at_call 57; refine HP.out.mono ?_; rintro e w1 ⟨v, rfl, ho⟩; have HO := Lib.hid ho; clear ho)
        go_roundw
        case rel => exact .inr ⟨rfl, HO⟩
        case measure => simp [intOf]
      · have hd : decide (r ≤ 57343) = false := by simpa using h2
        have hd2 : (55296 : Int) ≤ r := by omega
        have hd3 : ¬ r < 0 := by omega
        have hd4 : decide (r < 0) = false := by simpa using h0
        have hd5 : decide (1114111 < r) = false := by simpa using h1
        go_wp2_with (go_at_call 57; refine HP.out.mono ?_; rintro e w1 ⟨v, rfl, ho⟩; have HO := Lib.hid ho; clear ho)
        go_roundw
        case rel => exact .inr ⟨rfl, HO⟩
        case measure => simp [intOf]
    · have hcv := conv_own hown.out
      go_wp2
      go_ret2
      exact ⟨rfl, hown.out.2⟩

end Go.Proofs.Ytemjgnpkhomofaa
