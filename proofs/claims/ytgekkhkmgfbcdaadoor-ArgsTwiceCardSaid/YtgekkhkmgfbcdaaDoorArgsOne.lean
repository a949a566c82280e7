/- Chapter 25: the walk of args' one. -/
import Derived.Test.YtgekkhkmgfbcdaaDoorArgsBase
import Derived.Test.YtgekkhkmgfbcdaaDoorArgsOneP
namespace Go.Proofs.YtgekkhkmgfbcdaaDoor
open Go.Shelf Go.RowKit

theorem itoa_small {v : Nat} {a : List UInt8} (h : Lib.itoa v = a) (h7 : a.length ≤ 7) : v < 10000000 := by
  rw [Lib.itoa_nonneg] at h
  obtain ⟨h1, h2, _, _⟩ := ArgsP.dec_props v
  have := ArgsP.dval_lt h1
  rw [h2, h] at this
  have h3 : 10 ^ a.length ≤ 10 ^ 7 := Nat.pow_le_pow_right (by omega) h7
  omega

theorem take8 (s : ByteArray) : (s.extract 0 (min (s.size : Int) 8).toNat).data.toList = s.data.toList.take 8 := by
  rw [ByteArray.data_extract, Array.toList_extract]
  simp only [List.extract_eq_take_drop, List.drop_zero, Nat.sub_zero]
  have hl := len_bytes s
  rcases Nat.lt_or_ge s.size 8 with h | h
  · rw [show (min (s.size : Int) 8).toNat = s.size by omega, List.take_of_length_le (by omega), List.take_of_length_le (by omega)]
  · rw [show (min (s.size : Int) 8).toNat = 8 by omega]

/-- The text, how many bytes it takes; whether there is one. -/
def oneV (s : ByteArray) : Value :=
  match ArgsP.oneL s.data.toList with
  | none => .tuple #[.string ⟨#[]⟩, .int .i64 0, .bool false]
  | some (k, n) => .tuple #[.string (s.extract (k + 1) (k + 1 + n)), .int .i64 ((k + 2 + n : Nat) : Int), .bool true]
theorem oneV_none {s : ByteArray} (h : ArgsP.oneL s.data.toList = none) : oneV s = .tuple #[.string ⟨#[]⟩, .int .i64 0, .bool false] := by unfold oneV; rw [h]

theorem cut_len {s sep a r : List UInt8} {ok : Bool} (h : Lib.cut s sep = (a, r, ok)) : a.length ≤ s.length := by
  unfold Lib.cut at h
  split at h
  · rw [← (Prod.mk.inj h).1, List.length_take]; omega
  · rw [← (Prod.mk.inj h).1]; exact Nat.le_refl _
theorem str_same {a b : ByteArray} : (a.toList == b.toList) = true ↔ a.data.toList = b.data.toList := by
  rw [ByteArray.toList_eq, ByteArray.toList_eq]; exact beq_iff_eq
theorem str_other {a b : ByteArray} (h : a.data.toList ≠ b.data.toList) : (a.toList == b.toList) = false := by
  rw [ByteArray.toList_eq, ByteArray.toList_eq]; exact beq_eq_false_iff_ne.2 h

/-- What the digits are: no number; a number whose numeral they aren't; or the numeral of a number. -/
theorem digits_cases (d : ByteArray) (h7 : d.data.toList.length ≤ 8) :
    (∀ n, Lib.atoiAll d.data.toList ≠ .ok n) ∨ (∃ (v : Int) (e : ByteArray), Lib.atoiAll d.data.toList = .ok v ∧ Lib.itoa v = e.data.toList ∧ (e.data.toList ≠ d.data.toList) ∧ -100000000 < v ∧ v < 100000000) ∨
    (∃ v : Int, Lib.atoiAll d.data.toList = .ok v ∧ Lib.itoa v = d.data.toList ∧ -100000000 < v ∧ v < 0) ∨ (∃ v : Nat, Lib.atoiAll d.data.toList = .ok (v : Int) ∧ Lib.itoa v = d.data.toList ∧ v < 100000000) := by
  have hnb : ∀ v : Int, Lib.atoiAll d.data.toList = .ok v → -100000000 < v ∧ v < 100000000 := fun v h => ArgsP.atoi_bound h h7
  by_cases h : ∃ n, Lib.atoiAll d.data.toList = .ok n
  · obtain ⟨v, hv⟩ := h
    have hb := hnb v hv
    by_cases he : Lib.itoa v = d.data.toList
    · by_cases h0 : v < 0
      · exact Or.inr (Or.inr (Or.inl ⟨v, hv, he, hb.1, h0⟩))
      · refine Or.inr (Or.inr (Or.inr ⟨v.toNat, ?_, ?_, by omega⟩)) <;> rw [show ((v.toNat : Nat) : Int) = v by omega]
        · exact hv
        · exact he
    · exact Or.inr (Or.inl ⟨v, bytesOf (Lib.itoa v), hv, (bytesOf_list _).symm, by rw [bytesOf_list]; exact he, hb.1, hb.2⟩)
  · exact Or.inl fun n hn => h ⟨n, hn⟩

set_option maxRecDepth 100000 in
set_option maxHeartbeats 1000000 in
theorem one_any (s : ByteArray) (w : World) (hs : s.size ≤ 140737488355328) (hB : Base w) :
    Calls Tryd.prog 24 #[.string s] w fun e w' => e = .returned (oneV s) ∧ Below w.heap.size w w' := by
  obtain ⟨a, r, ok, hc⟩ : ∃ a r ok, Lib.cut (s.data.toList.take 8) [58] = (a, r, ok) := ⟨_, _, _, rfl⟩
  obtain ⟨d, hd⟩ : ∃ d : ByteArray, d = bytesOf a := ⟨_, rfl⟩
  have hda : d.data.toList = a := by rw [hd]; exact bytesOf_list a
  have hcw := cut_w (s.extract 0 (min (s.size : Int) 8).toNat) ⟨#[58]⟩ d (bytesOf r) ok w (by have h2 := congrArg List.length (take8 s); rw [List.length_take, len_bytes] at h2; omega) hB
    (by rw [take8, hda, bytesOf_list]; exact hc)
  have h8 : d.data.toList.length ≤ 8 := by have := cut_len hc; rw [List.length_take] at this; rw [hda]; omega
  have hds : d.size ≤ 8 := by rw [← len_bytes]; exact h8
  have HC := Lib.hid hcw
  have H := Lib.hid hB
  subst hda
  clear hd hcw hB
  rcases digits_cases d h8 with hat | ⟨v, ev, hn, hi, hne, hv0, hv1⟩ | ⟨v, hn, hi, hv0, hv1⟩ | ⟨v, hn, hi, hv1⟩
  · have HN : Hid (oneV s = .tuple #[.string ⟨#[]⟩, .int .i64 0, .bool false]) := by
      cases ok with
      | false => exact Lib.hid (oneV_none (ArgsP.cut_not hc))
      | true => exact Lib.hid (oneV_none (ArgsP.one_atoi (ArgsP.cut_found hc) hat))
    have HA := Lib.hid hat
    clear hc hat h8
    cases ok
    all_goals
      go_enter Tryd.func24, Tryd.ntmps24
      go_wp2_with (first
        | (go_at_call 34; refine HC.out.mono ?_; rintro e w1 ⟨rfl, hb1⟩)
        | (go_at_call 35; refine (atoi_no d _ (by omega) (H.out.below hb1) HA.out).mono ?_; rintro e w2 ⟨m, N, rfl, hb2⟩))
      go_ret3
      exact ⟨by rw [HN.out]; rfl, hb1.trans (hb2.mono hb1.size)⟩
  · have HN : Hid (oneV s = .tuple #[.string ⟨#[]⟩, .int .i64 0, .bool false]) := by
      cases ok with
      | false => exact Lib.hid (oneV_none (ArgsP.cut_not hc))
      | true => exact Lib.hid (oneV_none (ArgsP.one_itoa (ArgsP.cut_found hc) hn (Or.inl (by rw [hi]; exact hne))))
    have HA := Lib.hid hn
    have HI := Lib.hid hi
    have hse := str_other hne
    clear hc hn hi h8 hne
    cases ok
    all_goals
      go_enter Tryd.func24, Tryd.ntmps24
      go_wp2_with (first
        | (go_at_call 34; refine HC.out.mono ?_; rintro e w1 ⟨rfl, hb1⟩)
        | (go_at_call 35; refine (atoi_ok d v _ (by omega) HA.out).mono ?_; rintro e w2 ⟨rfl, hb2⟩; have hb12 := hb1.trans (hb2.mono hb1.size))
        | (go_at_call 20; refine (itoa_w ev v _ HI.out (by omega) (by omega) (H.out.below hb12)).mono ?_; rintro e w3 ⟨rfl, hb3⟩; have hb12 := hb12.trans (hb3.mono hb12.size)))
      go_ret3
      exact ⟨by rw [HN.out]; rfl, hb12⟩
  · have HN : Hid (oneV s = .tuple #[.string ⟨#[]⟩, .int .i64 0, .bool false]) := by
      cases ok with
      | false => exact Lib.hid (oneV_none (ArgsP.cut_not hc))
      | true => exact Lib.hid (oneV_none (ArgsP.one_itoa (ArgsP.cut_found hc) hn (Or.inr hv1)))
    have HA := Lib.hid hn
    have HI := Lib.hid hi
    clear hc hn hi h8
    cases ok
    all_goals
      go_enter Tryd.func24, Tryd.ntmps24
      go_wp2_with (first
        | (go_at_call 34; refine HC.out.mono ?_; rintro e w1 ⟨rfl, hb1⟩)
        | (go_at_call 35; refine (atoi_ok d v _ (by omega) HA.out).mono ?_; rintro e w2 ⟨rfl, hb2⟩; have hb12 := hb1.trans (hb2.mono hb1.size))
        | (go_at_call 20; refine (itoa_w d v _ HI.out (by omega) (by omega) (H.out.below hb12)).mono ?_; rintro e w3 ⟨rfl, hb3⟩; have hb12 := hb12.trans (hb3.mono hb12.size)))
      go_ret3
      exact ⟨by rw [HN.out]; rfl, hb12⟩
  · obtain ⟨z, hz⟩ : ∃ z : Int, (v : Int) = z := ⟨_, rfl⟩
    have HA := Lib.hid hn
    have HI := Lib.hid hi
    have hz0 : 0 ≤ z := by omega
    have hz2 : z < 100000000 := by omega
    have hzd : decide (z < 0) = false := by simp; omega
    have hzv : v = z.toNat := by omega
    rw [hz] at HA HI
    cases ok with
    | false =>
      have HN := Lib.hid (oneV_none (ArgsP.cut_not hc))
      clear hc hn hi h8 hz hzv
      go_enter Tryd.func24, Tryd.ntmps24
      go_wp2_with (first
        | (go_at_call 34; refine HC.out.mono ?_; rintro e w1 ⟨rfl, hb1⟩)
        | (go_at_call 35; refine (atoi_ok d z _ (by omega) HA.out).mono ?_; rintro e w2 ⟨rfl, hb2⟩; have hb12 := hb1.trans (hb2.mono hb1.size))
        | (go_at_call 20; refine (itoa_w d z _ HI.out (by omega) (by omega) (H.out.below hb12)).mono ?_; rintro e w3 ⟨rfl, hb3⟩; have hb12 := hb12.trans (hb3.mono hb12.size)))
      go_ret3
      exact ⟨by rw [HN.out]; rfl, hb12⟩
    | true =>
      have hf := ArgsP.cut_found hc
      clear hc hn
      have hl7 := hf.1
      rw [len_bytes] at hl7
      by_cases hlong : s.size ≤ v + (d.size + 1)
      · have HN := Lib.hid (oneV_none (ArgsP.one_long hf hi (Or.inl (by rw [len_bytes, len_bytes]; exact hlong))))
        have hlz : (s.size : Int) - (d.size + 1) ≤ z := by omega
        clear hi h8 hf hz hzv hlong
        go_enter Tryd.func24, Tryd.ntmps24
        go_wp2_with (first
          | (go_at_call 34; refine HC.out.mono ?_; rintro e w1 ⟨rfl, hb1⟩)
          | (go_at_call 35; refine (atoi_ok d z _ (by omega) HA.out).mono ?_; rintro e w2 ⟨rfl, hb2⟩; have hb12 := hb1.trans (hb2.mono hb1.size))
          | (go_at_call 20; refine (itoa_w d z _ HI.out (by omega) (by omega) (H.out.below hb12)).mono ?_; rintro e w3 ⟨rfl, hb3⟩; have hb12 := hb12.trans (hb3.mono hb12.size)))
        go_ret3
        exact ⟨by rw [HN.out]; rfl, hb12⟩
      · have hlt : v + (d.size + 1) < s.size := by omega
        clear hlong
        have hnn : 0 ≤ (d.size : Int) + 1 + z := by omega
        have hlt2 : ((d.size : Int) + 1 + z).toNat < s.size := by omega
        have hat := bytes_at hlt2
        have hlz : ¬ (s.size : Int) - (d.size + 1) ≤ z := by omega
        have hlz2 : (d.size : Int) + 1 + z < s.size := by omega
        have hix : ((d.size : Int) + 1 + z).toNat = d.size + 1 + v := by omega
        by_cases h44 : s[((d.size : Int) + 1 + z).toNat]'hlt2 = 44
        · rw [h44, hix] at hat
          have HY := Lib.hid (ArgsP.one_yes hf hi (by rw [len_bytes, len_bytes]; exact hlt) (by rw [len_bytes]; exact hat))
          have HX := Lib.hid hix
          have hcx : (((s[((d.size : Int) + 1 + z).toNat]'hlt2).toNat : Int) != 44) = false := by rw [h44]; rfl
          clear hf hi hat h8 hz hzv hix h44
          go_enter Tryd.func24, Tryd.ntmps24
          go_wp2_with (first
            | (go_at_call 34; refine HC.out.mono ?_; rintro e w1 ⟨rfl, hb1⟩)
            | (go_at_call 35; refine (atoi_ok d z _ (by omega) HA.out).mono ?_; rintro e w2 ⟨rfl, hb2⟩; have hb12 := hb1.trans (hb2.mono hb1.size))
            | (go_at_call 20; refine (itoa_w d z _ HI.out (by omega) (by omega) (H.out.below hb12)).mono ?_; rintro e w3 ⟨rfl, hb3⟩; have hb12 := hb12.trans (hb3.mono hb12.size)))
          go_ret3
          refine ⟨?_, hb12⟩
          have e1 := HY.out
          have e2 := HX.out
          unfold oneV
          rw [e1, len_bytes]
          show Ending.returned (.tuple #[.string (s.extract (d.size + 1) ((d.size : Int) + 1 + z).toNat), .int .i64 ((d.size : Int) + 1 + z + 1), .bool true]) = _
          rw [e2, show (d.size : Int) + 1 + z + 1 = ((d.size + 2 + v : Nat) : Int) by omega]
        · have h58 : s.data.toList[d.data.toList.length + 1 + v]? ≠ some 44 := by
            rw [len_bytes, ← hix, hat]; exact fun h => h44 (Option.some.inj h)
          have HN := Lib.hid (oneV_none (ArgsP.one_long hf hi (Or.inr h58)))
          have hcx : (((s[((d.size : Int) + 1 + z).toNat]'hlt2).toNat : Int) != 44) = true := by
            rw [bne_iff_ne]; intro h; exact h44 (UInt8.toNat_inj.1 (by show _ = 44; omega))
          clear hf hi hat h8 hz hzv hix h44 h58
          go_enter Tryd.func24, Tryd.ntmps24
          go_wp2_with (first
            | (go_at_call 34; refine HC.out.mono ?_; rintro e w1 ⟨rfl, hb1⟩)
            | (go_at_call 35; refine (atoi_ok d z _ (by omega) HA.out).mono ?_; rintro e w2 ⟨rfl, hb2⟩; have hb12 := hb1.trans (hb2.mono hb1.size))
            | (go_at_call 20; refine (itoa_w d z _ HI.out (by omega) (by omega) (H.out.below hb12)).mono ?_; rintro e w3 ⟨rfl, hb3⟩; have hb12 := hb12.trans (hb3.mono hb12.size)))
          all_goals
            go_ret3
            exact ⟨by rw [HN.out]; rfl, hb12⟩

end Go.Proofs.YtgekkhkmgfbcdaaDoor
