/- Chapter 25: the walk of the document's Number. -/
import Derived.Test.YtgekkhkmgfbcdaaDoorArgsNumP
import Derived.Test.YtgekkhkmgfbcdaaDoorArgsRefUnp
import Derived.Deep.DeepCutAuto
namespace Go.Proofs.YtgekkhkmgfbcdaaDoor
open Go.Shelf Go.RowKit

theorem num_bad {x D : List UInt8} (hD : D = ArgsP.magL x) (h : D = [] ∨ 18 < D.length ∨ (D.head? = some 48 ∧ 1 < x.length) ∨ ¬ ∀ c ∈ D, ArgsP.isDig c = true) : ArgsP.numL x = none := by
  subst hD
  unfold ArgsP.numL
  simp only
  rw [if_pos h]
theorem num_good {x D : List UInt8} (hD : D = ArgsP.magL x) (h1 : D ≠ []) (h2 : D.length ≤ 18) (h3 : ¬ (D.head? = some 48 ∧ 1 < x.length)) (h4 : ∀ c ∈ D, ArgsP.isDig c = true) :
    ArgsP.numL x = some (if x.head? = some 45 then -(ArgsP.dval D : Int) else ArgsP.dval D) := by
  subst hD
  unfold ArgsP.numL
  simp only
  rw [if_neg]
  rintro (h | h | h | h)
  · exact h1 h
  · omega
  · exact h3 h
  · exact h h4
theorem mag_of_neg {x : List UInt8} (h : x.head? = some 45) : ArgsP.magL x = x.drop 1 := by
  unfold ArgsP.magL
  rw [if_pos h, List.drop_one]
theorem mag_of_pos {x : List UInt8} (h : x.head? ≠ some 45) : ArgsP.magL x = x := by
  unfold ArgsP.magL
  rw [if_neg h]
theorem head_at {s : ByteArray} (h : 0 < s.size) : s.data.toList.head? = some s[0] := by
  rw [List.head?_eq_getElem?]
  exact bytes_at h
theorem DigAt.at0 {L : List UInt8} {k n : Nat} (h : DigAt L 0 k n) : (∀ c ∈ L.take k, ArgsP.isDig c = true) ∧ ArgsP.dval (L.take k) = n := h
theorem DigAt.lt18 {L : List UInt8} {j n : Nat} (h : DigAt L 0 j n) (hj : j ≤ 18) : n < 1000000000000000000 := by
  have h1 := ArgsP.dval_lt h.1
  rw [h.2] at h1
  have h2 : ((L.drop 0).take j).length ≤ 18 := by rw [List.length_take]; omega
  have h3 : 10 ^ ((L.drop 0).take j).length ≤ 10 ^ 18 := Nat.pow_le_pow_right (by omega) h2
  omega

set_option maxRecDepth 100000 in
set_option maxHeartbeats 4000000 in
theorem refNum_any (s : ByteArray) (w : World) (hs : s.size ≤ 1099511627776) :
    Calls Tryd.prog 30 #[.string s] w fun e w' => e = .returned (.tuple #[.int .i64 ((ArgsP.numL s.data.toList).getD 0), .bool (ArgsP.numL s.data.toList).isSome]) ∧ w = w' := by
  obtain ⟨r, hr⟩ : ∃ r, ArgsP.numL s.data.toList = r := ⟨_, rfl⟩
  have HR := Lib.hid hr
  rw [hr]
  clear hr
  obtain ⟨neg, hneg⟩ : ∃ b : Bool, decide (s.data.toList.head? = some 45) = b := ⟨_, rfl⟩
  have HNeg := Lib.hid hneg
  clear hneg
  go_enter Tryd.func30, Tryd.ntmps30
  go_upto_region 2 with fail
  go_cut [15] (fun b wx => b = .bool neg ∧ w = wx)
  case first =>
    by_cases h0 : 0 < s.size
    · have hh := head_at h0
      by_cases h45 : s[0] = 45
      · obtain rfl : neg = true := by rw [← HNeg.out, hh, h45]; rfl
        have hc : ((s[0].toNat : Int) == 45) = true := by rw [h45]; rfl
        have h0' : (0 : Int) < (s.size : Int) := by omega
        clear hh h45
        go_wp2_with fail
        go_meet
        exact ⟨rfl, rfl⟩
      · obtain rfl : neg = false := by rw [← HNeg.out, hh]; simp [h45]
        have hc : ((s[0].toNat : Int) == 45) = false := beq_eq_false_iff_ne.2 fun e => h45 (UInt8.toNat_inj.1 (by show _ = 45; omega))
        have h0' : (0 : Int) < (s.size : Int) := by omega
        clear hh h45
        go_wp2_with fail
        go_meet
        exact ⟨rfl, rfl⟩
    · obtain rfl : neg = false := by
        rw [← HNeg.out]
        have : s.data.toList = [] := List.length_eq_zero_iff.1 (by rw [len_bytes]; omega)
        rw [this]; rfl
      have h0' : decide ((0 : Int) < (s.size : Int)) = false := decide_eq_false (by omega)
      go_wp2_with fail
      go_meet
      exact ⟨rfl, rfl⟩
  case rest =>
    obtain ⟨rfl, rfl⟩ := hcut
    go_upto_if 15 with fail
    go_cut [4] (fun d4 wx => ∃ d : ByteArray, d4 = .string d ∧ Hid (d.data.toList = ArgsP.magL s.data.toList) ∧ Hid ((d.size < s.size) ↔ (s.data.toList.head? = some 45)) ∧ d.size ≤ s.size ∧ w = wx)
    case first =>
      cases neg
      · have hn : s.data.toList.head? ≠ some 45 := by simpa using HNeg.out
        have HM := Lib.hid (mag_of_pos hn)
        have HN := Lib.hid hn
        clear hn
        go_wp2_with fail
        go_meet
        exact ⟨s, rfl, Lib.hid HM.out.symm, Lib.hid ⟨fun h => absurd h (Nat.lt_irrefl _), fun h => absurd h HN.out⟩, Nat.le_refl _, rfl⟩
      · have hn : s.data.toList.head? = some 45 := by simpa using HNeg.out
        have HM := Lib.hid (mag_of_neg hn)
        have HN := Lib.hid hn
        have h1 : 1 ≤ s.size := by
          cases hl : s.data.toList with
          | nil => rw [hl] at hn; cases hn
          | cons a b => have := len_bytes s; rw [hl] at this; simp at this; omega
        clear hn
        go_wp2_with fail
        go_meet
        have hl : (s.extract 1 s.size).data.toList = s.data.toList.drop 1 := by rw [mid_list, List.take_of_length_le (by rw [List.length_drop, len_bytes]; omega)]
        have hz : (s.extract 1 s.size).size = s.size - 1 := by rw [← len_bytes, hl, List.length_drop, len_bytes]
        exact ⟨_, rfl, Lib.hid (hl.trans HM.out.symm), Lib.hid ⟨fun _ => HN.out, fun _ => by rw [hz]; omega⟩, by rw [hz]; omega, rfl⟩
    case rest =>
      obtain ⟨d, rfl, HD, HL, hds, rfl⟩ := hcut
      obtain ⟨bad, hbad⟩ : ∃ b : Bool, decide (d.data.toList = [] ∨ 18 < d.data.toList.length ∨ (d.data.toList.head? = some 48 ∧ 1 < s.data.toList.length)) = b := ⟨_, rfl⟩
      have HB := Lib.hid hbad
      clear hbad
      go_upto_region 4 with fail
      go_cut [35] (fun b wx => b = .bool bad ∧ w = wx)
      case first =>
        by_cases h0 : d.size = 0
        · obtain rfl : bad = true := by rw [← HB.out]; exact decide_eq_true (Or.inl (List.length_eq_zero_iff.1 (by rw [len_bytes]; exact h0)))
          have h0' : ((d.size : Int) == 0) = true := beq_iff_eq.2 (by omega)
          clear h0
          go_wp2_with fail
          go_meet
          exact ⟨rfl, rfl⟩
        · have h0' : ((d.size : Int) == 0) = false := beq_eq_false_iff_ne.2 (by omega)
          have hp : 0 < d.size := by omega
          have hh := head_at hp
          by_cases h18 : 18 < d.size
          · obtain rfl : bad = true := by rw [← HB.out]; exact decide_eq_true (Or.inr (Or.inl (by rw [len_bytes]; exact h18)))
            have h18' : decide ((18 : Int) < (d.size : Int)) = true := by simp; omega
            clear h0 hh
            go_wp2_with fail
            go_meet
            exact ⟨rfl, rfl⟩
          · have h18' : decide ((18 : Int) < (d.size : Int)) = false := by simp; omega
            by_cases h48 : d[0] = 48
            · have hc : ((d[0].toNat : Int) == 48) = true := by rw [h48]; rfl
              by_cases h1 : 1 < s.size
              · obtain rfl : bad = true := by rw [← HB.out]; exact decide_eq_true (Or.inr (Or.inr ⟨by rw [hh, h48], by rw [len_bytes]; exact h1⟩))
                have h1' : decide ((1 : Int) < (s.size : Int)) = true := by simp; omega
                clear h0 hh h48 h18
                go_wp2_with fail
                go_meet
                exact ⟨rfl, rfl⟩
              · obtain rfl : bad = false := by
                  rw [← HB.out]
                  refine decide_eq_false ?_
                  rintro (h | h | ⟨h, h'⟩)
                  · exact h0 (by rw [← len_bytes, h]; rfl)
                  · rw [len_bytes] at h; omega
                  · rw [len_bytes] at h'; omega
                have h1' : decide ((1 : Int) < (s.size : Int)) = false := by simp; omega
                clear h0 hh h48 h18
                go_wp2_with fail
                go_meet
                exact ⟨rfl, rfl⟩
            · obtain rfl : bad = false := by
                rw [← HB.out]
                refine decide_eq_false ?_
                rintro (h | h | ⟨h, h'⟩)
                · exact h0 (by rw [← len_bytes, h]; rfl)
                · rw [len_bytes] at h; omega
                · rw [hh] at h; exact h48 (Option.some.inj h)
              have hc : ((d[0].toNat : Int) == 48) = false := beq_eq_false_iff_ne.2 fun e => h48 (UInt8.toNat_inj.1 (by show _ = 48; omega))
              clear h0 hh h48 h18
              go_wp2_with fail
              go_meet
              exact ⟨rfl, rfl⟩
      case rest =>
        obtain ⟨rfl, rfl⟩ := hcut
        cases bad
        · have hb : ¬ (d.data.toList = [] ∨ 18 < d.data.toList.length ∨ (d.data.toList.head? = some 48 ∧ 1 < s.data.toList.length)) := by simpa using HB.out
          have h18 : d.size ≤ 18 := by
            rcases Nat.lt_or_ge 18 d.size with h | h
            · exact absurd (Or.inr (Or.inl (by rw [len_bytes]; exact h))) hb
            · exact h
          have HG := Lib.hid (fun h4 => num_good HD.out (fun h => hb (Or.inl h)) (by rw [len_bytes]; exact h18) (fun h => hb (Or.inr (Or.inr h))) h4)
          clear hb
          go_wp2_with fail
          go_loop [5, 6] (fun n5 k6 => ∃ k n : Nat, n5 = .int .i64 n ∧ k6 = .int .i64 k ∧ k ≤ d.size ∧ Hid (DigAt d.data.toList 0 k n) ∧ n < 1000000000000000000) (fun _ k6 => d.size - (intOf k6).toNat)
          case atStart => exact ⟨0, 0, rfl, rfl, by omega, Lib.hid (DigAt.start _ _), by omega⟩
          case round =>
            obtain ⟨k, n, rfl, rfl, hk, HA, hn⟩ := hrel
            by_cases hlt : k < d.size
            · have hat := bytes_at hlt
              have hmem : d[k] ∈ d.data.toList := List.mem_of_getElem? hat
              by_cases c0 : 48 ≤ (d[k].toNat : Int)
              · by_cases c1 : (d[k].toNat : Int) ≤ 57
                · have HS := Lib.hid (HA.out.step (i := 0) (j := k) (by rw [Nat.zero_add]; exact hat) (by omega) (by omega))
                  have hn' := HS.out.lt18 (by omega)
                  have hkk : (k : Int) < (d.size : Int) := by omega
                  clear hat hmem
                  go_wp2
                  go_round
                  case rel => exact ⟨k + 1, _, val_int (by omega), by go_num, by omega, HS, hn'⟩
                  case measure => simp [intOf]; omega
                · have HE := Lib.hid (num_bad HD.out (Or.inr (Or.inr (Or.inr fun h => by have := ArgsP.isDig_iff.1 (h _ hmem); omega))))
                  have hkk : (k : Int) < (d.size : Int) := by omega
                  have c1' : decide ((57 : Int) < (d[k].toNat : Int)) = true := decide_eq_true (by omega)
                  clear hat hmem
                  go_wp2
                  trace_state
                  go_ret2
                  exact ⟨by rw [← HR.out, HE.out]; rfl, rfl⟩
              · have HE := Lib.hid (num_bad HD.out (Or.inr (Or.inr (Or.inr fun h => by have := ArgsP.isDig_iff.1 (h _ hmem); omega))))
                have hkk : (k : Int) < (d.size : Int) := by omega
                clear hat hmem
                go_wp2
                go_ret2
                exact ⟨by rw [← HR.out, HE.out]; rfl, rfl⟩
            · have hall : ∀ c ∈ d.data.toList, ArgsP.isDig c = true := by
                have := HA.out.at0.1
                rwa [List.take_of_length_le (by rw [len_bytes]; omega)] at this
              have hv : ArgsP.dval d.data.toList = n := by
                have := HA.out.at0.2
                rwa [List.take_of_length_le (by rw [len_bytes]; omega)] at this
              have HE := Lib.hid (HG.out hall)
              have HV := Lib.hid hv
              clear hall hv
              by_cases hneg : d.size < s.size
              · have HN := Lib.hid (HL.out.1 hneg)
                go_wp2
                go_ret2
                refine ⟨?_, rfl⟩
                rw [← HR.out, HE.out, if_pos HN.out, HV.out]
                rfl
              · have HN := Lib.hid (fun h => hneg (HL.out.2 h))
                go_wp2
                go_ret2
                refine ⟨?_, rfl⟩
                rw [← HR.out, HE.out, if_neg HN.out, HV.out]
                rfl
        · have hb : (d.data.toList = [] ∨ 18 < d.data.toList.length ∨ (d.data.toList.head? = some 48 ∧ 1 < s.data.toList.length)) := by simpa using HB.out
          have HE := Lib.hid (num_bad HD.out (hb.imp id (Or.imp id Or.inl)))
          clear hb
          go_wp2
          go_ret2
          exact ⟨by rw [← HR.out, HE.out]; rfl, rfl⟩

end Go.Proofs.YtgekkhkmgfbcdaaDoor
