/- Chapter 06: the walks of tape's decimal, the document's digits and upto. -/
import Derived.Test.YtcpddggbigopjaaDoorTapeNum
import Derived.Test.YtcpddggbigopjaaDoorTapeFieldsP
namespace Go.Proofs.YtcpddggbigopjaaDoor
open Go.RowKit TapePure

theorem drop_at {l : List UInt8} {k : Nat} {c : UInt8} (hk : k < l.length) (hc : l.getD k 0 = c) : l.drop k = c :: l.drop (k + 1) := by
  rw [List.drop_eq_getElem_cons hk]
  congr 1
  rw [← hc, List.getD_eq_getElem?_getD, List.getElem?_eq_getElem hk]; rfl
theorem pow10_le {k : Nat} (h : k ≤ 12) : (10 : Int) ^ k ≤ 1000000000000 := by
  obtain rfl | rfl | rfl | rfl | rfl | rfl | rfl | rfl | rfl | rfl | rfl | rfl | rfl : k = 0 ∨ k = 1 ∨ k = 2 ∨ k = 3 ∨ k = 4 ∨ k = 5 ∨ k = 6 ∨ k = 7 ∨ k = 8 ∨ k = 9 ∨ k = 10 ∨ k = 11 ∨ k = 12 := by omega
  all_goals decide
theorem pow10_step {k : Nat} {v d : Int} (h : v < 10 ^ k) (d1 : d ≤ 9) : 10 * v + d < 10 ^ (k + 1) := by
  rw [Int.pow_succ]; omega

set_option maxHeartbeats 2000000 in
theorem decimal_any (s : ByteArray) (most : Int) (w : World) (hm0 : 0 ≤ most) (hm : most ≤ 12) : Calls Tryd.prog 20 #[.string s, .int .i64 most] w fun e w' => e = .returned (.tuple #[.int .i64 (decL s.data.toList most).1, .bool (decL s.data.toList most).2]) ∧ Below w.heap.size w w' := by
  obtain ⟨l, hl⟩ : ∃ l, s.data.toList = l := ⟨_, rfl⟩
  have hsl := size_list s
  rw [hl] at hsl ⊢
  have HLL := Lib.hid hl
  have HSL := Lib.hid hsl
  by_cases hb : (l.length : Int) < 1 ∨ most < (l.length : Int)
  · have HD := Lib.hid (show decL l most = (0, false) by unfold decL; rw [if_pos hb])
    have hcs : decide ((s.size : Int) < 1) = true ∨ decide ((s.size : Int) < 1) = false ∧ decide (most < (s.size : Int)) = true := by
      by_cases h1 : (s.size : Int) < 1
      · exact .inl (decide_eq_true h1)
      · exact .inr ⟨decide_eq_false h1, decide_eq_true (by omega)⟩
    clear hb hl hsl
    rcases hcs with h1 | ⟨h1, h2⟩
    all_goals
      go_enter Tryd.func20, Tryd.ntmps20
      go_wp2
      go_ret2
      exact ⟨by rw [HD.out]; rfl, Below.refl _ _⟩
  · have HD := Lib.hid (show decL l most = decF 0 l by unfold decL; rw [if_neg hb])
    have h1 : decide ((s.size : Int) < 1) = false := decide_eq_false (by omega)
    have h2 : decide (most < (s.size : Int)) = false := decide_eq_false (by omega)
    have hs12 : s.size ≤ 12 := by omega
    have hs1 : 1 ≤ s.size := by omega
    have HAT := Lib.hid (fun k (hk : k < s.size) => at_list hl hk)
    clear hb hl hsl
    go_enter Tryd.func20, Tryd.ntmps20
    go_wp2
    go_loopw [6, 7, 19] (fun nx _ ix wr => ∃ (k : Nat) (v : Int), k ≤ s.size ∧ ix = .int .i64 k ∧ nx = .int .i64 v ∧ 0 ≤ v ∧ Hid (v < 10 ^ k) ∧ Hid (decF 0 l = decF v (l.drop k)) ∧ Below w.heap.size w wr) (fun _ _ ix _ => s.size + 1 - (intOf ix).toNat)
    case atStart => exact ⟨0, 0, by omega, rfl, rfl, by omega, Lib.hid (by decide), rfl, Below.refl _ _⟩
    case round =>
      obtain ⟨k, v, hk, rfl, rfl, hv0, hv1, hv, hbw⟩ := hrel
      by_cases hlt : k < s.size
      · obtain ⟨c, hc⟩ : ∃ c, l.getD k 0 = c := ⟨_, rfl⟩
        have hat : s[k]'hlt = c := (HAT.out k hlt).trans hc
        have HDR := Lib.hid (drop_at (by rw [← HSL.out]; exact hlt) hc)
        have HS := Lib.hid (show decF v (l.drop k) = if (c.toNat : Int) < 48 ∨ 57 < (c.toNat : Int) then (0, false) else decF (10 * v + ((c.toNat : Int) - 48)) (l.drop (k + 1)) by rw [HDR.out]; rfl)
        have hclt : (c.toNat : Int) ≤ 255 := by have := UInt8.toNat_lt c; omega
        have hc0 : (0 : Int) ≤ (c.toNat : Int) := by omega
        have hki : (k : Int) < (s.size : Int) := by omega
        have hp := pow10_le (k := k) (by omega)
        have hv2 : v ≤ 1000000000000 := by have := hv1.out; omega
        obtain ⟨ci, hci⟩ : ∃ ci : Int, (c.toNat : Int) = ci := ⟨_, rfl⟩
        rw [hci] at HS hclt hc0
        clear hc hp
        by_cases d1 : ci < 48
        · have e1 : decide (ci < 48) = true := decide_eq_true d1
          have HR := Lib.hid (show decF 0 l = (0, false) by rw [hv.out, HS.out, if_pos (.inl d1)])
          go_wp2
          go_ret2
          exact ⟨by rw [HD.out, HR.out]; rfl, hbw⟩
        · have e1 : decide (ci < 48) = false := decide_eq_false d1
          by_cases d2 : 57 < ci
          · have e2 : decide (57 < ci) = true := decide_eq_true d2
            have HR := Lib.hid (show decF 0 l = (0, false) by rw [hv.out, HS.out, if_pos (.inr d2)])
            go_wp2
            go_ret2
            exact ⟨by rw [HD.out, HR.out]; rfl, hbw⟩
          · have e2 : decide (57 < ci) = false := decide_eq_false d2
            have HR := Lib.hid (show decF 0 l = decF (10 * v + (ci - 48)) (l.drop (k + 1)) by rw [hv.out, HS.out, if_neg (by omega)])
            have hs48 : IntKind.u8.wrap (ci - 48) = ci - 48 := subU48 (by omega) hclt
            go_wp2
            go_roundw
            case rel => exact ⟨k + 1, 10 * v + (ci - 48), by omega, by go_num, rfl, by omega, Lib.hid (pow10_step hv1.out (by omega)), HR, hbw⟩
            case measure => simp [intOf]; omega
      · obtain rfl : k = s.size := by omega
        have HR := Lib.hid (show decF 0 l = (v, true) by rw [hv.out, List.drop_of_length_le (by rw [← HSL.out]; exact Nat.le_refl _)]; rfl)
        go_wp2
        go_ret2
        exact ⟨by rw [HD.out, HR.out]; rfl, hbw⟩

set_option maxHeartbeats 2000000 in
theorem digits_any (s : ByteArray) (most : Int) (w : World) (hm0 : 0 ≤ most) (hm : most ≤ 12) : Calls Tryd.prog 22 #[.string s, .int .i64 most] w fun e w' => e = .returned (.tuple #[.int .i64 (decL s.data.toList most).1, .bool (decL s.data.toList most).2]) ∧ Below w.heap.size w w' := by
  obtain ⟨l, hl⟩ : ∃ l, s.data.toList = l := ⟨_, rfl⟩
  have hsl := size_list s
  rw [hl] at hsl ⊢
  have HLL := Lib.hid hl
  have HSL := Lib.hid hsl
  by_cases hb : (l.length : Int) < 1 ∨ most < (l.length : Int)
  · have HD := Lib.hid (show decL l most = (0, false) by unfold decL; rw [if_pos hb])
    have hcs : ((s.size : Int) == 0) = true ∨ ((s.size : Int) == 0) = false ∧ decide (most < (s.size : Int)) = true := by
      by_cases h1 : (s.size : Int) = 0
      · exact .inl (beq_iff_eq.2 h1)
      · exact .inr ⟨beq_eq_false_iff_ne.2 h1, decide_eq_true (by omega)⟩
    clear hb hl hsl
    rcases hcs with h1 | ⟨h1, h2⟩
    all_goals
      go_enter Tryd.func22, Tryd.ntmps22
      go_wp2
      go_ret2
      exact ⟨by rw [HD.out]; rfl, Below.refl _ _⟩
  · have HD := Lib.hid (show decL l most = decF 0 l by unfold decL; rw [if_neg hb])
    have h1 : ((s.size : Int) == 0) = false := beq_eq_false_iff_ne.2 (by omega)
    have h2 : decide (most < (s.size : Int)) = false := decide_eq_false (by omega)
    have hs12 : s.size ≤ 12 := by omega
    have hs1 : 1 ≤ s.size := by omega
    have HAT := Lib.hid (fun k (hk : k < s.size) => at_list hl hk)
    clear hb hl hsl
    go_enter Tryd.func22, Tryd.ntmps22
    go_wp2
    go_loopw [6, 7] (fun nx ix wr => ∃ (k : Nat) (v : Int), k ≤ s.size ∧ ix = .int .i64 k ∧ nx = .int .i64 v ∧ 0 ≤ v ∧ Hid (v < 10 ^ k) ∧ Hid (decF 0 l = decF v (l.drop k)) ∧ Below w.heap.size w wr) (fun _ ix _ => s.size + 1 - (intOf ix).toNat)
    case atStart => exact ⟨0, 0, by omega, rfl, rfl, by omega, Lib.hid (by decide), rfl, Below.refl _ _⟩
    case round =>
      obtain ⟨k, v, hk, rfl, rfl, hv0, hv1, hv, hbw⟩ := hrel
      by_cases hlt : k < s.size
      · obtain ⟨c, hc⟩ : ∃ c, l.getD k 0 = c := ⟨_, rfl⟩
        have hat : s[k]'hlt = c := (HAT.out k hlt).trans hc
        have HDR := Lib.hid (drop_at (by rw [← HSL.out]; exact hlt) hc)
        have HS := Lib.hid (show decF v (l.drop k) = if (c.toNat : Int) < 48 ∨ 57 < (c.toNat : Int) then (0, false) else decF (10 * v + ((c.toNat : Int) - 48)) (l.drop (k + 1)) by rw [HDR.out]; rfl)
        have hclt : (c.toNat : Int) ≤ 255 := by have := UInt8.toNat_lt c; omega
        have hc0 : (0 : Int) ≤ (c.toNat : Int) := by omega
        have hki : (k : Int) < (s.size : Int) := by omega
        have hp := pow10_le (k := k) (by omega)
        have hv2 : v ≤ 1000000000000 := by have := hv1.out; omega
        obtain ⟨ci, hci⟩ : ∃ ci : Int, (c.toNat : Int) = ci := ⟨_, rfl⟩
        rw [hci] at HS hclt hc0
        clear hc hp
        by_cases d1 : ci < 48
        · have e1 : decide (ci < 48) = true := decide_eq_true d1
          have HR := Lib.hid (show decF 0 l = (0, false) by rw [hv.out, HS.out, if_pos (.inl d1)])
          go_wp2
          go_ret2
          exact ⟨by rw [HD.out, HR.out]; rfl, hbw⟩
        · have e1 : decide (ci < 48) = false := decide_eq_false d1
          by_cases d2 : 57 < ci
          · have e2 : decide (57 < ci) = true := decide_eq_true d2
            have HR := Lib.hid (show decF 0 l = (0, false) by rw [hv.out, HS.out, if_pos (.inr d2)])
            go_wp2
            go_ret2
            exact ⟨by rw [HD.out, HR.out]; rfl, hbw⟩
          · have e2 : decide (57 < ci) = false := decide_eq_false d2
            have HR := Lib.hid (show decF 0 l = decF (10 * v + (ci - 48)) (l.drop (k + 1)) by rw [hv.out, HS.out, if_neg (by omega)])
            have hs48 : IntKind.u8.wrap (ci - 48) = ci - 48 := subU48 (by omega) hclt
            go_wp2
            go_roundw
            case rel => exact ⟨k + 1, 10 * v + (ci - 48), by omega, by go_num, rfl, by omega, Lib.hid (pow10_step hv1.out (by omega)), HR, hbw⟩
            case measure => simp [intOf]; omega
      · obtain rfl : k = s.size := by omega
        have HR := Lib.hid (show decF 0 l = (v, true) by rw [hv.out, List.drop_of_length_le (by rw [← HSL.out]; exact Nat.le_refl _)]; rfl)
        go_wp2
        go_ret2
        exact ⟨by rw [HD.out, HR.out]; rfl, hbw⟩

theorem take_extract (s : ByteArray) (k : Nat) : (s.extract 0 k).data.toList = s.data.toList.take k := by
  rw [ByteArray.data_extract, Array.toList_extract]
  simp
theorem upto_skip {c b : UInt8} {l : List UInt8} {k : Nat} (hk : k < l.length) (hb : l.getD k 0 = b) (hn : ¬ b = c) (h : upto c l = (l.take k ++ (upto c (l.drop k)).1, (upto c (l.drop k)).2)) :
    upto c l = (l.take (k + 1) ++ (upto c (l.drop (k + 1))).1, (upto c (l.drop (k + 1))).2) := by
  rw [h, drop_at hk hb, upto_cons, if_neg hn]
  have ht : l.take (k + 1) = l.take k ++ [b] := by
    rw [List.take_add_one, List.getElem?_eq_getElem hk]
    rw [List.getD_eq_getElem?_getD, List.getElem?_eq_getElem hk] at hb
    have hb' : l[k] = b := by simpa using hb
    rw [hb']; rfl
  rw [ht, List.append_assoc]; rfl

set_option maxHeartbeats 1000000 in
theorem upto_any (s : ByteArray) (c : UInt8) (w : World) (hs : s.size ≤ maxLen) : Calls Tryd.prog 21 #[.string s, .int .u8 c.toNat] w fun e w' => (∃ t : ByteArray, e = .returned (.tuple #[.string t, .bool (upto c s.data.toList).2]) ∧ t.data.toList = (upto c s.data.toList).1) ∧ Below w.heap.size w w' := by
  unfold maxLen at hs
  obtain ⟨l, hl⟩ : ∃ l, s.data.toList = l := ⟨_, rfl⟩
  have hsl := size_list s
  rw [hl] at hsl
  have HLL := Lib.hid hl
  have HSL := Lib.hid hsl
  have HAT := Lib.hid (fun k (hk : k < s.size) => at_list hl hk)
  rw [hl]
  obtain ⟨ci, hci⟩ : ∃ ci : Int, (c.toNat : Int) = ci := ⟨_, rfl⟩
  have HCI := Lib.hid hci
  rw [hci]
  clear hl hsl hci
  go_enter Tryd.func21, Tryd.ntmps21
  go_wp2
  go_loopw [6] (fun ix wr => ∃ k : Nat, k ≤ s.size ∧ ix = .int .i64 k ∧ Hid (upto c l = (l.take k ++ (upto c (l.drop k)).1, (upto c (l.drop k)).2)) ∧ Below w.heap.size w wr) (fun ix _ => s.size + 1 - (intOf ix).toNat)
  case atStart => exact ⟨0, by omega, rfl, Lib.hid (by simp), Below.refl _ _⟩
  case round =>
    obtain ⟨k, hk, rfl, hu, hbw⟩ := hrel
    by_cases hlt : k < s.size
    · obtain ⟨b, hb⟩ : ∃ b, l.getD k 0 = b := ⟨_, rfl⟩
      have hat : s[k]'hlt = b := (HAT.out k hlt).trans hb
      have hkl : k < l.length := by rw [← HSL.out]; exact hlt
      have hki : (k : Int) < (s.size : Int) := by omega
      by_cases he : b = c
      · have HR := Lib.hid (show upto c l = (l.take k, true) by rw [hu.out, drop_at hkl hb, upto_cons, if_pos he, List.append_nil])
        have hbe : ((b.toNat : Int) == ci) = true := by rw [he, HCI.out]; simp
        have hbe2 : (b.toNat : Int) = ci := by rw [he, HCI.out]
        clear hb hkl he
        go_wp2
        go_ret2
        exact ⟨⟨s.extract 0 k, by rw [HR.out]; rfl, by rw [take_extract, HLL.out, HR.out]⟩, hbw⟩
      · have HR := Lib.hid (upto_skip hkl hb he hu.out)
        have hbe2 : ¬ (b.toNat : Int) = ci := fun h => he (UInt8.toNat_inj.1 (by rw [← HCI.out] at h; omega))
        have hbe : ((b.toNat : Int) == ci) = false := beq_eq_false_iff_ne.2 hbe2
        clear hb hkl he
        go_wp2
        go_roundw
        case rel => exact ⟨k + 1, by omega, by go_num, HR, hbw⟩
        case measure => simp [intOf]; omega
    · obtain rfl : k = s.size := by omega
      have HR := Lib.hid (show upto c l = (l, false) by
        rw [hu.out, List.drop_of_length_le (by rw [← HSL.out]; exact Nat.le_refl _), List.take_of_length_le (by rw [← HSL.out]; exact Nat.le_refl _)]
        simp [upto])
      go_wp2
      go_ret2
      exact ⟨⟨s, by rw [HR.out]; rfl, by rw [HLL.out, HR.out]⟩, hbw⟩

end Go.Proofs.YtcpddggbigopjaaDoor
