/- The walks of the JSON parser's numbers. -/
import Derived.Test.YtemcflfgoelpiaaJsonC
namespace Go.Proofs.Ytemcflfgoelpiaa
open Go.RowKit

theorem tells_of (set : List UInt8) (p : UInt8 → Bool) (h : ∀ k : Fin 256, p (UInt8.ofNat k.val) = decide (0 ≤ Lib.indexByte set (UInt8.ofNat k.val))) : Tells ⟨set.toArray⟩ p := by
  intro c
  have := h ⟨c.toNat, UInt8.toNat_lt c⟩
  simpa using this
theorem tells_minus : Tells ⟨#[45]⟩ JsonP.isMinus := tells_of [45] _ (by decide +kernel)
theorem tells_nought : Tells ⟨#[48]⟩ JsonP.isNought := tells_of [48] _ (by decide +kernel)
theorem tells_dot : Tells ⟨#[46]⟩ JsonP.isDot := tells_of [46] _ (by decide +kernel)
theorem tells_e : Tells ⟨#[101, 69]⟩ JsonP.isE := tells_of [101, 69] _ (by decide +kernel)
theorem tells_pm : Tells ⟨#[43, 45]⟩ JsonP.isPm := tells_of [43, 45] _ (by decide +kernel)

theorem has_opt (set : ByteArray) (p : UInt8 → Bool) (hp : Tells set p) (w : World) (b : Nat) (s : ByteArray) (l : List UInt8) (hs : s.size ≤ 1048576) (h : At w b s l) :
    Calls Try.prog 59 #[.pointer (some ⟨b, 0, none⟩), .string set] w fun e w' => e = .returned (.bool (JsonP.has p l).isSome) ∧ Mv b w w' ∧ At w' b s (JsonP.opt p l) := by
  refine (has_any set p hp w b s l hs h).mono ?_
  unfold JsonP.opt
  cases JsonP.has p l with
  | none => exact fun e w' ⟨h1, h2, h3⟩ => ⟨h1, h2, h3⟩
  | some t => exact fun e w' ⟨h1, h2, h3⟩ => ⟨h1, h2, h3⟩

/-- A number's end. -/
def NumEnd (w : World) (b : Nat) (s : ByteArray) (l : List UInt8) (e : Ending) (w' : World) : Prop := match JsonP.number l with
  | some u => Went w b s (.string ⟨(l.take (l.length - u.length)).toArray⟩) u e w'
  | none => Threw w b 20 e w'
theorem NumEnd.no {w w' : World} {b : Nat} {s : ByteArray} {l : List UInt8} {e : Ending} (h : JsonP.number l = none) (k : Threw w b 20 e w') : NumEnd w b s l e w' := by unfold NumEnd; rw [h]; exact k
theorem NumEnd.yes {w w' : World} {b : Nat} {s : ByteArray} {l u : List UInt8} {e : Ending} (h : JsonP.number l = some u) (k : Went w b s (.string ⟨(l.take (l.length - u.length)).toArray⟩) u e w') : NumEnd w b s l e w' := by unfold NumEnd; rw [h]; exact k
theorem number_no1 {l : List UInt8} (h : JsonP.whole (JsonP.opt JsonP.isMinus l) = none) : JsonP.number l = none := by unfold JsonP.number; rw [h]; rfl
theorem number_no2 {l a : List UInt8} (h : JsonP.whole (JsonP.opt JsonP.isMinus l) = some a) (h2 : JsonP.frac a = none) : JsonP.number l = none := by unfold JsonP.number; rw [h]; show (JsonP.frac a).bind _ = _; rw [h2]; rfl
theorem number_at {l a c : List UInt8} (h : JsonP.whole (JsonP.opt JsonP.isMinus l) = some a) (h2 : JsonP.frac a = some c) : JsonP.number l = JsonP.expo c := by unfold JsonP.number; rw [h]; show (JsonP.frac a).bind _ = _; rw [h2]; rfl

set_option maxHeartbeats 800000 in
theorem number_any (w : World) (b : Nat) (s : ByteArray) (l : List UInt8) (hs : s.size ≤ 1048576) (h : At w b s l) :
    Calls Try.prog 49 #[.pointer (some ⟨b, 0, none⟩)] w fun e w' => NumEnd w b s l e w' := by
  have HA := Lib.hid h
  obtain ⟨i, h1, h2, hc, hz, hn⟩ := h.cells
  have H2 := Lib.hid h2
  clear h h2 hn
  obtain ⟨l1, hl1⟩ : ∃ l1, JsonP.opt JsonP.isMinus l = l1 := ⟨_, rfl⟩
  have HL1 := Lib.hid hl1
  clear hl1
  go_enter Try.func49, Try.ntmps49
  obtain ⟨d0, hd0⟩ : ∃ d, (JsonP.has JsonP.isNought l1).isSome = d := ⟨_, rfl⟩
  have HD0 := Lib.hid hd0
  have tk : True := trivial
  clear hd0
  go_upto_if 12 with (first
    | (go_at_call 59; clear tk; refine (has_opt _ _ tells_minus _ b s l hs HA.out).mono ?_; rintro e w1 ⟨rfl, hm1, ha1⟩; generalize (JsonP.has JsonP.isMinus l).isSome = d1; rw [HL1.out] at ha1; have HM1 := Lib.hid hm1; have HA1 := Lib.hid ha1; clear hm1 ha1)
    | (go_at_call 59; refine (has_opt _ _ tells_nought _ b s l1 hs HA1.out).mono ?_; rintro e w2 ⟨rfl, hm2, ha2⟩; rw [HD0.out]; have HM2 := Lib.hid (HM1.out.step hm2); have HA2 := Lib.hid ha2; clear hm2 ha2))
  clear hc hz HM1 HA1
  go_cut [] (fun wx => ∃ l2, Hid (JsonP.whole l1 = some l2) ∧ Mv b w wx ∧ Hid (At wx b s l2))
  case first =>
    cases hn : JsonP.has JsonP.isNought l1 with
    | none =>
      have hw : JsonP.whole l1 = JsonP.run l1 := by unfold JsonP.whole; rw [hn]
      have HA3 : Hid (At w2 b s l1) := Lib.hid (by have := HA2.out; unfold JsonP.opt at this; rw [hn] at this; exact this)
      obtain rfl : false = d0 := by rw [← HD0.out, hn]; rfl
      cases hr : JsonP.run l1 with
      | none =>
        have HE : Hid (JsonP.number l = none) := Lib.hid (number_no1 (by rw [HL1.out, hw, hr]))
        have HR := Lib.hid hr
        clear hn hw hr HD0
        go_wp2_with (go_at_call 60; refine (run_any _ b s l1 hs HA3.out).mono ?_; rw [HR.out]; rintro e w3 ⟨hm3, i3, rfl⟩)
        exact ⟨rfl, NumEnd.no HE.out ⟨HM2.out.step hm3, i3, rfl⟩⟩
      | some u =>
        have HE : Hid (JsonP.whole l1 = some u) := Lib.hid (by rw [hw, hr])
        have HR := Lib.hid hr
        clear hn hw hr HD0
        go_wp2_with (go_at_call 60; refine (run_any _ b s l1 hs HA3.out).mono ?_; rw [HR.out]; rintro e w3 ⟨rfl, hm3, ha3⟩; have HM3 := Lib.hid hm3; have HA4 := Lib.hid ha3; clear hm3 ha3)
        go_meet
        exact ⟨u, HE, HM2.out.step HM3.out, HA4⟩
    | some u =>
      have HE : Hid (JsonP.whole l1 = some u) := Lib.hid (by unfold JsonP.whole; rw [hn])
      have HA3 : Hid (At w2 b s u) := Lib.hid (by have := HA2.out; unfold JsonP.opt at this; rw [hn] at this; exact this)
      obtain rfl : true = d0 := by rw [← HD0.out, hn]; rfl
      clear hn HD0
      go_wp2
      go_meet
      exact ⟨u, HE, HM2.out, HA3⟩
  case rest =>
    obtain ⟨l2, HE, hm, HAa⟩ := hcut
    have HMa := Lib.hid hm
    obtain ⟨wa, rfl⟩ : ∃ wa : World, wa = wc := ⟨_, rfl⟩
    clear hm HM2 HA2 HA HD0
    obtain ⟨d0, hd0⟩ : ∃ d, (JsonP.has JsonP.isDot l2).isSome = d := ⟨_, rfl⟩
    have HD0 := Lib.hid hd0
    clear hd0
    go_upto_if 16 with (go_at_call 59; refine (has_opt _ _ tells_dot _ b s l2 hs HAa.out).mono ?_; rintro e w2 ⟨rfl, hm2, ha2⟩; rw [HD0.out]; have HM2 := Lib.hid (HMa.out.step hm2); have HA2 := Lib.hid ha2; clear hm2 ha2)
    go_cut [] (fun wx => ∃ l3, Hid (JsonP.frac l2 = some l3) ∧ Mv b w wx ∧ Hid (At wx b s l3))
    case first =>
      cases hn : JsonP.has JsonP.isDot l2 with
      | none =>
        have HF : Hid (JsonP.frac l2 = some l2) := Lib.hid (by unfold JsonP.frac; rw [hn])
        have HA3 : Hid (At w2 b s l2) := Lib.hid (by have := HA2.out; unfold JsonP.opt at this; rw [hn] at this; exact this)
        obtain rfl : false = d0 := by rw [← HD0.out, hn]; rfl
        clear hn HD0
        go_wp2
        go_meet
        exact ⟨l2, HF, HM2.out, HA3⟩
      | some u =>
        have hf : JsonP.frac l2 = JsonP.run u := by unfold JsonP.frac; rw [hn]
        have HA3 : Hid (At w2 b s u) := Lib.hid (by have := HA2.out; unfold JsonP.opt at this; rw [hn] at this; exact this)
        obtain rfl : true = d0 := by rw [← HD0.out, hn]; rfl
        cases hr : JsonP.run u with
        | none =>
          have HX : Hid (JsonP.number l = none) := Lib.hid (number_no2 (by rw [HL1.out]; exact HE.out) (by rw [hf, hr]))
          have HR := Lib.hid hr
          clear hn hf hr HD0
          go_wp2_with (go_at_call 60; refine (run_any _ b s u hs HA3.out).mono ?_; rw [HR.out]; rintro e w3 ⟨hm3, i3, rfl⟩)
          exact ⟨rfl, NumEnd.no HX.out ⟨HM2.out.step hm3, i3, rfl⟩⟩
        | some u2 =>
          have HX : Hid (JsonP.frac l2 = some u2) := Lib.hid (by rw [hf, hr])
          have HR := Lib.hid hr
          clear hn hf hr HD0
          go_wp2_with (go_at_call 60; refine (run_any _ b s u hs HA3.out).mono ?_; rw [HR.out]; rintro e w3 ⟨rfl, hm3, ha3⟩; have HM3 := Lib.hid hm3; have HA4 := Lib.hid ha3; clear hm3 ha3)
          go_meet
          exact ⟨u2, HX, HM2.out.step HM3.out, HA4⟩
    case rest =>
      obtain ⟨l3, HF, hm, HAb⟩ := hcut
      have HMb := Lib.hid hm
      obtain ⟨wb, rfl⟩ : ∃ wb : World, wb = wc := ⟨_, rfl⟩
      have HX : Hid (JsonP.number l = JsonP.expo l3) := Lib.hid (number_at (by rw [HL1.out]; exact HE.out) HF.out)
      clear hm HA2 HAa HM2 HMa HE HF HD0
      obtain ⟨d0, hd0⟩ : ∃ d, (JsonP.has JsonP.isE l3).isSome = d := ⟨_, rfl⟩
      have HD0 := Lib.hid hd0
      clear hd0
      go_upto_if 20 with (go_at_call 59; refine (has_opt _ _ tells_e _ b s l3 hs HAb.out).mono ?_; rintro e w2 ⟨rfl, hm2, ha2⟩; rw [HD0.out]; have HM2 := Lib.hid (HMb.out.step hm2); have HA2 := Lib.hid ha2; clear hm2 ha2)
      go_cut [] (fun wx => ∃ l4, Hid (JsonP.expo l3 = some l4) ∧ Mv b w wx ∧ Hid (At wx b s l4))
      case first =>
        cases hn : JsonP.has JsonP.isE l3 with
        | none =>
          have HF : Hid (JsonP.expo l3 = some l3) := Lib.hid (by unfold JsonP.expo; rw [hn])
          have HA3 : Hid (At w2 b s l3) := Lib.hid (by have := HA2.out; unfold JsonP.opt at this; rw [hn] at this; exact this)
          obtain rfl : false = d0 := by rw [← HD0.out, hn]; rfl
          clear hn HD0
          go_wp2
          go_meet
          exact ⟨l3, HF, HM2.out, HA3⟩
        | some u =>
          have hf : JsonP.expo l3 = JsonP.run (JsonP.opt JsonP.isPm u) := by unfold JsonP.expo; rw [hn]
          have HA3 : Hid (At w2 b s u) := Lib.hid (by have := HA2.out; unfold JsonP.opt at this; rw [hn] at this; exact this)
          obtain rfl : true = d0 := by rw [← HD0.out, hn]; rfl
          obtain ⟨u2, hu2⟩ : ∃ u2, JsonP.opt JsonP.isPm u = u2 := ⟨_, rfl⟩
          rw [hu2] at hf
          have HU2 := Lib.hid hu2
          cases hr : JsonP.run u2 with
          | none =>
            have HY : Hid (JsonP.number l = none) := Lib.hid (by rw [HX.out, hf, hr])
            have HR := Lib.hid hr
            clear hn hf hr hu2 HD0
            go_wp2_with (first
              | (go_at_call 59; refine (has_opt _ _ tells_pm _ b s u hs HA3.out).mono ?_; rintro e w4 ⟨rfl, hm4, ha4⟩; generalize (JsonP.has JsonP.isPm u).isSome = d4; rw [HU2.out] at ha4; have HM4 := Lib.hid hm4; have HA5 := Lib.hid ha4; clear hm4 ha4)
              | (go_at_call 60; refine (run_any _ b s u2 hs HA5.out).mono ?_; rw [HR.out]; rintro e w3 ⟨hm3, i3, rfl⟩))
            exact ⟨rfl, NumEnd.no HY.out ⟨(HM2.out.step HM4.out).step hm3, i3, rfl⟩⟩
          | some u3 =>
            have HY : Hid (JsonP.expo l3 = some u3) := Lib.hid (by rw [hf, hr])
            have HR := Lib.hid hr
            clear hn hf hr hu2 HD0
            go_wp2_with (first
              | (go_at_call 59; refine (has_opt _ _ tells_pm _ b s u hs HA3.out).mono ?_; rintro e w4 ⟨rfl, hm4, ha4⟩; generalize (JsonP.has JsonP.isPm u).isSome = d4; rw [HU2.out] at ha4; have HM4 := Lib.hid hm4; have HA5 := Lib.hid ha4; clear hm4 ha4)
              | (go_at_call 60; refine (run_any _ b s u2 hs HA5.out).mono ?_; rw [HR.out]; rintro e w3 ⟨rfl, hm3, ha3⟩; have HM3 := Lib.hid hm3; have HA6 := Lib.hid ha3; clear hm3 ha3))
            go_meet
            exact ⟨u3, HY, (HM2.out.step HM4.out).step HM3.out, HA6⟩
      case rest =>
        obtain ⟨l4, HF, hm, HA4⟩ := hcut
        obtain ⟨wd, rfl⟩ : ∃ wd : World, wd = wc := ⟨_, rfl⟩
        have HMc := Lib.hid hm
        have HY : Hid (JsonP.number l = some l4) := Lib.hid (by rw [HX.out, HF.out])
        clear hm HA2 HM2 HAb HMb HX HF HL1 HD0
        obtain ⟨k, k1, k2, hc, hz, _⟩ := HA4.out.cells
        have hnl := JsonP.number_len HY.out
        rw [← H2.out, ← k2, List.length_drop, List.length_drop, Array.length_toList] at hnl
        have hik : i ≤ k := by have : s.data.size = s.size := rfl; omega
        have hi0 : (0 : Int) ≤ (i : Int) := by omega
        have hik' : (i : Int) ≤ (k : Int) := by omega
        have hks : (k : Int) ≤ (s.size : Int) := by omega
        have HV : Hid (s.extract i k = ⟨(l.take (l.length - l4.length)).toArray⟩) := Lib.hid (by
          apply ByteArray.ext
          rw [ByteArray.data_extract]
          apply Array.ext'
          rw [Array.toList_extract, List.extract_eq_take_drop, ← H2.out, ← k2, List.length_drop, List.length_drop, Array.length_toList, List.toList_toArray]
          congr 1
          have : s.data.size = s.size := rfl
          omega)
        have HA5 := Lib.hid HA4.out
        have HMd := HMc.out
        clear hnl k2
        go_wp2
        go_quiet (fail)
        go_wp2
        go_ret
        exact NumEnd.yes HY.out ⟨by rw [HV.out]; rfl, HMc.out.drewN _, HA5.out⟩

end Go.Proofs.Ytemcflfgoelpiaa
