/- The walk of the JSON parser's unit. -/
import Derived.Test.YtemcflfgoelpiaaJsonE
namespace Go.Proofs.Ytemcflfgoelpiaa
open Go.RowKit

theorem ret_of {v v' : Value} (h : v = v') : Ending.returned v = .returned v' := by rw [h]
theorem has_yes {p : UInt8 → Bool} {c : UInt8} {t : List UInt8} (h : p c = true) : JsonP.has p (c :: t) = some t := by
  show (if p c then some t else none) = _; rw [h]; rfl
theorem opt_yes {p : UInt8 → Bool} {c : UInt8} {t : List UInt8} (h : p c = true) : JsonP.opt p (c :: t) = t := by
  unfold JsonP.opt; rw [has_yes h]; rfl
def isStroke (c : UInt8) : Bool := decide (c = 92)
def isU (c : UInt8) : Bool := decide (c = 117)
theorem tells_isStroke : Tells ⟨#[92]⟩ isStroke := tells_stroke
theorem tells_isU : Tells ⟨#[117]⟩ isU := tells_u
theorem has_no {p : UInt8 → Bool} {l : List UInt8} (h : JsonP.has p l = none) : (JsonP.has p l).isSome = false ∧ JsonP.opt p l = l := by
  unfold JsonP.opt; rw [h]; exact ⟨rfl, rfl⟩
theorem has_is {p : UInt8 → Bool} {l t : List UInt8} (h : JsonP.has p l = some t) : (JsonP.has p l).isSome = true ∧ JsonP.opt p l = t := by
  unfold JsonP.opt; rw [h]; exact ⟨rfl, rfl⟩
theorem has_stroke {l t : List UInt8} (h : JsonP.has isStroke l = some t) : l = 92 :: t := by
  cases l with
  | nil => cases h
  | cons c u =>
    replace h : (if isStroke c then some u else none) = some t := h
    split at h
    · rename_i hc; injection h with h; subst h; rw [show c = 92 by simpa [isStroke] using hc]
    · cases h
theorem has_u {l t : List UInt8} (h : JsonP.has isU l = some t) : l = 117 :: t := by
  cases l with
  | nil => cases h
  | cons c u =>
    replace h : (if isU c then some u else none) = some t := h
    split at h
    · rename_i hc; injection h with h; subst h; rw [show c = 117 by simpa [isU] using hc]
    · cases h
theorem second_no1 {a : Nat} {l : List UInt8} (h : JsonP.has isStroke l = none) : JsonP.second a l = some (65533, l) := by
  unfold JsonP.second
  split
  · cases h
  · rfl
theorem second_no2 {a : Nat} {l t : List UInt8} (h : JsonP.has isStroke l = some t) (h2 : JsonP.has isU t = none) : JsonP.second a l = some (65533, l) := by
  rw [has_stroke h]
  unfold JsonP.second
  split
  · rename_i h3; injection h3 with _ h3; rw [h3] at h2; cases h2
  · rfl
theorem second_at {a : Nat} {l t u : List UInt8} (h : JsonP.has isStroke l = some t) (h2 : JsonP.has isU t = some u) : JsonP.second a l = match JsonP.hex 4 0 u with
    | none => none
    | some (b, x) => if 56320 ≤ b ∧ b ≤ 57343 then some (65536 + (a - 55296) * 1024 + (b - 56320), x) else some (65533, l) := by
  rw [has_stroke h, has_u h2]
  rfl

set_option maxRecDepth 100000 in
set_option maxHeartbeats 1600000 in
theorem unit_any (w : World) (b : Nat) (s : ByteArray) (l : List UInt8) (hs : s.size ≤ 1048576) (h : At w b s l) :
    Calls Try.prog 58 #[.pointer (some ⟨b, 0, none⟩)] w fun e w' => UnitEnd w b s (JsonP.unit l) e w' := by
  have HA := Lib.hid h
  clear h
  have hU : JsonP.unit l = match JsonP.hex 4 0 l with
    | none => none
    | some (a, t) => if a < 55296 ∨ 57343 < a then some (a, t) else if a < 56320 then JsonP.second a t else some (65533, t) := rfl
  cases hx : JsonP.hex 4 0 l with
  | none =>
    rw [hx] at hU
    rw [hU]
    have HX := Lib.hid hx
    clear hx hU
    go_enter Try.func58, Try.ntmps58
    go_wp2_with (go_at_call 62; refine (hex_any _ b s l hs HA.out).mono ?_; rw [HX.out]; rintro e w1 ⟨hm1, i1, rfl⟩)
    exact ⟨rfl, hm1, i1, rfl⟩
  | some p =>
    obtain ⟨a, t⟩ := p
    have ha := hex_lt 4 0 l _ hx
    replace ha : a < 65536 := ha
    have hc1 : ∀ w, At w b s l → Calls Try.prog 62 #[.pointer (some ⟨b, 0, none⟩)] w fun e w' => e = .returned (.int .i64 a) ∧ Mv b w w' ∧ At w' b s t := fun w h => by
      have := hex_any w b s l hs h
      rw [hx] at this
      exact this
    have HC1 := Lib.hid hc1
    rw [hx] at hU
    replace hU : JsonP.unit l = if a < 55296 ∨ 57343 < a then some (a, t) else if a < 56320 then JsonP.second a t else some (65533, t) := hU
    rw [hU]
    clear hx hc1 hU
    by_cases c1 : a < 55296 ∨ 57343 < a
    · rw [if_pos c1]
      rcases c1 with c1 | c1
      · have d1 : (a : Int) < 55296 := by omega
        go_enter Try.func58, Try.ntmps58
        go_wp2_with (go_at_call 62; refine (HC1.out _ HA.out).mono ?_; rintro e w1 ⟨rfl, hm1, ha1⟩; have HM1 := Lib.hid hm1; have HA1 := Lib.hid ha1; clear hm1 ha1)
        go_ret
        exact ⟨rfl, HM1.out, HA1.out⟩
      · have d1 : decide ((a : Int) < 55296) = false := decide_eq_false (by omega)
        have d2 : (57343 : Int) < (a : Int) := by omega
        go_enter Try.func58, Try.ntmps58
        go_wp2_with (go_at_call 62; refine (HC1.out _ HA.out).mono ?_; rintro e w1 ⟨rfl, hm1, ha1⟩; have HM1 := Lib.hid hm1; have HA1 := Lib.hid ha1; clear hm1 ha1)
        go_ret
        exact ⟨rfl, HM1.out, HA1.out⟩
    · rw [if_neg c1]
      have d1 : decide ((a : Int) < 55296) = false := decide_eq_false (by omega)
      have d2 : decide ((57343 : Int) < (a : Int)) = false := decide_eq_false (by omega)
      have HA0 := Lib.hid c1
      clear c1
      by_cases c2 : a < 56320
      · rw [if_pos c2]
        have d3 : (a : Int) < 56320 := by omega
        cases h1 : JsonP.has isStroke t with
        | none =>
          rw [second_no1 h1]
          obtain ⟨e1, e2⟩ := has_no h1
          have E1 := Lib.hid e1
          have E2 := Lib.hid e2
          clear h1 e1 e2
          go_enter Try.func58, Try.ntmps58
          go_wp2_with (first
            | (go_at_call 62; refine (HC1.out _ HA.out).mono ?_; rintro e w1 ⟨rfl, hm1, ha1⟩; have HM1 := Lib.hid hm1; have HA1 := Lib.hid ha1; obtain ⟨i, h1, h2, hc, hz, hn⟩ := ha1.cells; clear hm1 ha1 h2 hn)
            | (go_at_call 59; refine (has_opt _ _ tells_isStroke _ b s t hs HA1.out).mono ?_; rintro e w2 ⟨rfl, hm2, ha2⟩; rw [E1.out]; rw [E2.out] at ha2; have HM2 := Lib.hid (HM1.out.step hm2); have HA2 := Lib.hid ha2; clear hm2 ha2 hc hz))
          go_ret
          exact ⟨rfl, HM2.out, HA2.out⟩
        | some t1 =>
          obtain ⟨e1, e2⟩ := has_is h1
          have E1 := Lib.hid e1
          have E2 := Lib.hid e2
          have tk : True := trivial
          clear e1 e2
          cases h2 : JsonP.has isU t1 with
          | none =>
            rw [second_no2 h1 h2]
            obtain ⟨e3, e4⟩ := has_no h2
            have E3 := Lib.hid e3
            have E4 := Lib.hid e4
            clear h1 h2 e3 e4
            go_enter Try.func58, Try.ntmps58
            go_wp2_with (first
              | (go_at_call 62; refine (HC1.out _ HA.out).mono ?_; rintro e w1 ⟨rfl, hm1, ha1⟩; have HM1 := Lib.hid hm1; have HA1 := Lib.hid ha1; obtain ⟨i, h1, h2, hc, hz, hn⟩ := ha1.cells; have HI2 := Lib.hid h2; clear hm1 ha1 h2 hn)
              | (go_at_call 59; clear tk; refine (has_opt _ _ tells_isStroke _ b s t hs HA1.out).mono ?_; rintro e w2 ⟨rfl, hm2, ha2⟩; rw [E1.out]; rw [E2.out] at ha2; have HM2 := Lib.hid (HM1.out.step hm2); have HA2 := Lib.hid ha2; clear hm2 ha2 hc hz)
              | (go_at_call 59; refine (has_opt _ _ tells_isU _ b s t1 hs HA2.out).mono ?_; rintro e w3 ⟨rfl, hm3, ha3⟩; rw [E3.out]; have HM3 := Lib.hid (HM2.out.step hm3); obtain ⟨k, k1, k2, hc, hz, hn⟩ := ha3.cells; have HN := Lib.hid hn; clear hm3 ha3 k2 hn))
            go_ret
            exact ⟨rfl, HM3.out.set ⟨b, 1, none⟩ (.inl rfl) _, by rw [← HI2.out]; exact HN.out i _ rfl h1⟩
          | some t2 =>
            rw [second_at h1 h2]
            obtain ⟨e3, e4⟩ := has_is h2
            have E3 := Lib.hid e3
            have E4 := Lib.hid e4
            have tk2 : True := trivial
            clear h1 h2 e3 e4
            cases hx2 : JsonP.hex 4 0 t2 with
            | none =>
              have HX2 := Lib.hid hx2
              clear hx2
              go_enter Try.func58, Try.ntmps58
              go_wp2_with (first
                | (go_at_call 62; clear tk2; refine (HC1.out _ HA.out).mono ?_; rintro e w1 ⟨rfl, hm1, ha1⟩; have HM1 := Lib.hid hm1; have HA1 := Lib.hid ha1; obtain ⟨i, h1, h2, hc, hz, hn⟩ := ha1.cells; have HI2 := Lib.hid h2; clear hm1 ha1 h2 hn)
                | (go_at_call 59; clear tk; refine (has_opt _ _ tells_isStroke _ b s t hs HA1.out).mono ?_; rintro e w2 ⟨rfl, hm2, ha2⟩; rw [E1.out]; rw [E2.out] at ha2; have HM2 := Lib.hid (HM1.out.step hm2); have HA2 := Lib.hid ha2; clear hm2 ha2 hc hz)
                | (go_at_call 59; refine (has_opt _ _ tells_isU _ b s t1 hs HA2.out).mono ?_; rintro e w3 ⟨rfl, hm3, ha3⟩; rw [E3.out]; rw [E4.out] at ha3; have HM3 := Lib.hid (HM2.out.step hm3); have HA3 := Lib.hid ha3; clear hm3 ha3)
                | (go_at_call 62; refine (hex_any _ b s t2 hs HA3.out).mono ?_; rw [HX2.out]; rintro e w4 ⟨hm4, i4, rfl⟩))
              exact ⟨rfl, HM3.out.step hm4, i4, rfl⟩
            | some p2 =>
              obtain ⟨d, u⟩ := p2
              have hd := hex_lt 4 0 t2 _ hx2
              replace hd : d < 65536 := hd
              have hc2 : ∀ w, At w b s t2 → Calls Try.prog 62 #[.pointer (some ⟨b, 0, none⟩)] w fun e w' => e = .returned (.int .i64 d) ∧ Mv b w w' ∧ At w' b s u := fun w h => by
                have := hex_any w b s t2 hs h
                rw [hx2] at this
                exact this
              have HC2 := Lib.hid hc2
              clear hx2 hc2
              have hcase : (¬ 56320 ≤ d) ∨ (56320 ≤ d ∧ ¬ d ≤ 57343) ∨ (56320 ≤ d ∧ d ≤ 57343) := by omega
              rcases hcase with hq | ⟨hq1, hq2⟩ | ⟨hq1, hq2⟩
              · have q1 : decide ((56320 : Int) ≤ (d : Int)) = false := decide_eq_false (by omega)
                simp only [hq, false_and, if_false]
                go_enter Try.func58, Try.ntmps58
                go_wp2_with (first
                  | (go_at_call 62; clear tk2; refine (HC1.out _ HA.out).mono ?_; rintro e w1 ⟨rfl, hm1, ha1⟩; have HM1 := Lib.hid hm1; have HA1 := Lib.hid ha1; obtain ⟨i, h1, h2, hc, hz, hn⟩ := ha1.cells; have HI2 := Lib.hid h2; clear hm1 ha1 h2 hn)
                  | (go_at_call 59; clear tk; refine (has_opt _ _ tells_isStroke _ b s t hs HA1.out).mono ?_; rintro e w2 ⟨rfl, hm2, ha2⟩; rw [E1.out]; rw [E2.out] at ha2; have HM2 := Lib.hid (HM1.out.step hm2); have HA2 := Lib.hid ha2; clear hm2 ha2 hc hz)
                  | (go_at_call 59; refine (has_opt _ _ tells_isU _ b s t1 hs HA2.out).mono ?_; rintro e w3 ⟨rfl, hm3, ha3⟩; rw [E3.out]; rw [E4.out] at ha3; have HM3 := Lib.hid (HM2.out.step hm3); have HA3 := Lib.hid ha3; clear hm3 ha3)
                  | (go_at_call 62; refine (HC2.out _ HA3.out).mono ?_; rintro e w4 ⟨rfl, hm4, ha4⟩; have HM4 := Lib.hid (HM3.out.step hm4); obtain ⟨k, k1, k2, hc, hz, hn⟩ := ha4.cells; have HN := Lib.hid hn; clear hm4 ha4 k2 hn))
                go_ret
                exact ⟨rfl, HM4.out.set ⟨b, 1, none⟩ (.inl rfl) _, by rw [← HI2.out]; exact HN.out i _ rfl h1⟩
              · have q1 : (56320 : Int) ≤ (d : Int) := by omega
                have q2 : decide ((d : Int) ≤ 57343) = false := decide_eq_false (by omega)
                simp only [hq2, and_false, if_false]
                go_enter Try.func58, Try.ntmps58
                go_wp2_with (first
                  | (go_at_call 62; clear tk2; refine (HC1.out _ HA.out).mono ?_; rintro e w1 ⟨rfl, hm1, ha1⟩; have HM1 := Lib.hid hm1; have HA1 := Lib.hid ha1; obtain ⟨i, h1, h2, hc, hz, hn⟩ := ha1.cells; have HI2 := Lib.hid h2; clear hm1 ha1 h2 hn)
                  | (go_at_call 59; clear tk; refine (has_opt _ _ tells_isStroke _ b s t hs HA1.out).mono ?_; rintro e w2 ⟨rfl, hm2, ha2⟩; rw [E1.out]; rw [E2.out] at ha2; have HM2 := Lib.hid (HM1.out.step hm2); have HA2 := Lib.hid ha2; clear hm2 ha2 hc hz)
                  | (go_at_call 59; refine (has_opt _ _ tells_isU _ b s t1 hs HA2.out).mono ?_; rintro e w3 ⟨rfl, hm3, ha3⟩; rw [E3.out]; rw [E4.out] at ha3; have HM3 := Lib.hid (HM2.out.step hm3); have HA3 := Lib.hid ha3; clear hm3 ha3)
                  | (go_at_call 62; refine (HC2.out _ HA3.out).mono ?_; rintro e w4 ⟨rfl, hm4, ha4⟩; have HM4 := Lib.hid (HM3.out.step hm4); obtain ⟨k, k1, k2, hc, hz, hn⟩ := ha4.cells; have HN := Lib.hid hn; clear hm4 ha4 k2 hn))
                go_ret
                exact ⟨rfl, HM4.out.set ⟨b, 1, none⟩ (.inl rfl) _, by rw [← HI2.out]; exact HN.out i _ rfl h1⟩
              · have q1 : (56320 : Int) ≤ (d : Int) := by omega
                have q2 : (d : Int) ≤ 57343 := by omega
                have q3 : (55296 : Int) ≤ (a : Int) := by have := HA0.out; omega
                simp only [hq1, hq2, and_true, if_true]
                go_enter Try.func58, Try.ntmps58
                go_wp2_with (first
                  | (go_at_call 62; clear tk2; refine (HC1.out _ HA.out).mono ?_; rintro e w1 ⟨rfl, hm1, ha1⟩; have HM1 := Lib.hid hm1; have HA1 := Lib.hid ha1; obtain ⟨i, h1, h2, hc, hz, hn⟩ := ha1.cells; have HI2 := Lib.hid h2; clear hm1 ha1 h2 hn)
                  | (go_at_call 59; clear tk; refine (has_opt _ _ tells_isStroke _ b s t hs HA1.out).mono ?_; rintro e w2 ⟨rfl, hm2, ha2⟩; rw [E1.out]; rw [E2.out] at ha2; have HM2 := Lib.hid (HM1.out.step hm2); have HA2 := Lib.hid ha2; clear hm2 ha2 hc hz)
                  | (go_at_call 59; refine (has_opt _ _ tells_isU _ b s t1 hs HA2.out).mono ?_; rintro e w3 ⟨rfl, hm3, ha3⟩; rw [E3.out]; rw [E4.out] at ha3; have HM3 := Lib.hid (HM2.out.step hm3); have HA3 := Lib.hid ha3; clear hm3 ha3)
                  | (go_at_call 62; refine (HC2.out _ HA3.out).mono ?_; rintro e w4 ⟨rfl, hm4, ha4⟩; have HM4 := Lib.hid (HM3.out.step hm4); have HA4 := Lib.hid ha4; clear hm4 ha4))
                go_ret
                exact ⟨ret_of (val_int (by omega)), HM4.out, HA4.out⟩
      · rw [if_neg c2]
        have d3 : decide ((a : Int) < 56320) = false := decide_eq_false (by omega)
        clear c2
        go_enter Try.func58, Try.ntmps58
        go_wp2_with (go_at_call 62; refine (HC1.out _ HA.out).mono ?_; rintro e w1 ⟨rfl, hm1, ha1⟩; have HM1 := Lib.hid hm1; have HA1 := Lib.hid ha1; obtain ⟨i, h1, h2, hc, hz, hn⟩ := ha1.cells; clear hm1 ha1 h2 hn)
        go_ret
        exact ⟨rfl, HM1.out, HA1.out⟩

end Go.Proofs.Ytemcflfgoelpiaa
