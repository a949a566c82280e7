/- The walks of the JSON parser's units of 16 bits. -/
import Derived.Test.YtemcflfgoelpiaaJsonD
namespace Go.Proofs.Ytemcflfgoelpiaa
open Go.RowKit

def digs : List UInt8 := [48, 49, 50, 51, 52, 53, 54, 55, 56, 57, 97, 98, 99, 100, 101, 102]
/-- What hex does with a byte: its turned form, and its place among the digits. -/
theorem hex_byte (c : UInt8) : ∃ (y : Nat) (d : Int), y < 256 ∧
    ((65 ≤ c.toNat ∧ c.toNat ≤ 70 ∧ bits BinOp.or IntKind.u8 (c.toNat : Int) 32 = (y : Int)) ∨ ((c.toNat < 65 ∨ 70 < c.toNat) ∧ y = c.toNat)) ∧
    Lib.indexByte digs y.toUInt8 = d ∧ (0 ≤ d → d < 16) ∧ (JsonP.hexd c = if y = 0 ∨ d < 0 then none else some d.toNat) := by
  have h : ∀ k : Fin 256, (((65 ≤ k.val ∧ k.val ≤ 70 ∧ bits BinOp.or IntKind.u8 (k.val : Int) 32 = (((if 65 ≤ k.val ∧ k.val ≤ 70 then k.val + 32 else k.val) : Nat) : Int)) ∨ ((k.val < 65 ∨ 70 < k.val) ∧ (if 65 ≤ k.val ∧ k.val ≤ 70 then k.val + 32 else k.val) = k.val)) ∧
      (0 ≤ Lib.indexByte digs (if 65 ≤ k.val ∧ k.val ≤ 70 then k.val + 32 else k.val).toUInt8 → Lib.indexByte digs (if 65 ≤ k.val ∧ k.val ≤ 70 then k.val + 32 else k.val).toUInt8 < 16) ∧
      (JsonP.hexd (UInt8.ofNat k.val) = if (if 65 ≤ k.val ∧ k.val ≤ 70 then k.val + 32 else k.val) = 0 ∨ Lib.indexByte digs (if 65 ≤ k.val ∧ k.val ≤ 70 then k.val + 32 else k.val).toUInt8 < 0 then none else some (Lib.indexByte digs (if 65 ≤ k.val ∧ k.val ≤ 70 then k.val + 32 else k.val).toUInt8).toNat)) := by decide +kernel
  have hk := h ⟨c.toNat, UInt8.toNat_lt c⟩
  simp only [UInt8.ofNat_toNat] at hk
  exact ⟨_, _, by have := UInt8.toNat_lt c; split <;> omega, hk.1, rfl, hk.2.1, hk.2.2⟩
theorem or_shl16 (v y : Int) (h0 : 0 ≤ v) (h1 : v < 1000000000) (h2 : 0 ≤ y) (h3 : y < 16) : bits BinOp.or IntKind.i64 (v * 16) y = 16 * v + y := by
  obtain ⟨a, rfl⟩ : ∃ a : Nat, v = a := ⟨v.toNat, by omega⟩
  obtain ⟨b, rfl⟩ : ∃ b : Nat, y = b := ⟨y.toNat, by omega⟩
  have hb : b < 2 ^ 4 := by omega
  have key := Nat.shiftLeft_add_eq_or_of_lt hb a
  rw [Nat.shiftLeft_eq] at key
  have e1 : ((a : Int) * 16) = ((a * 2 ^ 4 : Nat) : Int) := by omega
  rw [e1]
  show IntKind.i64.wrap ((BitVec.ofInt 64 ((a * 2 ^ 4 : Nat) : Int) ||| BitVec.ofInt 64 (b : Int)).toNat : Nat) = _
  rw [BitVec.toNat_or, bv_of_nat (a * 2 ^ 4) (by omega), bv_of_nat b (by omega), ← key, wraps63 _ (by omega) (by omega)]
  omega

/-- A method that hands back a number, or throws. -/
def UnitEnd (w : World) (b : Nat) (s : ByteArray) : Option (Nat × List UInt8) → Ending → World → Prop
  | some p, e, w' => Went w b s (.int .i64 p.1) p.2 e w'
  | none, e, w' => Threw w b 20 e w'
theorem hexd_nought : JsonP.hexd 0 = none := by decide
theorem hex_hd (k n : Nat) (t : List UInt8) (h : JsonP.hexd (hd t) = none) : JsonP.hex (k + 1) n t = none := by
  cases t with
  | nil => rfl
  | cons c t => show (match JsonP.hexd c with | some d => _ | none => none) = _; rw [show JsonP.hexd c = none from h]
theorem hex_cons (k n : Nat) (t : List UInt8) (d : Nat) (h : JsonP.hexd (hd t) = some d) : ∃ c u, t = c :: u ∧ JsonP.hex (k + 1) n t = JsonP.hex k (16 * n + d) u := by
  cases t with
  | nil => rw [show hd [] = 0 from rfl, hexd_nought] at h; cases h
  | cons c t => exact ⟨c, t, rfl, by show (match JsonP.hexd c with | some d => _ | none => none) = _; rw [show JsonP.hexd c = some d from h]⟩

set_option maxRecDepth 100000 in
set_option maxHeartbeats 800000 in
theorem hex_any (w : World) (b : Nat) (s : ByteArray) (l : List UInt8) (hs : s.size ≤ 1048576) (h : At w b s l) :
    Calls Try.prog 62 #[.pointer (some ⟨b, 0, none⟩)] w fun e w' => UnitEnd w b s (JsonP.hex 4 0 l) e w' := by
  have HA := Lib.hid h
  clear h
  go_enter Try.func62, Try.ntmps62
  go_wp2
  go_loopg [3, 6] 4 (fun k s3 s6 wr => ∃ (n : Nat) (t : List UInt8), s3 = .int .i64 n ∧ s6 = .int .i64 ((4 : Int) - k) ∧ k ≤ 4 ∧ n < 16 ^ (4 - k) ∧ Hid (JsonP.hex k n t = JsonP.hex 4 0 l) ∧ Mv b w wr ∧ Hid (At wr b s t))
  case atStart => exact ⟨0, l, rfl, rfl, by omega, by decide, Lib.hid rfl, Mv.rfl_ _ _, HA⟩
  case round =>
    obtain ⟨n, t, rfl, rfl, hk4, hn, HE, hm, HAt⟩ := hrel
    have HM := Lib.hid hm
    clear hm HA
    cases gk with
    | zero =>
      have HE2 : Hid (some (n, t) = JsonP.hex 4 0 l) := HE
      clear HE hn
      go_wp2
      go_ret
      rw [← HE2.out]
      exact ⟨rfl, HM.out, HAt.out⟩
    | succ k =>
      have hk0 : (4 : Int) - ((k + 1 : Nat) : Int) < 4 := by omega
      have hn6 : n < 4096 := by
        have : 16 ^ (4 - (k + 1)) ≤ 16 ^ 3 := Nat.pow_le_pow_right (by decide) (by omega)
        exact Nat.lt_of_lt_of_le hn this
      have HN := Lib.hid hn
      clear hn
      obtain ⟨y, d, hy, hyc, hdx, hd16, hx⟩ := hex_byte (hd t)
      obtain ⟨c, hc⟩ : ∃ c : Nat, (hd t).toNat = c := ⟨_, rfl⟩
      rw [hc] at hyc
      have hc256 : c < 256 := by rw [← hc]; exact UInt8.toNat_lt _
      have HI : Hid (∀ w, Calls Try.prog 17 #[.string ⟨#[48, 49, 50, 51, 52, 53, 54, 55, 56, 57, 97, 98, 99, 100, 101, 102]⟩, .int .u8 (y : Int)] w fun e w' => e = .returned (.int .i64 d) ∧ w' = w) := Lib.hid fun w => by
        have := Try.strings_IndexByte ⟨#[48, 49, 50, 51, 52, 53, 54, 55, 56, 57, 97, 98, 99, 100, 101, 102]⟩ (y : Int) w
        rw [Int.toNat_natCast, show Lib.indexByte (ByteArray.mk #[48, 49, 50, 51, 52, 53, 54, 55, 56, 57, 97, 98, 99, 100, 101, 102]).data.toList y.toUInt8 = d from hdx] at this
        exact this
      have HC := Lib.hid hc
      clear hc hdx
      by_cases hbad : y = 0 ∨ d < 0
      · have HX : Hid (JsonP.hex 4 0 l = none) := Lib.hid (by rw [← HE.out]; exact hex_hd k n t (by rw [hx, if_pos hbad]))
        clear hx hd16
        rcases hyc with ⟨a1, a2, a3⟩ | ⟨a1, rfl⟩
        · have b1 : (65 : Int) ≤ (c : Int) := by omega
          have b2 : (c : Int) ≤ 70 := by omega
          have tkk : True := trivial
          rcases hbad with rfl | hb
          · go_wp2_with (first
              | (go_at_call 45; refine (peek_hd _ b s t hs HAt.out).mono ?_; rintro e w1 ⟨rfl, hm1, ha1⟩; rw [HC.out]; have HM1 := Lib.hid (HM.out.step hm1); have HA1 := Lib.hid ha1; clear hm1 ha1)
              | (go_at_call 17; refine (HI.out _).mono ?_; rintro e w2 ⟨rfl, rfl⟩)
              | (go_at_call 31; refine (fail_any 20 _ b s t HA1.out).mono ?_; rintro e w3 ⟨hm3, i3, rfl⟩))
            rw [HX.out]
            exact ⟨rfl, HM1.out.step hm3, i3, rfl⟩
          · have b3 : decide (d < 0) = true := decide_eq_true hb
            by_cases hy0 : ((y : Int) == 0) = true
            all_goals
              go_wp2_with (first
                | (go_at_call 45; refine (peek_hd _ b s t hs HAt.out).mono ?_; rintro e w1 ⟨rfl, hm1, ha1⟩; rw [HC.out]; have HM1 := Lib.hid (HM.out.step hm1); have HA1 := Lib.hid ha1; clear hm1 ha1)
                | (go_at_call 17; refine (HI.out _).mono ?_; rintro e w2 ⟨rfl, rfl⟩)
                | (go_at_call 31; refine (fail_any 20 _ b s t HA1.out).mono ?_; rintro e w3 ⟨hm3, i3, rfl⟩))
              rw [HX.out]
              exact ⟨rfl, HM1.out.step hm3, i3, rfl⟩
        · rcases a1 with a1 | a1
          · have b1 : decide ((65 : Int) ≤ (y : Int)) = false := decide_eq_false (by omega)
            by_cases hy0 : ((y : Int) == 0) = true
            · go_wp2_with (first
                | (go_at_call 45; refine (peek_hd _ b s t hs HAt.out).mono ?_; rintro e w1 ⟨rfl, hm1, ha1⟩; rw [HC.out]; have HM1 := Lib.hid (HM.out.step hm1); have HA1 := Lib.hid ha1; clear hm1 ha1)
                | (go_at_call 17; refine (HI.out _).mono ?_; rintro e w2 ⟨rfl, rfl⟩)
                | (go_at_call 31; refine (fail_any 20 _ b s t HA1.out).mono ?_; rintro e w3 ⟨hm3, i3, rfl⟩))
              rw [HX.out]
              exact ⟨rfl, HM1.out.step hm3, i3, rfl⟩
            · have hc0 : y ≠ 0 := by rintro rfl; exact hy0 rfl
              have hy1 : ((y : Int) == 0) = false := by rw [beq_eq_false_iff_ne]; omega
              have b3 : decide (d < 0) = true := decide_eq_true (by omega)
              clear hy0
              go_wp2_with (first
                | (go_at_call 45; refine (peek_hd _ b s t hs HAt.out).mono ?_; rintro e w1 ⟨rfl, hm1, ha1⟩; rw [HC.out]; have HM1 := Lib.hid (HM.out.step hm1); have HA1 := Lib.hid ha1; clear hm1 ha1)
                | (go_at_call 17; refine (HI.out _).mono ?_; rintro e w2 ⟨rfl, rfl⟩)
                | (go_at_call 31; refine (fail_any 20 _ b s t HA1.out).mono ?_; rintro e w3 ⟨hm3, i3, rfl⟩))
              rw [HX.out]
              exact ⟨rfl, HM1.out.step hm3, i3, rfl⟩
          · have b0 : (65 : Int) ≤ (y : Int) := by omega
            have b1 : decide ((y : Int) ≤ 70) = false := decide_eq_false (by omega)
            have hy1 : ((y : Int) == 0) = false := by rw [beq_eq_false_iff_ne]; omega
            have b3 : decide (d < 0) = true := decide_eq_true (by omega)
            go_wp2_with (first
              | (go_at_call 45; refine (peek_hd _ b s t hs HAt.out).mono ?_; rintro e w1 ⟨rfl, hm1, ha1⟩; rw [HC.out]; have HM1 := Lib.hid (HM.out.step hm1); have HA1 := Lib.hid ha1; clear hm1 ha1)
              | (go_at_call 17; refine (HI.out _).mono ?_; rintro e w2 ⟨rfl, rfl⟩)
              | (go_at_call 31; refine (fail_any 20 _ b s t HA1.out).mono ?_; rintro e w3 ⟨hm3, i3, rfl⟩))
            rw [HX.out]
            exact ⟨rfl, HM1.out.step hm3, i3, rfl⟩
      · rw [if_neg hbad] at hx
        obtain ⟨c1, u, rfl, hxu⟩ := hex_cons k n t d.toNat hx
        have HX : Hid (JsonP.hex k (16 * n + d.toNat) u = JsonP.hex 4 0 l) := Lib.hid (by rw [← hxu]; exact HE.out)
        have hd0 : 0 ≤ d := by omega
        have hd1 : d < 16 := hd16 hd0
        have HOr := Lib.hid (or_shl16 n d (by omega) (by omega) hd0 hd1)
        have b3 : decide (d < 0) = false := decide_eq_false (by omega)
        have hy1 : ((y : Int) == 0) = false := by rw [beq_eq_false_iff_ne]; omega
        have hn4 : (n : Int) < 4096 := by omega
        have hn0 : (0 : Int) ≤ (n : Int) := by omega
        clear hx hxu hbad hd16
        rcases hyc with ⟨a1, a2, a3⟩ | ⟨a1, rfl⟩
        case inl =>
          have b1 : (65 : Int) ≤ (c : Int) := by omega
          have b2 : (c : Int) ≤ 70 := by omega
          go_upto_region 10 with (first
            | (go_at_call 45; refine (peek_hd _ b s _ hs HAt.out).mono ?_; rintro e w1 ⟨rfl, hm1, ha1⟩; rw [HC.out]; have HM1 := Lib.hid (HM.out.step hm1); have HA1 := Lib.hid ha1; clear hm1 ha1)
            | (go_at_call 17; refine (HI.out _).mono ?_; rintro e w2 ⟨rfl, rfl⟩))
          have hor := HOr.out
          go_upto_region 11 with fail
          obtain ⟨i, h1, h2, hc, hz, hn⟩ := HA1.out.cells
          obtain ⟨h3, h4⟩ := lt_of_cons h2
          have HNx := Lib.hid hn
          have H4 := Lib.hid h4
          clear h2 h4 hn
          go_wp2
          go_roundg k
          case measure => omega
          case rel => exact ⟨16 * n + d.toNat, u, val_int (by omega), val_int (by omega), by omega, by
            have := HN.out
            rw [show 4 - k = (4 - (k + 1)) + 1 by omega, Nat.pow_succ]; omega, HX, HM1.out.set ⟨b, 1, none⟩ (.inl rfl) _, Lib.hid (by rw [← H4.out]; exact HNx.out (i + 1) _ (by omega) (by omega))⟩
        case inr =>
          have hor := HOr.out
          rcases a1 with a1 | a1
          · have b1 : decide ((65 : Int) ≤ (y : Int)) = false := decide_eq_false (by omega)
            go_upto_region 11 with (first
              | (go_at_call 45; refine (peek_hd _ b s _ hs HAt.out).mono ?_; rintro e w1 ⟨rfl, hm1, ha1⟩; rw [HC.out]; have HM1 := Lib.hid (HM.out.step hm1); have HA1 := Lib.hid ha1; clear hm1 ha1)
              | (go_at_call 17; refine (HI.out _).mono ?_; rintro e w2 ⟨rfl, rfl⟩))
            obtain ⟨i, h1, h2, hc, hz, hn⟩ := HA1.out.cells
            obtain ⟨h3, h4⟩ := lt_of_cons h2
            have HNx := Lib.hid hn
            have H4 := Lib.hid h4
            clear h2 h4 hn
            go_wp2
            go_roundg k
            case measure => omega
            case rel => exact ⟨16 * n + d.toNat, u, val_int (by omega), val_int (by omega), by omega, by
              have := HN.out
              rw [show 4 - k = (4 - (k + 1)) + 1 by omega, Nat.pow_succ]; omega, HX, HM1.out.set ⟨b, 1, none⟩ (.inl rfl) _, Lib.hid (by rw [← H4.out]; exact HNx.out (i + 1) _ (by omega) (by omega))⟩
          · have b0 : (65 : Int) ≤ (y : Int) := by omega
            have b1 : decide ((y : Int) ≤ 70) = false := decide_eq_false (by omega)
            go_upto_region 11 with (first
              | (go_at_call 45; refine (peek_hd _ b s _ hs HAt.out).mono ?_; rintro e w1 ⟨rfl, hm1, ha1⟩; rw [HC.out]; have HM1 := Lib.hid (HM.out.step hm1); have HA1 := Lib.hid ha1; clear hm1 ha1)
              | (go_at_call 17; refine (HI.out _).mono ?_; rintro e w2 ⟨rfl, rfl⟩))
            obtain ⟨i, h1, h2, hc, hz, hn⟩ := HA1.out.cells
            obtain ⟨h3, h4⟩ := lt_of_cons h2
            have HNx := Lib.hid hn
            have H4 := Lib.hid h4
            clear h2 h4 hn
            go_wp2
            go_roundg k
            case measure => omega
            case rel => exact ⟨16 * n + d.toNat, u, val_int (by omega), val_int (by omega), by omega, by
              have := HN.out
              rw [show 4 - k = (4 - (k + 1)) + 1 by omega, Nat.pow_succ]; omega, HX, HM1.out.set ⟨b, 1, none⟩ (.inl rfl) _, Lib.hid (by rw [← H4.out]; exact HNx.out (i + 1) _ (by omega) (by omega))⟩

theorem tells_stroke : Tells ⟨#[92]⟩ (fun c => decide (c = 92)) := tells_of [92] _ (by decide +kernel)
theorem tells_u : Tells ⟨#[117]⟩ (fun c => decide (c = 117)) := tells_of [117] _ (by decide +kernel)
theorem hex_lt (k n : Nat) (t : List UInt8) (p : Nat × List UInt8) (h : JsonP.hex k n t = some p) : p.1 < 16 ^ k * (n + 1) := by
  induction k generalizing n t with
  | zero => injection h with h; subst h; simp
  | succ k ih =>
    cases t with
    | nil => cases h
    | cons c t =>
      replace h : (match JsonP.hexd c with | some d => JsonP.hex k (16 * n + d) t | none => none) = some p := h
      cases hd1 : JsonP.hexd c with
      | none => rw [hd1] at h; cases h
      | some d =>
        rw [hd1] at h
        have hd16 : d < 16 := by
          have : ∀ k : Fin 256, ∀ d, JsonP.hexd (UInt8.ofNat k.val) = some d → d < 16 := by
            intro k d hk
            have := UInt8.toNat_lt (UInt8.ofNat k.val)
            unfold JsonP.hexd at hk
            simp only [UInt8.le_iff_toNat_le] at hk
            split at hk
            · rename_i h1; injection hk with hk; have h2 := h1.2; simp only [UInt8.reduceToNat] at h1 h2; omega
            · split at hk
              · rename_i h1; injection hk with hk; have h2 := h1.2; simp only [UInt8.reduceToNat] at h1 h2; omega
              · split at hk
                · rename_i h1; injection hk with hk; have h2 := h1.2; simp only [UInt8.reduceToNat] at h1 h2; omega
                · cases hk
          refine this ⟨c.toNat, UInt8.toNat_lt c⟩ d ?_
          rw [UInt8.ofNat_toNat]; exact hd1
        have h1 := ih (16 * n + d) t h
        rw [Nat.pow_succ, Nat.mul_assoc]
        exact Nat.lt_of_lt_of_le h1 (Nat.mul_le_mul_left _ (by omega))

end Go.Proofs.Ytemcflfgoelpiaa
