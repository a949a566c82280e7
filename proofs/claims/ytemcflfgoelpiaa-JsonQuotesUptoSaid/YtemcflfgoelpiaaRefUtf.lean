/- The document's reading of one scalar in UTF-8: what the plain reading tells. -/
import Derived.Test.YtemcflfgoelpiaaLib
import Derived.Test.YtemcflfgoelpiaaDecP
import Derived.Test.YtemcflfgoelpiaaDec
namespace Go.Proofs.Ytemcflfgoelpiaa
open Go.RowKit

theorem drop_at {s : ByteArray} {i : Nat} (k : Nat) : (s.data.toList.drop i).drop k = s.data.toList.drop (i + k) := List.drop_drop
def loAt (b : Int) (i : Nat) : Int := if i = 1 then DecP.least b else 128
def hiAt (b : Int) (i : Nat) : Int := if i = 1 then DecP.most b else 191
theorem loAt_one (b : Int) : loAt b 1 = DecP.least b := rfl
theorem hiAt_one (b : Int) : hiAt b 1 = DecP.most b := rfl
theorem loAt_more {b : Int} {i : Nat} (h : i ≠ 1) : loAt b i = 128 := if_neg h
theorem hiAt_more {b : Int} {i : Nat} (h : i ≠ 1) : hiAt b i = 191 := if_neg h
theorem loAt_ge (b : Int) (i : Nat) : 128 ≤ loAt b i := by unfold loAt DecP.least; split; split; omega; split <;> omega; omega
theorem hiAt_le (b : Int) (i : Nat) : hiAt b i ≤ 191 := by unfold hiAt DecP.most; split; split; omega; split <;> omega; omega

set_option maxRecDepth 100000 in
set_option maxHeartbeats 3200000 in
theorem refUtf8_any (s : ByteArray) (a : Nat) (w : World) (hs : s.size ≤ 140737488355328) (h0 : a < s.size) : Calls Try.prog 54 #[.string s, .int .i64 a] w fun e w' => e = .returned (oneV (DecP.one (s.data.toList.drop a))) ∧ w = w' := by
  obtain ⟨b, hb⟩ : ∃ b : Int, (s[a].toNat : Int) = b := ⟨_, rfl⟩
  have hb0 : 0 ≤ b := by omega
  have hb1 : b < 256 := by have := UInt8.toNat_lt s[a]; omega
  have h1 : DecP.one (s.data.toList.drop a) = if b < 128 then (b, 1) else if b < 194 ∨ 244 < b then (-1, 1) else DecP.go (DecP.more b) 1 (DecP.bits b) (DecP.least b) (DecP.most b) (s.data.toList.drop (a + 1)) := by
    rw [cons_at h0, DecP.one_cons, hb]
  have ha0 : (0 : Int) ≤ (a : Int) := by omega
  have has : (a : Int) < (s.size : Int) := by omega
  by_cases c0 : b < 128
  · have HR : Hid (oneV (DecP.one (s.data.toList.drop a)) = .tuple #[.int .i64 b, .int .i64 1]) := Lib.hid (by rw [h1, if_pos c0]; rfl)
    clear h1
    go_enter Try.func54, Try.ntmps54
    go_wp2
    go_ret2
    exact ⟨by rw [HR.out]; rfl, rfl⟩
  · by_cases c1 : b < 194 ∨ 244 < b
    · have HR : Hid (oneV (DecP.one (s.data.toList.drop a)) = .tuple #[.int .i64 (-1), .int .i64 1]) := Lib.hid (by rw [h1, if_neg c0, if_pos c1]; rfl)
      clear h1
      go_enter Try.func54, Try.ntmps54
      go_wp2
      all_goals
        first
          | (exfalso; omega)
          | (go_ret2; exact ⟨by rw [HR.out]; rfl, rfl⟩)
    · rw [if_neg c0, if_neg c1] at h1
      have c2 : (194 ≤ b ∧ b ≤ 223 ∧ DecP.more b = 1 ∧ DecP.bits b = b - 192) ∨ (224 ≤ b ∧ b ≤ 239 ∧ DecP.more b = 2 ∧ DecP.bits b = b - 224) ∨ (240 ≤ b ∧ b ≤ 244 ∧ DecP.more b = 3 ∧ DecP.bits b = b - 240) := by
        unfold DecP.more DecP.bits
        by_cases k1 : b < 224
        · left; rw [if_pos k1, if_pos k1]; omega
        · by_cases k2 : b < 240
          · right; left; rw [if_neg k1, if_neg k1, if_pos k2, if_pos k2]; omega
          · right; right; rw [if_neg k1, if_neg k1, if_neg k2, if_neg k2]; omega
      have HL : Hid ((b = 224 ∧ loAt b 1 = 160) ∨ (b = 240 ∧ loAt b 1 = 144) ∨ (b ≠ 224 ∧ b ≠ 240 ∧ loAt b 1 = 128)) := Lib.hid (by
        rw [loAt_one]; unfold DecP.least
        split
        · left; exact ⟨by assumption, rfl⟩
        · split
          · right; left; exact ⟨by assumption, rfl⟩
          · right; right; exact ⟨by assumption, by assumption, rfl⟩)
      have HM : Hid ((b = 237 ∧ hiAt b 1 = 159) ∨ (b = 244 ∧ hiAt b 1 = 143) ∨ (b ≠ 237 ∧ b ≠ 244 ∧ hiAt b 1 = 191)) := Lib.hid (by
        rw [hiAt_one]; unfold DecP.most
        split
        · left; exact ⟨by assumption, rfl⟩
        · split
          · right; left; exact ⟨by assumption, rfl⟩
          · right; right; exact ⟨by assumption, by assumption, rfl⟩)
      clear c0 c1 
      rcases c2 with ⟨k1, k2, k3, k4⟩ | ⟨k1, k2, k3, k4⟩ | ⟨k1, k2, k3, k4⟩
      · rw [k3, k4, ← loAt_one, ← hiAt_one] at h1
        have H1 := Lib.hid h1
        clear h1 k3 k4
        have q1 : 194 ≤ b := by omega
        have q2 : ¬ b < 128 := by omega
        go_enter Try.func54, Try.ntmps54
        go_wp2
        go_loop [8, 9] (fun s8 s9 => ∃ (i : Nat) (v : Int), s8 = .int .i64 v ∧ s9 = .int .i64 i ∧ 1 ≤ i ∧ i ≤ 2 ∧ 0 ≤ v ∧ ((i = 1 ∧ v = b - 192) ∨ (i = 2 ∧ v < 2048) ∨ (i = 3 ∧ v < 131072) ∨ (i = 4 ∧ v < 8388608)) ∧ Hid (DecP.one (s.data.toList.drop a) = DecP.go (2 - i) i v (loAt b i) (hiAt b i) (s.data.toList.drop (a + i)))) (fun _ s9 => 5 - (intOf s9).toNat)
        case atStart => exact ⟨1, b - 192, rfl, rfl, by omega, by omega, by omega, Or.inl ⟨rfl, rfl⟩, H1⟩
        case round =>
          obtain ⟨i, v, rfl, rfl, i1, i2, v1, v2, HU⟩ := hrel
          clear H1
          have v3 : v < 10000000 := by omega
          have hlo := loAt_ge b i
          have hhi := hiAt_le b i
          by_cases him : i ≤ 1
          · have hii : (i : Int) ≤ 1 := by omega
            obtain ⟨m, hm'⟩ : ∃ m, 2 - i = m + 1 := ⟨1 - i, by omega⟩
            rw [hm'] at HU
            by_cases hlt : a + i < s.size
            · obtain ⟨x, hx⟩ : ∃ x : Int, (s[a + i].toNat : Int) = x := ⟨_, rfl⟩
              have hx0 : 0 ≤ x := by omega
              have hx1 : x < 256 := by have := UInt8.toNat_lt s[a + i]; omega
              have hc := HU.out
              rw [cons_at hlt, DecP.go_cons, hx] at hc
              have hilt : (a : Int) + (i : Int) < (s.size : Int) := by omega
              have hil0 : (0 : Int) ≤ (a : Int) + (i : Int) := by omega
              have hit : ((a : Int) + (i : Int)).toNat = a + i := by omega
              have hge : decide ((s.size : Int) ≤ (a : Int) + (i : Int)) = false := decide_eq_false (by omega)
              by_cases a1 : x < 128 ∨ 191 < x
              · have HE : Hid (oneV (DecP.one (s.data.toList.drop a)) = .tuple #[.int .i64 (-1), .int .i64 i]) := Lib.hid (by rw [hc, if_pos (by omega)]; rfl)
                have a2 : x < 128 ∨ (¬ x < 128 ∧ 191 < x) := by omega
                clear hc hm' v2 a1
                rcases a2 with a2 | ⟨a2, a3⟩
                all_goals
                  go_wp2
                  go_ret2
                  exact ⟨by rw [HE.out] <;> rfl, rfl⟩
              · have a2 : ¬ x < 128 := by omega
                have a3 : ¬ 191 < x := by omega
                have HC := Lib.hid hc
                have hmi : m = 2 - (i + 1) := by omega
                clear hc a1
                by_cases i11 : i = 1
                · subst i11
                  have hv0 : v ≤ b - 192 := by omega
                  have hv1 : b - 192 ≤ v := by omega
                  clear v2 hm' hge hlo hhi
                  go_wp2
                  go_loop [11, 12, 13] (fun s11 s12 s13 => ∃ (j : Nat) (l h : Int), s11 = .int .i64 l ∧ s12 = .int .i64 h ∧ s13 = .int .i64 j ∧ 1 ≤ j ∧ j ≤ 1 ∧ ((j = 1 ∧ l = 64 * v + x - 128 ∧ h = 64 * v + x - 128) ∨ (j = 2 ∧ l = 64 * (64 * v + x - 128) ∧ h = 64 * (64 * v + x - 128) + 63) ∨ (j = 3 ∧ l = 64 * (64 * (64 * v + x - 128)) ∧ h = 64 * (64 * (64 * v + x - 128) + 63) + 63))) (fun _ _ s13 => 5 - (intOf s13).toNat)
                  case atStart => exact ⟨1, 64 * v + x - 128, 64 * v + x - 128, rfl, rfl, rfl, by omega, by omega, Or.inl ⟨rfl, rfl, rfl⟩⟩
                  case round =>
                    obtain ⟨j, l, h, rfl, rfl, rfl, j1, j2, j3⟩ := hrel
                    have hlb : 0 ≤ l ∧ l < 1000000000 ∧ 0 ≤ h ∧ h < 1000000000 := by omega
                    obtain ⟨lb1, lb2, lb3, lb4⟩ := hlb
                    by_cases hj : j < 1
                    · have hjj : (j : Int) < 1 := by omega
                      have HJ : Hid ((j = 1 ∧ l = 64 * v + x - 128 ∧ h = 64 * v + x - 128) ∨ (j = 2 ∧ l = 64 * (64 * v + x - 128) ∧ h = 64 * (64 * v + x - 128) + 63) ∨ (j = 3 ∧ l = 64 * (64 * (64 * v + x - 128)) ∧ h = 64 * (64 * (64 * v + x - 128) + 63) + 63)) := Lib.hid j3
                      clear j3
                      go_wp2
                      go_round
                      case rel => exact ⟨j + 1, 64 * l, 64 * h + 63, rfl, rfl, by go_num, by omega, by omega, by have := HJ.out; omega⟩
                      case measure => simp [intOf] <;> omega
                    · obtain rfl : j = 1 := by omega
                      have HJ : Hid (l = 64 * v + x - 128 ∧ h = 64 * v + x - 128) := Lib.hid (by omega)
                      clear j3 hj
                      go_wp2
                      all_goals
                        have hj3 := HJ.out
                        have hlo := HL.out
                        have hhi := HM.out
                        first
                          | (exfalso; omega)
                          | (go_ret2
                             exact ⟨by rw [HC.out, if_pos (by omega)] <;> rfl, rfl⟩)
                          | (have HE : Hid (DecP.one (s.data.toList.drop a) = DecP.go (2 - (1 + 1)) (1 + 1) (64 * v + x - 128) (loAt b (1 + 1)) (hiAt b (1 + 1)) (s.data.toList.drop (a + (1 + 1)))) := Lib.hid (by rw [HC.out, if_neg (by omega), loAt_more (by decide), hiAt_more (by decide), hmi, show 64 * v + (x - 128) = 64 * v + x - 128 by omega] <;> rfl)
                             clear hj3 hlo hhi
                             go_round
                             case rel => exact ⟨1 + 1, 64 * v + x - 128, rfl, by go_num, by omega, by omega, by omega, by omega, HE⟩
                             case measure => simp [intOf] <;> omega)
                · exact absurd him (by omega)
            · have HE : Hid (oneV (DecP.one (s.data.toList.drop a)) = .tuple #[.int .i64 (-1), .int .i64 i]) := Lib.hid (by rw [HU.out, go_end (List.drop_of_length_le (by rw [Array.length_toList]; exact Nat.le_of_not_lt hlt))]; rfl)
              have hge : (s.size : Int) ≤ (a : Int) + (i : Int) := by omega
              clear hm' v2 hlo hhi
              go_wp2
              go_ret2
              exact ⟨by rw [HE.out] <;> rfl, rfl⟩
          · have hii : ¬ (i : Int) ≤ 1 := by omega
            obtain rfl : i = 2 := by omega
            have HE : Hid (oneV (DecP.one (s.data.toList.drop a)) = .tuple #[.int .i64 v, .int .i64 2]) := Lib.hid (by rw [HU.out]; rfl)
            clear v2 hlo hhi
            go_wp2
            go_ret2
            exact ⟨by rw [HE.out] <;> rfl, rfl⟩
      · rw [k3, k4, ← loAt_one, ← hiAt_one] at h1
        have H1 := Lib.hid h1
        clear h1 k3 k4
        have q1 : 194 ≤ b := by omega
        have q2 : ¬ b < 128 := by omega
        have q3 : ¬ b ≤ 223 := by omega
        have q5 : 223 < b := by omega
        go_enter Try.func54, Try.ntmps54
        go_wp2
        go_loop [8, 9] (fun s8 s9 => ∃ (i : Nat) (v : Int), s8 = .int .i64 v ∧ s9 = .int .i64 i ∧ 1 ≤ i ∧ i ≤ 3 ∧ 0 ≤ v ∧ ((i = 1 ∧ v = b - 224) ∨ (i = 2 ∧ v < 2048) ∨ (i = 3 ∧ v < 131072) ∨ (i = 4 ∧ v < 8388608)) ∧ Hid (DecP.one (s.data.toList.drop a) = DecP.go (3 - i) i v (loAt b i) (hiAt b i) (s.data.toList.drop (a + i)))) (fun _ s9 => 5 - (intOf s9).toNat)
        case atStart => exact ⟨1, b - 224, rfl, rfl, by omega, by omega, by omega, Or.inl ⟨rfl, rfl⟩, H1⟩
        case round =>
          obtain ⟨i, v, rfl, rfl, i1, i2, v1, v2, HU⟩ := hrel
          clear H1
          have v3 : v < 10000000 := by omega
          have hlo := loAt_ge b i
          have hhi := hiAt_le b i
          by_cases him : i ≤ 2
          · have hii : (i : Int) ≤ 2 := by omega
            obtain ⟨m, hm'⟩ : ∃ m, 3 - i = m + 1 := ⟨2 - i, by omega⟩
            rw [hm'] at HU
            by_cases hlt : a + i < s.size
            · obtain ⟨x, hx⟩ : ∃ x : Int, (s[a + i].toNat : Int) = x := ⟨_, rfl⟩
              have hx0 : 0 ≤ x := by omega
              have hx1 : x < 256 := by have := UInt8.toNat_lt s[a + i]; omega
              have hc := HU.out
              rw [cons_at hlt, DecP.go_cons, hx] at hc
              have hilt : (a : Int) + (i : Int) < (s.size : Int) := by omega
              have hil0 : (0 : Int) ≤ (a : Int) + (i : Int) := by omega
              have hit : ((a : Int) + (i : Int)).toNat = a + i := by omega
              have hge : decide ((s.size : Int) ≤ (a : Int) + (i : Int)) = false := decide_eq_false (by omega)
              by_cases a1 : x < 128 ∨ 191 < x
              · have HE : Hid (oneV (DecP.one (s.data.toList.drop a)) = .tuple #[.int .i64 (-1), .int .i64 i]) := Lib.hid (by rw [hc, if_pos (by omega)]; rfl)
                have a2 : x < 128 ∨ (¬ x < 128 ∧ 191 < x) := by omega
                clear hc hm' v2 a1
                rcases a2 with a2 | ⟨a2, a3⟩
                all_goals
                  go_wp2
                  go_ret2
                  exact ⟨by rw [HE.out] <;> rfl, rfl⟩
              · have a2 : ¬ x < 128 := by omega
                have a3 : ¬ 191 < x := by omega
                have HC := Lib.hid hc
                have hmi : m = 3 - (i + 1) := by omega
                clear hc a1
                by_cases i11 : i = 1
                · subst i11
                  have hv0 : v ≤ b - 224 := by omega
                  have hv1 : b - 224 ≤ v := by omega
                  clear v2 hm' hge hlo hhi
                  go_wp2
                  go_loop [11, 12, 13] (fun s11 s12 s13 => ∃ (j : Nat) (l h : Int), s11 = .int .i64 l ∧ s12 = .int .i64 h ∧ s13 = .int .i64 j ∧ 1 ≤ j ∧ j ≤ 2 ∧ ((j = 1 ∧ l = 64 * v + x - 128 ∧ h = 64 * v + x - 128) ∨ (j = 2 ∧ l = 64 * (64 * v + x - 128) ∧ h = 64 * (64 * v + x - 128) + 63) ∨ (j = 3 ∧ l = 64 * (64 * (64 * v + x - 128)) ∧ h = 64 * (64 * (64 * v + x - 128) + 63) + 63))) (fun _ _ s13 => 5 - (intOf s13).toNat)
                  case atStart => exact ⟨1, 64 * v + x - 128, 64 * v + x - 128, rfl, rfl, rfl, by omega, by omega, Or.inl ⟨rfl, rfl, rfl⟩⟩
                  case round =>
                    obtain ⟨j, l, h, rfl, rfl, rfl, j1, j2, j3⟩ := hrel
                    have hlb : 0 ≤ l ∧ l < 1000000000 ∧ 0 ≤ h ∧ h < 1000000000 := by omega
                    obtain ⟨lb1, lb2, lb3, lb4⟩ := hlb
                    by_cases hj : j < 2
                    · have hjj : (j : Int) < 2 := by omega
                      have HJ : Hid ((j = 1 ∧ l = 64 * v + x - 128 ∧ h = 64 * v + x - 128) ∨ (j = 2 ∧ l = 64 * (64 * v + x - 128) ∧ h = 64 * (64 * v + x - 128) + 63) ∨ (j = 3 ∧ l = 64 * (64 * (64 * v + x - 128)) ∧ h = 64 * (64 * (64 * v + x - 128) + 63) + 63)) := Lib.hid j3
                      clear j3
                      go_wp2
                      go_round
                      case rel => exact ⟨j + 1, 64 * l, 64 * h + 63, rfl, rfl, by go_num, by omega, by omega, by have := HJ.out; omega⟩
                      case measure => simp [intOf] <;> omega
                    · obtain rfl : j = 2 := by omega
                      have HJ : Hid (l = 64 * (64 * v + x - 128) ∧ h = 64 * (64 * v + x - 128) + 63) := Lib.hid (by omega)
                      clear j3 hj
                      go_wp2
                      all_goals
                        have hj3 := HJ.out
                        have hlo := HL.out
                        have hhi := HM.out
                        first
                          | (exfalso; omega)
                          | (go_ret2
                             exact ⟨by rw [HC.out, if_pos (by omega)] <;> rfl, rfl⟩)
                          | (have HE : Hid (DecP.one (s.data.toList.drop a) = DecP.go (3 - (1 + 1)) (1 + 1) (64 * v + x - 128) (loAt b (1 + 1)) (hiAt b (1 + 1)) (s.data.toList.drop (a + (1 + 1)))) := Lib.hid (by rw [HC.out, if_neg (by omega), loAt_more (by decide), hiAt_more (by decide), hmi, show 64 * v + (x - 128) = 64 * v + x - 128 by omega] <;> rfl)
                             clear hj3 hlo hhi
                             go_round
                             case rel => exact ⟨1 + 1, 64 * v + x - 128, rfl, by go_num, by omega, by omega, by omega, by omega, HE⟩
                             case measure => simp [intOf] <;> omega)
                · have HE : Hid (DecP.one (s.data.toList.drop a) = DecP.go (3 - (i + 1)) (i + 1) (64 * v + x - 128) (loAt b (i + 1)) (hiAt b (i + 1)) (s.data.toList.drop (a + (i + 1)))) := Lib.hid (by rw [HC.out, if_neg (by rw [loAt_more i11, hiAt_more i11]; omega), loAt_more (by omega), hiAt_more (by omega), hmi, show 64 * v + (x - 128) = 64 * v + x - 128 by omega] <;> rfl)
                  have i12 : ¬ (i : Int) = 1 := by omega
                  have V2 : Hid ((i + 1 = 2 ∧ 64 * v + x - 128 < 2048) ∨ (i + 1 = 3 ∧ 64 * v + x - 128 < 131072) ∨ (i + 1 = 4 ∧ 64 * v + x - 128 < 8388608)) := Lib.hid (by omega)
                  clear v2 hm' hlo hhi hmi HC i11
                  go_wp2
                  go_round
                  case rel => exact ⟨i + 1, 64 * v + x - 128, rfl, by go_num, by omega, by omega, by omega, Or.inr V2.out, HE⟩
                  case measure => simp [intOf] <;> omega
            · have HE : Hid (oneV (DecP.one (s.data.toList.drop a)) = .tuple #[.int .i64 (-1), .int .i64 i]) := Lib.hid (by rw [HU.out, go_end (List.drop_of_length_le (by rw [Array.length_toList]; exact Nat.le_of_not_lt hlt))]; rfl)
              have hge : (s.size : Int) ≤ (a : Int) + (i : Int) := by omega
              clear hm' v2 hlo hhi
              go_wp2
              go_ret2
              exact ⟨by rw [HE.out] <;> rfl, rfl⟩
          · have hii : ¬ (i : Int) ≤ 2 := by omega
            obtain rfl : i = 3 := by omega
            have HE : Hid (oneV (DecP.one (s.data.toList.drop a)) = .tuple #[.int .i64 v, .int .i64 3]) := Lib.hid (by rw [HU.out]; rfl)
            clear v2 hlo hhi
            go_wp2
            go_ret2
            exact ⟨by rw [HE.out] <;> rfl, rfl⟩
      · rw [k3, k4, ← loAt_one, ← hiAt_one] at h1
        have H1 := Lib.hid h1
        clear h1 k3 k4
        have q1 : 194 ≤ b := by omega
        have q2 : ¬ b < 128 := by omega
        have q3 : ¬ b ≤ 223 := by omega
        have q5 : 223 < b := by omega
        have q4 : 224 ≤ b := by omega
        have q6 : 239 < b := by omega
        have q7 : ¬ b ≤ 239 := by omega
        go_enter Try.func54, Try.ntmps54
        go_wp2
        go_loop [8, 9] (fun s8 s9 => ∃ (i : Nat) (v : Int), s8 = .int .i64 v ∧ s9 = .int .i64 i ∧ 1 ≤ i ∧ i ≤ 4 ∧ 0 ≤ v ∧ ((i = 1 ∧ v = b - 240) ∨ (i = 2 ∧ v < 2048) ∨ (i = 3 ∧ v < 131072) ∨ (i = 4 ∧ v < 8388608)) ∧ Hid (DecP.one (s.data.toList.drop a) = DecP.go (4 - i) i v (loAt b i) (hiAt b i) (s.data.toList.drop (a + i)))) (fun _ s9 => 5 - (intOf s9).toNat)
        case atStart => exact ⟨1, b - 240, rfl, rfl, by omega, by omega, by omega, Or.inl ⟨rfl, rfl⟩, H1⟩
        case round =>
          obtain ⟨i, v, rfl, rfl, i1, i2, v1, v2, HU⟩ := hrel
          clear H1
          have v3 : v < 10000000 := by omega
          have hlo := loAt_ge b i
          have hhi := hiAt_le b i
          by_cases him : i ≤ 3
          · have hii : (i : Int) ≤ 3 := by omega
            obtain ⟨m, hm'⟩ : ∃ m, 4 - i = m + 1 := ⟨3 - i, by omega⟩
            rw [hm'] at HU
            by_cases hlt : a + i < s.size
            · obtain ⟨x, hx⟩ : ∃ x : Int, (s[a + i].toNat : Int) = x := ⟨_, rfl⟩
              have hx0 : 0 ≤ x := by omega
              have hx1 : x < 256 := by have := UInt8.toNat_lt s[a + i]; omega
              have hc := HU.out
              rw [cons_at hlt, DecP.go_cons, hx] at hc
              have hilt : (a : Int) + (i : Int) < (s.size : Int) := by omega
              have hil0 : (0 : Int) ≤ (a : Int) + (i : Int) := by omega
              have hit : ((a : Int) + (i : Int)).toNat = a + i := by omega
              have hge : decide ((s.size : Int) ≤ (a : Int) + (i : Int)) = false := decide_eq_false (by omega)
              by_cases a1 : x < 128 ∨ 191 < x
              · have HE : Hid (oneV (DecP.one (s.data.toList.drop a)) = .tuple #[.int .i64 (-1), .int .i64 i]) := Lib.hid (by rw [hc, if_pos (by omega)]; rfl)
                have a2 : x < 128 ∨ (¬ x < 128 ∧ 191 < x) := by omega
                clear hc hm' v2 a1
                rcases a2 with a2 | ⟨a2, a3⟩
                all_goals
                  go_wp2
                  go_ret2
                  exact ⟨by rw [HE.out] <;> rfl, rfl⟩
              · have a2 : ¬ x < 128 := by omega
                have a3 : ¬ 191 < x := by omega
                have HC := Lib.hid hc
                have hmi : m = 4 - (i + 1) := by omega
                clear hc a1
                by_cases i11 : i = 1
                · subst i11
                  have hv0 : v ≤ b - 240 := by omega
                  have hv1 : b - 240 ≤ v := by omega
                  clear v2 hm' hge hlo hhi
                  go_wp2
                  go_loop [11, 12, 13] (fun s11 s12 s13 => ∃ (j : Nat) (l h : Int), s11 = .int .i64 l ∧ s12 = .int .i64 h ∧ s13 = .int .i64 j ∧ 1 ≤ j ∧ j ≤ 3 ∧ ((j = 1 ∧ l = 64 * v + x - 128 ∧ h = 64 * v + x - 128) ∨ (j = 2 ∧ l = 64 * (64 * v + x - 128) ∧ h = 64 * (64 * v + x - 128) + 63) ∨ (j = 3 ∧ l = 64 * (64 * (64 * v + x - 128)) ∧ h = 64 * (64 * (64 * v + x - 128) + 63) + 63))) (fun _ _ s13 => 5 - (intOf s13).toNat)
                  case atStart => exact ⟨1, 64 * v + x - 128, 64 * v + x - 128, rfl, rfl, rfl, by omega, by omega, Or.inl ⟨rfl, rfl, rfl⟩⟩
                  case round =>
                    obtain ⟨j, l, h, rfl, rfl, rfl, j1, j2, j3⟩ := hrel
                    have hlb : 0 ≤ l ∧ l < 1000000000 ∧ 0 ≤ h ∧ h < 1000000000 := by omega
                    obtain ⟨lb1, lb2, lb3, lb4⟩ := hlb
                    by_cases hj : j < 3
                    · have hjj : (j : Int) < 3 := by omega
                      have HJ : Hid ((j = 1 ∧ l = 64 * v + x - 128 ∧ h = 64 * v + x - 128) ∨ (j = 2 ∧ l = 64 * (64 * v + x - 128) ∧ h = 64 * (64 * v + x - 128) + 63) ∨ (j = 3 ∧ l = 64 * (64 * (64 * v + x - 128)) ∧ h = 64 * (64 * (64 * v + x - 128) + 63) + 63)) := Lib.hid j3
                      clear j3
                      go_wp2
                      go_round
                      case rel => exact ⟨j + 1, 64 * l, 64 * h + 63, rfl, rfl, by go_num, by omega, by omega, by have := HJ.out; omega⟩
                      case measure => simp [intOf] <;> omega
                    · obtain rfl : j = 3 := by omega
                      have HJ : Hid (l = 64 * (64 * (64 * v + x - 128)) ∧ h = 64 * (64 * (64 * v + x - 128) + 63) + 63) := Lib.hid (by omega)
                      clear j3 hj
                      go_wp2
                      all_goals
                        have hj3 := HJ.out
                        have hlo := HL.out
                        have hhi := HM.out
                        first
                          | (exfalso; omega)
                          | (go_ret2
                             exact ⟨by rw [HC.out, if_pos (by omega)] <;> rfl, rfl⟩)
                          | (have HE : Hid (DecP.one (s.data.toList.drop a) = DecP.go (4 - (1 + 1)) (1 + 1) (64 * v + x - 128) (loAt b (1 + 1)) (hiAt b (1 + 1)) (s.data.toList.drop (a + (1 + 1)))) := Lib.hid (by rw [HC.out, if_neg (by omega), loAt_more (by decide), hiAt_more (by decide), hmi, show 64 * v + (x - 128) = 64 * v + x - 128 by omega] <;> rfl)
                             clear hj3 hlo hhi
                             go_round
                             case rel => exact ⟨1 + 1, 64 * v + x - 128, rfl, by go_num, by omega, by omega, by omega, by omega, HE⟩
                             case measure => simp [intOf] <;> omega)
                · have HE : Hid (DecP.one (s.data.toList.drop a) = DecP.go (4 - (i + 1)) (i + 1) (64 * v + x - 128) (loAt b (i + 1)) (hiAt b (i + 1)) (s.data.toList.drop (a + (i + 1)))) := Lib.hid (by rw [HC.out, if_neg (by rw [loAt_more i11, hiAt_more i11]; omega), loAt_more (by omega), hiAt_more (by omega), hmi, show 64 * v + (x - 128) = 64 * v + x - 128 by omega] <;> rfl)
                  have i12 : ¬ (i : Int) = 1 := by omega
                  have V2 : Hid ((i + 1 = 2 ∧ 64 * v + x - 128 < 2048) ∨ (i + 1 = 3 ∧ 64 * v + x - 128 < 131072) ∨ (i + 1 = 4 ∧ 64 * v + x - 128 < 8388608)) := Lib.hid (by omega)
                  clear v2 hm' hlo hhi hmi HC i11
                  go_wp2
                  go_round
                  case rel => exact ⟨i + 1, 64 * v + x - 128, rfl, by go_num, by omega, by omega, by omega, Or.inr V2.out, HE⟩
                  case measure => simp [intOf] <;> omega
            · have HE : Hid (oneV (DecP.one (s.data.toList.drop a)) = .tuple #[.int .i64 (-1), .int .i64 i]) := Lib.hid (by rw [HU.out, go_end (List.drop_of_length_le (by rw [Array.length_toList]; exact Nat.le_of_not_lt hlt))]; rfl)
              have hge : (s.size : Int) ≤ (a : Int) + (i : Int) := by omega
              clear hm' v2 hlo hhi
              go_wp2
              go_ret2
              exact ⟨by rw [HE.out] <;> rfl, rfl⟩
          · have hii : ¬ (i : Int) ≤ 3 := by omega
            obtain rfl : i = 4 := by omega
            have HE : Hid (oneV (DecP.one (s.data.toList.drop a)) = .tuple #[.int .i64 v, .int .i64 4]) := Lib.hid (by rw [HU.out]; rfl)
            clear v2 hlo hhi
            go_wp2
            go_ret2
            exact ⟨by rw [HE.out] <;> rfl, rfl⟩

end Go.Proofs.Ytemcflfgoelpiaa
