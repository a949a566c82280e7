/- UTF-8, read: the walks of the program's shape and utf8. -/
import Derived.Test.YtemcflfgoelpiaaDecP
import Derived.Test.YtemcflfgoelpiaaLib
import Derived.Test.YtemcflfgoelpiaaBits
import Derived.Deep.DeepCutAuto
namespace Go.Proofs.Ytemcflfgoelpiaa
open Go.RowKit

/-- What shape tells. -/
def shapeV (b : Int) : Value :=
  if b < 128 then .tuple #[.int .i64 0, .int .u8 0, .int .u8 0, .int .i64 b]
  else if b < 194 ∨ 244 < b then .tuple #[.int .i64 (-1), .int .u8 0, .int .u8 0, .int .i64 0]
  else .tuple #[.int .i64 (DecP.more b), .int .u8 (DecP.least b), .int .u8 (DecP.most b), .int .i64 (DecP.bits b)]

theorem results_tmp4 {fn : Func} {t u v x : Tmp} (h : fn.results = #[.tmp t, .tmp u, .tmp v, .tmp x]) (tmps : Array Value) (P : Program) (w : World) :
    (results fn tmps).run P w = .ok (.tuple #[tmps.getD t undef, tmps.getD u undef, tmps.getD v undef, tmps.getD x undef]) w := by
  simp [results, h]

set_option maxRecDepth 100000 in
theorem shape_any (b : Int) (w : World) (h0 : 0 ≤ b) (h1 : b < 256) : Calls Try.prog 56 #[.int .u8 b] w fun e w' => e = .returned (shapeV b) ∧ w = w' := by
  unfold shapeV DecP.more DecP.least DecP.most DecP.bits
  by_cases c0 : b < 128
  · rw [if_pos c0]
    go_enter Try.func56, Try.ntmps56
    go_wp2
    exact bodyPost_ret (results_tmp4 rfl _ _ _) rfl ⟨rfl, rfl⟩
  · rw [if_neg c0]
    by_cases c1 : b < 194
    · rw [if_pos (Or.inl c1)]
      go_enter Try.func56, Try.ntmps56
      go_wp2
      exact bodyPost_ret (results_tmp4 rfl _ _ _) rfl ⟨rfl, rfl⟩
    · by_cases c2 : 244 < b
      · rw [if_pos (Or.inr c2)]
        go_enter Try.func56, Try.ntmps56
        go_wp2
        exact bodyPost_ret (results_tmp4 rfl _ _ _) rfl ⟨rfl, rfl⟩
      · rw [if_neg (by omega)]
        go_enter Try.func56, Try.ntmps56
        go_wp2
        all_goals
          refine bodyPost_ret (results_tmp4 rfl _ _ _) rfl ?_
          simp
          try (simp only [beq_iff_eq, beq_eq_false_iff_ne] at *; omega)

theorem or_shl (v y : Int) (h0 : 0 ≤ v) (h1 : v < 1000000000) (h2 : 0 ≤ y) (h3 : y < 64) : bits BinOp.or IntKind.i64 (v * 64) y = 64 * v + y := by
  obtain ⟨a, rfl⟩ : ∃ a : Nat, v = a := ⟨v.toNat, by omega⟩
  obtain ⟨b, rfl⟩ : ∃ b : Nat, y = b := ⟨y.toNat, by omega⟩
  have hb : b < 2 ^ 6 := by omega
  have key := Nat.shiftLeft_add_eq_or_of_lt hb a
  rw [Nat.shiftLeft_eq] at key
  have e1 : ((a : Int) * 64) = ((a * 2 ^ 6 : Nat) : Int) := by omega
  rw [e1]
  show IntKind.i64.wrap ((BitVec.ofInt 64 ((a * 2 ^ 6 : Nat) : Int) ||| BitVec.ofInt 64 (b : Int)).toNat : Nat) = _
  rw [BitVec.toNat_or, bv_of_nat (a * 2 ^ 6) (by omega), bv_of_nat b (by omega), ← key, wraps63 _ (by omega) (by omega)]
  omega

def oneV (p : Int × Nat) : Value := .tuple #[.int .i64 p.1, .int .i64 p.2]
theorem cons_at {s : ByteArray} {i : Nat} (h : i < s.size) : s.data.toList.drop i = s[i] :: s.data.toList.drop (i + 1) := by
  have h' : i < s.data.toList.length := by rw [Array.length_toList]; exact h
  rw [List.drop_eq_getElem_cons h']
  rfl
theorem go_end {m k : Nat} {v lo hi : Int} {l : List UInt8} (h : l = []) : DecP.go (m + 1) k v lo hi l = (-1, k) := by subst h; rfl
theorem vbound {i : Nat} {v : Int} (h : (i = 1 ∧ v < 32) ∨ (i = 2 ∧ v < 2048) ∨ (i = 3 ∧ v < 131072) ∨ (i = 4 ∧ v < 8388608)) : v < 10000000 := by omega
set_option maxRecDepth 100000 in
set_option maxHeartbeats 1000000 in
theorem utf8_any (s : ByteArray) (w : World) (hs : s.size ≤ 140737488355328) (h0 : 0 < s.size) : Calls Try.prog 39 #[.string s] w fun e w' => e = .returned (oneV (DecP.one s.data.toList)) ∧ w = w' := by
  obtain ⟨b, hb⟩ : ∃ b : Int, (s[0].toNat : Int) = b := ⟨_, rfl⟩
  have hb0 : 0 ≤ b := by omega
  have hb1 : b < 256 := by have := UInt8.toNat_lt s[0]; omega
  have h1 : DecP.one s.data.toList = if b < 128 then (b, 1) else if b < 194 ∨ 244 < b then (-1, 1) else DecP.go (DecP.more b) 1 (DecP.bits b) (DecP.least b) (DecP.most b) (s.data.toList.drop 1) := by
    have := cons_at h0
    rw [List.drop_zero] at this
    rw [this, DecP.one_cons, hb]
    rfl
  by_cases c0 : b < 128
  · have HR : Hid (oneV (DecP.one s.data.toList) = .tuple #[.int .i64 b, .int .i64 1]) := Lib.hid (by rw [h1, if_pos c0]; rfl)
    have HV : Hid (shapeV b = .tuple #[.int .i64 0, .int .u8 0, .int .u8 0, .int .i64 b]) := Lib.hid (by unfold shapeV; rw [if_pos c0])
    clear h1
    go_enter Try.func39, Try.ntmps39
    go_wp2_with (go_at_call 56; refine (shape_any b _ hb0 hb1).mono ?_; rintro e w' ⟨rfl, rfl⟩; rw [HV.out])
    refine wp_loop_rounds 1 ?_
    rw [rounds_succ]
    go_wp2
    go_ret2
    exact ⟨by rw [HR.out]; rfl, rfl⟩
  · by_cases c1 : b < 194 ∨ 244 < b
    · have HR : Hid (oneV (DecP.one s.data.toList) = .tuple #[.int .i64 (-1), .int .i64 1]) := Lib.hid (by rw [h1, if_neg c0, if_pos c1]; rfl)
      have HV : Hid (shapeV b = .tuple #[.int .i64 (-1), .int .u8 0, .int .u8 0, .int .i64 0]) := Lib.hid (by unfold shapeV; rw [if_neg c0, if_pos c1])
      clear h1 c1
      go_enter Try.func39, Try.ntmps39
      go_wp2_with (go_at_call 56; refine (shape_any b _ hb0 hb1).mono ?_; rintro e w' ⟨rfl, rfl⟩; rw [HV.out])
      go_ret2
      exact ⟨by rw [HR.out]; rfl, rfl⟩
    · have hm : 1 ≤ DecP.more b ∧ DecP.more b ≤ 3 := by unfold DecP.more; split; exact ⟨by decide, by decide⟩; split <;> exact ⟨by decide, by decide⟩
      have hv : 0 ≤ DecP.bits b ∧ DecP.bits b < 32 := by unfold DecP.bits; split; omega; split <;> omega
      have hlo : 128 ≤ DecP.least b ∧ DecP.least b ≤ 160 := by unfold DecP.least; split; omega; split <;> omega
      have hhi : 128 ≤ DecP.most b ∧ DecP.most b ≤ 191 := by unfold DecP.most; split; omega; split <;> omega
      have HV : Hid (shapeV b = .tuple #[.int .i64 (DecP.more b), .int .u8 (DecP.least b), .int .u8 (DecP.most b), .int .i64 (DecP.bits b)]) := Lib.hid (by unfold shapeV; rw [if_neg c0, if_neg c1])
      rw [if_neg c0, if_neg c1] at h1
      generalize DecP.more b = m0 at hm HV h1
      generalize DecP.least b = lo0 at hlo HV h1
      generalize DecP.most b = hi0 at hhi HV h1
      generalize DecP.bits b = v0 at hv HV h1
      have H1 := Lib.hid h1
      clear h1 c1 c0
      go_enter Try.func39, Try.ntmps39
      go_wp2_with (go_at_call 56; refine (shape_any b _ hb0 hb1).mono ?_; rintro e w' ⟨rfl, rfl⟩; rw [HV.out])
      go_loop [5, 6, 7, 8] (fun s5 s6 s7 s8 => ∃ (i : Nat) (v lo hi : Int), s5 = .int .u8 lo ∧ s6 = .int .u8 hi ∧ s7 = .int .i64 v ∧ s8 = .int .i64 i ∧ 1 ≤ i ∧ i ≤ m0 + 1 ∧ i ≤ s.size ∧ 128 ≤ lo ∧ lo ≤ 160 ∧ 128 ≤ hi ∧ hi ≤ 191 ∧ 0 ≤ v ∧
          ((i = 1 ∧ v < 32) ∨ (i = 2 ∧ v < 2048) ∨ (i = 3 ∧ v < 131072) ∨ (i = 4 ∧ v < 8388608)) ∧ Hid (DecP.one s.data.toList = DecP.go (m0 + 1 - i) i v lo hi (s.data.toList.drop i))) (fun _ _ _ s8 => 5 - (intOf s8).toNat)
      case atStart => exact ⟨1, v0, lo0, hi0, rfl, rfl, rfl, rfl, by omega, by omega, by omega, hlo.1, hlo.2, hhi.1, hhi.2, hv.1, Or.inl ⟨rfl, hv.2⟩, Lib.hid H1.out⟩
      case round =>
        obtain ⟨i, v, lo, hi, rfl, rfl, rfl, rfl, hi1, hi2, his, l1, l2, k1, k2, v1, v2, HU⟩ := hrel
        have v3 := vbound v2
        by_cases him : i ≤ m0
        · have hii : (i : Int) ≤ (m0 : Int) := by omega
          obtain ⟨m, hm'⟩ : ∃ m, m0 + 1 - i = m + 1 := ⟨m0 - i, by omega⟩
          rw [hm'] at HU
          by_cases hlt : i < s.size
          · obtain ⟨x, hx⟩ : ∃ x : Int, (s[i].toNat : Int) = x := ⟨_, rfl⟩
            have hx0 : 0 ≤ x := by omega
            have hx1 : x < 256 := by have := UInt8.toNat_lt s[i]; omega
            have hc := HU.out
            rw [cons_at hlt, DecP.go_cons, hx] at hc
            have his' : decide ((s.size : Int) ≤ (i : Int)) = false := decide_eq_false (by omega)
            have hilt : (i : Int) < (s.size : Int) := by omega
            have hi0 : (0 : Int) ≤ (i : Int) := by omega
            by_cases a1 : x < lo
            · have HE : Hid (oneV (DecP.one s.data.toList) = .tuple #[.int .i64 (-1), .int .i64 i]) := Lib.hid (by rw [hc, if_pos (Or.inl a1)]; rfl)
              clear hc hm' v2
              go_wp2
              go_ret2
              exact ⟨by rw [HE.out]; rfl, rfl⟩
            · by_cases a2 : hi < x
              · have HE : Hid (oneV (DecP.one s.data.toList) = .tuple #[.int .i64 (-1), .int .i64 i]) := Lib.hid (by rw [hc, if_pos (Or.inr a2)]; rfl)
                have a1' : decide (x < lo) = false := decide_eq_false a1
                have a2' : decide (hi < x) = true := decide_eq_true a2
                clear hc hm' v2 a2
                go_wp2
                go_ret2
                exact ⟨by rw [HE.out]; rfl, rfl⟩
              · rw [if_neg (by omega)] at hc
                have hmi : m = m0 + 1 - (i + 1) := by omega
                have HE : Hid (DecP.one s.data.toList = DecP.go (m0 + 1 - (i + 1)) (i + 1) (64 * v + (x - 128)) 128 191 (s.data.toList.drop (i + 1))) := Lib.hid (by rw [hc, hmi])
                have a1' : decide (x < lo) = false := decide_eq_false a1
                have a2' : decide (hi < x) = false := decide_eq_false a2
                have v2' : ((i + 1 = 1 ∧ 64 * v + (x - 128) < 32) ∨ (i + 1 = 2 ∧ 64 * v + (x - 128) < 2048) ∨ (i + 1 = 3 ∧ 64 * v + (x - 128) < 131072) ∨ (i + 1 = 4 ∧ 64 * v + (x - 128) < 8388608)) := by omega
                have HV2 := Lib.hid v2'
                have eor := or_shl v (x % 64) v1 (by omega) (by omega) (by omega)
                clear hc hm' v2 hmi v2'
                go_wp2
                have exm : x % 64 = x - 128 := by omega
                rw [exm]
                go_round
                case rel => exact ⟨i + 1, 64 * v + (x - 128), 128, 191, rfl, rfl, rfl, by go_num, by omega, by omega, by omega, by decide, by decide, by decide, by decide, by omega, HV2.out, HE⟩
                case measure => simp [intOf]; omega
          · have HE : Hid (oneV (DecP.one s.data.toList) = .tuple #[.int .i64 (-1), .int .i64 i]) := Lib.hid (by rw [HU.out, go_end (List.drop_of_length_le (by rw [Array.length_toList]; exact Nat.le_of_not_lt hlt))]; rfl)
            have hge : s.size ≤ i := by omega
            clear hm' v2
            go_wp2
            go_ret2
            exact ⟨by rw [HE.out]; rfl, rfl⟩
        · have hii : ¬ (i : Int) ≤ (m0 : Int) := by omega
          have hm' : m0 + 1 - i = 0 := by omega
          have hme : i = m0 + 1 := by omega
          have HE : Hid (oneV (DecP.one s.data.toList) = .tuple #[.int .i64 v, .int .i64 ((m0 : Int) + 1)]) := Lib.hid (by rw [HU.out, hm']; show Value.tuple #[.int .i64 v, .int .i64 (i : Int)] = _; rw [hme]; rfl)
          clear hm' v2 hme
          go_wp2
          go_ret2
          exact ⟨by rw [HE.out]; rfl, rfl⟩

end Go.Proofs.Ytemcflfgoelpiaa
