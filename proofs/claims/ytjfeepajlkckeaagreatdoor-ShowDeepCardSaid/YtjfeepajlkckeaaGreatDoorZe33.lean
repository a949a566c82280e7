/- Chapter 11: the walk of the law ShowDeep. -/
import Derived.Test.YtjfeepajlkckeaaGreatDoorZe32
namespace Go.Proofs.YtjfeepajlkckeaaGreatDoor
open Go.RowKit SetPure

/-- Brackets in brackets, as bytes. -/
def deepB (m : Nat) : List UInt8 := List.replicate m 40 ++ 97 :: List.replicate m 41
theorem deepB_succ (m : Nat) : deepB (m + 1) = 40 :: (deepB m ++ [41]) := by
  unfold deepB
  rw [List.replicate_succ, List.replicate_succ' (n := m) (a := (41 : UInt8))]
  simp
theorem deepB_len (m : Nat) : (deepB m).length = 2 * m + 1 := by simp [deepB]; omega
theorem deepB_nat (m : Nat) : nat_ (deepB m) = SynP.deepS m := by
  unfold nat_ deepB SynP.deepS
  simp [List.map_append, List.map_replicate]
theorem deepB_asc (m : Nat) : ∀ c ∈ deepB m, c.toNat < 128 := by
  intro c hc
  unfold deepB at hc
  rcases List.mem_append.1 hc with h | h
  · rw [(List.mem_replicate.1 h).2]; decide
  · rcases List.mem_cons.1 h with rfl | h
    · decide
    · rw [(List.mem_replicate.1 h).2]; decide
theorem deep_text : ∀ (m k : Nat), SynP.shN (SynP.deepT k m) = deepB m
  | 0, k => by
    unfold SynP.deepT SynP.Nd.cls
    rw [SynP.sh1, SynP.clsTxt_one alnum_a]
    decide
  | m + 1, k => by
    unfold SynP.deepT SynP.Nd.grp
    rw [SynP.sh11, if_neg (by simp), deepB_succ]
    simp only [SynP.kidsT, List.map_cons, SynP.headT, deep_text m (k + 1)]
theorem deep_ok : ∀ (m k : Nat), SynP.okN (SynP.deepT k m)
  | 0, k => by unfold SynP.deepT; exact ok_cls alnum_a false
  | m + 1, k => by
    unfold SynP.deepT SynP.Nd.grp SynP.okN
    refine ⟨fun h => absurd h (by decide), fun h => absurd h (by decide), fun _ => rfl, .inr (.inr (.inr ⟨.inr rfl, by simp⟩)), ?_⟩
    unfold SynP.okL
    exact ⟨deep_ok m (k + 1), by unfold SynP.okL; trivial⟩
theorem deep_sizes : ∀ (m k : Nat), SynP.sizeA (SynP.deepT k m) = m + 1 ∧ SynP.sizeD (SynP.deepT k m) = m + 1
  | 0, k => by
    unfold SynP.deepT SynP.Nd.cls
    rw [SynP.sizeA, SynP.sizeD, SynP.sizeAL, SynP.sizeDL]
    exact ⟨rfl, rfl⟩
  | m + 1, k => by
    unfold SynP.deepT SynP.Nd.grp
    have := deep_sizes m (k + 1)
    rw [SynP.sizeA, SynP.sizeD, SynP.sizeAL, SynP.sizeDL, SynP.sizeAL, SynP.sizeDL, this.1, this.2]
    omega

set_option maxRecDepth 100000 in
set_option maxHeartbeats 6400000 in
/-- From the loop on, with the number chosen. -/
theorem law_deep (n : Int) (w : World) : Calls Tryz.prog 4 #[.int .i64 n] w fun e w' => e = .returned (.bool true) ∧ Below w.heap.size w w' := by
  have HSp := Lib.hid sp_any
  have hfe := faultEq_same 0 0
  by_cases hn : 0 ≤ n ∧ n ≤ 32
  · obtain ⟨m, hm⟩ : ∃ m : Nat, n = m := ⟨n.toNat, by omega⟩
    subst hm
    have hm32 : m ≤ 32 := by omega
    have t0 : decide ((m : Int) < 0) = false := decide_eq_false (by omega)
    have t1 : decide ((m : Int) > 32) = false := decide_eq_false (by omega)
    have t2 : ¬ (m : Int) < 0 := by omega
    have t3 : ¬ (32 : Int) < (m : Int) := by omega
    clear hn
    go_enter Tryz.func4, Tryz.ntmps4
    go_wp2_with (go_at_call 5; refine (HSp.out _).mono ?_; rintro e w1 ⟨rfl, hb1⟩; have HB1 := Lib.hid hb1; clear hb1)
    clear t0 t1 t2 t3
    go_loopw [3, 4] (fun s3 s4 wr => ∃ i : Nat, i ≤ m ∧ s4 = .int .i64 i ∧ s3 = .string (str (deepB i)) ∧ wr = w1) (fun _ s4 _ => m + 1 - (intOf s4).toNat)
    case atStart => exact ⟨0, Nat.zero_le _, rfl, rfl, rfl⟩
    case round =>
      obtain ⟨i, hi, rfl, rfl, rfl⟩ := hrel
      by_cases hlt : i < m
      · have hii : (i : Int) < (m : Int) := by omega
        have hS : ⟨#[40]⟩ ++ str (deepB i) ++ ⟨#[41]⟩ = str (deepB (i + 1)) := by
          rw [show (⟨#[40]⟩ : ByteArray) = str [40] from rfl, show (⟨#[41]⟩ : ByteArray) = str [41] from rfl, str_app_, str_app_, deepB_succ]
          rfl
        have hsz : (str (deepB i)).size = 2 * i + 1 := by rw [str_size_, deepB_len]
        have HSx := Lib.hid hS
        obtain ⟨q, hq⟩ : ∃ q, str (deepB i) = q := ⟨_, rfl⟩
        rw [hq] at hsz HSx
        rw [hq]
        have z1 : ¬ 1 + q.size > 9223372036854775807 := by omega
        have z2 : ¬ 1 + q.size + 1 > 9223372036854775807 := by omega
        clear hS hsz hq
        go_wp2_with fail
        exact ⟨⟨i + 1, by omega, by simp, by rw [HSx.out], trivial⟩, by simp only [intOf]; omega⟩
      · obtain rfl : i = m := by omega
        have hii : ¬ (i : Int) < (i : Int) := by omega
        have HP1 : Hid (∀ w, Calls Tryz.prog 6 #[.string (str (deepB i)), .agg #[.bool false, .bool false, .bool false, .bool false]] w (TreeEnd (SynP.deepT 1 i) w)) := Lib.hid fun w => tree_end (deepB i) _ _ (deepB_asc i) (by rw [deepB_len]; omega) (SynP.deep_parse i hm32 (deepB_nat i)) w
        have hds := deep_sizes i 1
        have HSh : Hid (ShowC (SynP.deepT 1 i)) := Lib.hid (show_all (i + 1) _ (by omega) (deep_ok i 1) (by rw [deep_text, deepB_len]; omega))
        have HSz : Hid (SizeC (SynP.deepT 1 i)) := Lib.hid (nsize_all (i + 1) _ (by omega) (by omega))
        have HDs := Lib.hid hds
        obtain ⟨q, hq⟩ : ∃ q, str (deepB i) = q := ⟨_, rfl⟩
        have HQ := Lib.hid hq
        rw [hq] at HP1
        rw [hq]
        clear hds hq
        go_upto_region 11 with (go_at_call 6; refine (HP1.out _).mono ?_; rintro e w2 ⟨hb2, ⟨r0, r1, r2, r3, r4, r5, r6, r7, r8, r9, ra, rb, rc⟩, A, k, c, rfl, hl2⟩; have HB2 := Lib.hid (HB1.out.trans (hb2.mono HB1.out.size)); have HL2 := Lib.hid hl2; clear hb2 hl2; simp only [RawN.cells, List.cons_append, List.nil_append])
        obtain ⟨P, hP⟩ : ∃ P, w2.heap.size = P := ⟨_, rfl⟩
        have hps := PatS.start (pc := #[.int .i64 r0, .slice r1 r2 r3, .bool r4, .int .i64 r5, .int .i64 r6, .bool r7, .int .i64 r8, .string r9, .slice ra rb rc, .slice A k c]) (fc := #[.int .i64 0, .int .i64 0]) HB2.out hP
        have hl3 := Lies.on (StandN.below (below_two w2 (.cells #[.int .i64 r0, .slice r1 r2 r3, .bool r4, .int .i64 r5, .int .i64 r6, .bool r7, .int .i64 r8, .string r9, .slice ra rb rc, .slice A k c] 31) (.cells #[.int .i64 0, .int .i64 0] 34))) _ _ HL2.out
        rw [hP]
        generalize (w2.alloc (.cells #[.int .i64 r0, .slice r1 r2 r3, .bool r4, .int .i64 r5, .int .i64 r6, .bool r7, .int .i64 r8, .string r9, .slice ra rb rc, .slice A k c] 31)).alloc (.cells #[.int .i64 0, .int .i64 0] 34) = W3 at hps hl3 ⊢
        have HS3 := Lib.hid hps
        have HL3 := Lib.hid hl3
        have hcP := HS3.out.pcell
        have hcF := HS3.out.fcell
        clear hps hl3 hP HB2 HL2 HP1
        have HC1 : Hid (Calls Tryz.prog 7 #[.agg #[.int .i64 r0, .slice r1 r2 r3, .bool r4, .int .i64 r5, .int .i64 r6, .bool r7, .int .i64 r8, .string r9, .slice ra rb rc]] W3 fun e w' => e = .returned (.tuple #[.int .i64 ((i + 1 : Nat) : Int), .int .i64 ((i + 1 : Nat) : Int)]) ∧ Below W3.heap.size W3 w') := Lib.hid (by
          have := HSz.out _ _ W3 HL3.out
          rw [HDs.out.1, HDs.out.2] at this
          exact this)
        have HC2 : Hid (∀ w4, Below W3.heap.size W3 w4 → Calls Tryz.prog 8 #[.agg #[.int .i64 r0, .slice r1 r2 r3, .bool r4, .int .i64 r5, .int .i64 r6, .bool r7, .int .i64 r8, .string r9, .slice ra rb rc]] w4 fun e w' => e = .returned (.string q) ∧ Below w4.heap.size w4 w') := Lib.hid fun w4 hb => by
          have := HSh.out _ _ w4 (Lies.on (StandN.below hb) _ _ HL3.out)
          rw [deep_text, HQ.out] at this
          exact this
        have e1 : IntKind.i64.wrap ((i : Int) + 1) = ((i + 1 : Nat) : Int) := by rw [IntWalk.i64_in _ (by omega)]; omega
        go_wp2_with (first
          | (go_at_call 7; refine HC1.out.mono ?_; rintro e w4 ⟨rfl, hb4⟩; have HS4 := Lib.hid (HS3.out.below hb4); have HB4 := Lib.hid hb4; clear hb4; replace hcP := HS4.out.pcell; replace hcF := HS4.out.fcell)
          | (go_at_call 8; refine (HC2.out _ HB4.out).mono ?_; rintro e w5 ⟨rfl, hb5⟩; have HS5 := Lib.hid (HS4.out.below hb5); clear hb5))
        go_ret
        exact ⟨rfl, HS5.out.bel⟩
  · by_cases hneg : n < 0
    · have t0 : decide (n < 0) = true := decide_eq_true hneg
      clear hn
      go_enter Tryz.func4, Tryz.ntmps4
      go_wp2_with (go_at_call 5; refine (HSp.out _).mono ?_; rintro e w1 ⟨rfl, hb1⟩; have HB1 := Lib.hid hb1; clear hb1)
      clear t0 hneg
      go_loopw [3, 4] (fun s3 s4 wr => ∃ i : Nat, i ≤ 5 ∧ s4 = .int .i64 i ∧ s3 = .string (str (deepB i)) ∧ wr = w1) (fun _ s4 _ => 5 + 1 - (intOf s4).toNat)
      case atStart => exact ⟨0, Nat.zero_le _, rfl, rfl, rfl⟩
      case round =>
        obtain ⟨i, hi, rfl, rfl, rfl⟩ := hrel
        by_cases hlt : i < 5
        · have hii : (i : Int) < 5 := by omega
          have hS : ⟨#[40]⟩ ++ str (deepB i) ++ ⟨#[41]⟩ = str (deepB (i + 1)) := by
            rw [show (⟨#[40]⟩ : ByteArray) = str [40] from rfl, show (⟨#[41]⟩ : ByteArray) = str [41] from rfl, str_app_, str_app_, deepB_succ]
            rfl
          have hsz : (str (deepB i)).size = 2 * i + 1 := by rw [str_size_, deepB_len]
          have HSx := Lib.hid hS
          obtain ⟨q, hq⟩ : ∃ q, str (deepB i) = q := ⟨_, rfl⟩
          rw [hq] at hsz HSx
          rw [hq]
          have z1 : ¬ 1 + q.size > 9223372036854775807 := by omega
          have z2 : ¬ 1 + q.size + 1 > 9223372036854775807 := by omega
          clear hS hsz hq
          go_wp2_with fail
          exact ⟨⟨i + 1, by omega, by simp, by rw [HSx.out], trivial⟩, by simp only [intOf]; omega⟩
        · obtain rfl : i = 5 := by omega
          have hii : ¬ (5 : Int) < 5 := by omega
          have HP1 : Hid (∀ w, Calls Tryz.prog 6 #[.string (str (deepB 5)), .agg #[.bool false, .bool false, .bool false, .bool false]] w (TreeEnd (SynP.deepT 1 5) w)) := Lib.hid fun w => tree_end (deepB 5) _ _ (deepB_asc 5) (by rw [deepB_len]; omega) (SynP.deep_parse 5 (by decide) (deepB_nat 5)) w
          have hds := deep_sizes 5 1
          have HSh : Hid (ShowC (SynP.deepT 1 5)) := Lib.hid (show_all 6 _ (by omega) (deep_ok 5 1) (by rw [deep_text, deepB_len]; omega))
          have HSz : Hid (SizeC (SynP.deepT 1 5)) := Lib.hid (nsize_all 6 _ (by omega) (by omega))
          have HDs := Lib.hid hds
          obtain ⟨q, hq⟩ : ∃ q, str (deepB 5) = q := ⟨_, rfl⟩
          have HQ := Lib.hid hq
          rw [hq] at HP1
          rw [hq]
          clear hds hq
          go_upto_region 11 with (go_at_call 6; refine (HP1.out _).mono ?_; rintro e w2 ⟨hb2, ⟨r0, r1, r2, r3, r4, r5, r6, r7, r8, r9, ra, rb, rc⟩, A, k, c, rfl, hl2⟩; have HB2 := Lib.hid (HB1.out.trans (hb2.mono HB1.out.size)); have HL2 := Lib.hid hl2; clear hb2 hl2; simp only [RawN.cells, List.cons_append, List.nil_append])
          obtain ⟨P, hP⟩ : ∃ P, w2.heap.size = P := ⟨_, rfl⟩
          have hps := PatS.start (pc := #[.int .i64 r0, .slice r1 r2 r3, .bool r4, .int .i64 r5, .int .i64 r6, .bool r7, .int .i64 r8, .string r9, .slice ra rb rc, .slice A k c]) (fc := #[.int .i64 0, .int .i64 0]) HB2.out hP
          have hl3 := Lies.on (StandN.below (below_two w2 (.cells #[.int .i64 r0, .slice r1 r2 r3, .bool r4, .int .i64 r5, .int .i64 r6, .bool r7, .int .i64 r8, .string r9, .slice ra rb rc, .slice A k c] 31) (.cells #[.int .i64 0, .int .i64 0] 34))) _ _ HL2.out
          rw [hP]
          generalize (w2.alloc (.cells #[.int .i64 r0, .slice r1 r2 r3, .bool r4, .int .i64 r5, .int .i64 r6, .bool r7, .int .i64 r8, .string r9, .slice ra rb rc, .slice A k c] 31)).alloc (.cells #[.int .i64 0, .int .i64 0] 34) = W3 at hps hl3 ⊢
          have HS3 := Lib.hid hps
          have HL3 := Lib.hid hl3
          have hcP := HS3.out.pcell
          have hcF := HS3.out.fcell
          clear hps hl3 hP HB2 HL2 HP1
          have HC1 : Hid (Calls Tryz.prog 7 #[.agg #[.int .i64 r0, .slice r1 r2 r3, .bool r4, .int .i64 r5, .int .i64 r6, .bool r7, .int .i64 r8, .string r9, .slice ra rb rc]] W3 fun e w' => e = .returned (.tuple #[.int .i64 6, .int .i64 6]) ∧ Below W3.heap.size W3 w') := Lib.hid (by
            have := HSz.out _ _ W3 HL3.out
            rw [HDs.out.1, HDs.out.2] at this
            exact this)
          have HC2 : Hid (∀ w4, Below W3.heap.size W3 w4 → Calls Tryz.prog 8 #[.agg #[.int .i64 r0, .slice r1 r2 r3, .bool r4, .int .i64 r5, .int .i64 r6, .bool r7, .int .i64 r8, .string r9, .slice ra rb rc]] w4 fun e w' => e = .returned (.string q) ∧ Below w4.heap.size w4 w') := Lib.hid fun w4 hb => by
            have := HSh.out _ _ w4 (Lies.on (StandN.below hb) _ _ HL3.out)
            rw [deep_text, HQ.out] at this
            exact this
          go_wp2_with (first
            | (go_at_call 7; refine HC1.out.mono ?_; rintro e w4 ⟨rfl, hb4⟩; have HS4 := Lib.hid (HS3.out.below hb4); have HB4 := Lib.hid hb4; clear hb4; replace hcP := HS4.out.pcell; replace hcF := HS4.out.fcell)
            | (go_at_call 8; refine (HC2.out _ HB4.out).mono ?_; rintro e w5 ⟨rfl, hb5⟩; have HS5 := Lib.hid (HS4.out.below hb5); clear hb5))
          go_ret
          exact ⟨rfl, HS5.out.bel⟩
    · have h32 : n > 32 := by omega
      have h33 : (32 : Int) < n := h32
      have t0 : decide (n < 0) = false := decide_eq_false hneg
      have t1 : decide (n > 32) = true := decide_eq_true h32
      clear hn
      go_enter Tryz.func4, Tryz.ntmps4
      go_wp2_with (go_at_call 5; refine (HSp.out _).mono ?_; rintro e w1 ⟨rfl, hb1⟩; have HB1 := Lib.hid hb1; clear hb1)
      clear t0 t1 hneg h32 h33
      go_loopw [3, 4] (fun s3 s4 wr => ∃ i : Nat, i ≤ 5 ∧ s4 = .int .i64 i ∧ s3 = .string (str (deepB i)) ∧ wr = w1) (fun _ s4 _ => 5 + 1 - (intOf s4).toNat)
      case atStart => exact ⟨0, Nat.zero_le _, rfl, rfl, rfl⟩
      case round =>
        obtain ⟨i, hi, rfl, rfl, rfl⟩ := hrel
        by_cases hlt : i < 5
        · have hii : (i : Int) < 5 := by omega
          have hS : ⟨#[40]⟩ ++ str (deepB i) ++ ⟨#[41]⟩ = str (deepB (i + 1)) := by
            rw [show (⟨#[40]⟩ : ByteArray) = str [40] from rfl, show (⟨#[41]⟩ : ByteArray) = str [41] from rfl, str_app_, str_app_, deepB_succ]
            rfl
          have hsz : (str (deepB i)).size = 2 * i + 1 := by rw [str_size_, deepB_len]
          have HSx := Lib.hid hS
          obtain ⟨q, hq⟩ : ∃ q, str (deepB i) = q := ⟨_, rfl⟩
          rw [hq] at hsz HSx
          rw [hq]
          have z1 : ¬ 1 + q.size > 9223372036854775807 := by omega
          have z2 : ¬ 1 + q.size + 1 > 9223372036854775807 := by omega
          clear hS hsz hq
          go_wp2_with fail
          exact ⟨⟨i + 1, by omega, by simp, by rw [HSx.out], trivial⟩, by simp only [intOf]; omega⟩
        · obtain rfl : i = 5 := by omega
          have hii : ¬ (5 : Int) < 5 := by omega
          have HP1 : Hid (∀ w, Calls Tryz.prog 6 #[.string (str (deepB 5)), .agg #[.bool false, .bool false, .bool false, .bool false]] w (TreeEnd (SynP.deepT 1 5) w)) := Lib.hid fun w => tree_end (deepB 5) _ _ (deepB_asc 5) (by rw [deepB_len]; omega) (SynP.deep_parse 5 (by decide) (deepB_nat 5)) w
          have hds := deep_sizes 5 1
          have HSh : Hid (ShowC (SynP.deepT 1 5)) := Lib.hid (show_all 6 _ (by omega) (deep_ok 5 1) (by rw [deep_text, deepB_len]; omega))
          have HSz : Hid (SizeC (SynP.deepT 1 5)) := Lib.hid (nsize_all 6 _ (by omega) (by omega))
          have HDs := Lib.hid hds
          obtain ⟨q, hq⟩ : ∃ q, str (deepB 5) = q := ⟨_, rfl⟩
          have HQ := Lib.hid hq
          rw [hq] at HP1
          rw [hq]
          clear hds hq
          go_upto_region 11 with (go_at_call 6; refine (HP1.out _).mono ?_; rintro e w2 ⟨hb2, ⟨r0, r1, r2, r3, r4, r5, r6, r7, r8, r9, ra, rb, rc⟩, A, k, c, rfl, hl2⟩; have HB2 := Lib.hid (HB1.out.trans (hb2.mono HB1.out.size)); have HL2 := Lib.hid hl2; clear hb2 hl2; simp only [RawN.cells, List.cons_append, List.nil_append])
          obtain ⟨P, hP⟩ : ∃ P, w2.heap.size = P := ⟨_, rfl⟩
          have hps := PatS.start (pc := #[.int .i64 r0, .slice r1 r2 r3, .bool r4, .int .i64 r5, .int .i64 r6, .bool r7, .int .i64 r8, .string r9, .slice ra rb rc, .slice A k c]) (fc := #[.int .i64 0, .int .i64 0]) HB2.out hP
          have hl3 := Lies.on (StandN.below (below_two w2 (.cells #[.int .i64 r0, .slice r1 r2 r3, .bool r4, .int .i64 r5, .int .i64 r6, .bool r7, .int .i64 r8, .string r9, .slice ra rb rc, .slice A k c] 31) (.cells #[.int .i64 0, .int .i64 0] 34))) _ _ HL2.out
          rw [hP]
          generalize (w2.alloc (.cells #[.int .i64 r0, .slice r1 r2 r3, .bool r4, .int .i64 r5, .int .i64 r6, .bool r7, .int .i64 r8, .string r9, .slice ra rb rc, .slice A k c] 31)).alloc (.cells #[.int .i64 0, .int .i64 0] 34) = W3 at hps hl3 ⊢
          have HS3 := Lib.hid hps
          have HL3 := Lib.hid hl3
          have hcP := HS3.out.pcell
          have hcF := HS3.out.fcell
          clear hps hl3 hP HB2 HL2 HP1
          have HC1 : Hid (Calls Tryz.prog 7 #[.agg #[.int .i64 r0, .slice r1 r2 r3, .bool r4, .int .i64 r5, .int .i64 r6, .bool r7, .int .i64 r8, .string r9, .slice ra rb rc]] W3 fun e w' => e = .returned (.tuple #[.int .i64 6, .int .i64 6]) ∧ Below W3.heap.size W3 w') := Lib.hid (by
            have := HSz.out _ _ W3 HL3.out
            rw [HDs.out.1, HDs.out.2] at this
            exact this)
          have HC2 : Hid (∀ w4, Below W3.heap.size W3 w4 → Calls Tryz.prog 8 #[.agg #[.int .i64 r0, .slice r1 r2 r3, .bool r4, .int .i64 r5, .int .i64 r6, .bool r7, .int .i64 r8, .string r9, .slice ra rb rc]] w4 fun e w' => e = .returned (.string q) ∧ Below w4.heap.size w4 w') := Lib.hid fun w4 hb => by
            have := HSh.out _ _ w4 (Lies.on (StandN.below hb) _ _ HL3.out)
            rw [deep_text, HQ.out] at this
            exact this
          go_wp2_with (first
            | (go_at_call 7; refine HC1.out.mono ?_; rintro e w4 ⟨rfl, hb4⟩; have HS4 := Lib.hid (HS3.out.below hb4); have HB4 := Lib.hid hb4; clear hb4; replace hcP := HS4.out.pcell; replace hcF := HS4.out.fcell)
            | (go_at_call 8; refine (HC2.out _ HB4.out).mono ?_; rintro e w5 ⟨rfl, hb5⟩; have HS5 := Lib.hid (HS4.out.below hb5); clear hb5))
          go_ret
          exact ⟨rfl, HS5.out.bel⟩

end Go.Proofs.YtjfeepajlkckeaaGreatDoor
