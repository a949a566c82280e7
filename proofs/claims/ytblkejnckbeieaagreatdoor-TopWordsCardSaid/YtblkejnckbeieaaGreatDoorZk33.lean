/- The walk of the library's Sincos at the words of the table. -/
import Derived.Test.YtblkejnckbeieaaGreatDoorZk1
import Derived.Test.YtblkejnckbeieaaGreatDoorZk30
import Derived.Test.YtblkejnckbeieaaGreatDoorZk32
import Derived.Laws.FloatArith
import Derived.Laws.Cover3
import Derived.Laws.BitsAllLaws
namespace Go.Proofs.YtblkejnckbeieaaGreatDoor
open Go.RowKit WaveP

/-- The library's two tables, as the text lays them. -/
def TabsW (w : World) : Prop := (∀ j, w.cell? ⟨2, j, none⟩ = #[Value.float .f64 13666448263388469915, .float .f64 4477121864728985349, .float .f64 13732177093698800582, .float .f64 4537941361668146421, .float .f64 13787419979223748497, .float .f64 4586165620538955083][j]?) ∧
  (∀ j, w.cell? ⟨3, j, none⟩ = #[Value.float .f64 4460209587652500685, .float .f64 13716528389658582877, .float .f64 4523617212962785441, .float .f64 13774824197404483331, .float .f64 4575957461383575504, .float .f64 13818544856648471880][j]?)

theorem run_mulO {P : Program} {x y r : Nat} (h : mulO x y = some r) : ∀ t w, (binOp .mul t (.float .f64 x) (.float .f64 y)).run P w = .ok (.float .f64 r) w := fun t w => run_float_arith w .mul t .f64 x y r (mulO_some h)
theorem run_addO {P : Program} {x y r : Nat} (h : addO x y = some r) : ∀ t w, (binOp .add t (.float .f64 x) (.float .f64 y)).run P w = .ok (.float .f64 r) w := fun t w => run_float_arith w .add t .f64 x y r (addO_some h)
theorem run_subO {P : Program} {x y r : Nat} (h : subO x y = some r) : ∀ t w, (binOp .sub t (.float .f64 x) (.float .f64 y)).run P w = .ok (.float .f64 r) w := fun t w => run_float_arith w .sub t .f64 x y r (subO_some h)

theorem isNaN_no (x : Nat) (hx : fin x = true) (w : World) : Calls Tryz.prog 165 #[.float .f64 x] w fun e w' => e = .returned (.bool false) ∧ w = w' := by
  have h : (FloatKind.f64.format.order x x != some Ordering.eq) = false := by
    have := order_same hx hx rfl
    rw [show FloatKind.f64.format.order x x = some Ordering.eq from this]
    rfl
  go_enter Tryz.func165, Tryz.ntmps165
  go_wp2
  go_ret
  exact ⟨rfl, rfl⟩
theorem run_bits (x : Nat) (w : World) : (callFunc 134 #[.float .f64 x]).run Tryz.prog w = .ok (.value (.int .u64 x)) w := by
  rw [run_callFunc_extern Tryz.func134 (by kernel_rfl) (by kernel_rfl) (by kernel_rfl) (e := Extern.MathFloatBits.float64bits) (by kernel_rfl)]
  rfl
theorem run_from (x : Int) (w : World) : (callFunc 135 #[.int .u64 x]).run Tryz.prog w = .ok (.value (.float .f64 x.toNat)) w := by
  rw [run_callFunc_extern Tryz.func135 (by kernel_rfl) (by kernel_rfl) (by kernel_rfl) (e := Extern.MathFloatBits.float64frombits) (by kernel_rfl)]
  rfl
theorem andNot_top (x : Nat) (h : x < 18446744073709551616) : bits .andNot .u64 (x : Int) 9223372036854775808 = ((rg x : Nat) : Int) := by
  have := Go.u64_andNot x 9223372036854775808 (by omega) (by omega) (by omega) (by omega)
  rw [this]
  unfold rg
  have e := Nat.and_two_pow_sub_one_eq_mod x 63
  show ((x &&& (18446744073709551615 - 9223372036854775808) : Nat) : Int) = _
  exact congrArg _ e
theorem abs_any (x : Nat) (hx : fin x = true) (w : World) : Calls Tryz.prog 189 #[.float .f64 x] w fun e w' => e = .returned (.float .f64 (rg x)) ∧ w = w' := by
  have h1 := run_bits x
  have h2 := run_from
  have h3 := andNot_top x (fin_iff.1 hx).1
  go_enter Tryz.func189, Tryz.ntmps189
  go_wp2
  go_ret
  exact ⟨rfl, rfl⟩
theorem fin_rg {x : Nat} (h : fin x = true) : fin (rg x) = true ∧ sval (rg x) = ((un (rg x) : Nat) : Int) := by
  obtain ⟨_, h2⟩ := fin_iff.1 h
  have e : rg x = wd false (rg x) := rfl
  have h3 : rg (rg x) = rg x := by conv => lhs; rw [e]
                                   exact rg_wd h2
  refine ⟨by rw [e]; exact fin_wd h2, ?_⟩
  have hs : sg (rg x) = false := by conv => lhs; rw [e]
                                    exact sg_wd h2
  unfold sval
  rw [hs, h3]
  rfl
theorem isInf_no (x : Nat) (hx : fin x = true) (hb : un (rg x) < un 9218868437227405311) (w : World) : Calls Tryz.prog 166 #[.float .f64 x, .int .i64 0] w fun e w' => e = .returned (.bool false) ∧ w = w' := by
  obtain ⟨f1, f2⟩ := fin_rg hx
  have hord : FloatKind.f64.format.order (rg x) 9218868437227405311 = some .lt := order_lt f1 (by decide +kernel) (by
    rw [f2, show sval 9218868437227405311 = ((un 9218868437227405311 : Nat) : Int) by decide +kernel]
    exact_mod_cast hb)
  have h : (FloatKind.f64.format.order (rg x) 9218868437227405311 == some Ordering.gt) = false := by rw [hord]; rfl
  clear hord
  go_enter Tryz.func166, Tryz.ntmps166
  go_wp2_with (go_at_call 189; (with_reducible refine (abs_any x hx _).mono ?_); rintro e w' ⟨rfl, rfl⟩)
  go_ret
  exact ⟨rfl, rfl⟩

theorem angle_facts {x : Nat} (h : angleB x = true) : fin x = true ∧ sg x = false ∧ 1 ≤ un (rg x) ∧ un (rg x) ≤ 2 ^ c1076 := by
  unfold angleB at h
  obtain ⟨h1, h⟩ := and_t h
  obtain ⟨h2, h⟩ := and_t h
  obtain ⟨h3, h4⟩ := and_t h
  refine ⟨h1, ?_, Nat.le_of_ble_eq_true h3, Nat.le_of_ble_eq_true h4⟩
  cases hs : sg x with
  | false => rfl
  | true => rw [hs] at h2; cases h2
/-- The words at which Sincos asks how they stand. -/
structure Stands (x : Nat) : Prop where
  z : (FloatKind.f64.format.order x 0 == some Ordering.eq) = false
  l : (FloatKind.f64.format.order x 0 == some Ordering.lt) = false
  g : (FloatKind.f64.format.order x 4737786807993761792 == some Ordering.gt || FloatKind.f64.format.order x 4737786807993761792 == some Ordering.eq) = false
  zf : (FloatKind.f64.format.order (flipW x) 0 == some Ordering.eq) = false
  lf : (FloatKind.f64.format.order (flipW x) 0 == some Ordering.lt) = true
theorem stands_of {x : Nat} (h : angleB x = true) : Stands x := by
  obtain ⟨h1, h2, h3, h4⟩ := angle_facts h
  have hs : sval x = ((un (rg x) : Nat) : Int) := by unfold sval; rw [h2, cond_false]
  have hf0 : fin 0 = true := by decide +kernel
  have hv0 : sval 0 = 0 := by decide +kernel
  have g1 : FloatKind.f64.format.order x 0 = some .gt := order_gt h1 hf0 (by rw [hs, hv0]; omega)
  have g2 : FloatKind.f64.format.order (flipW x) 0 = some .lt := order_lt (fin_flip h1) hf0 (by rw [sval_flip h1, hs, hv0]; omega)
  have g3 : FloatKind.f64.format.order x 4737786807993761792 = some .lt := order_lt h1 (by decide +kernel) (by
    rw [hs]
    have : ((2 ^ c1076 : Nat) : Int) < sval 4737786807993761792 := by decide +kernel
    have h5 : ((un (rg x) : Nat) : Int) ≤ ((2 ^ c1076 : Nat) : Int) := by exact_mod_cast h4
    omega)
  exact ⟨by rw [g1]; rfl, by rw [g1]; rfl, by rw [g3]; rfl, by rw [g2]; rfl, by rw [g2]; rfl⟩

theorem xor_top (r : Nat) (h : r < 9223372036854775808) : r ^^^ 2 ^ 63 = 2 ^ 63 + r ∧ (2 ^ 63 + r) ^^^ 2 ^ 63 = r := by
  have h' : r < 2 ^ 63 := h
  have e : r ^^^ 2 ^ 63 = 2 ^ 63 + r := by
    apply Nat.eq_of_testBit_eq
    intro i
    rw [Nat.testBit_xor, Nat.testBit_two_pow]
    rcases Nat.lt_trichotomy i 63 with hi | hi | hi
    · rw [Nat.testBit_two_pow_add_gt hi, decide_eq_false (by omega)]
      simp
    · subst hi
      rw [Nat.testBit_two_pow_add_eq, Nat.testBit_lt_two_pow h']
      rfl
    · have a1 : (2 : Nat) ^ 63 + r < 2 ^ i := by
        have : (2 : Nat) ^ 64 ≤ 2 ^ i := Nat.pow_le_pow_right (by decide) hi
        have e64 : (2 : Nat) ^ 64 = 2 ^ 63 * 2 := Nat.pow_succ ..
        omega
      rw [Nat.testBit_lt_two_pow a1, Nat.testBit_lt_two_pow (by omega), decide_eq_false (by omega)]
      rfl
  exact ⟨e, by rw [← e, Nat.xor_assoc, Nat.xor_self, Nat.xor_zero]⟩
theorem neg_flip {x : Nat} (h1 : x < 18446744073709551616) : Op.negFloat .f64 x = flipW x := by
  have hr : rg x < 9223372036854775808 := Nat.mod_lt _ (by decide)
  obtain ⟨e1, e2⟩ := xor_top (rg x) hr
  show x ^^^ 2 ^ 63 = _
  unfold flipW wd
  by_cases hx : 9223372036854775808 ≤ x
  · have hs : sg x = true := ble_t hx
    have hxe : x = 2 ^ 63 + rg x := by unfold rg; show x = 9223372036854775808 + _; omega
    rw [hs]
    conv => lhs; rw [hxe]
    exact e2
  · have hs : sg x = false := ble_f hx
    have hxe : x = rg x := by unfold rg; omega
    rw [hs]
    conv => lhs; rw [hxe]
    exact e1
theorem addO_lt {x y r : Nat} (h : addO x y = some r) : r < 18446744073709551616 := Ieee.Format.add_lt fmt (addO_some h)
theorem flip_flip {x : Nat} (h : x < 18446744073709551616) : flipW (flipW x) = x := by
  have hr : rg x < 9223372036854775808 := Nat.mod_lt _ (by decide)
  by_cases hx : 9223372036854775808 ≤ x
  · have e1 : flipW x = rg x := by unfold flipW; rw [show sg x = true from ble_t hx]; exact wd_false _
    rw [e1]
    unfold flipW
    rw [show sg (rg x) = false from ble_f (by omega)]
    show 9223372036854775808 + rg (rg x) = x
    unfold rg at hr ⊢
    omega
  · have e1 : flipW x = 9223372036854775808 + rg x := by unfold flipW; rw [show sg x = false from ble_f hx]; rfl
    rw [e1]
    unfold flipW
    rw [show sg (9223372036854775808 + rg x) = true from ble_t (by omega)]
    rw [Bool.not_true, wd_false]
    unfold rg at hr ⊢
    omega
theorem conv_u64 {m t : Nat} (h : fin m = true) (hs : sg m = false) (ht : truncN m = t) (hl : t ≤ 4) : ∀ w, (convert 145 161 (.float .f64 m)).run Tryz.prog w = .ok (.int .u64 t) w := fun w =>
  run_convert_float_int w 145 161 .f64 .u64 m t (by rw [Tryz.underlying145]; rfl) Tryz.underlying161 (by
    have e : (FloatKind.f64.decode m).toInt .zero = some (t : Int) := by rw [← ht]; exact trunc_eq h hs
    unfold floatToIntVal
    rw [e]
    refine if_pos ⟨?_, ?_⟩
    · show (0 : Int) ≤ _; omega
    · show (t : Int) ≤ 18446744073709551615; omega)

theorem mg_lt (r : Nat) : mg r < 2 ^ 53 := by
  have e53 : (2 : Nat) ^ 53 = 9007199254740992 := by decide +kernel
  rw [e53]
  unfold mg
  by_cases h : 4503599627370496 ≤ r
  · rw [ble_t h, cond_true]; omega
  · rw [ble_f h, cond_false]; omega
/-- The run of each step of the reduction, the whole part known. -/
theorem reduce_runs {x j z : Nat} (hsx : sg x = false) (hu2 : un (rg x) ≤ 2 ^ c1076) (h : reduce x = some (j, z)) (hj : j = 0 ∨ j = 2 ∨ j = 4) : ∃ m t y a x1 b x2 c, mulO x 4608412980311869571 = some m ∧ (∀ w, (convert 145 161 (.float .f64 m)).run Tryz.prog w = .ok (.int .u64 (t : Nat)) w) ∧ WaveP.Left x y a x1 b x2 c z ∧
    ((t = 0 ∧ j = 0 ∧ y = floatOfInt .f64 0) ∨ (t = 2 ∧ j = 2 ∧ y = floatOfInt .f64 2) ∨ (t = 4 ∧ j = 4 ∧ y = floatOfInt .f64 4) ∨ (t = 1 ∧ j = 2 ∧ addO (floatOfInt .f64 1) 4607182418800017408 = some y) ∨ (t = 3 ∧ j = 4 ∧ addO (floatOfInt .f64 3) 4607182418800017408 = some y)) := by
  have n0 : natW 0 = floatOfInt .f64 0 := by decide +kernel
  have n1 : natW 1 = floatOfInt .f64 1 := by decide +kernel
  have n2 : natW 2 = floatOfInt .f64 2 := by decide +kernel
  have n3 : natW 3 = floatOfInt .f64 3 := by decide +kernel
  have n4 : natW 4 = floatOfInt .f64 4 := by decide +kernel
  obtain ⟨m, hm, hr⟩ := reduce_parts h
  have hmm := hm
  unfold mulO at hmm
  obtain ⟨_, hm2⟩ := bif_some hmm
  rw [strict_eq] at hm2
  injection hm2 with hm2
  have hfin : fin m = true ∧ sg m = false := by
    have hrf : rnd (mg (rg x) * mg (rg 4608412980311869571)) (pl (rg x) + pl (rg 4608412980311869571)) c74 < infR := by
      apply rnd_fin
      by_cases h0 : mg (rg x) * mg (rg 4608412980311869571) = 0
      · exact .inl h0
      · right
        have a1 : pl (rg x) ≤ c1076 := by
          have b1 : 2 ^ pl (rg x) ≤ un (rg x) := by
            unfold un
            have : mg (rg x) ≠ 0 := fun e => by rw [e] at h0; simp at h0
            exact Nat.le_mul_of_pos_left _ (Nat.pos_of_ne_zero this)
          exact (Nat.pow_le_pow_iff_right (show 1 < 2 by decide)).1 (Nat.le_trans b1 hu2)
        have a2 : pl (rg 4608412980311869571) = 1022 := by decide +kernel
        have a3 : mg (rg 4608412980311869571) < 2 ^ 53 := by decide +kernel
        have a4 : mg (rg x) < 2 ^ 53 := mg_lt _
        have a5 : (mg (rg x) * mg (rg 4608412980311869571)).log2 < 106 := by
          rw [Nat.log2_lt h0]
          have : mg (rg x) * mg (rg 4608412980311869571) < 2 ^ 53 * 2 ^ 53 := Nat.mul_lt_mul'' a4 a3
          rw [← Nat.pow_add] at this
          exact this
        unfold c1076 at a1
        unfold c74
        omega
    rw [← hm2]
    unfold mulN
    exact ⟨fin_wd hrf, by rw [sg_wd hrf, hsx]; decide +kernel⟩
  rcases hr with ⟨hp, he, y, hy, a, x1, b, x2, c, hl⟩ | ⟨hp, he, a, x1, b, x2, c, hl⟩
  · have ht : truncN m = 1 ∨ truncN m = 3 := by omega
    rcases ht with ht | ht
    · exact ⟨m, 1, y, a, x1, b, x2, c, hm, conv_u64 hfin.1 hfin.2 ht (by omega), hl, .inr (.inr (.inr (.inl ⟨rfl, by omega, by rw [ht, n1] at hy; exact hy⟩)))⟩
    · exact ⟨m, 3, y, a, x1, b, x2, c, hm, conv_u64 hfin.1 hfin.2 ht (by omega), hl, .inr (.inr (.inr (.inr ⟨rfl, by omega, by rw [ht, n3] at hy; exact hy⟩)))⟩
  · have ht : truncN m = 0 ∨ truncN m = 2 ∨ truncN m = 4 := by omega
    rcases ht with ht | ht | ht
    · exact ⟨m, 0, natW (truncN m), a, x1, b, x2, c, hm, conv_u64 hfin.1 hfin.2 ht (by omega), hl, .inl ⟨rfl, by omega, by rw [ht, n0]⟩⟩
    · exact ⟨m, 2, natW (truncN m), a, x1, b, x2, c, hm, conv_u64 hfin.1 hfin.2 ht (by omega), hl, .inr (.inl ⟨rfl, by omega, by rw [ht, n2]⟩)⟩
    · exact ⟨m, 4, natW (truncN m), a, x1, b, x2, c, hm, conv_u64 hfin.1 hfin.2 ht (by omega), hl, .inr (.inr (.inl ⟨rfl, by omega, by rw [ht, n4]⟩))⟩

theorem run_neg {P : Program} (y : Nat) (w : World) : (Op.unary .neg (.float .f64 y)).run P w = .ok (.float .f64 (Op.negFloat .f64 y)) w := rfl
theorem rg_flip {x : Nat} (h : fin x = true) : rg (flipW x) = rg x := rg_wd (fin_iff.1 h).2
set_option maxRecDepth 100000 in
set_option maxHeartbeats 3200000 in
theorem sincos_pos (x s c : Nat) (w : World) (hT : TabsW w) (ha : angleB x = true) (h : sincosP x = some (s, c)) :
    Calls Tryz.prog 133 #[.float .f64 x] w fun e w' => e = .returned (.tuple #[.float .f64 s, .float .f64 c]) ∧ w = w' := by
  obtain ⟨S1, S2, S3, -, -⟩ := stands_of ha
  obtain ⟨hx, hs, hu1, hu2⟩ := angle_facts ha
  obtain ⟨j, z, s0, c0, hr, hk, hj⟩ := sincos_parts h
  have HN := Lib.hid fun W => isNaN_no x hx W
  have HI := Lib.hid fun W => isInf_no x hx (Nat.lt_of_le_of_lt hu2 (by decide +kernel)) W
  obtain ⟨m, t, y, a, x1, b, x2, cc, hm, hcv, hl, ht⟩ := reduce_runs hs hu2 hr (by omega)
  have r1 := run_mulO (P := Tryz.prog) hm
  have r2 := run_mulO (P := Tryz.prog) hl.a'
  have r3 := run_subO (P := Tryz.prog) hl.b'
  have r4 := run_mulO (P := Tryz.prog) hl.c'
  have r5 := run_subO (P := Tryz.prog) hl.d
  have r6 := run_mulO (P := Tryz.prog) hl.e
  have r7 := run_subO (P := Tryz.prog) hl.f
  obtain ⟨zz, hh, h1, z4, pc, mc, z3, ps, ms, K⟩ := kern_parts hk
  obtain ⟨p1, q1, p2, q2, p3, q3, p4, q4, p5, P1, Q1, P2, Q2, P3, Q3, P4, Q4, P5, Q5⟩ := poly5 K.e
  obtain ⟨u1, v1, u2, v2, u3, v3, u4, v4, u5, U1, V1, U2, V2, U3, V3, U4, V4, U5, V5⟩ := poly5 K.j
  have g1 : ∀ w, (Op.unary .neg (.float .f64 c0)).run Tryz.prog w = .ok (.float .f64 (flipW c0)) w := fun w => by rw [← neg_flip (addO_lt K.g)]; rfl
  have g2 : ∀ w, (Op.unary .neg (.float .f64 s0)).run Tryz.prog w = .ok (.float .f64 (flipW s0)) w := fun w => by rw [← neg_flip (addO_lt K.l)]; rfl
  have k1 := run_mulO (P := Tryz.prog) K.a
  have k2 := run_mulO (P := Tryz.prog) K.b
  have k3 := run_subO (P := Tryz.prog) K.c'
  have k4 := run_mulO (P := Tryz.prog) K.d
  have k5 := run_mulO (P := Tryz.prog) K.f
  have k6 := run_addO (P := Tryz.prog) K.g
  have k7 := run_mulO (P := Tryz.prog) K.i
  have k8 := run_mulO (P := Tryz.prog) K.k
  have k9 := run_addO (P := Tryz.prog) K.l
  replace P1 := run_mulO (P := Tryz.prog) P1
  replace Q1 := run_addO (P := Tryz.prog) Q1
  replace P2 := run_mulO (P := Tryz.prog) P2
  replace Q2 := run_addO (P := Tryz.prog) Q2
  replace P3 := run_mulO (P := Tryz.prog) P3
  replace Q3 := run_addO (P := Tryz.prog) Q3
  replace P4 := run_mulO (P := Tryz.prog) P4
  replace Q4 := run_addO (P := Tryz.prog) Q4
  replace P5 := run_mulO (P := Tryz.prog) P5
  replace Q5 := run_addO (P := Tryz.prog) Q5
  replace U1 := run_mulO (P := Tryz.prog) U1
  replace V1 := run_addO (P := Tryz.prog) V1
  replace U2 := run_mulO (P := Tryz.prog) U2
  replace V2 := run_addO (P := Tryz.prog) V2
  replace U3 := run_mulO (P := Tryz.prog) U3
  replace V3 := run_addO (P := Tryz.prog) V3
  replace U4 := run_mulO (P := Tryz.prog) U4
  replace V4 := run_addO (P := Tryz.prog) V4
  replace U5 := run_mulO (P := Tryz.prog) U5
  replace V5 := run_addO (P := Tryz.prog) V5
  have G1 := Lib.hid g1
  have G2 := Lib.hid g2
  have HJ := Lib.hid hj
  obtain ⟨tc, ts⟩ := hT
  clear ha h hj hr hk hx hs hu1 hu2 hm hl K g1 g2
  go_enter Tryz.func133, Tryz.ntmps133
  go_upto_region 13 with (first
    | (go_at_call 165; (with_reducible refine (HN.out _).mono ?_); rintro e w' ⟨rfl, rfl⟩)
    | (go_at_call 166; (with_reducible refine (HI.out _).mono ?_); rintro e w' ⟨rfl, rfl⟩))
  go_upto_region 14 with fail
  clear HN HI S1 S2 S3 r1 hcv
  rcases ht with ⟨rfl, rfl, rfl⟩ | ⟨rfl, rfl, rfl⟩ | ⟨rfl, rfl, rfl⟩ | ⟨rfl, rfl, hy⟩ | ⟨rfl, rfl, hy⟩
  all_goals
    try replace hy := run_addO (P := Tryz.prog) hy
    go_upto_region 20 with fail
    clear r2 r3 r4 r5 r6 r7
    have a0 : bits BinOp.and IntKind.u64 0 7 = 0 := by decide
    have a2 : bits BinOp.and IntKind.u64 2 7 = 2 := by decide
    have a4 : bits BinOp.and IntKind.u64 4 7 = 4 := by decide
    have w0 : IntKind.u64.wrap (4 - 4) = 0 := by decide
    have g1 := G1.out
    have g2 := G2.out
    go_wp2
    go_ret2
    have hj := HJ.out
    rcases hj with ⟨e, rfl, rfl⟩ | ⟨e, rfl, rfl⟩ | ⟨e, rfl, rfl⟩
    all_goals first
      | (cases e; done)
      | exact ⟨by rfl, rfl⟩

set_option maxRecDepth 100000 in
set_option maxHeartbeats 3200000 in
theorem sincos_neg (x s c : Nat) (w : World) (hT : TabsW w) (ha : angleB x = true) (h : sincosP x = some (s, c)) :
    Calls Tryz.prog 133 #[.float .f64 (flipW x)] w fun e w' => e = .returned (.tuple #[.float .f64 (flipW s), .float .f64 c]) ∧ w = w' := by
  obtain ⟨-, -, S3, S1, S2⟩ := stands_of ha
  obtain ⟨hx, hs, hu1, hu2⟩ := angle_facts ha
  obtain ⟨j, z, s0, c0, hr, hk, hj⟩ := sincos_parts h
  have HN := Lib.hid fun W => isNaN_no (flipW x) (fin_flip hx) W
  have HI := Lib.hid fun W => isInf_no (flipW x) (fin_flip hx) (by rw [rg_flip hx]; exact Nat.lt_of_le_of_lt hu2 (by decide +kernel)) W
  have hxx : ∀ w, (Op.unary .neg (.float .f64 (flipW x))).run Tryz.prog w = .ok (.float .f64 x) w := fun w => by
    have := neg_flip (fin_iff.1 (fin_flip hx)).1
    rw [flip_flip (fin_iff.1 hx).1] at this
    exact (run_neg (flipW x) w).trans (by rw [this])
  have FF := Lib.hid (flip_flip (addO_lt (kern_parts hk).choose_spec.choose_spec.choose_spec.choose_spec.choose_spec.choose_spec.choose_spec.choose_spec.choose_spec.l))
  obtain ⟨m, t, y, a, x1, b, x2, cc, hm, hcv, hl, ht⟩ := reduce_runs hs hu2 hr (by omega)
  have r1 := run_mulO (P := Tryz.prog) hm
  have r2 := run_mulO (P := Tryz.prog) hl.a'
  have r3 := run_subO (P := Tryz.prog) hl.b'
  have r4 := run_mulO (P := Tryz.prog) hl.c'
  have r5 := run_subO (P := Tryz.prog) hl.d
  have r6 := run_mulO (P := Tryz.prog) hl.e
  have r7 := run_subO (P := Tryz.prog) hl.f
  obtain ⟨zz, hh, h1, z4, pc, mc, z3, ps, ms, K⟩ := kern_parts hk
  obtain ⟨p1, q1, p2, q2, p3, q3, p4, q4, p5, P1, Q1, P2, Q2, P3, Q3, P4, Q4, P5, Q5⟩ := poly5 K.e
  obtain ⟨u1, v1, u2, v2, u3, v3, u4, v4, u5, U1, V1, U2, V2, U3, V3, U4, V4, U5, V5⟩ := poly5 K.j
  have g1 : ∀ w, (Op.unary .neg (.float .f64 c0)).run Tryz.prog w = .ok (.float .f64 (flipW c0)) w := fun w => by rw [← neg_flip (addO_lt K.g)]; rfl
  have g2 : ∀ w, (Op.unary .neg (.float .f64 s0)).run Tryz.prog w = .ok (.float .f64 (flipW s0)) w := fun w => by rw [← neg_flip (addO_lt K.l)]; rfl
  have k1 := run_mulO (P := Tryz.prog) K.a
  have k2 := run_mulO (P := Tryz.prog) K.b
  have k3 := run_subO (P := Tryz.prog) K.c'
  have k4 := run_mulO (P := Tryz.prog) K.d
  have k5 := run_mulO (P := Tryz.prog) K.f
  have k6 := run_addO (P := Tryz.prog) K.g
  have k7 := run_mulO (P := Tryz.prog) K.i
  have k8 := run_mulO (P := Tryz.prog) K.k
  have k9 := run_addO (P := Tryz.prog) K.l
  replace P1 := run_mulO (P := Tryz.prog) P1
  replace Q1 := run_addO (P := Tryz.prog) Q1
  replace P2 := run_mulO (P := Tryz.prog) P2
  replace Q2 := run_addO (P := Tryz.prog) Q2
  replace P3 := run_mulO (P := Tryz.prog) P3
  replace Q3 := run_addO (P := Tryz.prog) Q3
  replace P4 := run_mulO (P := Tryz.prog) P4
  replace Q4 := run_addO (P := Tryz.prog) Q4
  replace P5 := run_mulO (P := Tryz.prog) P5
  replace Q5 := run_addO (P := Tryz.prog) Q5
  replace U1 := run_mulO (P := Tryz.prog) U1
  replace V1 := run_addO (P := Tryz.prog) V1
  replace U2 := run_mulO (P := Tryz.prog) U2
  replace V2 := run_addO (P := Tryz.prog) V2
  replace U3 := run_mulO (P := Tryz.prog) U3
  replace V3 := run_addO (P := Tryz.prog) V3
  replace U4 := run_mulO (P := Tryz.prog) U4
  replace V4 := run_addO (P := Tryz.prog) V4
  replace U5 := run_mulO (P := Tryz.prog) U5
  replace V5 := run_addO (P := Tryz.prog) V5
  have G1 := Lib.hid g1
  have G2 := Lib.hid g2
  have HJ := Lib.hid hj
  obtain ⟨tc, ts⟩ := hT
  clear ha h hj hr hk hx hs hu1 hu2 hm hl K g1 g2
  go_enter Tryz.func133, Tryz.ntmps133
  go_upto_region 13 with (first
    | (go_at_call 165; (with_reducible refine (HN.out _).mono ?_); rintro e w' ⟨rfl, rfl⟩)
    | (go_at_call 166; (with_reducible refine (HI.out _).mono ?_); rintro e w' ⟨rfl, rfl⟩))
  go_upto_region 14 with fail
  clear HN HI S1 S2 S3 r1 hcv hxx
  rcases ht with ⟨rfl, rfl, rfl⟩ | ⟨rfl, rfl, rfl⟩ | ⟨rfl, rfl, rfl⟩ | ⟨rfl, rfl, hy⟩ | ⟨rfl, rfl, hy⟩
  all_goals
    try replace hy := run_addO (P := Tryz.prog) hy
    go_upto_region 20 with fail
    clear r2 r3 r4 r5 r6 r7
    have a0 : bits BinOp.and IntKind.u64 0 7 = 0 := by decide
    have a2 : bits BinOp.and IntKind.u64 2 7 = 2 := by decide
    have a4 : bits BinOp.and IntKind.u64 4 7 = 4 := by decide
    have w0 : IntKind.u64.wrap (4 - 4) = 0 := by decide
    have g1 := G1.out
    have g2 := G2.out
    go_wp2
    go_ret2
    have hj := HJ.out
    rcases hj with ⟨e, rfl, rfl⟩ | ⟨e, rfl, rfl⟩ | ⟨e, rfl, rfl⟩
    all_goals first
      | (cases e; done)
      | exact ⟨by rfl, rfl⟩
      | exact ⟨by rw [FF.out]; rfl, rfl⟩

theorem sincos_zero (x : Nat) (w : World) (h : x = 0 ∨ x = 9223372036854775808) : Calls Tryz.prog 133 #[.float .f64 x] w fun e w' => e = .returned (.tuple #[.float .f64 x, .float .f64 4607182418800017408]) ∧ w = w' := by
  have hz : (FloatKind.f64.format.order x 0 == some Ordering.eq) = true := by rcases h with rfl | rfl <;> decide +kernel
  go_enter Tryz.func133, Tryz.ntmps133
  go_wp2
  go_ret2
  exact ⟨by rfl, rfl⟩
def fl (neg : Bool) (x : Nat) : Nat := if neg then flipW x else x
theorem sincos_turn (neg : Bool) {l k x s c : Nat} (h : Turn l k x s c) (w : World) (hT : TabsW w) : Calls Tryz.prog 133 #[.float .f64 (fl neg x)] w fun e w' => e = .returned (.tuple #[.float .f64 (fl neg s), .float .f64 c]) ∧ w = w' := by
  obtain ⟨_, h, _⟩ := h
  rcases h with ⟨_, rfl, rfl, rfl⟩ | ⟨_, ha, hs⟩
  · cases neg
    · exact sincos_zero 0 w (.inl rfl)
    · exact sincos_zero (flipW 0) w (.inr (by decide +kernel))
  · cases neg
    · exact sincos_pos x s c w hT ha hs
    · exact sincos_neg x s c w hT ha hs

end Go.Proofs.YtblkejnckbeieaaGreatDoor
