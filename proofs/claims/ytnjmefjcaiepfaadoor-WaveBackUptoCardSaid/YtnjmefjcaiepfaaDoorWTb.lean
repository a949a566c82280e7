/- The walk of Transform the way back. -/
import Derived.Test.YtnjmefjcaiepfaaDoorWTr
import Derived.Laws.ComplexQuo
namespace Go.Proofs.YtnjmefjcaiepfaaDoor
open Go.RowKit WaveP WaveP.Cx
attribute [local go_sem] run_store_complex'

/-- Two words divided by a complex number that is n: what the text's '/' gives. -/
def quoN (n : Nat) (p : Nat × Nat) : Option (Nat × Nat) := cQuoBits p.1 p.2 (natW n) 0

set_option maxHeartbeats 3200000 in
set_option maxRecDepth 100000 in
theorem back_any (gb go c n L : Nat) (g : Nat → Nat × Nat) (X : Nat → Cx) (E0 V0 : Rat) (w : World) (hL : L ≤ 12) (hn : n = 2 ^ L) (hx : ∀ i, i < n → w.cell? ⟨gb, go + i, none⟩ = some (cpx (g i)))
    (hN : ∀ i, i < n → Nc (g i).1 (g i).2 (X i) E0) (hX : ∀ j, Bd (X j) V0) (hV1 : 1 ≤ V0) (hV2 : V0 ≤ ((2 ^ 80 : Nat) : Rat)) (hE1 : E0 ≤ V0 / 2) (hQ : ∀ (p : Nat × Nat) (i : Nat), i < n → Nc p.1 p.2 (F (Zn false) L X i) (El E0 V0 L) → ∃ q, quoN n p = some q) (hT : ∀ w', Below w.heap.size w w' → TabsW w') :
    Calls Tryd.prog 11 #[.slice (some ⟨gb, go, none⟩) n c, .bool true] w fun e w' => ∃ g1 g' : Nat → Nat × Nat, e = .returned (.slice (some ⟨w.heap.size, 0, none⟩) n n) ∧ Below w.heap.size w w' ∧
      w'.rowIs w.heap.size 25 n (fun j => cpx (g' j)) ∧ ∀ p, p < n → quoN n (g1 p) = some (g' p) ∧ Nc (g1 p).1 (g1 p).2 (F (Zn false) L X p) (El E0 V0 L) := by
  have hp : 2 ^ L ≤ 4096 := Nat.le_trans (Nat.pow_le_pow_right (by decide) hL : 2 ^ L ≤ 2 ^ 12) (by decide)
  have hp0 := Nat.two_pow_pos L
  have hn0 : 0 < n := by omega
  have hn1 : n ≤ 4096 := by omega
  have hand := and_pow L hL
  rw [← hn] at hand
  have HTU := Lib.hid (turned_any gb go c n L g w hL hn hx)
  have HN := Lib.hid hN
  have HE := Lib.hid hn
  have HL := Lib.hid hL
  have HT := Lib.hid hT
  clear hx hp hp0 hN hn hT
  go_enter Tryd.func11, Tryd.ntmps11
  go_wp2_with (go_at_call 19; (refine HTU.out.mono ?_); rintro e w1 ⟨rfl, hb1, hr1⟩)
  clear hand
  have HS := Lib.hid (show St (Zn false) X L E0 V0 0 0 0 (fun j => g (rev L j)) from St_start (fun p hp => HN.out _ (by rw [HE.out]; exact rev_lt L p)))
  have HR := Lib.hid (show w1.rowIs w.heap.size 25 n (fun j => cpx (g (rev L j))) from hr1)
  clear hr1
  go_loopw [8] (fun i wr => ∃ (l sz : Nat) (g1 : Nat → Nat × Nat), l ≤ L ∧ sz = 2 ^ (l + 1) ∧ i = .int .i64 sz ∧ wr.rowIs w.heap.size 25 n (fun j => cpx (g1 j)) ∧ Below w.heap.size w wr ∧ Hid (St (Zn false) X L E0 V0 l 0 0 g1))
    (fun i _ => 16385 - (intOf i).toNat)
  case atStart => exact ⟨0, 2, _, Nat.zero_le _, rfl, rfl, HR.out, hb1, HS⟩
  case round =>
    obtain ⟨l, sz, g1, hlL, hsz, rfl, hrow1, hbe1, hS1⟩ := hrel
    by_cases hl : l < L
    · obtain ⟨hf, hhf⟩ : ∃ hf, hf = 2 ^ l := ⟨_, rfl⟩
      have hsz2 : sz = 2 * hf := by rw [hsz, hhf, Nat.pow_succ, Nat.mul_comm]
      have hszn : sz ≤ n := by rw [hsz, HE.out]; exact Nat.pow_le_pow_right (by decide) hl
      have hhf0 : 0 < hf := by rw [hhf]; exact Nat.two_pow_pos l
      have HHF := Lib.hid hhf
      have HSZ := Lib.hid hsz
      have hq2 : (sz : Int) / 2 = (hf : Int) := by rw [hsz2]; omega
      have HSZ2 := Lib.hid hsz2
      clear hhf hsz hsz2
      go_wp2
      go_loopw [44] (fun i wr => ∃ (k : Nat) (g2 : Nat → Nat × Nat), k ≤ hf ∧ i = .int .i64 k ∧ wr.rowIs w.heap.size 25 n (fun j => cpx (g2 j)) ∧ Below w.heap.size w wr ∧ Hid (St (Zn false) X L E0 V0 l k 0 g2))
        (fun i _ => hf + 1 - (intOf i).toNat)
      case atStart => exact ⟨0, g1, Nat.zero_le _, rfl, hrow1, hbe1, hS1⟩
      case round =>
        obtain ⟨k, g2, hk, rfl, hrow2, hbe2, hS2⟩ := hrel
        by_cases hkl : k < hf
        · obtain ⟨x, s, cc, hTn, hNc⟩ := tw_words false (l := l + 1) (k := k) (by omega) (by have := HL.out; omega) (by rw [Nat.add_sub_cancel, ← HHF.out]; exact hkl)
          obtain ⟨a, ha1, ha2⟩ := angle_steps false (l := l + 1) (k := k) (by omega) (by have := HL.out; omega) (by rw [Nat.add_sub_cancel, ← HHF.out]; exact hkl) hTn.1
          rw [← HSZ.out] at ha2
          have f1 : ∀ t w, (binOp .mul t (.float .f64 4607182418800017408) (.float .f64 4611686018427387904)).run Tryd.prog w = .ok (.float .f64 (fl false 4611686018427387904)) w := run_mulO (first_eq false).1
          have f2 : ∀ t w, (binOp .mul t (.float .f64 (fl false 4611686018427387904)) (.float .f64 4614256656552045848)).run Tryd.prog w = .ok (.float .f64 (half2 false)) w := run_mulO (first_eq false).2
          have f3 : ∀ t w, (binOp .mul t (.float .f64 (half2 false)) (.float .f64 (natW k))).run Tryd.prog w = .ok (.float .f64 a) w := run_mulO ha1
          have f4 : ∀ t w, (binOp .quo t (.float .f64 a) (.float .f64 (natW sz))).run Tryd.prog w = .ok (.float .f64 (fl false x)) w := run_divO ha2
          have f5 := floatOf_nat k
          have f6 := floatOf_nat sz
          have HX2 := Lib.hid (hbe2)
          go_wp2_with (go_at_call 20; (refine (sincos_turn false hTn _ (HT.out _ HX2.out)).mono ?_); rintro e w2 ⟨rfl, rfl⟩)
          clear f1 f2 f3 f4 f5 f6
          have HB := Lib.hid (show ∃ B, B = 2 ^ (L - l - 1) ∧ n = B * sz from ⟨_, rfl, by rw [HE.out, HSZ.out, ← Nat.pow_add]; congr 1; omega⟩)
          obtain ⟨B, hB, hnB⟩ := HB.out
          have HBB := Lib.hid hB
          have HNB := Lib.hid hnB
          clear HB hB hnB
          go_loopw [14] (fun i wr => ∃ (b p : Nat) (g3 : Nat → Nat × Nat), b ≤ B ∧ p = b * sz + k ∧ i = .int .i64 p ∧ wr.rowIs w.heap.size 25 n (fun j => cpx (g3 j)) ∧ Below w.heap.size w wr ∧ Hid (St (Zn false) X L E0 V0 l k b g3))
            (fun i _ => 16385 - (intOf i).toNat)
          case atStart => exact ⟨0, k, g2, Nat.zero_le _, by omega, rfl, hrow2, hbe2, hS2⟩
          case round =>
            obtain ⟨b, p, g3, hbB, hp, rfl, hrow3, hbe3, hS3⟩ := hrel
            have HP := Lib.hid hp
            by_cases hb : b < B
            · have hpn : p + hf < n := by
                have e1 : (b + 1) * sz ≤ B * sz := Nat.mul_le_mul_right _ hb
                rw [← HNB.out, Nat.add_mul, Nat.one_mul] at e1
                have := HSZ2.out
                omega
              clear hp
              obtain ⟨ac, bd, ad, bc, tr, ti, pr, pi, qr, qi, P1, P2, P3, P4, P5, P6⟩ := St_step (Zn_roots false) (Rat.le_refl) hX hV1 hV2 hE1 hl HL.out (by rw [← HHF.out]; exact hkl) (by rw [← HBB.out]; exact hb) hNc hS3.out (lo := p) (hi := p + hf) (by rw [HP.out, HSZ.out]) (by rw [HP.out, HSZ.out, HHF.out]; omega)
              have l0 : wr.cell? ⟨w.heap.size, p, none⟩ = some (.complex .f64 (g3 p).1 (g3 p).2) := hrow3.cell (by omega)
              have l1 : wr.cell? ⟨w.heap.size, p + hf, none⟩ = some (.complex .f64 (g3 (p + hf)).1 (g3 (p + hf)).2) := hrow3.cell hpn
              have z0 := hrow3.frozen p
              have z1 := hrow3.frozen (p + hf)
              have q1 := run_cmul (P := Tryd.prog) P1
              have q2 := run_cadd (P := Tryd.prog) P2 P3
              have q3 := run_csub (P := Tryd.prog) P4 P5
              have HP6 := Lib.hid P6
              clear P1 P2 P3 P4 P5 P6
              go_wp2
              go_quiet (fail)
              go_wp2
              go_roundw
              case rel =>
                refine ⟨b + 1, p + sz, _, by omega, by rw [HP.out, Nat.add_mul, Nat.one_mul]; omega, by go_num, ((hrow3.set p (cpx (pr, pi))).set (p + hf) (cpx (qr, qi))).congr (fun j _ => ?_), ((below_drewN hbe3 _).setCell (p := ⟨w.heap.size, p, none⟩) (Nat.le_refl _) _).setCell (p := ⟨w.heap.size, p + hf, none⟩) (Nat.le_refl _) _, HP6⟩
                by_cases e1 : j = p + hf
                · simp only [if_pos e1]
                · by_cases e2 : j = p
                  · simp only [if_neg e1, if_pos e2]
                  · simp only [if_neg e1, if_neg e2]
              case measure => have := HSZ2.out; simp [intOf]; omega
            · have hpn : n ≤ p := by
                obtain rfl : b = B := by omega
                rw [HP.out, HNB.out]; omega
              obtain rfl : b = B := by omega
              have HK := Lib.hid (St_k hl (by rw [← HBB.out]; exact hS3.out))
              clear hp
              go_wp2
              go_roundw
              case rel => exact ⟨k + 1, g3, by omega, by go_num, hrow3, hbe3, HK⟩
              case measure => simp [intOf]; omega
        · obtain rfl : k = hf := by omega
          have HK := Lib.hid (St_l (by rw [← HHF.out]; exact hS2.out))
          go_wp2
          go_roundw
          case rel => exact ⟨l + 1, sz * 2, g2, hl, by rw [HSZ.out, Nat.pow_succ 2 (l + 1)], by go_num, hrow2, hbe2, HK⟩
          case measure => have := HSZ2.out; simp [intOf]; omega
    · obtain rfl : l = L := by omega
      have hgt : n < sz := by rw [hsz, HE.out, Nat.pow_succ]; have := Nat.two_pow_pos l; omega
      clear hsz
      have HQ := Lib.hid hQ
      have HF := Lib.hid (show ∀ p, p < n → Nc (g1 p).1 (g1 p).2 (F (Zn false) l X p) (El E0 V0 l) from fun p hp => St_end hS1.out p (by rw [← HE.out]; exact hp))
      clear hQ
      have f6 := floatOf_nat n
      go_wp2
      go_loopw [100] (fun i wr => ∃ (k : Nat) (g3 : Nat → Nat × Nat), k ≤ n ∧ i = .int .i64 k ∧ wr.rowIs w.heap.size 25 n (fun j => cpx (g3 j)) ∧ Below w.heap.size w wr ∧ Hid (∀ j, j < n → (j < k → quoN n (g1 j) = some (g3 j)) ∧ (k ≤ j → g3 j = g1 j)))
        (fun i _ => n + 1 - (intOf i).toNat)
      case atStart => exact ⟨0, g1, by omega, rfl, hrow1, hbe1, Lib.hid (fun j hj => ⟨fun h => absurd h (Nat.not_lt_zero _), fun _ => rfl⟩)⟩
      case round =>
        obtain ⟨k, g3, hk, rfl, hrow3, hbe3, hD⟩ := hrel
        by_cases hkn : k < n
        · obtain ⟨⟨q1, q2⟩, hq⟩ := HQ.out (g1 k) k hkn (HF.out k hkn)
          have e3 := (hD.out k hkn).2 (Nat.le_refl _)
          have HQ2 := Lib.hid hq
          have l0 : wr.cell? ⟨w.heap.size, k, none⟩ = some (.complex .f64 (g1 k).1 (g1 k).2) := by rw [← e3]; exact hrow3.cell hkn
          have z0 := hrow3.frozen k
          have d1 : ∀ t w, (binOp .quo t (.complex .f64 (g1 k).1 (g1 k).2) (.complex .f64 (natW n) 0)).run Tryd.prog w = .ok (.complex .f64 q1 q2) w := fun t w => (run_complex_quo w t _ _ _ _ _ _ hq).1
          clear hq e3
          go_wp2
          go_roundw
          case rel =>
            refine ⟨k + 1, (fun j => if j = k then (q1, q2) else g3 j), by omega, by go_num, (hrow3.set k (cpx (q1, q2))).congr (fun j _ => ?_), hbe3.setCell (p := ⟨w.heap.size, k, none⟩) (Nat.le_refl _) _, Lib.hid (fun j hj => ?_)⟩
            · by_cases e2 : j = k
              · simp only [if_pos e2]
              · simp only [if_neg e2]
            · by_cases e2 : j = k
              · subst e2
                simp only [if_true]
                exact ⟨fun _ => HQ2.out, fun h => absurd h (by omega)⟩
              · simp only [if_neg e2]
                exact ⟨fun h => (hD.out j hj).1 (by omega), fun h => (hD.out j hj).2 (by omega)⟩
          case measure => simp [intOf]; omega
        · obtain rfl : k = n := by omega
          go_wp2
          go_ret
          exact ⟨g1, g3, rfl, hbe3, hrow3, fun p hp => ⟨(hD.out p hp).1 hp, HF.out p hp⟩⟩
end Go.Proofs.YtnjmefjcaiepfaaDoor
