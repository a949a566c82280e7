/- The walk of product: the numbers of the product of two rows that fit. -/
import Derived.Test.YtnjmefjcaiepfaaDoorWPts
import Derived.Test.YtnjmefjcaiepfaaDoorWRd
import Derived.Test.YtnjmefjcaiepfaaDoorWQuoN
namespace Go.Proofs.YtnjmefjcaiepfaaDoor
open Go.RowKit WaveP WaveP.Cx
attribute [local go_sem] run_store_complex3

theorem zn_conj : (fun l => conj (Zn true l)) = Zn false := by
  funext l
  show conj (conj (Zr l)) = Zr l
  rw [conj_conj]
theorem inv_pow (L : Nat) : ∃ r : Rat, 0 ≤ r ∧ r ≤ 1 ∧ r * ((2 ^ L : Nat) : Rat) = 1 := by
  have h1 : (1 : Rat) ≤ ((2 ^ L : Nat) : Rat) := by exact_mod_cast Nat.one_le_two_pow
  have h0 : (0 : Rat) < ((2 ^ L : Nat) : Rat) := by grind
  refine ⟨1 / ((2 ^ L : Nat) : Rat), Rat.le_of_lt (inv_pos h0), ?_, Rat.div_mul_cancel (Rat.ne_of_gt h0)⟩
  have e : 1 / ((2 ^ L : Nat) : Rat) * ((2 ^ L : Nat) : Rat) = 1 := Rat.div_mul_cancel (Rat.ne_of_gt h0)
  refine mul_le_cancel h0 ?_
  rw [e]
  grind
/-- The division of what comes back, and its whole number. -/
theorem WaveP.Fits.quo {A B : Nat → Int} {la lb L n m a b : Nat} (h : Fits A B la lb L) (hn : n = 2 ^ L) (hm : m < n) (hN : Nc a b (F (Zn false) L (F (Zn true) L fun i => toC (cvI A B i)) m) (El (1 / 6) V40 L)) :
    ∃ q : Nat × Nat, quoN n (a, b) = some q ∧ fin q.1 = true ∧ rg q.1 / 4503599627370496 < 1075 ∧ floatToIntVal .f64 (rndW q.1) .i64 = some (cvI A B m) := by
  obtain ⟨r, r0, r1, hr⟩ := inv_pow L
  rw [← zn_conj] at hN
  obtain ⟨⟨p1, p2⟩, ⟨p3, p4⟩, p5, p6⟩ := h.back (Zn_roots true) (by omega) r0 r1 hr hN
  obtain ⟨e, f, hq, he, hf⟩ := Go.Proofs.YtnjmefjcaiepfaaDoor.quo_near (M := 2 * V40) h.hL hn hN.1 hN.2.1 p3 p4 p5 p6 (by decide +kernel) (by decide +kernel) r0 r1 hr
  obtain ⟨w1, w2⟩ := h.whole p1 p2 he
  exact ⟨(e, f), hq, he.1, w1, w2⟩
theorem pow_le12 {L : Nat} (h : L ≤ 12) : 2 ^ L ≤ 4096 := by
  have : 2 ^ L ≤ 2 ^ 12 := Nat.pow_le_pow_right (by decide) h
  exact this

theorem tabs_later {w w1 : World} (hT : ∀ w', Below w.heap.size w w' → TabsW w') (h : Below w.heap.size w w1) : ∀ w', Below w1.heap.size w1 w' → TabsW w' :=
  fun _ hb => hT _ (h.trans (hb.mono h.size))
theorem rowIs_below {w w' : World} {b n : Nat} {t : TypeId} {f : Nat → Value} (h : w.rowIs b t n f) (hb : Below w.heap.size w w') : w'.rowIs b t n f := h.of_block (hb.block b h.lt)

set_option maxHeartbeats 3200000 in
set_option maxRecDepth 100000 in
theorem product_any (ga go ca gb ho cb la lb all : Nat) (A B : Nat → Int) (w : World) (ha0 : 0 < la) (hb0 : 0 < lb) (hab : la + lb ≤ 4096) (hall : la + lb = all + 1)
    (hA : ∀ i, i < la → w.cell? ⟨ga, go + i, none⟩ = some (.int .i64 (A i))) (hB : ∀ i, i < lb → w.cell? ⟨gb, ho + i, none⟩ = some (.int .i64 (B i)))
    (a1 : ∀ i, (A i).natAbs ≤ 256) (b1 : ∀ i, (B i).natAbs ≤ 256) (a0 : ∀ i, la ≤ i → A i = 0) (b0 : ∀ i, lb ≤ i → B i = 0) (hT : ∀ w', Below w.heap.size w w' → TabsW w') :
    Calls Tryd.prog 23 #[.slice (some ⟨ga, go, none⟩) la ca, .slice (some ⟨gb, ho, none⟩) lb cb] w fun e w' => ∃ g, e = .returned (.slice (some ⟨g, 0, none⟩) all all) ∧ w.heap.size ≤ g ∧ Below w.heap.size w w' ∧
      w'.rowIs g 3 all (fun j => .int .i64 (cvI A B j)) := by
  have HA := Lib.hid hA
  have HB := Lib.hid hB
  have HT := Lib.hid hT
  have HF := Lib.hid (show ∀ l, l ≤ 12 → all ≤ 2 ^ l → Fits A B la lb l from fun l h1 h2 => ⟨h1, a1, b1, a0, b0, by omega, by omega⟩)
  have N1 := Lib.hid (show ∀ j, Nc (ptF la A j).1 (ptF la A j).2 (toC (A j)) 0 from ptF_near a1 a0)
  have N2 := Lib.hid (show ∀ j, Nc (ptF lb B j).1 (ptF lb B j).2 (toC (B j)) 0 from ptF_near b1 b0)
  have hga : ga < w.heap.size := World.block_lt_of_cell? _ _ (hA 0 ha0)
  have hgb : gb < w.heap.size := World.block_lt_of_cell? _ _ (hB 0 hb0)
  have hlen : (la : Int) + (lb : Int) - 1 = (all : Int) := by omega
  have hl1 : la ≤ all := by omega
  have hl2 : lb ≤ all := by omega
  have h95 : all ≤ 4095 := by omega
  have HL := Lib.hid hall
  clear hA hB hT a1 b1 a0 b0 hall
  go_enter Tryd.func23, Tryd.ntmps23
  go_wp2
  go_loopw [6] (fun i wr => ∃ l : Nat, l ≤ 12 ∧ i = .int .i64 ((2 ^ l : Nat) : Int) ∧ wr = w) (fun i _ => 8193 - (intOf i).toNat)
  case atStart => exact ⟨0, by omega, rfl, rfl⟩
  case round =>
    obtain ⟨l, hl, rfl, hw⟩ := hrel
    obtain rfl : w = wr := hw.symm
    obtain ⟨n, hn⟩ : ∃ n, n = 2 ^ l := ⟨_, rfl⟩
    have hn1 : n ≤ 4096 := by rw [hn]; exact pow_le12 hl
    have hn0 : 0 < n := by rw [hn]; exact Nat.two_pow_pos l
    have HN := Lib.hid hn
    rw [← hn]
    clear hn
    by_cases hlt : n < all
    · have hl3 : l < 12 := by
        refine Nat.lt_of_not_le fun h => ?_
        have : 2 ^ 12 ≤ 2 ^ l := Nat.pow_le_pow_right (by decide) h
        rw [← HN.out] at this
        omega
      go_wp2
      go_roundw
      case rel => exact ⟨l + 1, hl3, by rw [Nat.pow_succ, ← HN.out]; go_num, trivial⟩
      case measure => simp [intOf]; omega
    · have hF := HF.out l hl (by rw [← HN.out]; omega)
      have HM1 : Hid True := Lib.hid trivial
      have HM2 : Hid True := Lib.hid trivial
      have HM3 : Hid True := Lib.hid trivial
      have HM4 : Hid True := Lib.hid trivial
      go_wp2_with (first
        | (go_at_call 30; clear HM1; (refine (points_any ga go la ca n A _ ha0 (by omega) hn1 HA.out).mono ?_); rintro e w1 ⟨rfl, hb1, hr1⟩)
        | (go_at_call 11; clear HM2; (refine (forth_any w.heap.size 0 n n l (ptF la A) (fun i => toC (A i)) 0 256 w1 hl HN.out (fun i hi => by rw [Nat.zero_add]; exact hr1.cell hi) (fun i _ => N1.out i) hF.bdA (by decide +kernel) (by decide +kernel) (by decide +kernel) (tabs_later HT.out hb1)).mono ?_); rintro e w2 ⟨g1, rfl, hb2, hr2, hN2⟩)
        | (go_at_call 30; clear HM3; (refine (points_any gb ho lb cb n B w2 hb0 (by omega) hn1 (fun i hi => ((hb1.trans (hb2.mono hb1.size)).cell (p := ⟨gb, ho + i, none⟩) hgb).trans (HB.out i hi))).mono ?_); rintro e w3 ⟨rfl, hb3, hr3⟩)
        | (go_at_call 11; clear HM4; (refine (forth_any w2.heap.size 0 n n l (ptF lb B) (fun i => toC (B i)) 0 256 w3 hl HN.out (fun i hi => by rw [Nat.zero_add]; exact hr3.cell hi) (fun i _ => N2.out i) hF.bdB (by decide +kernel) (by decide +kernel) (by decide +kernel) (tabs_later HT.out ((hb1.trans (hb2.mono hb1.size)).trans (hb3.mono (hb1.trans (hb2.mono hb1.size)).size)))).mono ?_); rintro e w4 ⟨g2, rfl, hb4, hr4, hN4⟩)
        | fail)
      clear hga hgb
      have hbl4 : Below w.heap.size w w4 := ((hb1.trans (hb2.mono hb1.size)).trans (hb3.mono (hb1.trans (hb2.mono hb1.size)).size)).trans (hb4.mono ((hb1.trans (hb2.mono hb1.size)).trans (hb3.mono (hb1.trans (hb2.mono hb1.size)).size)).size)
      have hx4 : w4.rowIs w1.heap.size 25 n (fun j => cpx (g1 j)) := rowIs_below (rowIs_below hr2 hb3) hb4
      obtain ⟨bx, hbx⟩ : ∃ bx, bx = w1.heap.size := ⟨_, rfl⟩
      obtain ⟨bY, hby⟩ : ∃ bY, bY = w3.heap.size := ⟨_, rfl⟩
      have hle1 : w.heap.size ≤ bx := by rw [hbx]; exact hb1.size
      have hne : bY ≠ bx := by have := hr2.lt; have := hb3.size; omega
      rw [← hbx] at hx4 ⊢
      rw [← hby] at hr4 ⊢
      have hle2 : w.heap.size ≤ bY := by rw [hby]; exact Nat.le_trans hle1 (by rw [hbx]; exact Nat.le_trans hb2.size hb3.size)
      have HN2 := Lib.hid hN2
      have HN4 := Lib.hid hN4
      have HB1 := Lib.hid (Nat.le_refl 0)
      clear hb1 hb2 hb3 hb4 hr1 hr2 hr3 hN2 hN4 hbx hby
      go_wp2
      go_loopw [34] (fun i wr => ∃ (k : Nat) (gx : Nat → Nat × Nat), k ≤ n ∧ i = .int .i64 k ∧ wr.rowIs bx 25 n (fun j => cpx (gx j)) ∧ wr.rowIs bY 25 n (fun j => cpx (g2 j)) ∧ Below w.heap.size w wr ∧
          Hid (∀ p, p < n → (p < k → Nc (gx p).1 (gx p).2 (F (Zn true) l (fun i => toC (cvI A B i)) p) (1 / 6)) ∧ (k ≤ p → Nc (gx p).1 (gx p).2 (F (Zn true) l (fun i => toC (A i)) p) (El 0 256 l))))
        (fun i _ => n + 1 - (intOf i).toNat)
      case atStart => exact ⟨0, g1, by omega, rfl, hx4, hr4, hbl4, Lib.hid fun p hp => ⟨fun h => absurd h (Nat.not_lt_zero _), fun _ => HN2.out p hp⟩⟩
      case round =>
        obtain ⟨k, gx, hk, rfl, hrx, hry, hbe, hD⟩ := hrel
        by_cases hkn : k < n
        · obtain ⟨ac, bd, ad, bc, re, im, hP, hPN⟩ := hF.prod (Zn_roots true) ((hD.out k hkn).2 (Nat.le_refl _)) (HN4.out k hkn)
          have l0 : wr.cell? ⟨bx, k, none⟩ = some (.complex .f64 (gx k).1 (gx k).2) := hrx.cell hkn
          have l1 : wr.cell? ⟨bY, k, none⟩ = some (.complex .f64 (g2 k).1 (g2 k).2) := hry.cell hkn
          have z0 := hrx.frozen k
          have q1 := run_cmul (P := Tryd.prog) hP
          have HPN := Lib.hid hPN
          clear hP hPN
          go_wp2
          go_region
          go_wp2
          refine ⟨?rel, ?measure⟩
          case rel =>
            refine ⟨k + 1, (fun j => if j = k then (re, im) else gx j), by omega, by go_num, (hrx.set k (cpx (re, im))).congr (fun j _ => ?_), hry.setOther (a := ⟨bx, k, none⟩) hne _, (hbe.setCell (p := ⟨bx, k, none⟩) hle1 _).drew, Lib.hid fun p hp => ?_⟩
            · by_cases e2 : j = k
              · simp only [if_pos e2]
              · simp only [if_neg e2]
            · by_cases e2 : p = k
              · subst e2
                simp only [if_true]
                exact ⟨fun _ => HPN.out, fun h => absurd h (by omega)⟩
              · simp only [if_neg e2]
                exact ⟨fun h => (hD.out p hp).1 (by omega), fun h => (hD.out p hp).2 (by omega)⟩
          case measure => simp [intOf]; omega
        · obtain rfl : k = n := by omega
          have hmk := run_make_row' (P := Tryd.prog) 22 3 (.int .i64 0) 8 Tryd.underlying22 (by kernel_rfl) rfl .i64 .i64 all (by omega) (by omega)
          have HD := Lib.hid (fun p hp => (hD.out p hp).1 hp)
          have hro := World.rowIs_made wr (.int .i64 0) all 3
          have hrx2 := hrx.alloc (.cells (madeCells #[Value.int .i64 0] all) 3)
          have hbe2 := hbe.alloc hbe.size (.cells (madeCells #[Value.int .i64 0] all) 3)
          have hsz := hbe.size
          clear hry hD hrx hx4 hr4 hbl4
          go_wp2_with (go_at_call 11; (refine (back_any bx 0 k k l gx (F (Zn true) l (fun i => toC (cvI A B i))) (1 / 6) V40 (wr.alloc (.cells (madeCells #[Value.int .i64 0] all) 3)) hl HN.out (fun i hi => by rw [Nat.zero_add]; exact hrx2.cell hi) HD.out (hF.bdX (Zn_roots true)) (by decide +kernel) (by decide +kernel) (by decide +kernel) (fun p i hi hp => (hF.quo HN.out hi hp).imp fun q h => h.1) (tabs_later HT.out hbe2)).mono ?_); rintro e w6 ⟨g3, g4, rfl, hb6, hr6, hq6⟩)
          have hro6 := rowIs_below hro hb6
          have hbe6 := hbe2.trans (hb6.mono hbe2.size)
          have HQ := Lib.hid (show ∀ p, p < k → fin (g4 p).1 = true ∧ rg (g4 p).1 / 4503599627370496 < 1075 ∧ floatToIntVal .f64 (rndW (g4 p).1) .i64 = some (cvI A B p) from fun p hp => by
            obtain ⟨h1, h2⟩ := hq6 p hp
            obtain ⟨q, e1, e2⟩ := hF.quo HN.out hp h2
            have e3 : some q = some (g4 p) := e1.symm.trans h1
            injection e3 with e3
            rw [← e3]
            exact e2)
          obtain ⟨bo, hbo⟩ : ∃ bo, bo = wr.heap.size := ⟨_, rfl⟩
          have hs1 : (wr.alloc (.cells (madeCells #[Value.int .i64 0] all) 3)).heap.size = wr.heap.size + 1 := by simp
          rw [hs1] at hr6
          obtain ⟨bq, hbq⟩ : ∃ bq, bq = wr.heap.size + 1 := ⟨_, rfl⟩
          have hnq : bo ≠ bq := by omega
          have hleo : w.heap.size ≤ bo := by omega
          rw [← hbq] at hr6 ⊢
          rw [← hbo] at hro6 ⊢
          clear hmk hro hrx2 hbe2 hb6 hq6 hbo hbq hsz hw hs1
          go_wp2
          go_loopw [55] (fun i wr => ∃ j : Nat, j ≤ all ∧ i = .int .i64 j ∧ wr.rowIs bo 3 all (fun p => .int .i64 (if p < j then cvI A B p else 0)) ∧ wr.rowIs bq 25 k (fun j => cpx (g4 j)) ∧ Below w.heap.size w wr)
            (fun i _ => all + 1 - (intOf i).toNat)
          case atStart => exact ⟨0, by omega, rfl, hro6.congr (fun j _ => by rw [if_neg (by omega)]), hr6, hbe6⟩
          case round =>
            obtain ⟨j, hj, rfl, hrO, hrQ, hbe7⟩ := hrel
            by_cases hjl : j < all
            · obtain ⟨f1, f2, f3⟩ := HQ.out j (by omega)
              have l0 : wr.cell? ⟨bq, j, none⟩ = some (.complex .f64 (g4 j).1 (g4 j).2) := hrQ.cell (by omega)
              have z0 := hrO.frozen j
              have s0 := hrO.cell hjl
              have hcv : ∀ w, (convert 26 3 (.float .f64 (rndW (g4 j).1))).run Tryd.prog w = .ok (.int .i64 (cvI A B j)) w := fun w => run_convert_float_int w 26 3 .f64 .i64 _ _ (by kernel_rfl) Tryd.underlying3 f3
              have HR := Lib.hid (round_any (g4 j).1 wr f1 f2)
              clear f1 f2 f3
              go_wp2_with (go_at_call 31; (refine HR.out.mono ?_); rintro e w7 ⟨rfl, rfl⟩)
              go_roundw
              case rel =>
                refine ⟨j + 1, by omega, by go_num, (hrO.set j (.int .i64 (cvI A B j))).congr (fun p _ => ?_), hrQ.setOther (a := ⟨bo, j, none⟩) (Ne.symm hnq) _, hbe7.setCell (p := ⟨bo, j, none⟩) hleo _⟩
                by_cases e2 : p = j
                · subst e2; rw [if_pos rfl, if_pos (by omega)]
                · rw [if_neg e2]
                  by_cases e3 : p < j
                  · rw [if_pos e3, if_pos (by omega)]
                  · rw [if_neg e3, if_neg (by omega)]
              case measure => simp [intOf]; omega
            · obtain rfl : j = all := by omega
              go_wp2
              go_ret
              exact ⟨bo, rfl, hleo, hbe7, hrO.congr (fun p hp => by rw [if_pos hp])⟩
end Go.Proofs.YtnjmefjcaiepfaaDoor
