/- The walk of ucd's Close, its loops. -/
import Derived.Test.YtblkejnckbeieaaGreatDoorZk49
namespace Go.Proofs.YtblkejnckbeieaaGreatDoor
open Go.RowKit SetPure OrbPure

set_option maxHeartbeats 4000000 in
set_option maxRecDepth 100000 in
theorem close_any (v : Value) (f : Int → Bool) (W w : World) (L : List (Value × (Int → Bool))) (hH : Hold W w L) (hv : (v, f) ∈ L) :
    Calls Tryz.prog 26 #[v] w fun e w' => ∃ x, e = .returned x ∧ Hold W w' ((x, closeF f) :: L) := by
  have hin := fun z hz => (hH.get hv).inR (z := z) hz
  have HP := Lib.hid (fun z => close_prog f hin z)
  clear hin
  obtain ⟨s, hs, hf⟩ := hH.get hv
  have hlen := hs.canon.len
  have HF := Lib.hid hf
  have HIS := Lib.hid hs
  clear hf
  obtain ⟨⟨A, c, rfl, hc1, hc2, hA⟩, hcan⟩ := hs
  have HC := Lib.hid (clone_any A c s w (by omega) hA)
  clear hA hcan
  go_enter Tryz.func26, Tryz.ntmps26
  go_wp2_with (first
    | (go_at_call 52; refine HC.out.mono ?_; rintro e w1 ⟨v1, rfl, hown1⟩; have hb1 := hown1.2; have hz1 := hb1.size)
    | (go_at_call 53; refine (shifts_any _).mono ?_; rintro e w2 ⟨g, rfl, hg, hg2, hb2, hS⟩; have HS := Lib.hid hS; clear hS))
  have hgne : some g ≠ v1.ownBlock := fun e => by have := (hown1.1.lt g e.symm).2; omega
  have HNE := Lib.hid hgne
  have HO0 := Lib.hid (hown1.below hb2)
  clear hown1 hgne
  go_loopw [3, 5, 7, 9, 18] (fun ua _ _ _ ix wr => ∃ (k : Nat) (l : List Rg) (va : Value), k ≤ 7 ∧ va = ua ∧ ix = .int .i64 k ∧ l.length ≤ 557056 * (1 + 2 * k) ∧ Hid (Own Epair 51 w wr va l ∧ Grown v1 w2 wr va ∧ ∀ z, inB l z = (f z || shAny f k z)))
    (fun _ _ _ _ ix _ => 8 - (intOf ix).toNat)
  case atStart => exact ⟨0, s, v1, by omega, rfl, rfl, by omega, HO0.out, Grown.refl _ _, fun z => by rw [HF.out]; simp [shAny]⟩
  case round =>
    obtain ⟨k, l, va, hk, rfl, rfl, hll, hinv⟩ := hrel
    have hown := hinv.out.1
    have hgr := hinv.out.2.1
    have hz2 := hgr.size
    have hzw := hown.size
    by_cases hlt : k < 7
    · obtain ⟨b, off, hA', _, hc⟩ := HS.out.at_ (i := k) hlt
      injection hA' with hA'
      injection hA' with e1 e2
      subst e1; subst e2
      have c0 := (hgr.cell (o := 0 + (k * Eshift.k + 0)) hg2 HNE.out).trans (hc 0 (by decide))
      have c1 := (hgr.cell (o := 0 + (k * Eshift.k + 1)) hg2 HNE.out).trans (hc 1 (by decide))
      have c2 := (hgr.cell (o := 0 + (k * Eshift.k + 2)) hg2 HNE.out).trans (hc 2 (by decide))
      obtain ⟨fa, fb, fd, hgi, hgd, q1, q2, q3, q4, q5, q6⟩ := shifts_at hlt
      rw [hgi] at c0 c1 c2
      simp only [Eshift, Nat.zero_add, Nat.add_zero, List.getD_eq_getElem?_getD, List.getElem?_cons_zero, List.getElem?_cons_succ, Option.getD_some] at c0 c1 c2
      have HG := Lib.hid hgd
      clear hgi hgd hc
      have hbx : Below w.heap.size w (wr.alloc (.cells #[.int .i64 fa, .int .i64 fb, .int .i64 fd] 103)) := hown.2.alloc hzw _
      go_wp2_with (first
        | (go_at_call 16; refine (of_one _ _ _ _ (by simp)).mono ?_; rintro e w3 ⟨x3, o3, rfl, his3, hp3, hb3⟩; have HA3 := Lib.hid (and_range ((HIS.out.below hbx).below (((Below.refl _ _).alloc (Nat.le_refl _) _).trans (hb3.mono (by simp)))) his3 HF.out hp3); clear his3 hp3)
        | (go_at_call 54; refine HA3.out.mono ?_; rintro e w4 ⟨x4, o4, rfl, hown4, hcan4, hin4⟩; obtain ⟨A4, cc4, rfl, _, _, hA4⟩ := hown4.isSeq; have HA4 := Lib.hid hA4; have HI4 := Lib.hid hin4; clear hA4 hin4))
      have hb34 : Below wr.heap.size wr w4 := (((((Below.refl _ wr).alloc (Nat.le_refl _) _).alloc (by simp) _).trans (hb3.mono (by simp; omega))).trans (hown4.2.mono (by have := hb3.size; simp at this; omega)))
      have hx34 : Below (wr.heap.size + 1) (wr.alloc (.cells #[.int .i64 fa, .int .i64 fb, .int .i64 fd] 103)) w4 :=
        (((Below.refl _ _).alloc (by simp) _).trans (hb3.mono (by simp))).trans (hown4.2.mono (by have := hb3.size; simp at this; omega))
      have hz4 : wr.heap.size + 1 < w4.heap.size := by have := hb3.size; have := hown4.2.size; simp at *; omega
      have d0 := (hx34.cell (p := ⟨wr.heap.size, 0, none⟩) (by simp)).trans (show _ = some (Value.int .i64 fa) by go_simp)
      have d1 := (hx34.cell (p := ⟨wr.heap.size, 1, none⟩) (by simp)).trans (show _ = some (Value.int .i64 fb) by go_simp)
      have d2 := (hx34.cell (p := ⟨wr.heap.size, 2, none⟩) (by simp)).trans (show _ = some (Value.int .i64 fd) by go_simp)
      have hvx : some wr.heap.size ≠ va.ownBlock := fun e => by have := (hown.1.lt _ e.symm).2; omega
      have HVX := Lib.hid hvx
      have HOW := Lib.hid (hown.below hb34)
      have HGR := Lib.hid (hgr.below hb34)
      have hl4 := hcan4.len
      have HO4 := Lib.hid (fun b4 (hb4 : (Value.slice A4 o4.length cc4).ownBlock = some b4) => own_later hown (w1 := w3) (by have := hb3.size; simp at this; omega) hown4 hb4)
      have HC4 := Lib.hid hcan4
      have HIN := Lib.hid hinv.out.2.2
      clear hown4 hcan4 hinv hown hgr hvx hx34 c0 c1 c2 hbx hb34 hb3 HA3
      obtain ⟨wo, rfl⟩ : ∃ wo : World, wo = wr := ⟨_, rfl⟩
      go_loopw [3, 7, 32] (fun ub _ iy wx => ∃ (m : Nat) (vb : Value), m ≤ o4.length ∧ vb = ub ∧ iy = .int .i64 m ∧ Hid (Own Epair 51 w wx vb (l ++ (o4.take m).map (mov fd)) ∧ Grown va w4 wx vb))
        (fun _ _ iy _ => o4.length + 1 - (intOf iy).toNat)
      case atStart => exact ⟨0, va, by omega, rfl, rfl, by simpa using HOW.out, Grown.refl _ _⟩
      case round =>
        obtain ⟨m, vb, hm, rfl, rfl, hinx⟩ := hrel
        have hownx := hinx.out.1
        have hgrx := hinx.out.2
        have hzx := hgrx.size
        have hzy := hownx.size
        have f2 := (hgrx.cell (o := 2) (show wo.heap.size < w4.heap.size by omega) HVX.out).trans d2
        by_cases hltm : m < o4.length
        · obtain ⟨b4, off4, rfl, hb4, hc4⟩ := HA4.out.pairs_ (by omega)
          obtain ⟨h0, h1⟩ := hc4 m hltm
          have hbd := canon_bd HC4.out hltm
          clear hc4
          obtain ⟨⟨x, y⟩, hr⟩ : ∃ r, o4.getD m (0, 0) = r := ⟨_, rfl⟩
          rw [hr] at h0 h1 hbd
          simp only at h0 h1 hbd
          obtain ⟨bd0, bd1, bd2, bd3⟩ := hbd
          have HN := Lib.hid (mov_next (d := fd) hltm hr)
          clear hr
          have g0 := (hgrx.cell (o := off4 + m * 2) hb4 (HO4.out b4 rfl)).trans h0
          have g1 := (hgrx.cell (o := off4 + m * 2 + 1) hb4 (HO4.out b4 rfl)).trans h1
          clear h0 h1
          have HLM := Lib.hid (len_mov fd l o4 hm)
          have hmi : (m : Int) < (o4.length : Int) := by omega
          have hb4x : b4 < wr.heap.size := by omega
          have hzo : wo.heap.size < wr.heap.size := by omega
          go_wp2_with (at_builtin; (refine wpList_append_seq_at _ rfl (.tmp 36) (.tmp 48) 26 rfl 16 elSet rfl ((hownx.alloc _).alloc _) 1 rfl (SeqAt.new_at (E := Epair) (wr.alloc _) [(x + fd, y + fd)] 51 (wr.heap.size + 1) (by simp)) rfl (by have := HLM.out; simp only [maxLen]; omega) (by have := HLM.out; omega) ?_); intro v5 w5 ho5 hg5 ha5)
          go_roundw
          case rel => exact ⟨m + 1, v5, by omega, rfl, by go_num, by rw [HN.out, ← List.append_assoc]; exact ho5, ((hgrx.alloc _).alloc _).append hg5 ha5⟩
          case measure => simp [intOf]; omega
        · obtain rfl : m = o4.length := by omega
          have HLM := Lib.hid (len_mov fd l o4 (Nat.le_refl o4.length))
          have f0 := (hgrx.cell (o := 0) (show wo.heap.size < w4.heap.size by omega) HVX.out).trans d0
          have f1 := (hgrx.cell (o := 1) (show wo.heap.size < w4.heap.size by omega) HVX.out).trans d1
          have hvxx := hgrx.ne (show wo.heap.size < w4.heap.size by omega) HVX.out
          rw [List.take_length] at hownx HLM
          have HGRX := Lib.hid (HGR.out.trans hgrx)
          go_wp2_with (first
            | (go_at_call 16; refine (of_one _ _ _ _ (by simp)).mono ?_; rintro e w5 ⟨x5, o5, rfl, his5, hp5, hb5⟩; have HA5 := Lib.hid (and_range ((HIS.out.below hownx.2).below (((Below.refl _ _).alloc (Nat.le_refl _) _).trans (hb5.mono (by simp)))) his5 HF.out hp5); clear his5 hp5)
            | (go_at_call 54; refine HA5.out.mono ?_; rintro e w6 ⟨x6, o6, rfl, hown6, hcan6, hin6⟩; obtain ⟨A6, cc6, rfl, _, _, hA6⟩ := hown6.isSeq; have HA6 := Lib.hid hA6; have HI6 := Lib.hid hin6; clear hA6 hin6))
          have hb56 : Below wr.heap.size wr w6 := (((Below.refl _ wr).alloc (Nat.le_refl _) _).trans (hb5.mono (by simp))).trans (hown6.2.mono (by have := hb5.size; simp at this; omega))
          have hz6 : wr.heap.size < w6.heap.size := by have := hb5.size; have := hown6.2.size; simp at *; omega
          have e2 := (hb56.cell (p := ⟨wo.heap.size, 2, none⟩) (by simp only; omega)).trans f2
          have HVX2 := Lib.hid hvxx
          have HOW2 := Lib.hid (hownx.below hb56)
          have HGR2 := Lib.hid (HGRX.out.below hb56)
          have HO6 := Lib.hid (fun b6 (hb6 : (Value.slice A6 o6.length cc6).ownBlock = some b6) => own_later hownx (w1 := w5) (by have := hb5.size; simp at this; omega) hown6 hb6)
          have HC6 := Lib.hid hcan6
          have hl6 := hcan6.len
          clear hown6 hcan6 hinx hownx hgrx hvxx hb56 hb5 HA5 f0 f1 f2
          obtain ⟨wq, rfl⟩ : ∃ wq : World, wq = wr := ⟨_, rfl⟩
          go_loopw [3, 9, 67] (fun uc _ iy wx => ∃ (m : Nat) (vc : Value), m ≤ o6.length ∧ vc = uc ∧ iy = .int .i64 m ∧ Hid (Own Epair 51 w wx vc (l ++ o4.map (mov fd) ++ (o6.take m).map (mov (-fd))) ∧ Grown vb w6 wx vc))
            (fun _ _ iy _ => o6.length + 1 - (intOf iy).toNat)
          case atStart => exact ⟨0, vb, by omega, rfl, rfl, by simpa using HOW2.out, Grown.refl _ _⟩
          case round =>
            obtain ⟨m, vc, hm, rfl, rfl, hinx⟩ := hrel
            have hownx := hinx.out.1
            have hgrx := hinx.out.2
            have hzx := hgrx.size
            have hzy := hownx.size
            by_cases hltm : m < o6.length
            · have f2 := (hgrx.cell (o := 2) (show wo.heap.size < w6.heap.size by omega) HVX2.out).trans e2
              obtain ⟨b6, off6, rfl, hb6, hc6⟩ := HA6.out.pairs_ (by omega)
              obtain ⟨h0, h1⟩ := hc6 m hltm
              have hbd := canon_bd HC6.out hltm
              clear hc6
              obtain ⟨⟨x, y⟩, hr⟩ : ∃ r, o6.getD m (0, 0) = r := ⟨_, rfl⟩
              rw [hr] at h0 h1 hbd
              simp only at h0 h1 hbd
              obtain ⟨bd0, bd1, bd2, bd3⟩ := hbd
              have HN := Lib.hid (mov_back (d := fd) hltm hr)
              clear hr
              have g0 := (hgrx.cell (o := off6 + m * 2) hb6 (HO6.out b6 rfl)).trans h0
              have g1 := (hgrx.cell (o := off6 + m * 2 + 1) hb6 (HO6.out b6 rfl)).trans h1
              clear h0 h1
              have HLM2 := Lib.hid (len_mov (-fd) (l ++ o4.map (mov fd)) o6 hm)
              have hmi : (m : Int) < (o6.length : Int) := by omega
              have hb6x : b6 < wr.heap.size := by omega
              have hzo : wo.heap.size < wr.heap.size := by omega
              go_wp2_with (at_builtin; (refine wpList_append_seq_at _ rfl (.tmp 71) (.tmp 83) 26 rfl 16 elSet rfl ((hownx.alloc _).alloc _) 1 rfl (SeqAt.new_at (E := Epair) (wr.alloc _) [(x - fd, y - fd)] 51 (wr.heap.size + 1) (by simp)) rfl (by have := HLM.out; have := HLM2.out; simp only [maxLen]; omega) (by have := HLM.out; have := HLM2.out; omega) ?_); intro v7 w7 ho7 hg7 ha7)
              go_roundw
              case rel => exact ⟨m + 1, v7, by omega, rfl, by go_num, by rw [HN.out, ← List.append_assoc]; exact ho7, ((hgrx.alloc _).alloc _).append hg7 ha7⟩
              case measure => simp [intOf]; omega
            · obtain rfl : m = o6.length := by omega
              have HLM2 := Lib.hid (len_mov (-fd) (l ++ o4.map (mov fd)) o6 (Nat.le_refl o6.length))
              rw [List.take_length] at hownx HLM2
              go_wp2
              go_roundw
              case rel => exact ⟨k + 1, _, vc, by omega, rfl, by go_num, by have := HLM.out; have := HLM2.out; omega, hownx, HGR2.out.trans hgrx, fun z => shAny_two f hlt HG.out HIN.out HI4.out HI6.out z⟩
              case measure => simp [intOf]; omega
    · obtain rfl : k = 7 := by omega
      have HIN := Lib.hid hinv.out.2.2
      clear HS HNE HO0 hgr hz2 hg hg2
      go_wp2_with (go_at_call 55; refine (rings_any _).mono ?_; rintro e w8 ⟨g5, rfl, hg5, hg5b, hb8, hR, hQ⟩; have HR := Lib.hid hR; have HQ := Lib.hid hQ; clear hR hQ)
      have HNE := Lib.hid (show ∀ j, j ≤ 5 → some (g5 + j) ≠ va.ownBlock from fun j _ e => by have := (hown.1.lt _ e.symm).2; omega)
      have HO8 := Lib.hid (hown.below hb8)
      clear hinv hown
      go_loopw [3, 11, 13, 89] (fun ur _ _ iy wx => ∃ (k : Nat) (l' : List Rg) (vr : Value), k ≤ 5 ∧ vr = ur ∧ iy = .int .i64 k ∧ l'.length ≤ 557056 * 15 + 3 * k ∧ Hid (Own Epair 51 w wx vr l' ∧ Grown va w8 wx vr ∧ ∀ z, inB l' z = (f z || shAny f 7 z || rgAny f k z)))
        (fun _ _ _ iy _ => 6 - (intOf iy).toNat)
      case atStart => exact ⟨0, l, va, by omega, rfl, rfl, by omega, HO8.out, Grown.refl _ _, fun z => by rw [HIN.out]; simp [rgAny]⟩
      case round =>
        obtain ⟨k, l', vr, hk, rfl, rfl, hll', hinx⟩ := hrel
        have hownx := hinx.out.1
        have hgrx := hinx.out.2.1
        have hzx := hgrx.size
        have hzy := hownx.size
        by_cases hlt : k < 5
        · have r0 := (hgrx.cell (o := k) hg5b (HNE.out 5 (by omega))).trans (HR.out k hlt)
          have hseq := ring_seq (w := wr) hlt (fun t ht => (hgrx.cell (o := t) (show g5 + k < w8.heap.size by omega) (HNE.out k (by omega))).trans (HQ.out k t hlt ht)) (by omega)
          have hlen3 := ring_len hlt
          have HRN := Lib.hid (fun z => rgAny_succ f hlt z)
          have HI8 := Lib.hid hinx.out.2.2
          have HHx := Lib.hid (hH.go hownx.2)
          have hkne := hgrx.ne (show g5 + k < w8.heap.size by omega) (HNE.out k (by omega))
          have HKN := Lib.hid hkne
          generalize ringsL.getD k [] = ring at *
          have HCT := Lib.hid (contains_has (g5 + k) ring _ f W wr L HHx.out hv (by omega) hseq)
          have HSQ := Lib.hid hseq
          rw [hlen3] at HCT
          have HL3 := Lib.hid hlen3
          have HHO := Lib.hid hownx
          have HHG := Lib.hid hgrx
          clear hseq hlen3 hinx hkne hownx hgrx
          cases hany : ring.any f
          · have HX := Lib.hid hany
            clear hany
            rw [HX.out] at HCT
            go_wp2_with (go_at_call 56; refine HCT.out.mono ?_; rintro e w9 ⟨rfl, _, hb9⟩)
            go_roundw
            case rel => exact ⟨k + 1, l', vr, by omega, rfl, by go_num, by omega, HHO.out.below hb9, HHG.out.below hb9, fun z => by rw [HI8.out, HRN.out, HX.out]; simp⟩
            case measure => simp [intOf]; omega
          · have HX := Lib.hid hany
            clear hany
            rw [HX.out] at HCT
            go_wp2_with (go_at_call 56; refine HCT.out.mono ?_; rintro e w9 ⟨rfl, _, hb9⟩)
            have hz9 := hb9.size
            obtain ⟨wq, rfl⟩ : ∃ wq : World, wq = wr := ⟨_, rfl⟩
            go_loopw [3, 13, 99] (fun us _ iz wy => ∃ (m : Nat) (vs : Value), m ≤ ring.length ∧ vs = us ∧ iz = .int .i64 m ∧ Hid (Own Epair 51 w wy vs (l' ++ (ring.take m).map fun r => (r, r)) ∧ Grown vr w9 wy vs))
              (fun _ _ iz _ => 4 - (intOf iz).toNat)
            case atStart => exact ⟨0, vr, by omega, rfl, rfl, by simpa using HHO.out.below hb9, Grown.refl _ _⟩
            case round =>
              obtain ⟨m, vs, hm, rfl, rfl, hiny⟩ := hrel
              have howny := hiny.out.1
              have hgry := hiny.out.2
              have hzz := hgry.size
              have hzv := howny.size
              have hl3 : ring.length ≤ 3 := by rw [HL3.out]; omega
              by_cases hltm : m < ring.length
              · obtain ⟨b', off', hA', hb', hc⟩ := (HSQ.out.below hb9).int_ hltm
                injection hA' with hA'
                injection hA' with e1 e2
                subst e1; subst e2
                have hx : ring.getD m 0 = ring[m] := by rw [List.getD_eq_getElem?_getD, List.getElem?_eq_getElem hltm]; rfl
                have HN := Lib.hid (dots_next hltm hx)
                clear hx
                generalize ring[m] = x at *
                rw [Nat.zero_add] at hc
                have g0 := (hgry.cell (o := m) (show g5 + k < w9.heap.size by omega) HKN.out).trans hc
                clear hc
                have HLM := Lib.hid (len_dots l' ring hm)
                have hm3 : (m : Int) < 3 := by omega
                go_wp2_with (at_builtin; (refine wpList_append_seq_at _ rfl (.tmp 103) (.tmp 107) 26 rfl 16 elSet rfl (howny.alloc _) 1 rfl (SeqAt.new (E := Epair) wr [(x, x)] 51) rfl (by have := HLM.out; simp only [maxLen]; omega) (by have := HLM.out; omega) ?_); intro v7 w7 ho7 hg7 ha7)
                go_roundw
                case rel => exact ⟨m + 1, v7, by omega, rfl, by go_num, by rw [HN.out, ← List.append_assoc]; exact ho7, (hgry.alloc _).append hg7 ha7⟩
                case measure => simp [intOf]; omega
              · obtain rfl : m = ring.length := by omega
                have HLM := Lib.hid (len_dots l' ring (Nat.le_refl ring.length))
                rw [List.take_length] at howny HLM
                have hl3' : ¬ (ring.length : Int) < 3 := by rw [HL3.out]; omega
                go_wp2
                go_roundw
                case rel => exact ⟨k + 1, _, vs, by omega, rfl, by go_num, by have := HLM.out; omega, howny, (HHG.out.below hb9).trans hgry, fun z => by rw [inB_append, inB_dots, HI8.out, HRN.out, HX.out]; simp [Bool.or_assoc]⟩
                case measure => simp [intOf]; omega
        · obtain rfl : k = 5 := by omega
          have HHx := Lib.hid (hH.go hownx.2)
          have HE := Lib.hid (hold_of HHx.out hownx.isSeq (by omega))
          have HI8 := Lib.hid hinx.out.2.2
          clear hinx hownx hgrx
          go_wp2_with (go_at_call 16; refine HE.out.mono ?_; rintro e w9 ⟨x, rfl, hx⟩)
          go_ret
          refine ⟨x, rfl, hx.congr fun z => ?_⟩
          rw [HI8.out, ← HP.out]
          cases hz : closeF f z
          · rfl
          · rw [closeF_inR hz]; rfl

end Go.Proofs.YtblkejnckbeieaaGreatDoor
