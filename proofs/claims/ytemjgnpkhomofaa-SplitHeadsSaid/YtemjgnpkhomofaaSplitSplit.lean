/- The walks of utfsplit's cut and Split. -/
import Derived.Test.YtemjgnpkhomofaaSplitRows
namespace Go.Proofs.Ytemjgnpkhomofaa
open Go.RowKit SetPure UtfPure

def rowsOf (L : List Rg) : List (List Rg) := L.map fun r => rowOf r.1 r.2
/-- The end of a call that puts rows behind others. -/
def PutEnd (L : List Rg) (w0 w : World) (ss : List Sl) (e : Ending) (w' : World) : Prop :=
  ∃ v' ss', e = .returned v' ∧ Own Eslice 40 w0 w' v' (ss ++ ss') ∧ RowsAt w' ss' (rowsOf L) ∧ KeepT 39 w w'

set_option maxHeartbeats 800000 in
theorem cut_any (a b : Int) (w0 w : World) (v : Value) (ss : List Sl) (h0 : 0 ≤ a) (hab : a ≤ b) (h1 : b ≤ 1114111) (hk : klass a = klass b) (hk0 : klass a ≠ 0) (hown : Own Eslice 40 w0 w v ss) (hlen : ss.length + (piecesK a b).length ≤ 100000000) :
    Calls Try.prog 22 #[v, .agg #[.int .i64 a, .int .i64 b]] w (PutEnd (piecesK a b) w0 w ss) := by
  have hkb : KeepT 39 w (w.alloc (.cells #[.int .i64 a, .int .i64 b] 39)) := KeepT.of_below ((Below.refl _ w).alloc (Nat.le_refl _) _)
  have hnew : (w.alloc (.cells #[.int .i64 a, .int .i64 b] 39)).heap.size = w.heap.size + 1 := by simp
  by_cases hb : b < 128
  · have hpk : piecesK a b = [(a, b)] := if_pos hb
    have hro : rowOf a b = [(a, b)] := by
      have ka : klass b = 1 := by unfold klass; rw [if_pos hb]
      unfold rowOf
      rw [(enc1 (hk.trans ka) h0).1, (enc1 ka (by omega)).1]; rfl
    rw [hpk] at hlen ⊢
    have HRO := Lib.hid hro
    have HO := Lib.hid ((hown.alloc (.cells #[.int .i64 a, .int .i64 b] 39)).alloc (.cells #[.int .i64 a, .int .i64 b] 39))
    have hrow : RowAt ((w.alloc (.cells #[.int .i64 a, .int .i64 b] 39)).alloc (.cells #[.int .i64 a, .int .i64 b] 39)) (some ⟨w.heap.size + 1, 0, none⟩, 1, 1) [(a, b)] := by
      refine ⟨w.heap.size + 1, #[.int .i64 a, .int .i64 b], (0, 0), rfl, rfl, by simp, by simp [maxLen], ?_, fun j hj => ?_⟩
      · have := heap_alloc_new (w.alloc (.cells #[.int .i64 a, .int .i64 b] 39)) (.cells #[.int .i64 a, .int .i64 b] 39)
        rw [hnew] at this
        exact this
      · have hj2 : j < 2 := by simpa using hj
        obtain rfl | rfl : j = 0 ∨ j = 1 := by omega
        all_goals rfl
    have HRW := Lib.hid hrow
    have HK := Lib.hid (hkb.trans (KeepT.of_below ((Below.refl _ _).alloc (Nat.le_refl _) (.cells #[.int .i64 a, .int .i64 b] 39))))
    clear hown hro hrow hkb hnew hpk hk hk0
    simp only [List.length_cons, List.length_nil] at hlen
    go_enter Try.func22, Try.ntmps22
    go_wp2_with (at_builtin; (refine wpList_append_seq _ rfl (.tmp 8) (.tmp 11) 29 rfl 24 elRows rfl (HO.out.alloc _) 1 rfl (SeqAt.new_at (E := Eslice) _ [(some ⟨w.heap.size + 1, 0, none⟩, 1, 1)] 40 (w.heap.size + 1 + 1) (by simp)) rfl (by simp only [maxLen]; omega) (by omega) ?_); intro v4 w4 ho4 hg4; have HK4 := Lib.hid ((KeepT.of_below ((Below.refl _ _).alloc (Nat.le_refl _) _)).trans (KeepT.of_grown (T := 39) (HO.out.alloc _) (by decide) hg4)))
    go_ret
    refine ⟨v4, _, rfl, ho4, ?_, HK.out.trans HK4.out⟩
    show RowsAt w4 _ [rowOf a b]
    rw [HRO.out]
    exact RowsAt.one (HRW.out.keep HK4.out)
  · have hpk : piecesK a b = pieces a b := if_neg hb
    rw [hpk] at hlen ⊢
    have ha : 128 ≤ a := by
      refine Decidable.byContradiction fun hn => ?_
      have : klass a = 1 := by unfold klass; rw [if_pos (by omega)]
      rw [this] at hk
      unfold klass at hk
      rw [if_neg hb] at hk
      repeat' split at hk
      all_goals omega
    have HC := Lib.hid (rows_any (b - a).toNat a b (Nat.le_refl _) ha hab h1 hk hk0 w0 _ v ss (hown.alloc (.cells #[.int .i64 a, .int .i64 b] 39)) hlen)
    have HK := Lib.hid hkb
    clear hown hkb hk hk0 hpk
    go_enter Try.func22, Try.ntmps22
    go_wp2_with (go_at_call 30; refine HC.out.mono ?_; rintro e w1 ⟨v1, ss1, rfl, ho1, hr1, hk1⟩)
    go_ret
    exact ⟨v1, ss1, rfl, ho1, hr1, HK.out.trans hk1⟩

theorem borders_any (w : World) : Calls Try.prog 21 #[] w fun e w' => e = .returned (.agg #[.int .i64 128, .int .i64 2048, .int .i64 55296, .int .i64 57344, .int .i64 65536, .int .i64 1114112]) ∧ Below w.heap.size w w' := by
  go_enter Try.func21, Try.ntmps21
  go_wp2
  exact bodyPost_ret (v := .agg #[.int .i64 128, .int .i64 2048, .int .i64 55296, .int .i64 57344, .int .i64 65536, .int .i64 1114112]) (by simp [results, Try.results21, go_sem]) rfl ⟨rfl, (Below.refl _ w).alloc (Nat.le_refl _) _⟩

def fromOf (j : Nat) : Int := if j = 0 then 0 else (ends (j - 1)).2 + 1
theorem from_next {j : Nat} : fromOf (j + 1) = (ends j).2 + 1 := by unfold fromOf; simp
theorem ends_from : ∀ j : Fin 6, (ends j.val).1 = fromOf j.val := by decide
theorem ends_bd : ∀ j : Fin 6, 0 ≤ fromOf j.val ∧ fromOf j.val ≤ 1114112 ∧ 0 ≤ (ends j.val).2 ∧ (ends j.val).2 ≤ 1114111 := by decide
theorem ends_three : ∀ j : Fin 6, ((ends j.val).2 + 1 = 57344) = (j.val = 3) := by decide
theorem border_at (j : Nat) (hj : j < 6) : ∀ w, (Instr.index 50 (.agg #[.int .i64 128, .int .i64 2048, .int .i64 55296, .int .i64 57344, .int .i64 65536, .int .i64 1114112]) (.int .i64 (j : Int))).run Try.prog w = .ok (.int .i64 ((ends j).2 + 1)) w := by
  intro w
  obtain rfl | rfl | rfl | rfl | rfl | rfl : j = 0 ∨ j = 1 ∨ j = 2 ∨ j = 3 ∨ j = 4 ∨ j = 5 := by omega
  all_goals kernel_rfl

/-- The parts of a range at the first classes. -/
def partsUpto (r : Rg) (j : Nat) : List Rg := (List.range j).flatMap (partL r)
theorem partsUpto_succ (r : Rg) (j : Nat) : partsUpto r (j + 1) = partsUpto r j ++ partL r j := by
  unfold partsUpto; rw [List.range_succ, List.flatMap_append]; simp
theorem partsUpto_six (r : Rg) : partsUpto r 6 = splitR r := by
  simp [partsUpto, splitR, List.range_succ]
theorem partsUpto_len (r : Rg) (h0 : 0 ≤ r.1) (h1 : r.2 ≤ 1114111) {j : Nat} (hj : j ≤ 6) : (partsUpto r j).length ≤ 12 := by
  have h := splitR_len r h0 h1
  rw [← partsUpto_six] at h
  unfold partsUpto at *
  refine Nat.le_trans ?_ h
  rw [show (6 : Nat) = j + (6 - j) by omega, List.range_add, List.flatMap_append, List.length_append]
  omega
theorem splitL_snoc (l : List Rg) (r : Rg) : splitL (l ++ [r]) = splitL l ++ splitR r := by simp [splitL]
theorem rowsOf_append (L M : List Rg) : rowsOf (L ++ M) = rowsOf L ++ rowsOf M := List.map_append

set_option maxHeartbeats 4000000 in
set_option maxRecDepth 100000 in
theorem split_any (v : Value) (s : List Rg) (w : World) (hs : IsSet w v s) :
    Calls Try.prog 9 #[v] w (PutEnd (splitL s) w w []) := by
  have hcan := hs.canon
  have hlen := hcan.len
  have HBD := Lib.hid (fun k (hk : k < s.length) => show 0 ≤ (s.getD k (0, 0)).1 ∧ (s.getD k (0, 0)).1 ≤ (s.getD k (0, 0)).2 ∧ (s.getD k (0, 0)).2 ≤ 1114111 from by
    have hm : s.getD k (0, 0) ∈ s := by rw [List.getD_eq_getElem?_getD, List.getElem?_eq_getElem hk]; exact List.getElem_mem hk
    have h1 := Canon.ge hcan _ hm
    have h2 := CanonFrom.lo hcan (x := (s.getD k (0, 0)).2) ⟨_, hm, h1.2, Int.le_refl _⟩
    omega)
  have HSL := Lib.hid (fun k => splitL_len (s := s.take k) (fun r hr => by
    have h1 := Canon.ge hcan _ (List.mem_of_mem_take hr)
    have h2 := CanonFrom.lo hcan (x := r.2) ⟨_, List.mem_of_mem_take hr, h1.2, Int.le_refl _⟩
    omega))
  obtain ⟨⟨A, c, rfl, _, _, hA⟩, _⟩ := hs
  have HA := Lib.hid hA
  clear hA hcan
  go_enter Try.func9, Try.ntmps9
  go_wp2
  go_loopw [3, 5, 6, 8, 9, 12] (fun uo _ _ _ _ ix wr => ∃ (k : Nat) (vo : Value) (ss : List Sl), k ≤ s.length ∧ vo = uo ∧ ix = .int .i64 k ∧ Hid (Own Eslice 40 w wr vo ss ∧ RowsAt wr ss (rowsOf (splitL (s.take k))) ∧ KeepT 39 w wr))
    (fun _ _ _ _ _ ix _ => s.length + 1 - (intOf ix).toNat)
  case atStart => exact ⟨0, _, [], by omega, rfl, rfl, Own.nil_ _, RowsAt.nil_ _, KeepT.refl _⟩
  case round =>
    obtain ⟨k, vo, ss, hk, rfl, rfl, hinv⟩ := hrel
    have hown := hinv.out.1
    have hz := hown.size
    have hsl : ss.length = (splitL (s.take k)).length := by rw [hinv.out.2.1.1]; unfold rowsOf; rw [List.length_map]
    have hsl2 := HSL.out k
    rw [List.length_take] at hsl2
    by_cases hlt : k < s.length
    · obtain ⟨b, off, rfl, hb, hc⟩ := (HA.out.below hown.2).pairs_ (by omega)
      obtain ⟨h0, h1⟩ := hc k hlt
      clear hc
      have hbd := HBD.out k hlt
      obtain ⟨⟨x, y⟩, hr⟩ : ∃ r, s.getD k (0, 0) = r := ⟨_, rfl⟩
      rw [hr] at h0 h1 hbd
      simp only at h0 h1 hbd
      obtain ⟨bd0, bd1, bd2⟩ := hbd
      have HN := Lib.hid (take_next' hlt hr)
      clear hr
      have hki : (k : Int) < (s.length : Int) := by omega
      have hsl3 : ss.length ≤ 12 * 557056 := by omega
      have HSS := Lib.hid hsl
      have HX := Lib.hid (heap_alloc_new wr (.cells #[.int .i64 x, .int .i64 y] 39))
      have HOX := Lib.hid (hown.alloc (.cells #[.int .i64 x, .int .i64 y] 39))
      have HKX := Lib.hid (hinv.out.2.2.trans (KeepT.of_below ((Below.refl _ wr).alloc (Nat.le_refl _) (.cells #[.int .i64 x, .int .i64 y] 39))))
      have HRX := Lib.hid (hinv.out.2.1.keep (KeepT.of_below ((Below.refl _ wr).alloc (Nat.le_refl _) (.cells #[.int .i64 x, .int .i64 y] 39))))
      clear hsl hsl2 hinv hown
      go_wp2_with (go_at_call 21; refine (borders_any _).mono ?_; rintro e w1 ⟨rfl, hb1⟩)
      have HX1 := Lib.hid (KeepT.of_below (T := 39) hb1 _ _ _ HX.out)
      have HO1 := Lib.hid (HOX.out.below hb1)
      have HK1 := Lib.hid (HKX.out.trans (KeepT.of_below hb1))
      have HR1 := Lib.hid (HRX.out.keep (KeepT.of_below hb1))
      obtain ⟨wo, rfl⟩ : ∃ wo : World, wo = wr := ⟨_, rfl⟩
      clear hb1
      go_loopw [3, 6, 8, 9, 17] (fun up fx _ _ ij wx => ∃ (j : Nat) (vp : Value) (st : List Sl), j ≤ 6 ∧ vp = up ∧ ij = .int .i64 j ∧ fx = .int .i64 (fromOf j) ∧ Hid (Own Eslice 40 w wx vp (ss ++ st) ∧ RowsAt wx st (rowsOf (partsUpto (x, y) j)) ∧ KeepT 39 w1 wx))
        (fun _ _ _ _ ij _ => 7 - (intOf ij).toNat)
      case atStart => exact ⟨0, vo, [], by omega, rfl, rfl, rfl, by rw [List.append_nil]; exact HO1.out, RowsAt.nil_ _, KeepT.refl _⟩
      case round =>
        obtain ⟨j, vp, st, hj, rfl, rfl, rfl, hinx⟩ := hrel
        have hownx := hinx.out.1
        have hzx := hownx.size
        have hstl : st.length = (partsUpto (x, y) j).length := by rw [hinx.out.2.1.1]; unfold rowsOf; rw [List.length_map]
        have hst12 := partsUpto_len (x, y) bd0 bd2 hj
        obtain ⟨d0, d1⟩ := box_cells (hinx.out.2.2 _ _ _ HX1.out)
        by_cases hltj : j < 6
        · have hidx := border_at j hltj
          have hjb := ends_bd ⟨j, hltj⟩
          have hjf := ends_from ⟨j, hltj⟩
          have hj3 := ends_three ⟨j, hltj⟩
          simp only at hjb hjf hj3
          have HPN := Lib.hid (partsUpto_succ (x, y) j)
          have HFN := Lib.hid (from_next (j := j))
          have hkl1 := fun z (h1 : (ends j).1 ≤ z) (h2 : z ≤ (ends j).2) => klass_end hltj h1 h2
          have HPL := Lib.hid (partsUpto_len (x, y) bd0 bd2 (show j + 1 ≤ 6 by omega))
          have HPD := Lib.hid (show partL (x, y) j = if max x (fromOf j) ≤ min y (ends j).2 ∧ j ≠ 3 then piecesK (max x (fromOf j)) (min y (ends j).2) else [] by unfold partL; simp only [hjf])
          have HKL := Lib.hid hkl1
          have HJF := Lib.hid hjf
          obtain ⟨jb1, jb2, jb3, jb4⟩ := hjb
          have hji : (j : Int) < 6 := by omega
          clear hjf hkl1
          have HK0 := Lib.hid (show j ≠ 3 → (if j = 0 then 1 else if j = 1 then 2 else if j = 2 then 3 else if j = 3 then 0 else if j = 4 then 4 else 5) ≠ 0 from fun h => by
            obtain rfl | rfl | rfl | rfl | rfl | rfl : j = 0 ∨ j = 1 ∨ j = 2 ∨ j = 3 ∨ j = 4 ∨ j = 5 := by omega
            all_goals simp at *)
          rw [HJF.out] at HKL
          have HHX := Lib.hid hownx
          have HRX2 := Lib.hid hinx.out.2.1
          have HKX2 := Lib.hid hinx.out.2.2
          have hst : st.length ≤ 12 := by omega
          clear hownx hinx hstl hst12
          generalize (if j = 0 then 1 else if j = 1 then 2 else if j = 2 then 3 else if j = 3 then 0 else if j = 4 then 4 else 5) = kc at *
          have HJ3 := Lib.hid hj3
          clear hj3 HJF
          generalize fromOf j = f at *
          generalize (ends j).2 = e at *
          have hzw : w.heap.size ≤ wr.heap.size := hzx
          by_cases hc : max x f ≤ min y e
          · by_cases h3 : j = 3
            · obtain rfl : e = 57343 := by have := (Eq.mp HJ3.out.symm h3); omega
              have HPZ := Lib.hid (show partsUpto (x, y) (j + 1) = partsUpto (x, y) j by rw [HPN.out, HPD.out, if_neg (fun h => h.2 h3), List.append_nil])
              clear h3
              go_wp2
              go_roundw
              case rel => exact ⟨j + 1, vp, st, by omega, rfl, by go_num, (by first | (rw [HFN.out]; done) | (rw [HFN.out]; rfl)), HHX.out.alloc _, by rw [HPZ.out]; exact HRX2.out.keep (KeepT.of_below ((Below.refl _ _).alloc (Nat.le_refl _) _)), HKX2.out.trans (KeepT.of_below ((Below.refl _ _).alloc (Nat.le_refl _) _))⟩
              case measure => simp [intOf]; omega
            · have hne : e + 1 ≠ 57344 := fun h => h3 (Eq.mp HJ3.out h)
              have hne2 : e ≠ 57343 := by omega
              have hneb : (e + 1 != 57344) = true := by simpa using hne
              have hneb2 : (e != 57343) = true := by simpa using hne2
              have HPZ := Lib.hid (show partsUpto (x, y) (j + 1) = partsUpto (x, y) j ++ piecesK (max x f) (min y e) by rw [HPN.out, HPD.out, if_pos ⟨hc, h3⟩])
              have ka := HKL.out (max x f) (by omega) (by omega)
              have kb := HKL.out (min y e) (by omega) (by omega)
              have HCU := Lib.hid (fun wx (ho : Own Eslice 40 w wx vp (ss ++ st)) => cut_any (max x f) (min y e) w wx vp (ss ++ st) (by omega) hc (by omega) (ka.trans kb.symm) (by rw [ka]; exact HK0.out h3) ho (by
                have h1 := HPL.out
                rw [HPZ.out, List.length_append] at h1
                rw [List.length_append]
                omega))
              clear hne hne2 ka kb h3
              go_wp2_with (go_at_call 22; refine (HCU.out _ (HHX.out.alloc _)).mono ?_; rintro e' w2 ⟨v2, ss2, rfl, ho2, hr2, hk2⟩)
              go_roundw
              case rel =>
                have hka := (KeepT.of_below (T := 39) ((Below.refl _ wr).alloc (Nat.le_refl _) (.cells #[.int .i64 (max x f), .int .i64 (min y e)] 39))).trans hk2
                refine ⟨j + 1, v2, st ++ ss2, by omega, rfl, by go_num, (by rw [HFN.out]), by rw [← List.append_assoc]; exact ho2, ?_, HKX2.out.trans hka⟩
                rw [HPZ.out, rowsOf_append]
                exact (HRX2.out.keep hka).append hr2
              case measure => simp [intOf]; omega
          · have HPZ := Lib.hid (show partsUpto (x, y) (j + 1) = partsUpto (x, y) j by rw [HPN.out, HPD.out, if_neg (fun h => hc h.1), List.append_nil])
            go_wp2
            go_roundw
            case rel => exact ⟨j + 1, vp, st, by omega, rfl, by go_num, (by first | (rw [HFN.out]; done) | (rw [HFN.out]; rfl)), HHX.out.alloc _, by rw [HPZ.out]; exact HRX2.out.keep (KeepT.of_below ((Below.refl _ _).alloc (Nat.le_refl _) _)), HKX2.out.trans (KeepT.of_below ((Below.refl _ _).alloc (Nat.le_refl _) _))⟩
            case measure => simp [intOf]; omega
        · obtain rfl : j = 6 := by omega
          have HSIX := Lib.hid (partsUpto_six (x, y))
          have HXX := Lib.hid hinx.out
          clear hinx hownx
          go_wp2
          go_roundw
          case rel =>
            refine ⟨k + 1, vp, ss ++ st, by omega, rfl, by go_num, HXX.out.1, ?_, HK1.out.trans HXX.out.2.2⟩
            rw [HN.out, splitL_snoc, rowsOf_append, ← HSIX.out]
            exact (HR1.out.keep HXX.out.2.2).append HXX.out.2.1
          case measure => simp [intOf]; omega
    · obtain rfl : k = s.length := by omega
      have HXX := Lib.hid hinv.out
      have HT := Lib.hid (List.take_length (l := s))
      clear hinv hown
      go_wp2
      go_ret
      refine ⟨vo, ss, rfl, HXX.out.1, ?_, HXX.out.2.2⟩
      have := HXX.out.2.1
      rwa [HT.out] at this

end Go.Proofs.Ytemjgnpkhomofaa
