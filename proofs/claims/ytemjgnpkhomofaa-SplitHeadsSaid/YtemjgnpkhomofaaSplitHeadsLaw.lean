/- Chapter 13, the walk of SplitHeads. -/
import Derived.Test.YtemjgnpkhomofaaSplitHeadsW
import Derived.Test.YtemjgnpkhomofaaSplitTellsP
namespace Go.Proofs.Ytemjgnpkhomofaa
open Go.RowKit SetPure UtfPure

theorem leaf_len {q : Rg} (h : Leaf q) : (encU q.1).length = (encU q.2).length := enc_len h.lo (by have := h.lo; have := h.le; omega) h.same h.some_
theorem leaf_head {q : Rg} (h : Leaf q) : (rowOf q.1 q.2).take 1 = [((encU q.1).getD 0 0, (encU q.2).getD 0 0)] := by
  have hl := leaf_len h
  have hp := enc_pos q.1
  have h0 := rowOf_at hl (k := 0) hp.1
  have hn : 0 < (rowOf q.1 q.2).length := by rw [rowOf_len hl]; exact hp.1
  cases hr : rowOf q.1 q.2 with
  | nil => rw [hr] at hn; simp at hn
  | cons a t => rw [hr] at h0; simp only [List.getD_cons_zero] at h0; rw [h0]; rfl
/-- The first byte of a scalar that is in the set is in the heads. -/
theorem head_in {o : List Rg} (hc : Canon o) {z : Int} (hz : isScalar z = true) (hin : InS o z) : inB (headsG (rowsOf (splitL o))) ((encU z).getD 0 0) = true := by
  obtain ⟨s1, s2, s3⟩ := splitL_spec hc (Int.le_refl 0)
  obtain ⟨q, hq, h1, h2⟩ := (s3 z).2 ⟨hin, hz⟩
  have hL := (s1 q hq).1
  have hf : fits (rowOf q.1 q.2) (encU z) = true := (fits_leaf hL _).2 ⟨z, h1, h2, rfl⟩
  have hh := leaf_head hL
  cases hr : rowOf q.1 q.2 with
  | nil => rw [hr] at hh; simp at hh
  | cons a t =>
    rw [hr] at hf
    obtain ⟨b, u, e, b1, b2, _⟩ := (fits_cons a t _).1 hf
    rw [e, List.getD_cons_zero]
    refine (inB_iff _ _).2 ⟨a, ?_, b1, b2⟩
    refine List.mem_flatMap.2 ⟨rowOf q.1 q.2, List.mem_map.2 ⟨q, hq, rfl⟩, ?_⟩
    rw [hr]; simp
theorem heads_step {L : List Rg} {k : Nat} (hk : k < L.length) {a b : Int} (hr : L.getD k (0, 0) = (a, b)) (hL : Leaf (a, b)) (z : Int) :
    inB (headsG (rowsOf (L.take (k + 1)))) z = (inB (headsG (rowsOf (L.take k))) z || (decide ((encU a).getD 0 0 ≤ z) && decide (z ≤ (encU b).getD 0 0))) := by
  rw [take_next' hk hr, rowsOf_append]
  have e : headsG (rowsOf (L.take k) ++ rowsOf [(a, b)]) = headsG (rowsOf (L.take k)) ++ (rowOf a b).take 1 := by simp [headsG, rowsOf]
  rw [e, leaf_head hL, Bool.eq_iff_iff, inB_iff, InS_append, Bool.or_eq_true, inB_iff, Bool.and_eq_true, decide_eq_true_eq, decide_eq_true_eq]
  simp [InS]

theorem rows_one_empty (w : World) : RowsG ((w.alloc (.cells #[] 39)).alloc (.cells #[.slice (some ⟨w.heap.size, 0, none⟩) 0 0] 40)) (.slice (some ⟨w.heap.size + 1, 0, none⟩) 1 1) [[]] := by
  refine ⟨[(some ⟨w.heap.size, 0, none⟩, 0, 0)], ?_, RowsAt.one ?_⟩
  · have := IsSeq.new (E := Eslice) (w.alloc (.cells #[] 39)) [(some ⟨w.heap.size, 0, none⟩, 0, 0)] 40 1 (by simp) (by simp [maxLen])
    simpa [Eslice] using this
  · refine ⟨w.heap.size, #[], (0, 0), rfl, rfl, by simp, by simp [maxLen], ?_, fun j hj => by simp at hj⟩
    rw [Below.heap_alloc _ _ _ (by simp)]
    exact heap_alloc_new w _

theorem canon_empty {o : List Rg} {w : World} {v : Value} (h : IsSet w v o) (hn : ∀ z, ¬ InS o z) : o = [] := by
  match o, h.canon, hn with
  | [], _, _ => rfl
  | r :: t, hc, hn => exact absurd ⟨r, List.mem_cons_self .., Int.le_refl _, (Canon.ge hc r (List.mem_cons_self ..)).2⟩ (hn r.1)
theorem empty_seq (w : World) (a : Addr) : IsSeq Epair w (.slice (some a) 0 0) [] := ⟨some a, 0, rfl, Nat.le_refl _, by simp [maxLen], SeqAt.nil_⟩
theorem fits_empty : fits [] (intsOf ⟨#[97]⟩) = false ∧ fits [] (intsOf ⟨#[]⟩) = true := ⟨rfl, rfl⟩

set_option maxHeartbeats 4000000 in
set_option maxRecDepth 100000 in
theorem headsLaw_any (A : Option Addr) (c : Nat) (l : List Rg) (r : Int) (w : World) (hl : l.length ≤ 8796093022208) (hA : SeqAt Epair w w.heap.size A l) :
    Calls Try.prog 5 #[.slice A l.length c, .int .i64 r] w fun e w' => e = .returned (.bool true) ∧ Below w.heap.size w w' := by
  have HA := Lib.hid hA
  have HL := Lib.hid hl
  obtain ⟨bs, hbs⟩ : ∃ b, isScalar r = b := ⟨_, rfl⟩
  obtain ⟨bi, hbi⟩ : ∃ b, inB l r = b := ⟨_, rfl⟩
  have HSB := Lib.hid hbs
  have HIB := Lib.hid hbi
  have HBD := Lib.hid (fun h : bs = true => scalar_bd (hbs.trans h))
  obtain ⟨b0, hb0e⟩ : ∃ b0, (encU r).getD 0 0 = b0 := ⟨_, rfl⟩
  have hsz : 0 < (strU r).size := by rw [strU_size]; exact (enc_pos r).1
  have HXA := Lib.hid (fun h : bs = true => (strU_at (scalar_bd (hbs.trans h)).1 (scalar_bd (hbs.trans h)).2 hsz).trans hb0e)
  have HB0 := Lib.hid (fun h : bs = true => show 0 ≤ b0 ∧ b0 ≤ 255 by rw [← hb0e]; exact enc_at_bd (scalar_bd (hbs.trans h)).1 (scalar_bd (hbs.trans h)).2 0)
  have HE0 := Lib.hid hb0e
  clear hbs hbi hA hb0e
  have HM1 : Hid True := trivial
  cases bs <;> cases bi
  all_goals
    go_enter Try.func5, Try.ntmps5
    go_wp2_with (first
      | (go_at_call 7; refine (speaks_any _).mono ?_; rintro e w1 ⟨rfl, hb1⟩)
      | (go_at_call 8; refine (made_any A c l w1 HL.out ((HA.out.below hb1).more hb1.size)).mono ?_; rintro e w2 ⟨x, vb, rfl, ⟨o, hset, ho⟩, _, hb2⟩; have HO := Lib.hid ho; have HST := Lib.hid hset; obtain ⟨⟨A3, c3, rfl, _, _, _⟩, hcan⟩ := hset; have hol := hcan.len; have HCN := Lib.hid hcan; have HLN := Lib.hid (splitL_len (s := o) (fun r hr => by have h1 := Canon.ge hcan _ hr; have h2 := CanonFrom.lo hcan (x := r.2) ⟨_, hr, h1.2, Int.le_refl _⟩; omega)); clear ho hcan)
      | (go_at_call 9; refine (split_rows HST.out).mono ?_; rintro e w3 ⟨v3, rfl, hrows, hb3⟩; have HRW := Lib.hid hrows; have hln := HLN.out; clear hrows)
      | (go_at_call 17; refine (heads_any _ (rowsOf (splitL o)) w3 HRW.out (by unfold rowsOf; rw [List.length_map]; omega)).mono ?_; rintro e w4 ⟨x4, o4, rfl, hset4, hp4, hb4⟩; have HST4 := Lib.hid hset4; have HP4 := Lib.hid hp4; clear hset4 hp4)
      | (go_at_call 12; refine (scalar_any r _).mono ?_; rintro e w5 ⟨rfl, rfl⟩; rw [HSB.out])
      | (go_at_call 18; clear HM1; refine (set_has ((HST.out.below hb3).below hb4) r).mono ?_; rintro e w6 ⟨rfl, hb6⟩; rw [HO.out, HIB.out, (inR_iff r).2 (HBD.out (by simp))])
      | (go_at_call 14; refine (bytes_any r _ (HBD.out (by simp)).1 (HBD.out (by simp)).2).mono ?_; rintro e w7 ⟨rfl, hb7⟩; have xat := HXA.out (by simp); obtain ⟨bb0, bb1⟩ := HB0.out (by simp))
      | (go_at_call 18; refine (set_has ((HST4.out.below hb6).below hb7) _).mono ?_; rintro e w8 ⟨rfl, hb8⟩; (have hin : inB o4 b0 = true := by rw [inB_iff, HP4.out]; exact ⟨(inB_iff _ _).1 (by rw [← HE0.out]; exact head_in HCN.out HSB.out ((inB_iff _ _).1 ((HO.out r).trans (by rw [HIB.out, (inR_iff r).2 (HBD.out (by simp))]; rfl)))), by omega, by omega⟩); rw [hin]))
    have hT : Below w.heap.size w w4 := ((hb1.trans (hb2.mono hb1.size)).trans (hb3.mono (Nat.le_trans hb1.size hb2.size))).trans (hb4.mono (Nat.le_trans (Nat.le_trans hb1.size hb2.size) hb3.size))
    have HT := Lib.hid hT
    have HR4 := Lib.hid (HRW.out.below hb4)
    have HS4 := Lib.hid HST4.out
    obtain ⟨A5, c5, rfl, _, hcm5⟩ := HRW.out.shape
    have HLF := Lib.hid ((splitL_spec HCN.out (Int.le_refl 0)).1)
    obtain ⟨L, hL⟩ : ∃ L, splitL o = L := ⟨_, rfl⟩
    rw [hL] at HR4 HLF hln HP4
    simp only [hL]
    unfold maxLen at hcm5
    first
      | (have hX : Below w4.heap.size w4 w8 := (hb6.trans (hb7.mono hb6.size)).trans (hb8.mono (Nat.le_trans hb6.size hb7.size)); clear hb8 hb7 hb6; obtain ⟨wX, rfl⟩ : ∃ wX : World, wX = w8 := ⟨_, rfl⟩)
      | (have hX : Below w4.heap.size w4 w6 := hb6; clear hb6; obtain ⟨wX, rfl⟩ : ∃ wX : World, wX = w6 := ⟨_, rfl⟩)
      | (have hX : Below w4.heap.size w4 w4 := Below.refl _ _; obtain ⟨wX, hwX⟩ : ∃ wX : World, wX = w4 := ⟨_, rfl⟩; rw [← hwX] at hX HT HR4 HS4 ⊢; clear hwX)
    have HX := Lib.hid hX
    clear hT hX hb4 hb3 hb2 hb1 HRW HST4 HST HO hL
    go_loopw [9, 10, 11] (fun bx _ _ wr => ∃ b : Nat, b ≤ 256 ∧ bx = .int .i64 b ∧ Below wX.heap.size wX wr) (fun bx _ _ _ => 257 - (intOf bx).toNat)
    case atStart => exact ⟨0, by omega, rfl, Below.refl _ _⟩
    case round =>
      obtain ⟨b, hb, rfl, hbw⟩ := hrel
      have hz := hbw.size
      by_cases hlt : b < 256
      · have hbi : (b : Int) < 256 := by omega
        have HPB := Lib.hid (show inB o4 (b : Int) = inB (headsG (rowsOf L)) (b : Int) by
          rw [Bool.eq_iff_iff, inB_iff, inB_iff, HP4.out]
          exact ⟨fun h => h.1, fun h => ⟨h, by omega, by omega⟩⟩)
        go_wp2
        obtain ⟨wo, rfl⟩ : ∃ wo : World, wo = wr := ⟨_, rfl⟩
        go_loopw [10, 11] (fun ix jx wx => ∃ (j : Nat) (v : Bool), j ≤ L.length ∧ jx = .int .i64 j ∧ ix = .bool v ∧ Below wo.heap.size wo wx ∧ Hid (inB (headsG (rowsOf (L.take j))) (b : Int) = v)) (fun _ jx _ => L.length + 1 - (intOf jx).toNat)
        case atStart => exact ⟨0, false, by omega, rfl, rfl, Below.refl _ _, rfl⟩
        case round =>
          obtain ⟨j, v, hj, rfl, rfl, hbx, hv⟩ := hrel
          have hzx := hbx.size
          have hXx := (HX.out.trans (hbw.mono HX.out.size)).trans (hbx.mono (Nat.le_trans HX.out.size hz))
          by_cases hlj : j < L.length
          · have hki : (j : Int) < (L.length : Int) := by omega
            obtain ⟨⟨x, y⟩, hr⟩ : ∃ r, L.getD j (0, 0) = r := ⟨_, rfl⟩
            have hlf : Leaf (x, y) := by
              have hm : L.getD j (0, 0) ∈ L := by rw [List.getD_eq_getElem?_getD, List.getElem?_eq_getElem hlj]; exact List.getElem_mem hlj
              rw [hr] at hm
              exact (HLF.out _ hm).1
            have HST := Lib.hid (heads_step hlj hr hlf (b : Int))
            obtain ⟨bb, off, g, sc, rfl, hbb, hcell, hrow⟩ := (HR4.out.below hXx).row hlj hr
            have hl2 := leaf_len hlf
            have hp2 := enc_pos x
            have hrl := rowOf_len hl2
            obtain ⟨hg, c0, c1⟩ := row_cells hrow (j := 0) (by rw [hrl]; exact hp2.1) (rowOf_at hl2 hp2.1)
            simp only [Nat.zero_mul, Nat.zero_add] at c0 c1
            obtain ⟨p, hp⟩ : ∃ p, (encU x).getD 0 0 = p := ⟨_, rfl⟩
            obtain ⟨q, hq⟩ : ∃ q, (encU y).getD 0 0 = q := ⟨_, rfl⟩
            simp only at hrl
            simp only [hp, hq] at HST c0 c1
            obtain ⟨m, hm⟩ : ∃ m, (rowOf x y).length = m := ⟨_, rfl⟩
            rw [hm] at hcell hrl
            have hm0 : 0 < m := by rw [hrl]; exact hp2.1
            have hm1 : (0 : Int) < (m : Int) := by omega
            clear hm hp hq hrow hr hl2 hrl hp2
            cases v with
            | true =>
              have HN := Lib.hid (show inB (headsG (rowsOf (L.take (j + 1)))) (b : Int) = true by rw [HST.out, hv.out]; rfl)
              go_wp2
              go_roundw
              case rel => exact ⟨j + 1, true, by omega, by go_num, rfl, hbx, HN⟩
              case measure => simp [intOf]; omega
            | false =>
              by_cases d1 : p ≤ (b : Int)
              · by_cases d2 : (b : Int) ≤ q
                · have HN := Lib.hid (show inB (headsG (rowsOf (L.take (j + 1)))) (b : Int) = true by rw [HST.out, hv.out, decide_eq_true d1, decide_eq_true d2]; rfl)
                  go_wp2
                  go_roundw
                  case rel => exact ⟨j + 1, true, by omega, by go_num, (by first | rfl | simp [d1, d2]), hbx, HN⟩
                  case measure => simp [intOf]; omega
                · have HN := Lib.hid (show inB (headsG (rowsOf (L.take (j + 1)))) (b : Int) = false by rw [HST.out, hv.out, decide_eq_true d1, decide_eq_false d2]; rfl)
                  go_wp2
                  go_roundw
                  case rel => exact ⟨j + 1, false, by omega, by go_num, (by first | rfl | simp [d1, d2]), hbx, HN⟩
                  case measure => simp [intOf]; omega
              · have HN := Lib.hid (show inB (headsG (rowsOf (L.take (j + 1)))) (b : Int) = false by rw [HST.out, hv.out, decide_eq_false d1]; rfl)
                go_wp2
                go_roundw
                case rel => exact ⟨j + 1, false, by omega, by go_num, (by first | rfl | simp [d1]), hbx, HN⟩
                case measure => simp [intOf]; omega
          · obtain rfl : j = L.length := by omega
            have HE := Lib.hid (show inB o4 (b : Int) = v by rw [HPB.out, ← hv.out, List.take_length])
            go_wp2_with (go_at_call 18; refine (set_has (HS4.out.below hXx) _).mono ?_; rintro e w9 ⟨rfl, hb9⟩; rw [HE.out])
            go_roundw
            case rel => exact ⟨b + 1, by omega, by go_num, hbw.trans ((hbx.trans (hb9.mono hzx)).mono hz)⟩
            case measure => simp [intOf]; omega
      · obtain rfl : b = 256 := by omega
        have HM2 : Hid True := trivial
        go_wp2_with (first
          | (go_at_call 16; clear HM2; refine (has_row _ [] _ _ (empty_seq _ _) (by simp) (by decide)).mono ?_; rintro e w9 ⟨rfl, hb9⟩; rw [fits_empty.1])
          | (go_at_call 16; refine (has_row _ [] _ _ (empty_seq _ _) (by simp) (by decide)).mono ?_; rintro e w10 ⟨rfl, hb10⟩; rw [fits_empty.2])
          | (go_at_call 17; refine (heads_any _ [[]] _ (rows_one_empty _) (by simp)).mono ?_; rintro e w11 ⟨x11, o11, rfl, hset11, hp11, hb11⟩; obtain rfl := canon_empty hset11 (fun z hz => InS_nil z (((hp11 z).1 hz).1)); obtain ⟨⟨A6, c6, rfl, _, _, _⟩, _⟩ := hset11))
        go_ret
        have y0 : Below w.heap.size w wr := (HT.out.trans (HX.out.mono HT.out.size)).trans (hbw.mono (Nat.le_trans HT.out.size HX.out.size))
        have a1 := y0.alloc y0.size (.cells #[] 39)
        have y1 := a1.trans (hb9.mono a1.size)
        have a2 := y1.alloc y1.size (.cells #[] 39)
        have y2 := a2.trans (hb10.mono a2.size)
        have a3 := y2.alloc y2.size (.cells #[] 39)
        have a4 := a3.alloc a3.size (.cells #[.slice (some ⟨w10.heap.size, 0, none⟩) 0 0] 40)
        exact ⟨rfl, a4.trans (hb11.mono a4.size)⟩

end Go.Proofs.Ytemjgnpkhomofaa
