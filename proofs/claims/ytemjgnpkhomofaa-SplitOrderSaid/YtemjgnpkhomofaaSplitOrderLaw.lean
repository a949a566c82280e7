/- Chapter 13, the walk of SplitOrder. -/
import Derived.Test.YtemjgnpkhomofaaSplitRead
import Derived.Test.YtemjgnpkhomofaaSplitOrderP
import Derived.Test.YtemjgnpkhomofaaTwo
namespace Go.Proofs.Ytemjgnpkhomofaa
open Go.RowKit SetPure UtfPure

theorem sizeL_leaf {M : List Rg} (h : ∀ r ∈ M, Leaf r) : 0 ≤ sizeL M ∧ sizeL M ≤ (M.length : Int) * 1114112 := by
  induction M with
  | nil => exact ⟨Int.le_refl _, by simp [sizeL]⟩
  | cons q M ih =>
    have e2 : sizeL (q :: M) = q.2 - q.1 + 1 + sizeL M := rfl
    have hq := h q (List.mem_cons_self ..)
    have h1 := hq.lo
    have h2 := hq.le
    have h3 := hq.hi
    obtain ⟨i1, i2⟩ := ih (fun r hr => h r (List.mem_cons_of_mem _ hr))
    rw [e2, List.length_cons]
    omega
/-- The text of the bytes with which the row before the k-th ends. -/
def lastS (L : List Rg) (k : Nat) : ByteArray := if k = 0 then ⟨#[]⟩ else strOfNums (encU (L.getD (k - 1) (0, 0)).2)
theorem last_gt {L : List Rg} (hL : ∀ r ∈ L, Leaf r) (hp : L.Pairwise fun p q => p.2 < q.1) {k : Nat} (hk : k < L.length) (h0 : k ≠ 0) {x y : Int} (hr : L.getD k (0, 0) = (x, y)) :
    (Op.bytesLess (strOfNums (encU x)).toList (lastS L k).toList || (strOfNums (encU x)).toList == (lastS L k).toList) = false := by
  unfold lastS
  rw [if_neg h0]
  have e1 : L.getD (k - 1) (0, 0) = L[k - 1]'(by omega) := by rw [List.getD_eq_getElem?_getD, List.getElem?_eq_getElem (by omega)]; rfl
  have e2 : L[k] = (x, y) := by rw [← hr, List.getD_eq_getElem?_getD, List.getElem?_eq_getElem hk]; rfl
  have hlt := (List.pairwise_iff_getElem.1 hp) (k - 1) k (by omega) hk (by omega)
  have hm := hL _ (List.getElem_mem (show k - 1 < L.length by omega))
  have hk' := hL _ (List.getElem_mem hk)
  rw [e2] at hlt hk'
  rw [e1]
  have a1 := hm.lo
  have a2 := hm.le
  have a3 := hk'.le
  have a4 := hk'.hi
  exact str_gt (by omega) hlt (by simp only at a3 a4; omega)
theorem none_set (w : World) : IsSeq Epair (w.alloc (.cells (([(55296, 57343)] : List Rg).flatMap Epair.enc).toArray 39)) (.slice (some ⟨w.heap.size, 0, none⟩) ([(55296, 57343)] : List Rg).length 1) [(55296, 57343)] :=
  IsSeq.new w _ _ 1 (by decide) (by simp [maxLen])

set_option maxHeartbeats 8000000 in
set_option maxRecDepth 100000 in
theorem order_any (A : Option Addr) (c : Nat) (l : List Rg) (w : World) (hl : l.length ≤ 8796093022208) (hA : SeqAt Epair w w.heap.size A l) :
    Calls Try.prog 6 #[.slice A l.length c] w fun e w' => e = .returned (.bool true) ∧ Below w.heap.size w w' := by
  have HA := Lib.hid hA
  have HL := Lib.hid hl
  clear hA
  go_enter Try.func6, Try.ntmps6
  go_wp2_with (first
    | (go_at_call 7; refine (speaks_any _).mono ?_; rintro e w1 ⟨rfl, hb1⟩)
    | (go_at_call 8; refine (made_any A c l w1 HL.out ((HA.out.below hb1).more hb1.size)).mono ?_; rintro e w2 ⟨x, vb, rfl, ⟨o, hset, ho⟩, _, hb2⟩; have HO := Lib.hid ho; have HST := Lib.hid hset; obtain ⟨⟨A3, c3, rfl, _, _, _⟩, hcan⟩ := hset; have hol := hcan.len; have HCN := Lib.hid hcan; have HLN := Lib.hid (splitL_len (s := o) (fun r hr => by have h1 := Canon.ge hcan _ hr; have h2 := CanonFrom.lo hcan (x := r.2) ⟨_, hr, h1.2, Int.le_refl _⟩; omega)); clear ho hcan)
    | (go_at_call 9; refine (split_rows HST.out).mono ?_; rintro e w3 ⟨v3, rfl, hrows, hb3⟩; have HRW := Lib.hid hrows; have hln := HLN.out; clear hrows))
  have hT : Below w.heap.size w w3 := (hb1.trans (hb2.mono hb1.size)).trans (hb3.mono (Nat.le_trans hb1.size hb2.size))
  have HT := Lib.hid hT
  have HS3 := Lib.hid (HST.out.below hb3)
  obtain ⟨A5, c5, rfl, _, hcm5⟩ := HRW.out.shape
  have HLF := Lib.hid (fun r hr => ((splitL_spec HCN.out (Int.le_refl 0)).1 r hr).1)
  have HPW := Lib.hid (splitL_spec HCN.out (Int.le_refl 0)).2.1
  have HSZ := Lib.hid (order_size HCN.out HO.out)
  obtain ⟨L, hL⟩ : ∃ L, splitL o = L := ⟨_, rfl⟩
  rw [hL] at HRW HLF HPW HSZ hln
  simp only [hL]
  unfold maxLen at hcm5
  clear hT hb1 hb2 hb3 hL HST
  go_loopw [6, 7, 8, 9, 10, 11, 12, 13] (fun la n ix _ _ _ _ _ wr => ∃ k : Nat, k ≤ L.length ∧ ix = .int .i64 k ∧ n = .int .i64 (sizeL (L.take k)) ∧ la = .string (lastS L k) ∧ Below w3.heap.size w3 wr)
    (fun _ _ ix _ _ _ _ _ _ => L.length + 1 - (intOf ix).toNat)
  case atStart => exact ⟨0, by omega, rfl, rfl, rfl, Below.refl _ _⟩
  case round =>
    obtain ⟨k, hk, rfl, rfl, rfl, hbw⟩ := hrel
    have hz := hbw.size
    by_cases hlt : k < L.length
    · obtain ⟨⟨x, y⟩, hr⟩ : ∃ r, L.getD k (0, 0) = r := ⟨_, rfl⟩
      have hlf : Leaf (x, y) := by
        have hm : L.getD k (0, 0) ∈ L := by rw [List.getD_eq_getElem?_getD, List.getElem?_eq_getElem hlt]; exact List.getElem_mem hlt
        rw [hr] at hm
        exact HLF.out _ hm
      obtain ⟨bb, off, g, sc, rfl, hbb, hcell, hrow⟩ := (HRW.out.below hbw).row hlt hr
      have hsb := sizeL_leaf (M := L.take k) (fun r hr => HLF.out r (List.mem_of_mem_take hr))
      rw [List.length_take, Nat.min_eq_left hk] at hsb
      have HSN := Lib.hid (show sizeL (L.take (k + 1)) = sizeL (L.take k) + (y - x + 1) by rw [take_next' hlt hr, sizeL_snoc])
      have HGT := Lib.hid (fun h0 => last_gt HLF.out HPW.out hlt h0 hr)
      have HLS := Lib.hid (show lastS L (k + 1) = strOfNums (encU y) by unfold lastS; rw [if_neg (by omega), Nat.add_sub_cancel, hr])
      have HLEAF := Lib.hid (fun j (hj : j < (encU x).length) => leaf_at hlf hj)
      have HPR := Lib.hid (leaf_size hlf)
      have hl2 : (encU x).length = (encU y).length := enc_len hlf.lo (by have := hlf.lo; have := hlf.le; simp only at *; omega) hlf.same hlf.some_
      have hmp := enc_pos x
      have hrl := rowOf_len hl2
      have hxy : x ≤ y ∧ y - x + 1 ≤ 1114112 := by have := hlf.lo; have := hlf.le; have := hlf.hi; simp only at *; omega
      obtain ⟨hxy1, hxy2⟩ := hxy
      obtain ⟨hmp1, hmp2⟩ := hmp
      obtain ⟨hsb1, hsb2⟩ := hsb
      have hki : (k : Int) < (L.length : Int) := by omega
      clear hr hlf
      obtain ⟨sn, hsn⟩ : ∃ sn, sizeL (L.take k) = sn := ⟨_, rfl⟩
      obtain ⟨ls, hls⟩ : ∃ ls, lastS L k = ls := ⟨_, rfl⟩
      obtain ⟨row, hrw⟩ : ∃ row, rowOf x y = row := ⟨_, rfl⟩
      obtain ⟨m, hm⟩ : ∃ m, (encU x).length = m := ⟨_, rfl⟩
      rw [hsn] at hsb1 hsb2 HSN ⊢
      rw [hls] at HGT ⊢
      rw [hrw] at hcell hrow HPR hrl
      simp only [hrw] at HLEAF
      simp only [hm] at HLEAF
      rw [hm] at hmp1 hmp2 hrl hl2
      have HLX := Lib.hid hm
      have HLY := Lib.hid hl2.symm
      rw [hrl] at hcell hrow
      have HRL := Lib.hid hrl
      have HR := Lib.hid hrow
      have HCL := Lib.hid hcell
      clear hsn hls hrw hm hl2 hrl hrow hcell
      go_wp2
      obtain ⟨wo, rfl⟩ : ∃ wo : World, wo = wr := ⟨_, rfl⟩
      go_loopw [9, 10, 11, 12, 13] (fun va vb sz jx _ wx => ∃ (j : Nat) (sv : Int), j ≤ m ∧ jx = .int .i64 j ∧ sz = .int .i64 sv ∧ Hid (prodW (row.take j) = sv) ∧ Hid (0 ≤ sv ∧ sv ≤ 256 ^ j) ∧ Hid (Two Ebyte 5 Ebyte 5 wo wx va ((encU x).take j) vb ((encU y).take j)))
        (fun _ _ _ jx _ _ => m + 1 - (intOf jx).toNat)
      case atStart => exact ⟨0, 1, by omega, rfl, rfl, rfl, Lib.hid (by decide), Lib.hid (Two.nil_ _)⟩
      case round =>
        obtain ⟨j, sv, hj, rfl, rfl, hsv, hsvb, HTW⟩ := hrel
        have hbx := HTW.out.a.2
        have hzx := hbx.size
        have hc2 := (hbx.cell (p := ⟨bb, off + k, none⟩) hbb).trans HCL.out
        by_cases hlj : j < m
        · obtain ⟨hrj, hp0, hpq, hq1⟩ := HLEAF.out j hlj
          obtain ⟨p, hp⟩ : ∃ p, (encU x).getD j 0 = p := ⟨_, rfl⟩
          obtain ⟨q, hq⟩ : ∃ q, (encU y).getD j 0 = q := ⟨_, rfl⟩
          have HNA := Lib.hid (take_nextG (l := encU x) (by rw [HLX.out]; exact hlj) hp)
          have HNB := Lib.hid (take_nextG (l := encU y) (by rw [HLY.out]; exact hlj) hq)
          rw [hp, hq] at hrj
          rw [hp] at hp0 hpq
          rw [hq] at hpq hq1
          have HPN := Lib.hid (show prodW (row.take (j + 1)) = prodW (row.take j) * (q - p + 1) by rw [take_next' (by rw [HRL.out]; exact hlj) hrj, prodW_snoc])
          obtain ⟨hg, c0, c1⟩ := row_cells (HR.out.below hbx) (by rw [HRL.out]; exact hlj) hrj
          have hst := pw_step (k := j) (d := q - p + 1) hsvb.out.1 hsvb.out.2 (by omega) (by omega)
          have hpw := pw_le (k := j + 1) (by omega)
          have HSV := Lib.hid hst
          have hmul : IntKind.i64.wrap (sv * (q - p + 1)) = sv * (q - p + 1) := IntWalk.i64_in _ (by omega)
          have u1 : IntKind.u8.wrap p = p := by rw [IntKind.wrap_u8]; omega
          have u2 : IntKind.u8.wrap q = q := by rw [IntKind.wrap_u8]; omega
          have HLA := Lib.hid HTW.out.lt.1
          have HLB := Lib.hid HTW.out.lt.2
          have htw := HTW.out
          have hla : ((encU x).take j).length = j := by rw [List.length_take, HLX.out]; omega
          have hlb : ((encU y).take j).length = j := by rw [List.length_take, HLY.out]; omega
          have hkj : (j : Int) < (m : Int) := by omega
          clear hp hq hrj hst hpw
          go_upto_region 18 with (fail)
          go_region_held3 (fun w' => w'.cell? ⟨wr.heap.size, 0, none⟩ = some (.int .i64 p) ∧ w'.cell? ⟨wr.heap.size, 1, none⟩ = some (.int .i64 q))
            (first | exact ⟨hka _ _ _ (Nat.le_refl _) (by first | assumption | go_simp), hka _ _ _ (by exact Nat.le_refl _) (by first | assumption | go_simp)⟩ | exact ⟨hkb _ _ _ (Nat.le_refl _) (by first | assumption | go_simp), hkb _ _ _ (by exact Nat.le_refl _) (by first | assumption | go_simp)⟩ | go_keep)
            (first
              | ((refine step_two_a (E := Ebyte) (E' := Ebyte) (e := 5) (e' := 5) (w0 := wo) (va := u9) (la := (encU x).take j) _ rfl (.tmp 61) (.tmp 65) 44 rfl 1 elByte rfl rfl (by first | exact HTW.out.alloc _ |>.alloc _ |>.drew | exact (((HTW.out.alloc _).alloc _).alloc _).drew | exact ht2 | exact ht2.alloc _) wr.heap.size HLA.out (y := p) (u := .int .u8 p) rfl rfl (by first | (go_simp; done) | exact hkb _ _ _ (by omega) (by go_simp)) (by rw [hla]; unfold maxLen; omega) (by rw [hla]; omega) ?_); intro v1 w1 ht1 hka)
              | ((refine step_two_b (E := Ebyte) (E' := Ebyte) (e := 5) (e' := 5) (w0 := wo) (vb := u10) (lb := (encU y).take j) _ rfl (.tmp 67) (.tmp 71) 44 rfl 1 elByte rfl rfl (by first | exact HTW.out.alloc _ |>.alloc _ |>.drew | exact (((HTW.out.alloc _).alloc _).alloc _).drew | exact ht1 | exact ht1.alloc _) wr.heap.size HLB.out (y := q) (u := .int .u8 q) rfl rfl (by first | (go_simp; done) | exact hka _ _ _ (by omega) (by go_simp)) (by rw [hlb]; unfold maxLen; omega) (by rw [hlb]; omega) ?_); intro v2 w2 ht2 hkb))
          all_goals
            go_wp2
            go_roundw
          all_goals first
            | exact ⟨j + 1, sv * (q - p + 1), by omega, by go_num, rfl, Lib.hid (by rw [HPN.out, hsv.out]), HSV, Lib.hid (by rw [HNA.out, HNB.out]; first | exact ht2 | exact ht1)⟩
            | (simp [intOf] <;> omega)
        · obtain rfl : j = m := by omega
          have ea : (encU x).take j = encU x := List.take_of_length_le (by rw [HLX.out]; exact Nat.le_refl _)
          have eb : (encU y).take j = encU y := List.take_of_length_le (by rw [HLY.out]; exact Nat.le_refl _)
          have er : row.take j = row := List.take_of_length_le (by rw [HRL.out]; exact Nat.le_refl _)
          have htw := HTW.out
          rw [ea, eb] at htw
          have hs1 := hsv.out
          rw [er, HPR.out] at hs1
          obtain ⟨A6, c6, h6, _, _, _⟩ := htw.a.isSeq
          obtain ⟨A7, c7, h7, _, _, _⟩ := htw.b.isSeq
          have cv1 := conv_own htw.a
          have cv2 := conv_own htw.b
          rw [HLX.out] at h6
          rw [HLY.out] at h7
          subst h6
          subst h7
          subst hs1
          clear ea eb er htw
          by_cases hk0 : k = 0
          · have hk1 : decide ((0 : Int) < (k : Int)) = false := decide_eq_false (by omega)
            have hk2 : ¬ (0 : Int) < (k : Int) := by omega
            clear hk0
            go_wp2
            all_goals try go_roundw
            all_goals first
              | exact ⟨k + 1, by omega, by go_num, val_int (by rw [HSN.out]), by rw [HLS.out], hbw.trans (hbx.mono hz)⟩
              | exact ⟨⟨k + 1, by omega, by go_num, val_int (by rw [HSN.out]), by rw [HLS.out], hbw.trans (hbx.mono hz)⟩, by simp [intOf] <;> omega⟩
              | (simp [intOf] <;> omega)
          · have hgt := HGT.out hk0
            have hk1 : (0 : Int) < (k : Int) := by omega
            go_wp2
            all_goals try go_roundw
            all_goals first
              | exact ⟨k + 1, by omega, by go_num, val_int (by rw [HSN.out]), by rw [HLS.out], hbw.trans (hbx.mono hz)⟩
              | exact ⟨⟨k + 1, by omega, by go_num, val_int (by rw [HSN.out]), by rw [HLS.out], hbw.trans (hbx.mono hz)⟩, by simp [intOf] <;> omega⟩
              | (simp [intOf] <;> omega)
    · obtain rfl : k = L.length := by omega
      have hh0 : Hold wr wr [(.slice A3 o.length c3, fun z => inB l z && inR z)] := ⟨Below.refl _ _, fun p hp => by
        rw [List.mem_singleton] at hp
        subst hp
        exact ⟨o, HS3.out.below hbw, HO.out⟩⟩
      rw [List.take_length]
      obtain ⟨sz, hsz⟩ : ∃ sz, sizeL L = sz := ⟨_, rfl⟩
      rw [hsz] at HSZ ⊢
      clear hsz
      go_wp2_with (first
        | (go_at_call 15; refine (hold_of (hh0.alloc _) (none_set _) (by decide)).mono ?_; rintro e w5 ⟨xn, rfl, hh5⟩)
        | (go_at_call 19; refine (hold_less hh5 (List.mem_cons_of_mem _ (List.mem_cons_self ..)) (List.mem_cons_self ..)).mono ?_; rintro e w6 ⟨x6, rfl, hh6⟩)
        | (go_at_call 20; refine (hold_size hh6 (List.mem_cons_self ..)).mono ?_; rintro e w7 ⟨rfl, hh7⟩; rw [← HSZ.out]))
      go_ret
      exact ⟨ret_bool (by simp), HT.out.trans ((hbw.trans (hh7.1.mono hz)).mono HT.out.size)⟩

end Go.Proofs.Ytemjgnpkhomofaa
