/- Chapter 25: the walk of the document's Parse: a text that is unpacked. -/
import Derived.Test.YtgekkhkmgfbcdaaDoorArgsRefPar
import Derived.Deep.LoopGhost
import Derived.Laws.CopyOwn
namespace Go.Proofs.YtgekkhkmgfbcdaaDoor
open Go.Shelf Go.RowKit

/-- What stands at the loop's head. -/
def LoopD (w wr : World) (N K M : Nat) (A : Option Addr) (L : List ByteArray) (P : List Value × Int × Int) (gg : Nat) (s11 : Value) : Prop :=
  ∃ (i : Nat) (R : List Nat) (vs : List Value), s11 = .int .i64 i ∧ RInv wr N K M A L R vs ∧ Left R ∧ Hid (Ones vs) ∧ Below w.heap.size w wr ∧ i ≤ L.length + 1 ∧ L.length + 2 - i ≤ gg ∧ P = resV (prs (L.drop i) i R vs)

/-- The document's Unpack of a text that is one: the texts lie in new memory. -/
theorem refUnp_lo {s : ByteArray} {l : List ByteArray} (w : World) (hs : s.size ≤ 1099511627776) (h : ArgsP.unp s.data.toList 0 = .ok (txt l)) :
    Calls Tryd.prog 12 #[.string s] w fun e w' => ∃ A c, e = .returned (.tuple #[.slice A l.length c, .int .i64 0, .int .i64 0]) ∧ l.length ≤ c ∧ c ≤ maxLen ∧ Below w.heap.size w w' ∧
      (0 < l.length → ∃ g o, A = some ⟨g, o, none⟩ ∧ w.heap.size ≤ g ∧ g < w'.heap.size ∧ ∀ k, k < l.length → w'.cell? ⟨g, o + k, none⟩ = some (.string (l.getD k ⟨#[]⟩))) := by
  refine (refUnpack_any s w hs).mono ?_
  rintro e w' ⟨hb, hr⟩
  rw [h] at hr
  obtain ⟨v, rfl, hv, ho⟩ := hr
  rw [show (txt l).map bytesOf = l from map_bytes l] at hv
  obtain ⟨A, c, rfl, h1, h2, h3⟩ := hv
  refine ⟨A, c, rfl, h1, h2, hb, fun hn => ?_⟩
  obtain ⟨g, o, rfl, hg, hc⟩ := h3.strs_ hn
  exact ⟨g, o, rfl, ho g rfl, hg, hc⟩

/-- Behind the test of a pair. -/
def PairD (w wo wx : World) (i : Nat) (x : ByteArray) (L : List ByteArray) (R : List Nat) (P : List Value × Int × Int) (z : Int) (s61 : Value) : Prop :=
  (∃ nd, wx = wo.drewN nd) ∧ ((s61 = .bool true ∧ P = (vs0, 29, (i : Int))) ∨ (s61 = .bool false ∧ ∃ k : Nat, z = k ∧ k < 18 ∧ Hid (keyOf x = some k) ∧ k ∈ R ∧ i + 1 < L.length))
/-- Behind the value's laying. -/
def ValD (wx wy : World) (N M k : Nat) (y : ByteArray) (s15 : Value) : Prop :=
  ∃ (ok : Bool) (u : Value), s15 = .bool ok ∧ (ok = true → setR k y = some u) ∧ (ok = false → setR k y = none) ∧ wy = (wx.setCell ⟨M, k, none⟩ (.bool true)).setCell ⟨N + 1, k, none⟩ u

set_option maxRecDepth 100000 in
set_option maxHeartbeats 40000000 in
theorem refParse_ok (s : ByteArray) (L : List ByteArray) (w : World) (hs : s.size ≤ 1099511627776) (hy9 : ∀ k, (L.getD k ⟨#[]⟩).size ≤ 1099511627776) (h : ArgsP.unp s.data.toList 0 = .ok (txt L)) (P : List Value × Int × Int)
    (hP : P = resV (prs L 0 (List.range 18) vs0)) :
    Calls Tryd.prog 14 #[.string s] w (RetParD P w) := by
  have HU := Lib.hid h
  have HP := Lib.hid hP
  have HY9 := Lib.hid hy9
  clear h hP hy9
  go_enter Tryd.func14, Tryd.ntmps14
  go_wp2_with fail
  refine (refUnp_lo (l := L) _ hs HU.out).mono ?_
  rintro e w1 ⟨A, c, rfl, hc1, hc2, hb1, hL⟩
  obtain ⟨O, hO⟩ : ∃ O, O = Obj.cells #[.int .i64 0, .int .i64 0, .int .i64 0, .int .i64 0, .int .i64 0, .bool false, .bool false, .bool false, .bool false, .bool false, .bool false, .bool false, .bool false, .bool false, .bool false, .string ⟨#[]⟩, .string ⟨#[]⟩, .string ⟨#[]⟩] 46 := ⟨_, rfl⟩
  rw [← hO] at hb1 hL
  obtain ⟨k0, k1, hb, z1⟩ := two_kept hb1
  have hL' := Lib.hid (fun hn => by obtain ⟨g, o, e1, e2, e3, e4⟩ := hL hn; exact ⟨g, o, e1, by simp at e2; omega, e3, e4⟩ : 0 < L.length → ∃ g o, A = some ⟨g, o, none⟩ ∧ w.heap.size + 1 < g ∧ g < w1.heap.size ∧ ∀ k, k < L.length → w1.cell? ⟨g, o + k, none⟩ = some (.string (L.getD k ⟨#[]⟩)))
  have hO' : O = Obj.cells vs0.toArray 46 := hO
  rw [hO'] at k0 k1
  clear hL hb1 hO hO'
  generalize hN : w.heap.size = N at k0 k1 hL' z1 ⊢
  obtain ⟨n, hn⟩ : ∃ n, L.length = n := ⟨_, rfl⟩
  have HLn := Lib.hid hn
  rw [hn] at hc1 ⊢
  have HN := Lib.hid hN
  obtain ⟨K, hK⟩ : ∃ K, w1.heap.size = K := ⟨_, rfl⟩
  have hRI : RInv ((w1.alloc (.cells keyC.toArray 9)).alloc (.cells (metC (List.range 18)).toArray 81)) N K (K + 1) A L (List.range 18) vs0 := by
    have s1 : (w1.alloc (.cells keyC.toArray 9)).heap.size = K + 1 := by simp [hK]
    have s2 : ((w1.alloc (.cells keyC.toArray 9)).alloc (.cells (metC (List.range 18)).toArray 81)).heap.size = K + 2 := by simp [hK]
    have b1 : Below K w1 ((w1.alloc (.cells keyC.toArray 9)).alloc (.cells (metC (List.range 18)).toArray 81)) := by
      rw [← hK]; exact ((Below.refl _ w1).alloc (Nat.le_refl _) _).alloc (by simp) _
    have q1 := heap_alloc_new w1 (.cells keyC.toArray 9)
    have q2 := heap_alloc_new (w1.alloc (.cells keyC.toArray 9)) (.cells (metC (List.range 18)).toArray 81)
    rw [s1] at q2
    rw [hK] at q1
    refine ⟨by rw [s2]; omega, rfl, (b1.block N (by omega)).trans k0, (b1.block (N + 1) (by omega)).trans k1, (Below.heap_alloc _ _ K (by rw [s1]; omega)).trans q1, q2, fun hn => ?_⟩
    obtain ⟨g, o, e, g1, g2, g3⟩ := hL'.out hn
    exact ⟨g, o, e, by omega, by omega, fun k hk => (b1.cell (p := ⟨g, o + k, none⟩) (by show g < K; omega)).trans (g3 k hk)⟩
  have hbK : Below w.heap.size w ((w1.alloc (.cells keyC.toArray 9)).alloc (.cells (metC (List.range 18)).toArray 81)) := (hb.alloc hb.size _).alloc (by have := hb.size; simp; omega) _
  have HRI := Lib.hid hRI
  have HBK := Lib.hid hbK
  rw [metC_start] at HRI HBK
  have HK := Lib.hid hK
  clear hRI hbK k0 k1 hL' hb hn hN z1 hK
  unfold maxLen at hc2
  go_wp2_with (go_at_call 18; refine (keys_any _).mono ?_; rintro e w2 ⟨rfl, rfl⟩)
  have hKe := HK.out
  rw [hKe]
  clear hKe
  go_loopg [11] (n + 3) (fun gg s11 wr => LoopD w wr N K (K + 1) A L P gg s11)
  case atStart =>
    exact ⟨0, List.range 18, vs0, rfl, HRI.out, Left.start, Lib.hid Ones.start, HBK.out, by omega, by rw [HLn.out]; omega, HP.out⟩
  case round =>
    obtain ⟨i, R, vs, rfl, hI, hR, HOne, hbw, hi, hgg, hPi⟩ := hrel
    have hlt := hI.lt
    have HI := Lib.hid hI
    have HPi := Lib.hid hPi
    rw [HLn.out] at hi hgg
    clear hI hPi
    obtain ⟨wo, rfl⟩ : ∃ wo : World, wo = wr := ⟨_, rfl⟩
    by_cases hin : i < n
    · obtain ⟨g, o, rfl, hg1, hg2, hg3⟩ := HI.out.txt (by rw [HLn.out]; omega)
      have hxi := hg3 i (by rw [HLn.out]; exact hin)
      obtain ⟨x, hx⟩ : ∃ x, L.getD i ⟨#[]⟩ = x := ⟨_, rfl⟩
      rw [hx] at hxi
      have HX := Lib.hid hx
      have HG := Lib.hid hg3
      have HKC := Lib.hid (fun j hj => (Lib.cell_of_heap HI.out.key j).trans (by rw [List.getElem?_toArray]; exact keyC_at hj) : ∀ j, j < 18 → wo.cell? ⟨K, j, none⟩ = some (.string (keyN j)))
      have HMC := Lib.hid (fun j hj => (Lib.cell_of_heap HI.out.met j).trans (by rw [List.getElem?_toArray]; exact metC_at hj) : ∀ j, j < 18 → wo.cell? ⟨K + 1, j, none⟩ = some (.bool (!decide (j ∈ R))))
      have hind : (i : Int) < (n : Int) := by omega
      have hi0 : (0 : Int) ≤ (i : Int) := by omega
      clear hg3 hx
      go_wp2
      go_loopw [12, 13] (fun s12 s13 wx => ∃ (j : Nat) (z : Int), s12 = .int .i64 z ∧ s13 = .int .i64 j ∧ j ≤ 18 ∧ Hid (KAt x j z) ∧ -1 ≤ z ∧ z < 18 ∧ ∃ nd, wx = wo.drewN nd) (fun _ s13 _ => 18 - (intOf s13).toNat)
      case atStart => exact ⟨0, -1, rfl, rfl, by omega, Lib.hid (KAt.start x), by omega, by omega, 0, rfl⟩
      case round =>
        obtain ⟨j, z, rfl, rfl, hj, HZ, hz1, hz2, nd, rfl⟩ := hrel
        by_cases hj18 : j < 18
        · have kc := HKC.out j hj18
          obtain ⟨key, hk⟩ : ∃ key, keyN j = key := ⟨_, rfl⟩
          rw [hk] at kc
          have HK2 := Lib.hid hk
          have hjj : (j : Int) < 18 := by omega
          clear hk
          cases hq : (key.toList == x.toList)
          · have HQ : Hid (keyN j ≠ x) := Lib.hid fun e => by rw [← HK2.out, e] at hq; simp at hq
            go_wp2
            go_quiet (fail)
            go_wp2
            go_roundw
            case rel => exact ⟨j + 1, z, rfl, by go_num, by omega, Lib.hid (HZ.out.no HQ.out), hz1, hz2, _, rfl⟩
            case measure => simp [intOf]; omega
          · have HQ : Hid (keyN j = x) := Lib.hid (by rw [HK2.out]; exact key_same.1 hq)
            go_wp2
            go_quiet (fail)
            go_wp2
            go_roundw
            case rel => exact ⟨j + 1, j, rfl, by go_num, by omega, Lib.hid (KAt.yes HQ.out), by omega, by omega, _, rfl⟩
            case measure => simp [intOf]; omega
        · obtain rfl : j = 18 := by omega
          go_upto_region 16 with fail
          go_cut [61] (fun s61 wx => PairD w wo wx i x L R P z s61)
          case first =>
            rcases HZ.out.key with ⟨rfl, hno⟩ | ⟨k, rfl, hk18, hks⟩
            · have HE : Hid (P = (vs0, 29, (i : Int))) := Lib.hid (by rw [HPi.out, drop_getD (by rw [HLn.out]; exact hin) HX.out, prs_none (fun j hj => by rw [hno] at hj; cases hj)]; rfl)
              clear hno HZ
              go_wp2
              go_meet
              exact ⟨⟨_, rfl⟩, Or.inl ⟨rfl, HE.out⟩⟩
            · have hmc := HMC.out k hk18
              have HKS := Lib.hid hks
              have hkn : decide ((k : Int) < 0) = false := decide_eq_false (by omega)
              have hk0 : (0 : Int) ≤ (k : Int) := by omega
              have hk1 : (k : Int) < 18 := by omega
              by_cases hm : k ∈ R
              · have hd : (!decide (k ∈ R)) = false := by rw [decide_eq_true hm]; rfl
                rw [hd] at hmc
                have HM2 := Lib.hid hm
                by_cases hlast : i + 1 = n
                · have HE : Hid (P = (vs0, 29, (i : Int))) := Lib.hid (by rw [HPi.out, drop_one (by rw [HLn.out]; exact hlast)]; rfl)
                  have hge : ((i : Int) + 1 == (n : Int)) = true := beq_iff_eq.2 (by omega)
                  clear hks hm hd HZ hlast
                  go_wp2
                  go_meet
                  exact ⟨⟨_, rfl⟩, Or.inl ⟨rfl, HE.out⟩⟩
                · have hge : ((i : Int) + 1 == (n : Int)) = false := beq_eq_false_iff_ne.2 (by omega)
                  have hi1 : i + 1 < n := by omega
                  clear hks hm hd HZ hlast
                  go_wp2
                  go_meet
                  exact ⟨⟨_, rfl⟩, Or.inr ⟨rfl, k, rfl, hk18, HKS, HM2.out, by rw [HLn.out]; exact hi1⟩⟩
              · have hd : (!decide (k ∈ R)) = true := by rw [decide_eq_false hm]; rfl
                rw [hd] at hmc
                have HE : Hid (P = (vs0, 29, (i : Int))) := Lib.hid (by rw [HPi.out, drop_getD (by rw [HLn.out]; exact hin) HX.out, prs_none (fun j hj => by rw [hks] at hj; injection hj with hj; subst hj; exact hm)]; rfl)
                clear hks hm hd HZ
                go_wp2
                go_meet
                exact ⟨⟨_, rfl⟩, Or.inl ⟨rfl, HE.out⟩⟩
          case rest =>
            obtain ⟨⟨nd2, rfl⟩, hc⟩ := hcut
            have hI2 := HI.out.heap (w' := wo.drewN nd2) rfl
            have hb2 : Below w.heap.size w (wo.drewN nd2) := below_drewN hbw _
            have H0 := Lib.hid hI2.res
            have HI2 := Lib.hid hI2
            have HB2 := Lib.hid hb2
            have hwN := Nat.le_of_eq HN.out
            clear hI2 hb2
            rcases hc with ⟨rfl, hPe⟩ | ⟨rfl, k, rfl, hk18, HKey, hkR, hi1⟩
            · have HE := Lib.hid (fun a hd h2 h3 h4 => ret_parD (a := a) (code := 29) (at_ := (i : Int)) (show vs0.length = 18 from rfl) hd h2 h3 h4 HI2.out.res HB2.out)
              rw [← hPe] at HE
              clear hPe
              go_wp2_with (refine wpList_store_same rfl 46 (.tmp 2) (.tmp 62) rfl N _ rfl rfl 46 H0.out refInfo vs0_ones ?_)
              refine HE.out _ ?_ ?_ ?_ ?_
              all_goals rfl
            · obtain ⟨y, hy⟩ : ∃ y, L.getD (i + 1) ⟨#[]⟩ = y := ⟨_, rfl⟩
              have hyc := HG.out (i + 1) (by omega)
              rw [hy] at hyc
              have hys : y.size ≤ 1099511627776 := by rw [← hy]; exact HY9.out _
              have hdrop : L.drop i = x :: y :: L.drop (i + 2) := by rw [drop_two hi1, HX.out, hy]
              have HBad : Hid (setR k y = none → P = (vs0, 29, (i : Int))) := Lib.hid fun e => by rw [HPi.out, hdrop, prs_bad HKey.out hkR e]; rfl
              have HGood : Hid (∀ u, setR k y = some u → P = resV (prs (L.drop (i + 2)) (i + 2) (R.erase k) (vs.set k u))) := Lib.hid fun u e => by rw [HPi.out, hdrop, prs_good HKey.out hkR e]
              have hi1n : i + 1 < n := by rw [← HLn.out]; exact hi1
              have hi2 : (i : Int) + 1 < (n : Int) := by omega
              have hi3 : (0 : Int) ≤ (i : Int) + 1 := by omega
              have hk0 : (0 : Int) ≤ (k : Int) := by omega
              have hk1 : (k : Int) < 18 := by omega
              have hmc : ∃ b, wo.cell? ⟨K + 1, k, none⟩ = some (.bool b) := ⟨_, HMC.out k hk18⟩
              obtain ⟨mb, hmb⟩ := hmc
              have fm := Lib.frozen_of_heap HI.out.met k
              have fv := Lib.frozen_of_heap HI.out.val k
              have cv := Lib.cell_of_heap HI.out.val k
              obtain ⟨old, hold⟩ : ∃ old, vs.toArray[k]? = some old := ⟨_, by rw [List.getElem?_toArray, List.getElem?_eq_getElem (by rw [HI.out.len]; exact hk18)]⟩
              rw [hold] at cv
              have hne1 : ¬ K + 1 = N + 1 := by omega
              have hne2 : ¬ N + 1 = K + 1 := by omega
              have hne3 : ¬ K + 1 = g := by omega
              have hne4 : ¬ g = K + 1 := by omega
              have z0 : K + 1 < wo.heap.size := by omega
              have HHI := Lib.hid hi1
              clear hy hdrop hold hi1
              go_upto_if 72 with fail
              go_cut [15] (fun s15 wy => ValD (wo.drewN nd2) wy N (K + 1) k y s15)
              case first =>
                by_cases h5 : k < 5
                · have h5' : (k : Int) < 5 := by omega
                  go_wp2_with (go_at_call 30; refine (refNum_any y _ hys).mono ?_; rintro e w' ⟨rfl, rfl⟩)
                  go_meet
                  refine ⟨_, _, rfl, fun ho => ?_, fun ho => ?_, rfl⟩
                  · unfold setR
                    rw [if_pos h5]
                    cases hn : ArgsP.numL y.data.toList with
                    | none => rw [hn] at ho; cases ho
                    | some n => rfl
                  · unfold setR
                    rw [if_pos h5]
                    cases hn : ArgsP.numL y.data.toList with
                    | none => rfl
                    | some n => rw [hn] at ho; cases ho
                · by_cases h15 : k < 15
                  · have h5' : ¬ (k : Int) < 5 := by omega
                    have h15' : (k : Int) < 15 := by omega
                    have e5 : 5 + (k - 5) = k := by omega
                    rw [← e5] at cv fv
                    have E5 := Lib.hid e5
                    clear e5
                    cases y1 : (y.toList == [121, 101, 115]) <;> cases y2 : (y.toList == [110, 111])
                    all_goals
                      have Y1 := Lib.hid y1
                      have Y2 := Lib.hid y2
                      go_wp2
                      go_meet
                      refine ⟨_, _, rfl, fun ho => ?_, fun ho => ?_, by rw [E5.out]⟩
                    all_goals
                      unfold setR
                      rw [if_neg h5, if_pos h15, Y1.out, Y2.out]
                      first | rfl | cases ho
                  · have h5' : ¬ (k : Int) < 5 := by omega
                    have h15' : ¬ (k : Int) < 15 := by omega
                    have e5 : 15 + (k - 15) = k := by omega
                    rw [← e5] at cv fv
                    have E5 := Lib.hid e5
                    clear e5
                    go_wp2
                    go_meet
                    refine ⟨_, _, rfl, fun ho => ?_, fun ho => (by cases ho), by rw [E5.out]⟩
                    unfold setR
                    rw [if_neg h5, if_neg h15]
              case rest =>
                obtain ⟨ok, u, rfl, ho1, ho0, rfl⟩ := hcut
                have hI3 := HI2.out.step hR.1 hk18 u
                have hKN : w.heap.size ≤ K + 1 := by omega
                have hNN : w.heap.size ≤ N + 1 := by omega
                have hb3 : Below w.heap.size w (((wo.drewN nd2).setCell ⟨K + 1, k, none⟩ (.bool true)).setCell ⟨N + 1, k, none⟩ u) := (HB2.out.setCell (p := ⟨K + 1, k, none⟩) hKN _).setCell (p := ⟨N + 1, k, none⟩) hNN _
                obtain ⟨W3, hW3⟩ : ∃ W3, ((wo.drewN nd2).setCell ⟨K + 1, k, none⟩ (.bool true)).setCell ⟨N + 1, k, none⟩ u = W3 := ⟨_, rfl⟩
                rw [hW3] at hI3 hb3 ⊢
                have H3 := Lib.hid hI3.res
                have HI3 := Lib.hid hI3
                clear hW3 hI3 cv fv fm hmb hyc
                cases ok
                · have hPe := HBad.out (ho0 rfl)
                  have HE := Lib.hid (fun a hd h2 h3 h4 => ret_parD (a := a) (code := 29) (at_ := (i : Int)) (show vs0.length = 18 from rfl) hd h2 h3 h4 HI3.out.res hb3)
                  rw [← hPe] at HE
                  clear hPe
                  go_wp2_with (refine wpList_store_same rfl 46 (.tmp 2) (.tmp 102) rfl N _ rfl rfl 46 H3.out refInfo vs0_ones ?_)
                  refine HE.out _ ?_ ?_ ?_ ?_
                  all_goals rfl
                · have HPe := Lib.hid (HGood.out u (ho1 rfl))
                  have hu1 := Lib.hid (setR_one (ho1 rfl))
                  clear ho1 ho0
                  go_wp2
                  go_roundg (gk - 1)
                  case rel =>
                    exact ⟨i + 2, R.erase k, vs.set k u, by go_num, HI3.out, hR.erase _, Lib.hid (HOne.out.set _ hu1.out), hb3, by rw [HLn.out]; omega, by rw [HLn.out]; omega, HPe.out⟩
                  case measure => exact Nat.sub_lt (by omega) (by decide)
    · have hind : ¬ (i : Int) < (n : Int) := by omega
      have hPe : P = (vs, 0, 0) := by rw [HPi.out, List.drop_of_length_le (by rw [HLn.out]; omega)]; rfl
      have hwN := Nat.le_of_eq HN.out
      have hone := Lib.hid (all_oneCell_toArray HOne.out)
      have H0 := Lib.hid HI.out.res
      have H1 := Lib.hid HI.out.val
      have h18 := HI.out.len
      have hl : vs.toArray.size = 18 := by simpa using h18
      have HInf : Hid ((Tryd.prog.info? 46).map (·.size) = some vs.toArray.size) := Lib.hid (by rw [hl]; exact refInfo)
      have HLL : Hid (vs0.toArray.size = vs.toArray.size) := Lib.hid (by rw [hl]; rfl)
      have HE := Lib.hid (fun a hd h2 h3 h4 => retD_row (a := a) (code := 0) (at_ := 0) h18 HI.out.res hwN hbw hd h2 h3 h4)
      rw [← hPe] at HE
      clear hPe h18 hl
      go_wp2_with (first
        | (refine wpList_load_row rfl 46 (.tmp 5) rfl (N + 1) rfl 46 _ (0, 0) _ H1.out Tryd.underlying46 rfl HInf.out ?_)
        | (refine wpList_store_row rfl 46 (.tmp 2) (.tmp 104) rfl N vs.toArray rfl rfl 46 _ H0.out HInf.out HLL.out hone.out ?_))
      refine HE.out _ ?_ ?_ ?_ ?_
      all_goals rfl

end Go.Proofs.YtgekkhkmgfbcdaaDoor
