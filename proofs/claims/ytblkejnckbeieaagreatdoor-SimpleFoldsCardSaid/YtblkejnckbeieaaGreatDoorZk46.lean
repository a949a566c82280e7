/- Chapter 12: the walks of made at a class that folds, and at a quantifier. -/
import Derived.Test.YtblkejnckbeieaaGreatDoorZk27
import Derived.Test.YtblkejnckbeieaaGreatDoorZk45
namespace Go.Proofs.YtblkejnckbeieaaGreatDoor
open Go.RowKit SetPure

section
variable (cl : (Int → Bool) → Int → Bool)
variable (set : Option (Int → Bool)) (fold : Bool) (least most : Int) (lazy : Bool) (cap : Nat) (name : List UInt8) (kids : List SynP.Nd)
set_option maxRecDepth 100000 in
set_option maxHeartbeats 12800000 in
theorem made_cls_true (f : Int → Bool) (hcl : ∀ (v : Value) (w : World), SetV w v f → Calls Tryz.prog 26 #[v] w (NewSet w (cl f))) (hkl : kids.length ≤ 1000000) (IH : ∀ x ∈ kids, MadeC cl x) : MadeC cl (.mk 1 (some f) true least most lazy cap name kids) := by
  have hE : SynP.mkN cl (.mk 1 (some f) true least most lazy cap name kids) = .mk 1 (some (SynP.lessF (cl f))) false least most lazy cap name kids := by rw [SynP.mkN, if_neg (by omega), if_pos rfl]; rfl
  have HE := Lib.hid hE
  have HIH := Lib.hid IH
  clear hE IH
  have HCl := Lib.hid hcl
  clear hcl
  intro r P w hl
  have hn := hl.kids.1
  have hmax := hl.roomS
  have hrk := hl.kind_z
  have hrm := hl.nums
  obtain ⟨N, hN⟩ : ∃ N, w.heap.size = N := ⟨_, rfl⟩
  have HNe := Lib.hid hN
  obtain ⟨r0, r1, r2, r3, r4, r5, r6, r7, r8, r9, ra, rb, rc⟩ := r
  simp only at hn hmax hrk hrm
  obtain ⟨rfl, rfl⟩ := hrm
  obtain rfl : r4 = true := hl.fold_
  have hrk' : r0 = 1 := hrk
  subst hrk'
  obtain ⟨W0, hW0⟩ : ∃ W0, (w.alloc (.cells #[.int .i64 1, .slice r1 r2 r3, .bool true, .int .i64 r5, .int .i64 r6, .bool r7, .int .i64 r8, .string r9, .slice ra rb rc] 29)).alloc (.cells zeroA 29) = W0 := ⟨_, rfl⟩
  have HS0 : Hid (W0.heap.size = N + 2) := Lib.hid (by rw [← hW0]; simp [hN])
  have HB : Hid (Below N w W0) := Lib.hid (by rw [← hW0, ← hN]; exact below_two w _ _)
  have HBx : Hid (BoxN W0 N #[.int .i64 1, .slice r1 r2 r3, .bool true, .int .i64 r5, .int .i64 r6, .bool r7, .int .i64 r8, .string r9, .slice ra rb rc]) := Lib.hid (by rw [← hW0, ← hN]; exact (Below.heap_alloc _ _ _ (by simp)).trans (heap_alloc_new w _))
  have HBv : Hid (BoxN W0 (N + 1) zeroA) := Lib.hid (by
    rw [← hW0, ← hN]
    have := heap_alloc_new (w.alloc (.cells #[.int .i64 1, .slice r1 r2 r3, .bool true, .int .i64 r5, .int .i64 r6, .bool r7, .int .i64 r8, .string r9, .slice ra rb rc] 29)) (.cells zeroA 29)
    rw [World.size_alloc] at this
    exact this)
  have HL : Hid (Lies W0 (fun k => P k ∧ k < N) (.mk 1 (some f) true r5 r6 lazy cap name kids) ⟨1, r1, r2, r3, true, r5, r6, r7, r8, r9, ra, rb, rc⟩) := Lib.hid (Lies.on (StandN.below (by rw [hN]; exact HB.out)) _ _ (Lies.mono (fun k hk hlt => ⟨hk, by omega⟩) _ _ hl))
  have HKn : Hid (kids.length = rb) := Lib.hid hn.symm
  obtain ⟨-, rs, hrs, hk, hls⟩ := HL.out.kids
  have HRs := Lib.hid hrs
  have HK := Lib.hid hk
  have HLs := Lib.hid hls
  have hrb : rb ≤ 1000000 := by omega
  simp only [RawN.cells]
  clear hl hn hrk hrs hk hls hkl
  go_enter Tryz.func33, Tryz.ntmps33
  go_upto_region 1 with fail
  clear hW0 hN
  have hcW : ∀ o, W0.cell? ⟨N, o, none⟩ = #[Value.int .i64 1, .slice r1 r2 r3, .bool true, .int .i64 r5, .int .i64 r6, .bool r7, .int .i64 r8, .string r9, .slice ra rb rc][o]? := fun o => Lib.cell_of_heap HBx.out o
  go_wp2_with fail
  clear hcW
  go_loopw [3, 23] (fun s3 s23 wr => ∃ (i : Nat) (ws : List RawN), i ≤ rb ∧ s23 = .int .i64 i ∧ Hid (KdS W0 wr (fun k => P k ∧ k < N) (SynP.mkL cl (kids.take i)) ws s3)) (fun _ s23 _ => rb + 1 - (intOf s23).toNat)
  case atStart => exact ⟨0, [], Nat.zero_le _, rfl, Lib.hid (KdS.start W0 _)⟩
  case round =>
    obtain ⟨i, ws, hi, rfl, HS⟩ := hrel
    have hlen := HS.out.len
    rw [SynP.mkL_len, List.length_take] at hlen
    obtain ⟨A2, c2, rfl, hc2, hm2⟩ := HS.out.own.form
    by_cases hlt : i < rb
    · have hii : (i : Int) < (rb : Int) := by omega
      have hi0 : (0 : Int) ≤ (i : Int) := by omega
      have hij : i < kids.length := by rw [HKn.out]; exact hlt
      have hws : ws.length + 1 ≤ 1000001 := by omega
      obtain ⟨b, off, z, rfl, hb, hz, hcz⟩ := HK.out.kid_at HRs.out HLs.out i hij
      have hF := mkL_take cl kids i hij
      obtain ⟨x, hx⟩ : ∃ x, kids[i]'hij = x := ⟨_, rfl⟩
      have hxm : x ∈ kids := by rw [← hx]; exact List.getElem_mem hij
      rw [hx] at hz hF
      have HF := Lib.hid hF
      have mm : ∀ o, o < 9 → wr.cell? ⟨b, off + (i * 9 + o), none⟩ = some (z.cells.getD o undef) := fun o ho => (HS.out.bel.cell (p := ⟨b, off + (i * 9 + o), none⟩) hb).trans (hcz o ho)
      have HCm : Hid (∀ wx, Below W0.heap.size W0 wx → Calls Tryz.prog 33 #[.agg z.cells.toArray] wx fun e w' => ∃ q : RawN, e = .returned (.agg q.cells.toArray) ∧ Below wx.heap.size wx w' ∧ Lies w' (Qw wx fun k => (P k ∧ k < N) ∧ k < W0.heap.size) (SynP.mkN cl x) q) := Lib.hid fun wx hb => HIH.out x hxm z _ wx (Lies.mono (fun k hk _ => ⟨hk, by have := HS0.out; have := hk.2; omega⟩) _ _ (Lies.on (StandN.below hb) _ _ hz))
      obtain ⟨a0, a1, a2, a3, a4, a5, a6, a7, a8, a9, aa, ab, ac⟩ := z
      simp only [RawN.cells] at HCm
      have m0 : wr.cell? ⟨b, off + i * 9, none⟩ = some (.int .i64 a0) := mm 0 (by decide)
      have m1 : wr.cell? ⟨b, off + i * 9 + 1, none⟩ = some (.slice a1 a2 a3) := mm 1 (by decide)
      have m2 : wr.cell? ⟨b, off + i * 9 + 2, none⟩ = some (.bool a4) := mm 2 (by decide)
      have m3 : wr.cell? ⟨b, off + i * 9 + 3, none⟩ = some (.int .i64 a5) := mm 3 (by decide)
      have m4 : wr.cell? ⟨b, off + i * 9 + 4, none⟩ = some (.int .i64 a6) := mm 4 (by decide)
      have m5 : wr.cell? ⟨b, off + i * 9 + 5, none⟩ = some (.bool a7) := mm 5 (by decide)
      have m6 : wr.cell? ⟨b, off + i * 9 + 6, none⟩ = some (.int .i64 a8) := mm 6 (by decide)
      have m7 : wr.cell? ⟨b, off + i * 9 + 7, none⟩ = some (.string a9) := mm 7 (by decide)
      have m8 : wr.cell? ⟨b, off + i * 9 + 8, none⟩ = some (.slice aa ab ac) := mm 8 (by decide)
      have HSa : Hid (∀ o : Obj, KdS W0 (wr.alloc o) (fun k => P k ∧ k < N) (SynP.mkL cl (kids.take i)) ws (.slice A2 ws.length c2)) := Lib.hid fun o => HS.out.below ((Below.refl _ wr).alloc (Nat.le_refl _) o)
      clear hcz hz hx hF hxm mm hlen
      go_wp2_with (first
        | (go_at_call 33; refine (HCm.out _ (HSa.out _).bel).mono ?_; rintro e w4 ⟨⟨q0, q1, q2, q3, q4, q5, q6, q7, q8, q9, qa, qb, qc⟩, rfl, hb4, hl4⟩; have HS4 := Lib.hid ((HSa.out _).below hb4); have HL4 := Lib.hid ((HSa.out _).made hl4); clear hb4 hl4)
        | (at_builtin; refine wpList_append_one (E := Enode) (base := W0.heap.size) (l := ws) ⟨q0, q1, q2, q3, q4, q5, q6, q7, q8, q9, qa, qb, qc⟩ ⟨w4.heap.size, 0, none⟩ 1 rfl (.tmp 27) (.tmp 30) 27 (by rfl) 112 elNode (by rfl) (HS4.out.own.alloc _) (by rfl) (by exact news_new w4 _ _ _ rfl) (by unfold maxLen; omega) (by omega) ?_; intro v2 w2 ho2 hg2 hat2; have hba := (Below.refl w4.heap.size w4).alloc (Nat.le_refl _) (.cells #[.int .i64 q0, .slice q1 q2 q3, .bool q4, .int .i64 q5, .int .i64 q6, .bool q7, .int .i64 q8, .string q9, .slice qa qb qc] 29); have HS2 := Lib.hid ((HS4.out.below hba).push ho2 hg2 hat2 (Lies.on (StandN.below hba) _ _ HL4.out)); clear ho2 hg2 hat2 hba))
      exact ⟨⟨i + 1, _, by omega, by simp, by rw [HF.out]; exact HS2⟩, by simp only [intOf]; omega⟩
    · obtain rfl : i = rb := by omega
      have hii : ¬ (i : Int) < (i : Int) := by omega
      have hT : kids.take i = kids := List.take_of_length_le (by rw [HKn.out]; exact Nat.le_refl _)
      rw [hT] at HS
      have HSe := HS
      have HC2 := Lib.hid (And.intro hc2 hm2)
      have HXr : Hid (BoxN wr N #[.int .i64 1, .slice r1 r2 r3, .bool true, .int .i64 r5, .int .i64 r6, .bool r7, .int .i64 r8, .string r9, .slice ra i rc]) := Lib.hid ((HSe.out.bel.block N HBx.out.lt).trans HBx.out)
      have HVr : Hid (BoxN wr (N + 1) zeroA) := Lib.hid ((HSe.out.bel.block (N + 1) HBv.out.lt).trans HBv.out)
      have HBr : Hid (Below N w wr) := Lib.hid (HB.out.trans (HSe.out.bel.mono (by have := HS0.out; omega)))
      have hcr : ∀ o, wr.cell? ⟨N, o, none⟩ = #[Value.int .i64 1, .slice r1 r2 r3, .bool true, .int .i64 r5, .int .i64 r6, .bool r7, .int .i64 r8, .string r9, .slice ra i rc][o]? := fun o => Lib.cell_of_heap HXr.out o
      have hzr : ∀ o, wr.frozen? ⟨N, o, none⟩ = false := fun o => frozen_box HXr.out o
      have HPN : Hid (¬ Qw W0 (fun k => P k ∧ k < N) N ∧ ¬ Qw W0 (fun k => P k ∧ k < N) (N + 1)) := Lib.hid ⟨by
        rintro (⟨⟨_, h⟩, _⟩ | h)
        · exact absurd h (Nat.lt_irrefl _)
        · have := HS0.out; omega, by
        rintro (⟨⟨_, h⟩, _⟩ | h)
        · omega
        · have := HS0.out; omega⟩
      have HQb : Hid (∀ k, Qw W0 (fun k => P k ∧ k < N) k → Qw w P k) := Lib.hid fun k hk => by
        have h0 := HS0.out
        have h1 := HNe.out
        rcases hk with ⟨⟨h2, h3⟩, _⟩ | h2
        · exact .inl ⟨h2, by omega⟩
        · exact .inr (by omega)
      clear HS hT hc2 hm2 hlen
      have HLs1 : Hid (∀ wx, StandN (fun k => P k ∧ k < N) wr wx → KidsAt wx (fun k => P k ∧ k < N) ra rs ∧ LiesL wx (fun k => P k ∧ k < N) kids rs) := Lib.hid fun wx hs => ⟨KidsAt.on (KidsAt.on HK.out (StandN.below HSe.out.bel)) hs, LiesL.on hs _ _ (LiesL.on (StandN.below HSe.out.bel) _ _ HLs.out)⟩
      have HPN2 : Hid (¬ (fun k => P k ∧ k < N) N) := Lib.hid fun h => absurd h.2 (Nat.lt_irrefl _)
      have hset : SetV wr (.slice r1 r2 r3) f := by
        have h := Lies.on (StandN.below HSe.out.bel) _ _ HL.out
        unfold Lies at h
        exact h.2.1
      have HSet := Lib.hid hset
      clear hset
      go_upto_region 13 with (go_at_call 26; refine (HCl.out _ _ HSet.out).mono ?_; rintro e w3 ⟨v3, rfl, hv3, hb3⟩; obtain ⟨s1, s2, s3, rfl⟩ := hv3.form; have HX3 : Hid (BoxN w3 N #[.int .i64 1, .slice r1 r2 r3, .bool true, .int .i64 r5, .int .i64 r6, .bool r7, .int .i64 r8, .string r9, .slice ra i rc]) := Lib.hid ((hb3.block N HXr.out.lt).trans HXr.out); have HV3 : Hid (BoxN w3 (N + 1) zeroA) := Lib.hid ((hb3.block (N + 1) HVr.out.lt).trans HVr.out); have HB3 := Lib.hid hb3; have HG3 := Lib.hid hv3; have hz3 : ∀ o, w3.frozen? ⟨N, o, none⟩ = false := fun o => frozen_box HX3.out o; replace hcr : ∀ o, w3.cell? ⟨N, o, none⟩ = #[Value.int .i64 1, .slice r1 r2 r3, .bool true, .int .i64 r5, .int .i64 r6, .bool r7, .int .i64 r8, .string r9, .slice ra i rc][o]? := fun o => Lib.cell_of_heap HX3.out o; clear hb3 hv3)
      clear hzr
      have hd := (StandN.setN (A := (fun k => P k ∧ k < N)) 1 (.slice s1 s2 s3) HX3.out HPN2.out).keep.step (StandN.setN (A := (fun k => P k ∧ k < N)) 2 (.bool false) (HX3.out.set 1 (.slice s1 s2 s3)) HPN2.out).keep
      have hdx := (HX3.out.set 1 (.slice s1 s2 s3)).set 2 (.bool false)
      simp only [List.setIfInBounds_toArray, List.set_cons_zero, List.set_cons_succ] at hdx
      have hdv := (HV3.out.other (N := N) 1 (.slice s1 s2 s3) (by omega)).other (N := N) 2 (.bool false) (by omega)
      have hdb := ((HBr.out.trans (HB3.out.mono (by have := HBr.out.size; have := HNe.out; omega))).setCell (p := ⟨N, 1, none⟩) (Nat.le_refl _) (.slice s1 s2 s3)).setCell (p := ⟨N, 2, none⟩) (Nat.le_refl _) (.bool false)
      have hds := HG3.out.on hd
      have hdk := HLs1.out _ ((StandN.below (A := (fun k => P k ∧ k < N)) HB3.out).step_ ((StandN.setN (A := (fun k => P k ∧ k < N)) 1 (.slice s1 s2 s3) HX3.out HPN2.out).step_ (StandN.setN (A := (fun k => P k ∧ k < N)) 2 (.bool false) (HX3.out.set 1 (.slice s1 s2 s3)) HPN2.out)))
      go_upto_region 14 with fail
      clear hcr hz3
      generalize (w3.setCell ⟨N, 1, none⟩ (.slice s1 s2 s3)).setCell ⟨N, 2, none⟩ (.bool false) = Wd at hdx hdv hdb hds hdk ⊢
      have hcd : ∀ o, Wd.cell? ⟨N, o, none⟩ = #[Value.int .i64 1, .slice s1 s2 s3, .bool false, .int .i64 r5, .int .i64 r6, .bool r7, .int .i64 r8, .string r9, .slice ra i rc][o]? := fun o => Lib.cell_of_heap hdx o
      have HDx := Lib.hid hdx
      have HDv := Lib.hid hdv
      have HDb := Lib.hid hdb
      have HDs := Lib.hid hds
      have HDk := Lib.hid hdk
      have zN := HDx.out.lt
      have zN2 : ¬ Wd.heap.size = N := by omega
      have zN3 : ¬ N = Wd.heap.size := by omega
      clear hdx hdv hdb hds hdk
      go_region_with (first
        | (go_at_call 16; refine (of_range_drew 55296 57343 Wd).mono ?_; rintro e w4 ⟨v4, rfl, hv4, hb4⟩; obtain ⟨u1, u2, u3, rfl⟩ := hv4.form; have hx4 := hb4; have HX4 : Hid (BoxN w4 N #[.int .i64 1, .slice s1 s2 s3, .bool false, .int .i64 r5, .int .i64 r6, .bool r7, .int .i64 r8, .string r9, .slice ra i rc]) := Lib.hid ((hx4.block N HDx.out.lt).trans HDx.out); have HB4 := Lib.hid hx4; have HG4 := Lib.hid hv4; replace hcd : ∀ o, w4.cell? ⟨N, o, none⟩ = #[Value.int .i64 1, .slice s1 s2 s3, .bool false, .int .i64 r5, .int .i64 r6, .bool r7, .int .i64 r8, .string r9, .slice ra i rc][o]? := fun o => Lib.cell_of_heap HX4.out o; clear hb4 hv4 hx4)
        | (go_at_call 27; refine (less_new (HDs.out.on (KeepR.below HB4.out)) HG4.out).mono ?_; rintro e w5 ⟨v5, rfl, hv5, hb5⟩; obtain ⟨t1, t2, t3, rfl⟩ := hv5.form; have HX5 : Hid (BoxN w5 N #[.int .i64 1, .slice s1 s2 s3, .bool false, .int .i64 r5, .int .i64 r6, .bool r7, .int .i64 r8, .string r9, .slice ra i rc]) := Lib.hid ((hb5.block N HX4.out.lt).trans HX4.out); have HB5 := Lib.hid (HB4.out.trans (hb5.mono HB4.out.size)); have HG5 := Lib.hid hv5; have hz5 : ∀ o, w5.frozen? ⟨N, o, none⟩ = false := fun o => frozen_box HX5.out o; replace hcd : ∀ o, w5.cell? ⟨N, o, none⟩ = #[Value.int .i64 1, .slice s1 s2 s3, .bool false, .int .i64 r5, .int .i64 r6, .bool r7, .int .i64 r8, .string r9, .slice ra i rc][o]? := fun o => Lib.cell_of_heap HX5.out o; clear hb5 hv5))
      all_goals
        have hdx := HX5.out.set 1 (.slice t1 t2 t3)
        simp only [List.setIfInBounds_toArray, List.set_cons_zero, List.set_cons_succ] at hdx
        have HXw := Lib.hid hdx
        have HVw := Lib.hid (BoxN.other (N := N) (show BoxN w5 (N + 1) zeroA from (HB5.out.block (N + 1) HDv.out.lt).trans HDv.out) 1 (.slice t1 t2 t3) (by omega))
        have HBw := Lib.hid ((HDb.out.trans (HB5.out.mono (by have := HDb.out.size; have := HNe.out; omega))).setCell (p := ⟨N, 1, none⟩) (Nat.le_refl _) (.slice t1 t2 t3))
        have hst : StandN (fun k => P k ∧ k < N) w5 (w5.setCell ⟨N, 1, none⟩ (.slice t1 t2 t3)) := StandN.setN 1 _ HX5.out HPN2.out
        have hl1 : Lies (w5.setCell ⟨N, 1, none⟩ (.slice t1 t2 t3)) (fun k => P k ∧ k < N) (.mk 1 (some (SynP.lessF (cl f))) false r5 r6 lazy cap name kids) ⟨1, t1, t2, t3, false, r5, r6, r7, r8, r9, ra, i, rc⟩ := by
          have h := Lies.on (StandN.below HSe.out.bel) _ _ HL.out
          unfold Lies at h ⊢
          obtain ⟨h1, _, _, h4, h5, h6, h7, h8, h9, h10, h11, _⟩ := h
          exact ⟨h1, HG5.out.on hst.keep, rfl, h4, h5, h6, h7, h8, h9, h10, h11, rs, HRs.out, KidsAt.on (KidsAt.on HDk.out.1 (StandN.below HB5.out)) hst, LiesL.on hst _ _ (LiesL.on (StandN.below HB5.out) _ _ HDk.out.2)⟩
        have HLw := Lib.hid (Lies.mono (A' := Qw W0 (fun k => P k ∧ k < N)) (fun k hk _ => .inl ⟨hk, by have := HS0.out; have := hk.2; omega⟩) _ _ hl1)
        clear hdx hst hl1 hcd hz5
        go_wp2_with (first
          | (refine wpList_load_row rfl 29 (.tmp 1) rfl N rfl 29 _ (0, 0) _ HXw.out Tryz.underlying29 rfl sizeN ?_)
          | (refine wpList_store_row rfl 29 (.tmp 2) (.tmp 51) rfl (N + 1) (RawN.cells ⟨1, t1, t2, t3, false, r5, r6, r7, r8, r9, ra, i, rc⟩).toArray rfl rfl 29 _ HVw.out sizeN rfl (cellsN_one _) ?_))
        obtain ⟨e1, e2⟩ := box_ret (by rw [HNe.out]; exact HBw.out) HVw.out (by rw [HNe.out]; omega) HLw.out HPN.out.2
        refine retN rfl ⟨1, t1, t2, t3, false, r5, r6, r7, r8, r9, ra, i, rc⟩ rfl (setRow_heap _ _ _ _ _ _ HVw.out) rfl ⟨⟨1, t1, t2, t3, false, r5, r6, r7, r8, r9, ra, i, rc⟩, rfl, e1, ?_⟩
        rw [HE.out]
        exact Lies.mono (fun k hk _ => HQb.out k hk) _ _ e2
set_option maxRecDepth 100000 in
set_option maxHeartbeats 12800000 in
theorem made_rep0 (h1 : 0 ≤ least) (h2 : least ≤ most) (h3 : most ≤ 1000) (hz : least = 0 ∧ most ≠ 0) (hk1 : (SynP.firstN (SynP.mkL cl kids)).kind = 1) (hkl : kids.length ≤ 1000000) (IH : ∀ x ∈ kids, MadeC cl x) : MadeC cl (.mk 10 set fold least most lazy cap name kids) := by
  have hE : SynP.mkN cl (.mk 10 set fold least most lazy cap name kids) = SynP.timesN least most lazy (SynP.firstN (SynP.mkL cl kids)) := by rw [SynP.mkN, if_neg (by omega), if_neg (by omega), if_neg (by omega), if_neg (by omega), if_pos rfl]
  have HE := Lib.hid hE
  have HIH := Lib.hid IH
  obtain ⟨rfl, hz2⟩ := hz
  clear hE IH
  have HK1 := Lib.hid hk1
  clear hk1
  intro r P w hl
  have hn := hl.kids.1
  have hmax := hl.roomS
  have hrk := hl.kind_z
  have hrm := hl.nums
  obtain ⟨N, hN⟩ : ∃ N, w.heap.size = N := ⟨_, rfl⟩
  have HNe := Lib.hid hN
  obtain ⟨r0, r1, r2, r3, r4, r5, r6, r7, r8, r9, ra, rb, rc⟩ := r
  simp only at hn hmax hrk hrm
  obtain ⟨rfl, rfl⟩ := hrm
  have hrk' : r0 = 10 := hrk
  subst hrk'
  obtain ⟨W0, hW0⟩ : ∃ W0, (w.alloc (.cells #[.int .i64 10, .slice r1 r2 r3, .bool r4, .int .i64 0, .int .i64 r6, .bool r7, .int .i64 r8, .string r9, .slice ra rb rc] 29)).alloc (.cells zeroA 29) = W0 := ⟨_, rfl⟩
  have HS0 : Hid (W0.heap.size = N + 2) := Lib.hid (by rw [← hW0]; simp [hN])
  have HB : Hid (Below N w W0) := Lib.hid (by rw [← hW0, ← hN]; exact below_two w _ _)
  have HBx : Hid (BoxN W0 N #[.int .i64 10, .slice r1 r2 r3, .bool r4, .int .i64 0, .int .i64 r6, .bool r7, .int .i64 r8, .string r9, .slice ra rb rc]) := Lib.hid (by rw [← hW0, ← hN]; exact (Below.heap_alloc _ _ _ (by simp)).trans (heap_alloc_new w _))
  have HBv : Hid (BoxN W0 (N + 1) zeroA) := Lib.hid (by
    rw [← hW0, ← hN]
    have := heap_alloc_new (w.alloc (.cells #[.int .i64 10, .slice r1 r2 r3, .bool r4, .int .i64 0, .int .i64 r6, .bool r7, .int .i64 r8, .string r9, .slice ra rb rc] 29)) (.cells zeroA 29)
    rw [World.size_alloc] at this
    exact this)
  have HL : Hid (Lies W0 (fun k => P k ∧ k < N) (.mk 10 set fold 0 r6 lazy cap name kids) ⟨10, r1, r2, r3, r4, 0, r6, r7, r8, r9, ra, rb, rc⟩) := Lib.hid (Lies.on (StandN.below (by rw [hN]; exact HB.out)) _ _ (Lies.mono (fun k hk hlt => ⟨hk, by omega⟩) _ _ hl))
  have HKn : Hid (kids.length = rb) := Lib.hid hn.symm
  obtain ⟨-, rs, hrs, hk, hls⟩ := HL.out.kids
  have HRs := Lib.hid hrs
  have HK := Lib.hid hk
  have HLs := Lib.hid hls
  have hrb : rb ≤ 1000000 := by omega
  simp only [RawN.cells]
  clear hl hn hrk hrs hk hls hkl
  go_enter Tryz.func33, Tryz.ntmps33
  go_upto_region 1 with fail
  clear hW0 hN
  have hcW : ∀ o, W0.cell? ⟨N, o, none⟩ = #[Value.int .i64 10, .slice r1 r2 r3, .bool r4, .int .i64 0, .int .i64 r6, .bool r7, .int .i64 r8, .string r9, .slice ra rb rc][o]? := fun o => Lib.cell_of_heap HBx.out o
  have y2 : (r6 == 0) = false := beq_false_of_ne hz2
  go_wp2_with fail
  clear hcW
  go_loopw [3, 23] (fun s3 s23 wr => ∃ (i : Nat) (ws : List RawN), i ≤ rb ∧ s23 = .int .i64 i ∧ Hid (KdS W0 wr (fun k => P k ∧ k < N) (SynP.mkL cl (kids.take i)) ws s3)) (fun _ s23 _ => rb + 1 - (intOf s23).toNat)
  case atStart => exact ⟨0, [], Nat.zero_le _, rfl, Lib.hid (KdS.start W0 _)⟩
  case round =>
    obtain ⟨i, ws, hi, rfl, HS⟩ := hrel
    have hlen := HS.out.len
    rw [SynP.mkL_len, List.length_take] at hlen
    obtain ⟨A2, c2, rfl, hc2, hm2⟩ := HS.out.own.form
    by_cases hlt : i < rb
    · have hii : (i : Int) < (rb : Int) := by omega
      have hi0 : (0 : Int) ≤ (i : Int) := by omega
      have hij : i < kids.length := by rw [HKn.out]; exact hlt
      have hws : ws.length + 1 ≤ 1000001 := by omega
      obtain ⟨b, off, z, rfl, hb, hz, hcz⟩ := HK.out.kid_at HRs.out HLs.out i hij
      have hF := mkL_take cl kids i hij
      obtain ⟨x, hx⟩ : ∃ x, kids[i]'hij = x := ⟨_, rfl⟩
      have hxm : x ∈ kids := by rw [← hx]; exact List.getElem_mem hij
      rw [hx] at hz hF
      have HF := Lib.hid hF
      have mm : ∀ o, o < 9 → wr.cell? ⟨b, off + (i * 9 + o), none⟩ = some (z.cells.getD o undef) := fun o ho => (HS.out.bel.cell (p := ⟨b, off + (i * 9 + o), none⟩) hb).trans (hcz o ho)
      have HCm : Hid (∀ wx, Below W0.heap.size W0 wx → Calls Tryz.prog 33 #[.agg z.cells.toArray] wx fun e w' => ∃ q : RawN, e = .returned (.agg q.cells.toArray) ∧ Below wx.heap.size wx w' ∧ Lies w' (Qw wx fun k => (P k ∧ k < N) ∧ k < W0.heap.size) (SynP.mkN cl x) q) := Lib.hid fun wx hb => HIH.out x hxm z _ wx (Lies.mono (fun k hk _ => ⟨hk, by have := HS0.out; have := hk.2; omega⟩) _ _ (Lies.on (StandN.below hb) _ _ hz))
      obtain ⟨a0, a1, a2, a3, a4, a5, a6, a7, a8, a9, aa, ab, ac⟩ := z
      simp only [RawN.cells] at HCm
      have m0 : wr.cell? ⟨b, off + i * 9, none⟩ = some (.int .i64 a0) := mm 0 (by decide)
      have m1 : wr.cell? ⟨b, off + i * 9 + 1, none⟩ = some (.slice a1 a2 a3) := mm 1 (by decide)
      have m2 : wr.cell? ⟨b, off + i * 9 + 2, none⟩ = some (.bool a4) := mm 2 (by decide)
      have m3 : wr.cell? ⟨b, off + i * 9 + 3, none⟩ = some (.int .i64 a5) := mm 3 (by decide)
      have m4 : wr.cell? ⟨b, off + i * 9 + 4, none⟩ = some (.int .i64 a6) := mm 4 (by decide)
      have m5 : wr.cell? ⟨b, off + i * 9 + 5, none⟩ = some (.bool a7) := mm 5 (by decide)
      have m6 : wr.cell? ⟨b, off + i * 9 + 6, none⟩ = some (.int .i64 a8) := mm 6 (by decide)
      have m7 : wr.cell? ⟨b, off + i * 9 + 7, none⟩ = some (.string a9) := mm 7 (by decide)
      have m8 : wr.cell? ⟨b, off + i * 9 + 8, none⟩ = some (.slice aa ab ac) := mm 8 (by decide)
      have HSa : Hid (∀ o : Obj, KdS W0 (wr.alloc o) (fun k => P k ∧ k < N) (SynP.mkL cl (kids.take i)) ws (.slice A2 ws.length c2)) := Lib.hid fun o => HS.out.below ((Below.refl _ wr).alloc (Nat.le_refl _) o)
      clear hcz hz hx hF hxm mm hlen
      go_wp2_with (first
        | (go_at_call 33; refine (HCm.out _ (HSa.out _).bel).mono ?_; rintro e w4 ⟨⟨q0, q1, q2, q3, q4, q5, q6, q7, q8, q9, qa, qb, qc⟩, rfl, hb4, hl4⟩; have HS4 := Lib.hid ((HSa.out _).below hb4); have HL4 := Lib.hid ((HSa.out _).made hl4); clear hb4 hl4)
        | (at_builtin; refine wpList_append_one (E := Enode) (base := W0.heap.size) (l := ws) ⟨q0, q1, q2, q3, q4, q5, q6, q7, q8, q9, qa, qb, qc⟩ ⟨w4.heap.size, 0, none⟩ 1 rfl (.tmp 27) (.tmp 30) 27 (by rfl) 112 elNode (by rfl) (HS4.out.own.alloc _) (by rfl) (by exact news_new w4 _ _ _ rfl) (by unfold maxLen; omega) (by omega) ?_; intro v2 w2 ho2 hg2 hat2; have hba := (Below.refl w4.heap.size w4).alloc (Nat.le_refl _) (.cells #[.int .i64 q0, .slice q1 q2 q3, .bool q4, .int .i64 q5, .int .i64 q6, .bool q7, .int .i64 q8, .string q9, .slice qa qb qc] 29); have HS2 := Lib.hid ((HS4.out.below hba).push ho2 hg2 hat2 (Lies.on (StandN.below hba) _ _ HL4.out)); clear ho2 hg2 hat2 hba))
      exact ⟨⟨i + 1, _, by omega, by simp, by rw [HF.out]; exact HS2⟩, by simp only [intOf]; omega⟩
    · obtain rfl : i = rb := by omega
      have hii : ¬ (i : Int) < (i : Int) := by omega
      have hT : kids.take i = kids := List.take_of_length_le (by rw [HKn.out]; exact Nat.le_refl _)
      rw [hT] at HS
      have HSe := HS
      have HC2 := Lib.hid (And.intro hc2 hm2)
      have HXr : Hid (BoxN wr N #[.int .i64 10, .slice r1 r2 r3, .bool r4, .int .i64 0, .int .i64 r6, .bool r7, .int .i64 r8, .string r9, .slice ra i rc]) := Lib.hid ((HSe.out.bel.block N HBx.out.lt).trans HBx.out)
      have HVr : Hid (BoxN wr (N + 1) zeroA) := Lib.hid ((HSe.out.bel.block (N + 1) HBv.out.lt).trans HBv.out)
      have HBr : Hid (Below N w wr) := Lib.hid (HB.out.trans (HSe.out.bel.mono (by have := HS0.out; omega)))
      have hcr : ∀ o, wr.cell? ⟨N, o, none⟩ = #[Value.int .i64 10, .slice r1 r2 r3, .bool r4, .int .i64 0, .int .i64 r6, .bool r7, .int .i64 r8, .string r9, .slice ra i rc][o]? := fun o => Lib.cell_of_heap HXr.out o
      have hzr : ∀ o, wr.frozen? ⟨N, o, none⟩ = false := fun o => frozen_box HXr.out o
      have HPN : Hid (¬ Qw W0 (fun k => P k ∧ k < N) N ∧ ¬ Qw W0 (fun k => P k ∧ k < N) (N + 1)) := Lib.hid ⟨by
        rintro (⟨⟨_, h⟩, _⟩ | h)
        · exact absurd h (Nat.lt_irrefl _)
        · have := HS0.out; omega, by
        rintro (⟨⟨_, h⟩, _⟩ | h)
        · omega
        · have := HS0.out; omega⟩
      have HQb : Hid (∀ k, Qw W0 (fun k => P k ∧ k < N) k → Qw w P k) := Lib.hid fun k hk => by
        have h0 := HS0.out
        have h1 := HNe.out
        rcases hk with ⟨⟨h2, h3⟩, _⟩ | h2
        · exact .inl ⟨h2, by omega⟩
        · exact .inr (by omega)
      clear HS hT hc2 hm2 hlen
      have HFi : Hid (Lies wr (Qw W0 (fun k => P k ∧ k < N)) (.mk 0 none false 0 0 false 0 [] (SynP.mkL cl kids)) (manyN 0 A2 ws.length c2)) := Lib.hid (Lies.many HSe.out.len HC2.out.1 HC2.out.2 HSe.out.kids HSe.out.all)
      have HRm := Lib.hid (And.intro h1 (And.intro h2 h3))
      have hzl : r7 = lazy := HL.out.lazy_
      have HZl := Lib.hid hzl
      clear hzl
      go_upto_region 21 with fail
      go_region_with (first
        | (go_at_call 69; refine (first_any (Qw W0 (fun k => P k ∧ k < N)) 0 none false 0 0 false 0 [] (SynP.mkL cl kids) (manyN 0 A2 ws.length c2) _ (by first | exact HFi.out | exact Lies.on (StandN.below (below_drewN (Below.refl _ wr) 1)) _ _ HFi.out)).mono ?_; rintro e w4 ⟨q4, rfl, hb4, hl4⟩; have HB4 : Hid (Below wr.heap.size wr w4) := Lib.hid (by first | exact hb4 | exact below_of_drewN (n := 1) hb4); have HX4 : Hid (BoxN w4 N #[.int .i64 10, .slice r1 r2 r3, .bool r4, .int .i64 0, .int .i64 r6, .bool r7, .int .i64 r8, .string r9, .slice ra i rc]) := Lib.hid ((HB4.out.block N HXr.out.lt).trans HXr.out); have HL4 := Lib.hid hl4; replace hcr : ∀ o, w4.cell? ⟨N, o, none⟩ = #[Value.int .i64 10, .slice r1 r2 r3, .bool r4, .int .i64 0, .int .i64 r6, .bool r7, .int .i64 r8, .string r9, .slice ra i rc][o]? := fun o => Lib.cell_of_heap HX4.out o; clear hb4 hl4)
        | (go_at_call 73; refine (repeat_any (Qw W0 (fun k => P k ∧ k < N)) _ HK1.out ⟨10, r1, r2, r3, r4, 0, r6, r7, r8, r9, ra, i, rc⟩ q4 _ HRm.out.1 HRm.out.2.1 HRm.out.2.2 HL4.out).mono ?_; rintro e w5 ⟨⟨y0, y1, y2, y3, y4, y5, y6, y7, y8, y9, ya, yb, yc⟩, rfl, hb5, hl5⟩; have HB5 := Lib.hid (HB4.out.trans (hb5.mono HB4.out.size)); have HBw := Lib.hid (HBr.out.trans (HB5.out.mono (by have := HBr.out.size; have := HNe.out; omega))); have HVw : Hid (BoxN w5 (N + 1) zeroA) := Lib.hid ((HB5.out.block (N + 1) HVr.out.lt).trans HVr.out); have HLw := Lib.hid (Lies.mono (A' := Qw W0 (fun k => P k ∧ k < N)) (fun k hk _ => hk.elim (fun h => h.1) (fun h => .inr (Nat.le_trans HSe.out.bel.size (Nat.le_trans HB4.out.size h)))) _ _ hl5); have hcv : ∀ o, w5.cell? ⟨N + 1, o, none⟩ = zeroA[o]? := fun o => Lib.cell_of_heap HVw.out o; have hzv : ∀ o, w5.frozen? ⟨N + 1, o, none⟩ = false := fun o => frozen_box HVw.out o; clear hb5 hl5; simp only [RawN.cells]))
      all_goals
        obtain ⟨p1, p2, p3⟩ := put_box HVw.out ⟨y0, y1, y2, y3, y4, y5, y6, y7, y8, y9, ya, yb, yc⟩ HPN.out.2
        go_wp2_with fail
        refine retN rfl ⟨y0, y1, y2, y3, y4, y5, y6, y7, y8, y9, ya, yb, yc⟩ rfl p1 rfl ⟨_, rfl, by rw [HNe.out]; exact HBw.out.trans (p3.mono (Nat.le_succ _)), ?_⟩
        rw [HE.out, ← HZl.out]
        exact Lies.mono (fun k hk _ => HQb.out k hk) _ _ (Lies.on p2 _ _ HLw.out)
set_option maxRecDepth 100000 in
set_option maxHeartbeats 12800000 in
theorem made_rep1 (h1 : 0 ≤ least) (h2 : least ≤ most) (h3 : most ≤ 1000) (hz : least ≠ 0) (hk1 : (SynP.firstN (SynP.mkL cl kids)).kind = 1) (hkl : kids.length ≤ 1000000) (IH : ∀ x ∈ kids, MadeC cl x) : MadeC cl (.mk 10 set fold least most lazy cap name kids) := by
  have hE : SynP.mkN cl (.mk 10 set fold least most lazy cap name kids) = SynP.timesN least most lazy (SynP.firstN (SynP.mkL cl kids)) := by rw [SynP.mkN, if_neg (by omega), if_neg (by omega), if_neg (by omega), if_neg (by omega), if_pos rfl]
  have HE := Lib.hid hE
  have HIH := Lib.hid IH
  clear hE IH
  have HK1 := Lib.hid hk1
  clear hk1
  intro r P w hl
  have hn := hl.kids.1
  have hmax := hl.roomS
  have hrk := hl.kind_z
  have hrm := hl.nums
  obtain ⟨N, hN⟩ : ∃ N, w.heap.size = N := ⟨_, rfl⟩
  have HNe := Lib.hid hN
  obtain ⟨r0, r1, r2, r3, r4, r5, r6, r7, r8, r9, ra, rb, rc⟩ := r
  simp only at hn hmax hrk hrm
  obtain ⟨rfl, rfl⟩ := hrm
  have hrk' : r0 = 10 := hrk
  subst hrk'
  obtain ⟨W0, hW0⟩ : ∃ W0, (w.alloc (.cells #[.int .i64 10, .slice r1 r2 r3, .bool r4, .int .i64 r5, .int .i64 r6, .bool r7, .int .i64 r8, .string r9, .slice ra rb rc] 29)).alloc (.cells zeroA 29) = W0 := ⟨_, rfl⟩
  have HS0 : Hid (W0.heap.size = N + 2) := Lib.hid (by rw [← hW0]; simp [hN])
  have HB : Hid (Below N w W0) := Lib.hid (by rw [← hW0, ← hN]; exact below_two w _ _)
  have HBx : Hid (BoxN W0 N #[.int .i64 10, .slice r1 r2 r3, .bool r4, .int .i64 r5, .int .i64 r6, .bool r7, .int .i64 r8, .string r9, .slice ra rb rc]) := Lib.hid (by rw [← hW0, ← hN]; exact (Below.heap_alloc _ _ _ (by simp)).trans (heap_alloc_new w _))
  have HBv : Hid (BoxN W0 (N + 1) zeroA) := Lib.hid (by
    rw [← hW0, ← hN]
    have := heap_alloc_new (w.alloc (.cells #[.int .i64 10, .slice r1 r2 r3, .bool r4, .int .i64 r5, .int .i64 r6, .bool r7, .int .i64 r8, .string r9, .slice ra rb rc] 29)) (.cells zeroA 29)
    rw [World.size_alloc] at this
    exact this)
  have HL : Hid (Lies W0 (fun k => P k ∧ k < N) (.mk 10 set fold r5 r6 lazy cap name kids) ⟨10, r1, r2, r3, r4, r5, r6, r7, r8, r9, ra, rb, rc⟩) := Lib.hid (Lies.on (StandN.below (by rw [hN]; exact HB.out)) _ _ (Lies.mono (fun k hk hlt => ⟨hk, by omega⟩) _ _ hl))
  have HKn : Hid (kids.length = rb) := Lib.hid hn.symm
  obtain ⟨-, rs, hrs, hk, hls⟩ := HL.out.kids
  have HRs := Lib.hid hrs
  have HK := Lib.hid hk
  have HLs := Lib.hid hls
  have hrb : rb ≤ 1000000 := by omega
  simp only [RawN.cells]
  clear hl hn hrk hrs hk hls hkl
  go_enter Tryz.func33, Tryz.ntmps33
  go_upto_region 1 with fail
  clear hW0 hN
  have hcW : ∀ o, W0.cell? ⟨N, o, none⟩ = #[Value.int .i64 10, .slice r1 r2 r3, .bool r4, .int .i64 r5, .int .i64 r6, .bool r7, .int .i64 r8, .string r9, .slice ra rb rc][o]? := fun o => Lib.cell_of_heap HBx.out o
  have y1 : (r5 == 0) = false := beq_false_of_ne hz
  go_wp2_with fail
  clear hcW
  go_loopw [3, 23] (fun s3 s23 wr => ∃ (i : Nat) (ws : List RawN), i ≤ rb ∧ s23 = .int .i64 i ∧ Hid (KdS W0 wr (fun k => P k ∧ k < N) (SynP.mkL cl (kids.take i)) ws s3)) (fun _ s23 _ => rb + 1 - (intOf s23).toNat)
  case atStart => exact ⟨0, [], Nat.zero_le _, rfl, Lib.hid (KdS.start W0 _)⟩
  case round =>
    obtain ⟨i, ws, hi, rfl, HS⟩ := hrel
    have hlen := HS.out.len
    rw [SynP.mkL_len, List.length_take] at hlen
    obtain ⟨A2, c2, rfl, hc2, hm2⟩ := HS.out.own.form
    by_cases hlt : i < rb
    · have hii : (i : Int) < (rb : Int) := by omega
      have hi0 : (0 : Int) ≤ (i : Int) := by omega
      have hij : i < kids.length := by rw [HKn.out]; exact hlt
      have hws : ws.length + 1 ≤ 1000001 := by omega
      obtain ⟨b, off, z, rfl, hb, hz, hcz⟩ := HK.out.kid_at HRs.out HLs.out i hij
      have hF := mkL_take cl kids i hij
      obtain ⟨x, hx⟩ : ∃ x, kids[i]'hij = x := ⟨_, rfl⟩
      have hxm : x ∈ kids := by rw [← hx]; exact List.getElem_mem hij
      rw [hx] at hz hF
      have HF := Lib.hid hF
      have mm : ∀ o, o < 9 → wr.cell? ⟨b, off + (i * 9 + o), none⟩ = some (z.cells.getD o undef) := fun o ho => (HS.out.bel.cell (p := ⟨b, off + (i * 9 + o), none⟩) hb).trans (hcz o ho)
      have HCm : Hid (∀ wx, Below W0.heap.size W0 wx → Calls Tryz.prog 33 #[.agg z.cells.toArray] wx fun e w' => ∃ q : RawN, e = .returned (.agg q.cells.toArray) ∧ Below wx.heap.size wx w' ∧ Lies w' (Qw wx fun k => (P k ∧ k < N) ∧ k < W0.heap.size) (SynP.mkN cl x) q) := Lib.hid fun wx hb => HIH.out x hxm z _ wx (Lies.mono (fun k hk _ => ⟨hk, by have := HS0.out; have := hk.2; omega⟩) _ _ (Lies.on (StandN.below hb) _ _ hz))
      obtain ⟨a0, a1, a2, a3, a4, a5, a6, a7, a8, a9, aa, ab, ac⟩ := z
      simp only [RawN.cells] at HCm
      have m0 : wr.cell? ⟨b, off + i * 9, none⟩ = some (.int .i64 a0) := mm 0 (by decide)
      have m1 : wr.cell? ⟨b, off + i * 9 + 1, none⟩ = some (.slice a1 a2 a3) := mm 1 (by decide)
      have m2 : wr.cell? ⟨b, off + i * 9 + 2, none⟩ = some (.bool a4) := mm 2 (by decide)
      have m3 : wr.cell? ⟨b, off + i * 9 + 3, none⟩ = some (.int .i64 a5) := mm 3 (by decide)
      have m4 : wr.cell? ⟨b, off + i * 9 + 4, none⟩ = some (.int .i64 a6) := mm 4 (by decide)
      have m5 : wr.cell? ⟨b, off + i * 9 + 5, none⟩ = some (.bool a7) := mm 5 (by decide)
      have m6 : wr.cell? ⟨b, off + i * 9 + 6, none⟩ = some (.int .i64 a8) := mm 6 (by decide)
      have m7 : wr.cell? ⟨b, off + i * 9 + 7, none⟩ = some (.string a9) := mm 7 (by decide)
      have m8 : wr.cell? ⟨b, off + i * 9 + 8, none⟩ = some (.slice aa ab ac) := mm 8 (by decide)
      have HSa : Hid (∀ o : Obj, KdS W0 (wr.alloc o) (fun k => P k ∧ k < N) (SynP.mkL cl (kids.take i)) ws (.slice A2 ws.length c2)) := Lib.hid fun o => HS.out.below ((Below.refl _ wr).alloc (Nat.le_refl _) o)
      clear hcz hz hx hF hxm mm hlen
      go_wp2_with (first
        | (go_at_call 33; refine (HCm.out _ (HSa.out _).bel).mono ?_; rintro e w4 ⟨⟨q0, q1, q2, q3, q4, q5, q6, q7, q8, q9, qa, qb, qc⟩, rfl, hb4, hl4⟩; have HS4 := Lib.hid ((HSa.out _).below hb4); have HL4 := Lib.hid ((HSa.out _).made hl4); clear hb4 hl4)
        | (at_builtin; refine wpList_append_one (E := Enode) (base := W0.heap.size) (l := ws) ⟨q0, q1, q2, q3, q4, q5, q6, q7, q8, q9, qa, qb, qc⟩ ⟨w4.heap.size, 0, none⟩ 1 rfl (.tmp 27) (.tmp 30) 27 (by rfl) 112 elNode (by rfl) (HS4.out.own.alloc _) (by rfl) (by exact news_new w4 _ _ _ rfl) (by unfold maxLen; omega) (by omega) ?_; intro v2 w2 ho2 hg2 hat2; have hba := (Below.refl w4.heap.size w4).alloc (Nat.le_refl _) (.cells #[.int .i64 q0, .slice q1 q2 q3, .bool q4, .int .i64 q5, .int .i64 q6, .bool q7, .int .i64 q8, .string q9, .slice qa qb qc] 29); have HS2 := Lib.hid ((HS4.out.below hba).push ho2 hg2 hat2 (Lies.on (StandN.below hba) _ _ HL4.out)); clear ho2 hg2 hat2 hba))
      exact ⟨⟨i + 1, _, by omega, by simp, by rw [HF.out]; exact HS2⟩, by simp only [intOf]; omega⟩
    · obtain rfl : i = rb := by omega
      have hii : ¬ (i : Int) < (i : Int) := by omega
      have hT : kids.take i = kids := List.take_of_length_le (by rw [HKn.out]; exact Nat.le_refl _)
      rw [hT] at HS
      have HSe := HS
      have HC2 := Lib.hid (And.intro hc2 hm2)
      have HXr : Hid (BoxN wr N #[.int .i64 10, .slice r1 r2 r3, .bool r4, .int .i64 r5, .int .i64 r6, .bool r7, .int .i64 r8, .string r9, .slice ra i rc]) := Lib.hid ((HSe.out.bel.block N HBx.out.lt).trans HBx.out)
      have HVr : Hid (BoxN wr (N + 1) zeroA) := Lib.hid ((HSe.out.bel.block (N + 1) HBv.out.lt).trans HBv.out)
      have HBr : Hid (Below N w wr) := Lib.hid (HB.out.trans (HSe.out.bel.mono (by have := HS0.out; omega)))
      have hcr : ∀ o, wr.cell? ⟨N, o, none⟩ = #[Value.int .i64 10, .slice r1 r2 r3, .bool r4, .int .i64 r5, .int .i64 r6, .bool r7, .int .i64 r8, .string r9, .slice ra i rc][o]? := fun o => Lib.cell_of_heap HXr.out o
      have hzr : ∀ o, wr.frozen? ⟨N, o, none⟩ = false := fun o => frozen_box HXr.out o
      have HPN : Hid (¬ Qw W0 (fun k => P k ∧ k < N) N ∧ ¬ Qw W0 (fun k => P k ∧ k < N) (N + 1)) := Lib.hid ⟨by
        rintro (⟨⟨_, h⟩, _⟩ | h)
        · exact absurd h (Nat.lt_irrefl _)
        · have := HS0.out; omega, by
        rintro (⟨⟨_, h⟩, _⟩ | h)
        · omega
        · have := HS0.out; omega⟩
      have HQb : Hid (∀ k, Qw W0 (fun k => P k ∧ k < N) k → Qw w P k) := Lib.hid fun k hk => by
        have h0 := HS0.out
        have h1 := HNe.out
        rcases hk with ⟨⟨h2, h3⟩, _⟩ | h2
        · exact .inl ⟨h2, by omega⟩
        · exact .inr (by omega)
      clear HS hT hc2 hm2 hlen
      have HFi : Hid (Lies wr (Qw W0 (fun k => P k ∧ k < N)) (.mk 0 none false 0 0 false 0 [] (SynP.mkL cl kids)) (manyN 0 A2 ws.length c2)) := Lib.hid (Lies.many HSe.out.len HC2.out.1 HC2.out.2 HSe.out.kids HSe.out.all)
      have HRm := Lib.hid (And.intro h1 (And.intro h2 h3))
      have hzl : r7 = lazy := HL.out.lazy_
      have HZl := Lib.hid hzl
      clear hzl
      go_upto_region 21 with fail
      go_region_with (first
        | (go_at_call 69; refine (first_any (Qw W0 (fun k => P k ∧ k < N)) 0 none false 0 0 false 0 [] (SynP.mkL cl kids) (manyN 0 A2 ws.length c2) _ (by first | exact HFi.out | exact Lies.on (StandN.below (below_drewN (Below.refl _ wr) 1)) _ _ HFi.out)).mono ?_; rintro e w4 ⟨q4, rfl, hb4, hl4⟩; have HB4 : Hid (Below wr.heap.size wr w4) := Lib.hid (by first | exact hb4 | exact below_of_drewN (n := 1) hb4); have HX4 : Hid (BoxN w4 N #[.int .i64 10, .slice r1 r2 r3, .bool r4, .int .i64 r5, .int .i64 r6, .bool r7, .int .i64 r8, .string r9, .slice ra i rc]) := Lib.hid ((HB4.out.block N HXr.out.lt).trans HXr.out); have HL4 := Lib.hid hl4; replace hcr : ∀ o, w4.cell? ⟨N, o, none⟩ = #[Value.int .i64 10, .slice r1 r2 r3, .bool r4, .int .i64 r5, .int .i64 r6, .bool r7, .int .i64 r8, .string r9, .slice ra i rc][o]? := fun o => Lib.cell_of_heap HX4.out o; clear hb4 hl4)
        | (go_at_call 73; refine (repeat_any (Qw W0 (fun k => P k ∧ k < N)) _ HK1.out ⟨10, r1, r2, r3, r4, r5, r6, r7, r8, r9, ra, i, rc⟩ q4 _ HRm.out.1 HRm.out.2.1 HRm.out.2.2 HL4.out).mono ?_; rintro e w5 ⟨⟨y0, y1, y2, y3, y4, y5, y6, y7, y8, y9, ya, yb, yc⟩, rfl, hb5, hl5⟩; have HB5 := Lib.hid (HB4.out.trans (hb5.mono HB4.out.size)); have HBw := Lib.hid (HBr.out.trans (HB5.out.mono (by have := HBr.out.size; have := HNe.out; omega))); have HVw : Hid (BoxN w5 (N + 1) zeroA) := Lib.hid ((HB5.out.block (N + 1) HVr.out.lt).trans HVr.out); have HLw := Lib.hid (Lies.mono (A' := Qw W0 (fun k => P k ∧ k < N)) (fun k hk _ => hk.elim (fun h => h.1) (fun h => .inr (Nat.le_trans HSe.out.bel.size (Nat.le_trans HB4.out.size h)))) _ _ hl5); have hcv : ∀ o, w5.cell? ⟨N + 1, o, none⟩ = zeroA[o]? := fun o => Lib.cell_of_heap HVw.out o; have hzv : ∀ o, w5.frozen? ⟨N + 1, o, none⟩ = false := fun o => frozen_box HVw.out o; clear hb5 hl5; simp only [RawN.cells]))
      all_goals
        obtain ⟨p1, p2, p3⟩ := put_box HVw.out ⟨y0, y1, y2, y3, y4, y5, y6, y7, y8, y9, ya, yb, yc⟩ HPN.out.2
        go_wp2_with fail
        refine retN rfl ⟨y0, y1, y2, y3, y4, y5, y6, y7, y8, y9, ya, yb, yc⟩ rfl p1 rfl ⟨_, rfl, by rw [HNe.out]; exact HBw.out.trans (p3.mono (Nat.le_succ _)), ?_⟩
        rw [HE.out, ← HZl.out]
        exact Lies.mono (fun k hk _ => HQb.out k hk) _ _ (Lies.on p2 _ _ HLw.out)
end
end Go.Proofs.YtblkejnckbeieaaGreatDoor
