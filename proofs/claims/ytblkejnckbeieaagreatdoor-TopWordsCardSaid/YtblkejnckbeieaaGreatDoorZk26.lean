/- Chapter 12: the walk of Count. -/
import Derived.Test.YtblkejnckbeieaaGreatDoorZk25
namespace Go.Proofs.YtblkejnckbeieaaGreatDoor
open Go.RowKit SetPure

theorem Lies.nums {w : World} {P : Nat → Prop} {kind : Nat} {set : Option (Int → Bool)} {fold : Bool} {least most : Int} {lazy : Bool} {cap : Nat} {name : List UInt8} {kids : List SynP.Nd} {r : RawN} (h : Lies w P (.mk kind set fold least most lazy cap name kids) r) : r.mn = least ∧ r.mx = most := by
  unfold Lies at h
  exact ⟨h.2.2.2.1, h.2.2.2.2.1⟩
theorem Lies.roomS {w : World} {P : Nat → Prop} {kind : Nat} {set : Option (Int → Bool)} {fold : Bool} {least most : Int} {lazy : Bool} {cap : Nat} {name : List UInt8} {kids : List SynP.Nd} {r : RawN} (h : Lies w P (.mk kind set fold least most lazy cap name kids) r) : (r.kn : Int) ≤ 9223372036854775807 := by
  unfold Lies at h
  obtain ⟨-, -, -, -, -, -, -, -, -, h1, h2, -⟩ := h
  unfold maxLen at h2
  omega
/-- Count tells how many nodes a tree comes to. -/
def CountC (nd : SynP.Nd) : Prop := ∀ (r : RawN) (P : Nat → Prop) (w : World), Lies w P nd r → Calls Tryz.prog 32 #[.agg r.cells.toArray] w fun e w' => e = .returned (.int .i64 (SynP.cntN nd)) ∧ Below w.heap.size w w'
theorem cntH_first (l : List SynP.Nd) : SynP.cntH l = SynP.cntN (SynP.firstN l) := by
  cases l with
  | nil => unfold SynP.cntH SynP.firstN SynP.Nd.leaf SynP.cntN; rw [if_neg (by omega), if_neg (by omega), if_neg (by omega)]
  | cons x l => unfold SynP.cntH; rfl

set_option maxHeartbeats 800000 in
theorem capped_any (n : Int) (w : World) : Calls Tryz.prog 68 #[.int .i64 n] w fun e w' => e = .returned (.int .i64 (SynP.capN n)) ∧ w = w' := by
  go_enter Tryz.func68, Tryz.ntmps68
  go_wp2
  go_ret
  exact ⟨ret_int (by unfold SynP.capN; omega), rfl⟩

section
variable (set : Option (Int → Bool)) (fold : Bool) (least most : Int) (lazy : Bool) (cap : Nat) (name : List UInt8) (kids : List SynP.Nd)
set_option maxRecDepth 100000 in
set_option maxHeartbeats 6400000 in
theorem count_8 (IH : ∀ x ∈ kids, CountC x) (hf : SynP.fewL kids) : CountC (.mk 8 set fold least most lazy cap name kids) := by
  have HIH := Lib.hid IH
  have HF := Lib.hid hf
  have hE : SynP.cntN (.mk 8 set fold least most lazy cap name kids) = SynP.cntS 1 kids := by rw [SynP.cntN, if_pos (by omega)]
  have HE := Lib.hid hE
  clear IH hf hE
  intro r P w hl
  have hn := hl.kids.1
  have hmax := hl.roomS
  have hrk := hl.kind_z
  have hrm := hl.nums
  obtain ⟨N, hN⟩ : ∃ N, w.heap.size = N := ⟨_, rfl⟩
  have HNe := Lib.hid hN
  have HL := Lib.hid hl
  have HX : Hid (BoxN (w.alloc (.cells r.cells.toArray 29)) N r.cells.toArray) := Lib.hid (by rw [← hN]; exact heap_alloc_new w _)
  have HB : Hid (Below N w (w.alloc (.cells r.cells.toArray 29))) := Lib.hid (by rw [← hN]; exact (Below.refl _ _).alloc (Nat.le_refl _) _)
  obtain ⟨r0, r1, r2, r3, r4, r5, r6, r7, r8, r9, ra, rb, rc⟩ := r
  simp only at hn hmax hrk hrm
  obtain ⟨rfl, rfl⟩ := hrm
  have hrk' : r0 = 8 := hrk
  subst hrk'
  have HKn : Hid (kids.length = rb) := Lib.hid hn.symm
  simp only [RawN.cells] at HX HB ⊢
  clear hl hN hn hrk
  go_enter Tryz.func32, Tryz.ntmps32
  go_upto_region 1 with fail
  rw [HNe.out]
  generalize w.alloc (.cells #[.int .i64 8, .slice r1 r2 r3, .bool r4, .int .i64 r5, .int .i64 r6, .bool r7, .int .i64 r8, .string r9, .slice ra rb rc] 29) = W at HX HB ⊢
  have hcW : ∀ o, W.cell? ⟨N, o, none⟩ = #[Value.int .i64 8, .slice r1 r2 r3, .bool r4, .int .i64 r5, .int .i64 r6, .bool r7, .int .i64 r8, .string r9, .slice ra rb rc][o]? := fun o => Lib.cell_of_heap HX.out o
  have HLs : Hid (∀ w', Below N w w' → KidsAt w' P ra (HL.out.kids.2.choose) ∧ LiesL w' P kids HL.out.kids.2.choose) := Lib.hid fun w' hb => ⟨KidsAt.on HL.out.kids.2.choose_spec.2.1 (StandN.below (by rw [HNe.out]; exact hb)), LiesL.on (StandN.below (by rw [HNe.out]; exact hb)) _ _ HL.out.kids.2.choose_spec.2.2⟩
  have HLn : Hid (HL.out.kids.2.choose.length = kids.length) := Lib.hid HL.out.kids.2.choose_spec.1
  generalize HL.out.kids.2.choose = rs at HLs HLn
  clear HL
  go_upto_region 5 with fail
  go_wp2_with fail
  clear hcW
  go_loopw [3, 16] (fun s3 s16 wr => ∃ i : Nat, i ≤ rb ∧ s16 = .int .i64 i ∧ s3 = .int .i64 (SynP.cntS 1 (kids.take i)) ∧ Hid (Below N w wr)) (fun _ s16 _ => rb + 1 - (intOf s16).toNat)
  case atStart => exact ⟨0, Nat.zero_le _, rfl, by simp [SynP.cntS], HB⟩
  case round =>
    obtain ⟨i, hi, rfl, rfl, HS⟩ := hrel
    have zN : N ≤ wr.heap.size := by have := HS.out.size; have := HNe.out; omega
    by_cases hlt : i < rb
    · have hii : (i : Int) < (rb : Int) := by omega
      have hi0 : (0 : Int) ≤ (i : Int) := by omega
      have hij : i < kids.length := by rw [HKn.out]; exact hlt
      obtain ⟨b, off, z, rfl, hb, hz, y1⟩ := (HLs.out wr HS.out).1.kid_at HLn.out (HLs.out wr HS.out).2 i hij
      have hT := SynP.cntS_take kids 1 i hij
      have hs := SynP.cntS_bd (kids.take i) (SynP.fewL_take HF.out i) 1 (by omega) (by omega)
      obtain ⟨x, hx⟩ : ∃ x, kids[i]'hij = x := ⟨_, rfl⟩
      rw [hx] at hz hT
      have hxm : x ∈ kids := by rw [← hx]; exact List.getElem_mem hij
      have hc := SynP.cntN_bd x (SynP.fewL_mem HF.out x hxm)
      have HC : Hid (∀ wx, Below wr.heap.size wr wx → Calls Tryz.prog 32 #[.agg z.cells.toArray] wx fun e w' => e = .returned (.int .i64 (SynP.cntN x)) ∧ Below wx.heap.size wx w') := Lib.hid fun wx hb => HIH.out x hxm z P wx (Lies.on (StandN.below hb) _ _ hz)
      have HT := Lib.hid hT
      generalize SynP.cntS 1 (kids.take i) = s at hs HT ⊢
      generalize SynP.cntN x = c at hc HT HC
      obtain ⟨a0, a1, a2, a3, a4, a5, a6, a7, a8, a9, aa, ab, ac⟩ := z
      simp only [RawN.cells] at HC
      have m0 : wr.cell? ⟨b, off + i * 9, none⟩ = some (.int .i64 a0) := y1 0 (by decide)
      have m1 : wr.cell? ⟨b, off + i * 9 + 1, none⟩ = some (.slice a1 a2 a3) := y1 1 (by decide)
      have m2 : wr.cell? ⟨b, off + i * 9 + 2, none⟩ = some (.bool a4) := y1 2 (by decide)
      have m3 : wr.cell? ⟨b, off + i * 9 + 3, none⟩ = some (.int .i64 a5) := y1 3 (by decide)
      have m4 : wr.cell? ⟨b, off + i * 9 + 4, none⟩ = some (.int .i64 a6) := y1 4 (by decide)
      have m5 : wr.cell? ⟨b, off + i * 9 + 5, none⟩ = some (.bool a7) := y1 5 (by decide)
      have m6 : wr.cell? ⟨b, off + i * 9 + 6, none⟩ = some (.int .i64 a8) := y1 6 (by decide)
      have m7 : wr.cell? ⟨b, off + i * 9 + 7, none⟩ = some (.string a9) := y1 7 (by decide)
      have m8 : wr.cell? ⟨b, off + i * 9 + 8, none⟩ = some (.slice aa ab ac) := y1 8 (by decide)
      have HBa : Hid (∀ o : Obj, Below wr.heap.size wr (wr.alloc o)) := Lib.hid fun o => (Below.refl _ wr).alloc (Nat.le_refl _) _
      clear y1 hx hz hxm hT
      go_wp2_with (first
        | (refine wpList_store_newN rfl 29 (.tmp 5) (.tmp 19) rfl _ #[.int .i64 a0, .slice a1 a2 a3, .bool a4, .int .i64 a5, .int .i64 a6, .bool a7, .int .i64 a8, .string a9, .slice aa ab ac] rfl rfl 29 sizeN rfl (cellsN_one ⟨a0, a1, a2, a3, a4, a5, a6, a7, a8, a9, aa, ab, ac⟩) ?_)
        | (go_at_call 32; refine (HC.out _ (HBa.out _)).mono ?_; rintro e w4 ⟨rfl, hb4⟩; have HS4 := Lib.hid (HS.out.trans (((HBa.out (.cells #[.int .i64 a0, .slice a1 a2 a3, .bool a4, .int .i64 a5, .int .i64 a6, .bool a7, .int .i64 a8, .string a9, .slice aa ab ac] 29)).trans (hb4.mono (by simp))).mono zN)); clear hb4)
        | (go_at_call 68; refine (capped_any _ _).mono ?_; rintro e w5 ⟨rfl, rfl⟩))
      exact ⟨⟨i + 1, by omega, by simp, by rw [HT.out], HS4⟩, by simp only [intOf]; omega⟩
    · obtain rfl : i = rb := by omega
      have hii : ¬ (i : Int) < (i : Int) := by omega
      have hT : kids.take i = kids := List.take_of_length_le (by rw [HKn.out]; exact Nat.le_refl _)
      rw [hT]
      have HS' := HS
      clear HS
      go_wp2_with fail
      go_ret
      exact ⟨by rw [HE.out]; rfl, by rw [HNe.out]; exact HS'.out⟩
set_option maxRecDepth 100000 in
set_option maxHeartbeats 6400000 in
theorem count_9 (IH : ∀ x ∈ kids, CountC x) (hf : SynP.fewL kids) : CountC (.mk 9 set fold least most lazy cap name kids) := by
  have HIH := Lib.hid IH
  have HF := Lib.hid hf
  have hE : SynP.cntN (.mk 9 set fold least most lazy cap name kids) = SynP.cntS 1 kids := by rw [SynP.cntN, if_pos (by omega)]
  have HE := Lib.hid hE
  clear IH hf hE
  intro r P w hl
  have hn := hl.kids.1
  have hmax := hl.roomS
  have hrk := hl.kind_z
  have hrm := hl.nums
  obtain ⟨N, hN⟩ : ∃ N, w.heap.size = N := ⟨_, rfl⟩
  have HNe := Lib.hid hN
  have HL := Lib.hid hl
  have HX : Hid (BoxN (w.alloc (.cells r.cells.toArray 29)) N r.cells.toArray) := Lib.hid (by rw [← hN]; exact heap_alloc_new w _)
  have HB : Hid (Below N w (w.alloc (.cells r.cells.toArray 29))) := Lib.hid (by rw [← hN]; exact (Below.refl _ _).alloc (Nat.le_refl _) _)
  obtain ⟨r0, r1, r2, r3, r4, r5, r6, r7, r8, r9, ra, rb, rc⟩ := r
  simp only at hn hmax hrk hrm
  obtain ⟨rfl, rfl⟩ := hrm
  have hrk' : r0 = 9 := hrk
  subst hrk'
  have HKn : Hid (kids.length = rb) := Lib.hid hn.symm
  simp only [RawN.cells] at HX HB ⊢
  clear hl hN hn hrk
  go_enter Tryz.func32, Tryz.ntmps32
  go_upto_region 1 with fail
  rw [HNe.out]
  generalize w.alloc (.cells #[.int .i64 9, .slice r1 r2 r3, .bool r4, .int .i64 r5, .int .i64 r6, .bool r7, .int .i64 r8, .string r9, .slice ra rb rc] 29) = W at HX HB ⊢
  have hcW : ∀ o, W.cell? ⟨N, o, none⟩ = #[Value.int .i64 9, .slice r1 r2 r3, .bool r4, .int .i64 r5, .int .i64 r6, .bool r7, .int .i64 r8, .string r9, .slice ra rb rc][o]? := fun o => Lib.cell_of_heap HX.out o
  have HLs : Hid (∀ w', Below N w w' → KidsAt w' P ra (HL.out.kids.2.choose) ∧ LiesL w' P kids HL.out.kids.2.choose) := Lib.hid fun w' hb => ⟨KidsAt.on HL.out.kids.2.choose_spec.2.1 (StandN.below (by rw [HNe.out]; exact hb)), LiesL.on (StandN.below (by rw [HNe.out]; exact hb)) _ _ HL.out.kids.2.choose_spec.2.2⟩
  have HLn : Hid (HL.out.kids.2.choose.length = kids.length) := Lib.hid HL.out.kids.2.choose_spec.1
  generalize HL.out.kids.2.choose = rs at HLs HLn
  clear HL
  go_upto_region 5 with fail
  go_wp2_with fail
  clear hcW
  go_loopw [3, 16] (fun s3 s16 wr => ∃ i : Nat, i ≤ rb ∧ s16 = .int .i64 i ∧ s3 = .int .i64 (SynP.cntS 1 (kids.take i)) ∧ Hid (Below N w wr)) (fun _ s16 _ => rb + 1 - (intOf s16).toNat)
  case atStart => exact ⟨0, Nat.zero_le _, rfl, by simp [SynP.cntS], HB⟩
  case round =>
    obtain ⟨i, hi, rfl, rfl, HS⟩ := hrel
    have zN : N ≤ wr.heap.size := by have := HS.out.size; have := HNe.out; omega
    by_cases hlt : i < rb
    · have hii : (i : Int) < (rb : Int) := by omega
      have hi0 : (0 : Int) ≤ (i : Int) := by omega
      have hij : i < kids.length := by rw [HKn.out]; exact hlt
      obtain ⟨b, off, z, rfl, hb, hz, y1⟩ := (HLs.out wr HS.out).1.kid_at HLn.out (HLs.out wr HS.out).2 i hij
      have hT := SynP.cntS_take kids 1 i hij
      have hs := SynP.cntS_bd (kids.take i) (SynP.fewL_take HF.out i) 1 (by omega) (by omega)
      obtain ⟨x, hx⟩ : ∃ x, kids[i]'hij = x := ⟨_, rfl⟩
      rw [hx] at hz hT
      have hxm : x ∈ kids := by rw [← hx]; exact List.getElem_mem hij
      have hc := SynP.cntN_bd x (SynP.fewL_mem HF.out x hxm)
      have HC : Hid (∀ wx, Below wr.heap.size wr wx → Calls Tryz.prog 32 #[.agg z.cells.toArray] wx fun e w' => e = .returned (.int .i64 (SynP.cntN x)) ∧ Below wx.heap.size wx w') := Lib.hid fun wx hb => HIH.out x hxm z P wx (Lies.on (StandN.below hb) _ _ hz)
      have HT := Lib.hid hT
      generalize SynP.cntS 1 (kids.take i) = s at hs HT ⊢
      generalize SynP.cntN x = c at hc HT HC
      obtain ⟨a0, a1, a2, a3, a4, a5, a6, a7, a8, a9, aa, ab, ac⟩ := z
      simp only [RawN.cells] at HC
      have m0 : wr.cell? ⟨b, off + i * 9, none⟩ = some (.int .i64 a0) := y1 0 (by decide)
      have m1 : wr.cell? ⟨b, off + i * 9 + 1, none⟩ = some (.slice a1 a2 a3) := y1 1 (by decide)
      have m2 : wr.cell? ⟨b, off + i * 9 + 2, none⟩ = some (.bool a4) := y1 2 (by decide)
      have m3 : wr.cell? ⟨b, off + i * 9 + 3, none⟩ = some (.int .i64 a5) := y1 3 (by decide)
      have m4 : wr.cell? ⟨b, off + i * 9 + 4, none⟩ = some (.int .i64 a6) := y1 4 (by decide)
      have m5 : wr.cell? ⟨b, off + i * 9 + 5, none⟩ = some (.bool a7) := y1 5 (by decide)
      have m6 : wr.cell? ⟨b, off + i * 9 + 6, none⟩ = some (.int .i64 a8) := y1 6 (by decide)
      have m7 : wr.cell? ⟨b, off + i * 9 + 7, none⟩ = some (.string a9) := y1 7 (by decide)
      have m8 : wr.cell? ⟨b, off + i * 9 + 8, none⟩ = some (.slice aa ab ac) := y1 8 (by decide)
      have HBa : Hid (∀ o : Obj, Below wr.heap.size wr (wr.alloc o)) := Lib.hid fun o => (Below.refl _ wr).alloc (Nat.le_refl _) _
      clear y1 hx hz hxm hT
      go_wp2_with (first
        | (refine wpList_store_newN rfl 29 (.tmp 5) (.tmp 19) rfl _ #[.int .i64 a0, .slice a1 a2 a3, .bool a4, .int .i64 a5, .int .i64 a6, .bool a7, .int .i64 a8, .string a9, .slice aa ab ac] rfl rfl 29 sizeN rfl (cellsN_one ⟨a0, a1, a2, a3, a4, a5, a6, a7, a8, a9, aa, ab, ac⟩) ?_)
        | (go_at_call 32; refine (HC.out _ (HBa.out _)).mono ?_; rintro e w4 ⟨rfl, hb4⟩; have HS4 := Lib.hid (HS.out.trans (((HBa.out (.cells #[.int .i64 a0, .slice a1 a2 a3, .bool a4, .int .i64 a5, .int .i64 a6, .bool a7, .int .i64 a8, .string a9, .slice aa ab ac] 29)).trans (hb4.mono (by simp))).mono zN)); clear hb4)
        | (go_at_call 68; refine (capped_any _ _).mono ?_; rintro e w5 ⟨rfl, rfl⟩))
      exact ⟨⟨i + 1, by omega, by simp, by rw [HT.out], HS4⟩, by simp only [intOf]; omega⟩
    · obtain rfl : i = rb := by omega
      have hii : ¬ (i : Int) < (i : Int) := by omega
      have hT : kids.take i = kids := List.take_of_length_le (by rw [HKn.out]; exact Nat.le_refl _)
      rw [hT]
      have HS' := HS
      clear HS
      go_wp2_with fail
      go_ret
      exact ⟨by rw [HE.out]; rfl, by rw [HNe.out]; exact HS'.out⟩
set_option maxRecDepth 100000 in
set_option maxHeartbeats 3200000 in
theorem count_grp (IH : CountC (SynP.firstN kids)) (hf : SynP.fewN (SynP.firstN kids)) : CountC (.mk 11 set fold least most lazy cap name kids) := by
  have hE : SynP.cntN (.mk 11 set fold least most lazy cap name kids) = SynP.capN (1 + SynP.cntN (SynP.firstN kids)) := by rw [SynP.cntN, if_neg (by omega), if_pos rfl, cntH_first]
  have HE := Lib.hid hE
  clear hE
  have HIH := Lib.hid IH
  have hc := SynP.cntN_bd _ hf
  clear IH hf
  intro r P w hl
  have hn := hl.kids.1
  have hmax := hl.roomS
  have hrk := hl.kind_z
  have hrm := hl.nums
  obtain ⟨N, hN⟩ : ∃ N, w.heap.size = N := ⟨_, rfl⟩
  have HNe := Lib.hid hN
  have HL := Lib.hid hl
  have HX : Hid (BoxN (w.alloc (.cells r.cells.toArray 29)) N r.cells.toArray) := Lib.hid (by rw [← hN]; exact heap_alloc_new w _)
  have HB : Hid (Below N w (w.alloc (.cells r.cells.toArray 29))) := Lib.hid (by rw [← hN]; exact (Below.refl _ _).alloc (Nat.le_refl _) _)
  obtain ⟨r0, r1, r2, r3, r4, r5, r6, r7, r8, r9, ra, rb, rc⟩ := r
  simp only at hn hmax hrk hrm
  obtain ⟨rfl, rfl⟩ := hrm
  have hrk' : r0 = 11 := hrk
  subst hrk'
  have HKn : Hid (kids.length = rb) := Lib.hid hn.symm
  simp only [RawN.cells] at HX HB ⊢
  clear hl hN hn hrk
  go_enter Tryz.func32, Tryz.ntmps32
  go_upto_region 1 with fail
  rw [HNe.out]
  generalize w.alloc (.cells #[.int .i64 11, .slice r1 r2 r3, .bool r4, .int .i64 r5, .int .i64 r6, .bool r7, .int .i64 r8, .string r9, .slice ra rb rc] 29) = W at HX HB ⊢
  have hcW : ∀ o, W.cell? ⟨N, o, none⟩ = #[Value.int .i64 11, .slice r1 r2 r3, .bool r4, .int .i64 r5, .int .i64 r6, .bool r7, .int .i64 r8, .string r9, .slice ra rb rc][o]? := fun o => Lib.cell_of_heap HX.out o
  have HFi : Hid (∀ w', Below N w w' → Lies w' P (.mk 11 set fold r5 r6 lazy cap name kids) ⟨11, r1, r2, r3, r4, r5, r6, r7, r8, r9, ra, rb, rc⟩) := Lib.hid fun w' hb => Lies.on (StandN.below (by rw [HNe.out]; exact hb)) _ _ HL.out
  have HFs : Hid (∀ wx, Below N w wx → Calls Tryz.prog 69 #[.agg #[.int .i64 11, .slice r1 r2 r3, .bool r4, .int .i64 r5, .int .i64 r6, .bool r7, .int .i64 r8, .string r9, .slice ra rb rc]] wx fun e w' => ∃ r2 : RawN, e = .returned (.agg r2.cells.toArray) ∧ Below wx.heap.size wx w' ∧ Lies w' P (SynP.firstN kids) r2) := Lib.hid fun wx hb => first_any P 11 set fold r5 r6 lazy cap name kids ⟨11, r1, r2, r3, r4, r5, r6, r7, r8, r9, ra, rb, rc⟩ wx (HFi.out wx hb)
  have hNw : N ≤ w.heap.size := Nat.le_of_eq HNe.out.symm
  clear HL HFi
  unfold CountC at HIH
  generalize SynP.cntN (SynP.firstN kids) = c at hc HE HIH
  go_wp2_with (first
    | (go_at_call 69; refine (HFs.out _ HB.out).mono ?_; rintro e w2 ⟨z2, rfl, hb2, hl2⟩; have HB2 := Lib.hid (HB.out.trans (hb2.mono (Nat.le_trans hNw HB.out.size))); have HC2 := Lib.hid (HIH.out _ P _ hl2); clear hb2 hl2)
    | (go_at_call 32; refine HC2.out.mono ?_; rintro e w3 ⟨rfl, hb3⟩; have HB3 := Lib.hid (HB2.out.trans (hb3.mono (Nat.le_trans hNw HB2.out.size))); clear hb3)
    | (go_at_call 68; refine (capped_any _ _).mono ?_; rintro e w5 ⟨rfl, rfl⟩))
  go_ret
  exact ⟨by rw [HE.out]; rfl, by rw [HNe.out]; exact HB3.out⟩
set_option maxRecDepth 100000 in
set_option maxHeartbeats 3200000 in
theorem count_rep (hab : SynP.fewB least most) (IH : CountC (SynP.firstN kids)) (hf : SynP.fewN (SynP.firstN kids)) : CountC (.mk 10 set fold least most lazy cap name kids) := by
  have hE : SynP.cntN (.mk 10 set fold least most lazy cap name kids) = SynP.timesC least most (SynP.cntN (SynP.firstN kids)) := by rw [SynP.cntN, if_neg (by omega), if_neg (by omega), if_pos rfl, cntH_first]
  have HE := Lib.hid hE
  clear hE
  have HIH := Lib.hid IH
  have hc := SynP.cntN_bd _ hf
  clear IH hf
  intro r P w hl
  have hn := hl.kids.1
  have hmax := hl.roomS
  have hrk := hl.kind_z
  have hrm := hl.nums
  obtain ⟨N, hN⟩ : ∃ N, w.heap.size = N := ⟨_, rfl⟩
  have HNe := Lib.hid hN
  have HL := Lib.hid hl
  have HX : Hid (BoxN (w.alloc (.cells r.cells.toArray 29)) N r.cells.toArray) := Lib.hid (by rw [← hN]; exact heap_alloc_new w _)
  have HB : Hid (Below N w (w.alloc (.cells r.cells.toArray 29))) := Lib.hid (by rw [← hN]; exact (Below.refl _ _).alloc (Nat.le_refl _) _)
  obtain ⟨r0, r1, r2, r3, r4, r5, r6, r7, r8, r9, ra, rb, rc⟩ := r
  simp only at hn hmax hrk hrm
  obtain ⟨rfl, rfl⟩ := hrm
  have hrk' : r0 = 10 := hrk
  subst hrk'
  have HKn : Hid (kids.length = rb) := Lib.hid hn.symm
  simp only [RawN.cells] at HX HB ⊢
  clear hl hN hn hrk
  go_enter Tryz.func32, Tryz.ntmps32
  go_upto_region 1 with fail
  rw [HNe.out]
  generalize w.alloc (.cells #[.int .i64 10, .slice r1 r2 r3, .bool r4, .int .i64 r5, .int .i64 r6, .bool r7, .int .i64 r8, .string r9, .slice ra rb rc] 29) = W at HX HB ⊢
  have hcW : ∀ o, W.cell? ⟨N, o, none⟩ = #[Value.int .i64 10, .slice r1 r2 r3, .bool r4, .int .i64 r5, .int .i64 r6, .bool r7, .int .i64 r8, .string r9, .slice ra rb rc][o]? := fun o => Lib.cell_of_heap HX.out o
  have HFi : Hid (∀ w', Below N w w' → Lies w' P (.mk 10 set fold r5 r6 lazy cap name kids) ⟨10, r1, r2, r3, r4, r5, r6, r7, r8, r9, ra, rb, rc⟩) := Lib.hid fun w' hb => Lies.on (StandN.below (by rw [HNe.out]; exact hb)) _ _ HL.out
  have HFs : Hid (∀ wx, Below N w wx → Calls Tryz.prog 69 #[.agg #[.int .i64 10, .slice r1 r2 r3, .bool r4, .int .i64 r5, .int .i64 r6, .bool r7, .int .i64 r8, .string r9, .slice ra rb rc]] wx fun e w' => ∃ r2 : RawN, e = .returned (.agg r2.cells.toArray) ∧ Below wx.heap.size wx w' ∧ Lies w' P (SynP.firstN kids) r2) := Lib.hid fun wx hb => first_any P 10 set fold r5 r6 lazy cap name kids ⟨10, r1, r2, r3, r4, r5, r6, r7, r8, r9, ra, rb, rc⟩ wx (HFi.out wx hb)
  have hNw : N ≤ w.heap.size := Nat.le_of_eq HNe.out.symm
  clear HL HFi
  unfold CountC at HIH
  generalize SynP.cntN (SynP.firstN kids) = c at hc HE HIH
  obtain ⟨g1, g2, g3⟩ := hab
  obtain ⟨g4, g5⟩ := hc
  have p0 : 0 ≤ r5 * c := Int.mul_nonneg g1 (by omega)
  have p1 : r5 * c ≤ 1000 * 1048577 := by
    refine Int.le_trans (Int.mul_le_mul_of_nonneg_right g2 (by omega)) (Int.mul_le_mul_of_nonneg_left g5 (by omega))
  obtain ⟨p, hp⟩ : ∃ p, r5 * c = p := ⟨_, rfl⟩
  have hw1 : IntKind.i64.wrap (r5 * c) = p := by rw [IntWalk.i64_in _ (by omega)]; exact hp
  rcases g3 with rfl | ⟨g3, g6⟩
  · have HE2 : Hid (SynP.capN (p + (1 + c) + 1) = SynP.timesC r5 (-1) c) := Lib.hid (by unfold SynP.timesC; rw [if_pos rfl, hp])
    rw [hp] at p0 p1
    clear hp
    go_wp2_with (first
      | (go_at_call 69; refine (HFs.out _ HB.out).mono ?_; rintro e w2 ⟨z2, rfl, hb2, hl2⟩; have HB2 := Lib.hid (HB.out.trans (hb2.mono (Nat.le_trans hNw HB.out.size))); have HW2 := Lib.hid hb2; have HC2 := Lib.hid (HIH.out _ P _ hl2); clear hb2 hl2)
      | (go_at_call 32; refine HC2.out.mono ?_; rintro e w3 ⟨rfl, hb3⟩; have HB3 := Lib.hid (HB2.out.trans (hb3.mono (Nat.le_trans hNw HB2.out.size))); have HW3 := HW2.out.trans (hb3.mono HW2.out.size); have hc3 : ∀ o, w3.cell? ⟨N, o, none⟩ = #[Value.int .i64 10, .slice r1 r2 r3, .bool r4, .int .i64 r5, .int .i64 (-1), .bool r7, .int .i64 r8, .string r9, .slice ra rb rc][o]? := fun o => Lib.cell_of_heap ((HW3.block N HX.out.lt).trans HX.out) o; clear HW3; clear hb3)
      | (go_at_call 68; refine (capped_any _ _).mono ?_; rintro e w5 ⟨rfl, rfl⟩))
    go_ret
    exact ⟨by rw [HE.out, ← HE2.out]; rfl, by rw [HNe.out]; exact HB3.out⟩
  · have q0 : 0 ≤ (r6 - r5) * (c + 2) := Int.mul_nonneg (by omega) (by omega)
    have q1 : (r6 - r5) * (c + 2) ≤ 1000 * 1048579 := by
      refine Int.le_trans (Int.mul_le_mul_of_nonneg_right (c := c + 2) (show r6 - r5 ≤ 1000 by omega) (by omega)) (Int.mul_le_mul_of_nonneg_left (by omega) (by omega))
    obtain ⟨q, hq⟩ : ∃ q, (r6 - r5) * (c + 2) = q := ⟨_, rfl⟩
    have hw2 : IntKind.i64.wrap ((r6 - r5) * (c + 2)) = q := by rw [IntWalk.i64_in _ (by omega)]; exact hq
    have hm : (r6 == -1) = false := beq_false_of_ne (by omega)
    have hd : IntKind.i64.wrap (r6 - r5) = r6 - r5 := IntWalk.i64_in _ (by omega)
    have HE2 : Hid (SynP.capN (p + q + 1) = SynP.timesC r5 r6 c) := Lib.hid (by unfold SynP.timesC; rw [if_neg (by omega), hp, hq])
    rw [hp] at p0 p1
    rw [hq] at q0 q1
    clear hp hq
    go_wp2_with (first
      | (go_at_call 69; refine (HFs.out _ HB.out).mono ?_; rintro e w2 ⟨z2, rfl, hb2, hl2⟩; have HB2 := Lib.hid (HB.out.trans (hb2.mono (Nat.le_trans hNw HB.out.size))); have HW2 := Lib.hid hb2; have HC2 := Lib.hid (HIH.out _ P _ hl2); clear hb2 hl2)
      | (go_at_call 32; refine HC2.out.mono ?_; rintro e w3 ⟨rfl, hb3⟩; have HB3 := Lib.hid (HB2.out.trans (hb3.mono (Nat.le_trans hNw HB2.out.size))); have HW3 := HW2.out.trans (hb3.mono HW2.out.size); have hc3 : ∀ o, w3.cell? ⟨N, o, none⟩ = #[Value.int .i64 10, .slice r1 r2 r3, .bool r4, .int .i64 r5, .int .i64 r6, .bool r7, .int .i64 r8, .string r9, .slice ra rb rc][o]? := fun o => Lib.cell_of_heap ((HW3.block N HX.out.lt).trans HX.out) o; clear HW3; clear hb3)
      | (go_at_call 68; refine (capped_any _ _).mono ?_; rintro e w5 ⟨rfl, rfl⟩))
    go_ret
    exact ⟨by rw [HE.out, ← HE2.out]; rfl, by rw [HNe.out]; exact HB3.out⟩
set_option maxRecDepth 100000 in
set_option maxHeartbeats 3200000 in
theorem count_one (kind : Nat) (h8 : kind ≠ 8) (h9 : kind ≠ 9) (h10 : kind ≠ 10) (h11 : kind ≠ 11) : CountC (.mk kind set fold least most lazy cap name kids) := by
  have hE : SynP.cntN (.mk kind set fold least most lazy cap name kids) = 1 := by rw [SynP.cntN, if_neg (by omega), if_neg (by omega), if_neg (by omega)]
  have HE := Lib.hid hE
  clear hE
  intro r P w hl
  have hn := hl.kids.1
  have hmax := hl.roomS
  have hrk := hl.kind_z
  have hrm := hl.nums
  obtain ⟨N, hN⟩ : ∃ N, w.heap.size = N := ⟨_, rfl⟩
  have HNe := Lib.hid hN
  have HL := Lib.hid hl
  have HX : Hid (BoxN (w.alloc (.cells r.cells.toArray 29)) N r.cells.toArray) := Lib.hid (by rw [← hN]; exact heap_alloc_new w _)
  have HB : Hid (Below N w (w.alloc (.cells r.cells.toArray 29))) := Lib.hid (by rw [← hN]; exact (Below.refl _ _).alloc (Nat.le_refl _) _)
  obtain ⟨r0, r1, r2, r3, r4, r5, r6, r7, r8, r9, ra, rb, rc⟩ := r
  simp only at hn hmax hrk hrm
  obtain ⟨rfl, rfl⟩ := hrm
  have hrk' : r0 = (kind : Int) := hrk
  subst hrk'
  have HKn : Hid (kids.length = rb) := Lib.hid hn.symm
  simp only [RawN.cells] at HX HB ⊢
  clear hl hN hn hrk
  go_enter Tryz.func32, Tryz.ntmps32
  go_upto_region 1 with fail
  rw [HNe.out]
  generalize w.alloc (.cells #[.int .i64 (kind : Int), .slice r1 r2 r3, .bool r4, .int .i64 r5, .int .i64 r6, .bool r7, .int .i64 r8, .string r9, .slice ra rb rc] 29) = W at HX HB ⊢
  have hcW : ∀ o, W.cell? ⟨N, o, none⟩ = #[Value.int .i64 (kind : Int), .slice r1 r2 r3, .bool r4, .int .i64 r5, .int .i64 r6, .bool r7, .int .i64 r8, .string r9, .slice ra rb rc][o]? := fun o => Lib.cell_of_heap HX.out o
  have z8 : ((kind : Int) == 8) = false := beq_false_of_ne (by omega)
  have z9 : ((kind : Int) == 9) = false := beq_false_of_ne (by omega)
  have z10 : ((kind : Int) == 10) = false := beq_false_of_ne (by omega)
  have z11 : ((kind : Int) == 11) = false := beq_false_of_ne (by omega)
  clear HL
  go_wp2_with fail
  go_ret
  exact ⟨by rw [HE.out]; rfl, by rw [HNe.out]; exact HB.out⟩
end
theorem firstN_few : ∀ {l : List SynP.Nd}, SynP.fewL l → SynP.fewN (SynP.firstN l)
  | [], _ => by unfold SynP.firstN SynP.Nd.leaf SynP.fewN; exact ⟨fun h => absurd h (by decide), by unfold SynP.fewL; trivial⟩
  | x :: l, h => by unfold SynP.fewL at h; exact h.1
theorem count_all : ∀ (n : Nat) (nd : SynP.Nd), SizeOf.sizeOf nd ≤ n → SynP.fewN nd → CountC nd
  | 0, .mk .., h, _ => by simp at h
  | n + 1, .mk kind set fold least most lazy cap name kids, h, hf => by
    unfold SynP.fewN at hf
    have hs : ∀ x ∈ kids, SizeOf.sizeOf x ≤ n := fun x hx => by
      have := List.sizeOf_lt_of_mem hx
      simp at h
      omega
    have IH : ∀ x ∈ kids, CountC x := fun x hx => count_all n x (hs x hx) (SynP.fewL_mem hf.2 x hx)
    have IHf : CountC (SynP.firstN kids) := by
      cases kids with
      | nil => exact count_one none false 0 0 false 0 [] [] 0 (by decide) (by decide) (by decide) (by decide)
      | cons x l => exact IH x List.mem_cons_self
    by_cases h8 : kind = 8 ∨ kind = 9
    · rcases h8 with rfl | rfl
      · exact count_8 set fold least most lazy cap name kids IH hf.2
      · exact count_9 set fold least most lazy cap name kids IH hf.2
    · by_cases h11 : kind = 11
      · subst h11
        exact count_grp set fold least most lazy cap name kids IHf (firstN_few hf.2)
      · by_cases h10 : kind = 10
        · subst h10
          exact count_rep set fold least most lazy cap name kids (hf.1 rfl) IHf (firstN_few hf.2)
        · exact count_one set fold least most lazy cap name kids kind (by omega) (by omega) h10 h11
end Go.Proofs.YtblkejnckbeieaaGreatDoor
