/- Chapter 11: the walk of the law ShowPlain. -/
import Derived.Test.YtjfeepajlkckeaaGreatDoorZe32
import Derived.Deep.RegionWith
namespace Go.Proofs.YtjfeepajlkckeaaGreatDoor
open Go.RowKit SetPure

/-- The tree of a row of plain signs. -/
def plainT (l : List UInt8) : SynP.Nd := SynP.whole 8 ((nat_ l).map fun c => SynP.Nd.cls (SynP.one c) false)
def okB (l : List UInt8) : Prop := ∀ c ∈ l, SynP.alnum (c.toNat : Int)
theorem okB_nat {l : List UInt8} (h : okB l) : ∀ c ∈ nat_ l, SynP.alnum c := by
  intro c hc
  unfold nat_ at hc
  obtain ⟨x, hx, rfl⟩ := List.mem_map.1 hc
  exact h x hx
theorem okB_asc {l : List UInt8} (h : okB l) : ∀ c ∈ l, c.toNat < 128 := by
  intro c hc
  have := h c hc
  unfold SynP.alnum at this
  omega
theorem plain_many (a b : UInt8) (l : List UInt8) : plainT (a :: b :: l) = .mk 8 none false 0 0 false 0 [] ((nat_ (a :: b :: l)).map fun c => SynP.Nd.cls (SynP.one c) false) := rfl
theorem sh_cls {c : Int} (hc : SynP.alnum c) : SynP.shN (SynP.Nd.cls (SynP.one c) false) = [UInt8.ofNat c.toNat] := by
  unfold SynP.Nd.cls
  rw [SynP.sh1, SynP.clsTxt_one hc]
  rfl
theorem flat_cls : ∀ {l : List UInt8}, okB l → (SynP.kidsT ((nat_ l).map fun c => SynP.Nd.cls (SynP.one c) false)).flatMap (SynP.wrapT [8, 9]) = l
  | [], _ => rfl
  | c :: l, h => by
    have h0 : SynP.alnum ((c.toNat : Nat) : Int) := h c List.mem_cons_self
    have ih := flat_cls (l := l) fun x hx => h x (List.mem_cons_of_mem _ hx)
    unfold SynP.kidsT nat_ at ih ⊢
    rw [List.map_cons, List.map_cons, List.map_cons, List.flatMap_cons, ih, sh_cls h0]
    have hw : SynP.wrapT [8, 9] ((SynP.Nd.cls (SynP.one (c.toNat : Int)) false).kind, [UInt8.ofNat ((c.toNat : Nat) : Int).toNat]) = [UInt8.ofNat ((c.toNat : Nat) : Int).toNat] := by
      unfold SynP.wrapT
      rw [if_neg]
      show ¬ (1 : Nat) ∈ [8, 9]
      decide
    rw [hw, Int.toNat_natCast, UInt8.ofNat_toNat]
    rfl
theorem plain_text {l : List UInt8} (h : okB l) (hne : l ≠ []) : SynP.shN (plainT l) = l := by
  match l, h, hne with
  | [c], h, _ =>
    show SynP.shN (SynP.Nd.cls (SynP.one (c.toNat : Int)) false) = [c]
    rw [sh_cls (h c List.mem_cons_self), Int.toNat_natCast, UInt8.ofNat_toNat]
  | a :: b :: l, h, _ => rw [plain_many, SynP.sh8, flat_cls h]
theorem okL_cls : ∀ {l : List Int}, (∀ c ∈ l, SynP.alnum c) → SynP.okL (l.map fun c => SynP.Nd.cls (SynP.one c) false)
  | [], _ => by unfold SynP.okL; trivial
  | c :: l, h => by
    rw [List.map_cons]
    unfold SynP.okL
    exact ⟨ok_cls (h c List.mem_cons_self) false, okL_cls fun x hx => h x (List.mem_cons_of_mem _ hx)⟩
theorem plain_ok {l : List UInt8} (h : okB l) (hne : l ≠ []) : SynP.okN (plainT l) := by
  match l, h, hne with
  | [c], h, _ => exact ok_cls (h c List.mem_cons_self) false
  | a :: b :: l, h, _ =>
    rw [plain_many]
    unfold SynP.okN
    exact ⟨fun h => absurd h (by decide), fun h => absurd h (by decide), fun h => absurd h (by decide), .inr (.inl rfl), okL_cls (okB_nat h)⟩
theorem sizes_cls : ∀ l : List Int, SynP.sizeAL (l.map fun c => SynP.Nd.cls (SynP.one c) false) = l.length ∧ (l ≠ [] → SynP.sizeDL (l.map fun c => SynP.Nd.cls (SynP.one c) false) = 1)
  | [] => ⟨rfl, fun h => absurd rfl h⟩
  | c :: l => by
    obtain ⟨h1, h2⟩ := sizes_cls l
    have e1 : SynP.sizeA (SynP.Nd.cls (SynP.one c) false) = 1 := by unfold SynP.Nd.cls; rw [SynP.sizeA, SynP.sizeAL]
    have e2 : SynP.sizeD (SynP.Nd.cls (SynP.one c) false) = 1 := by unfold SynP.Nd.cls; rw [SynP.sizeD, SynP.sizeDL]
    rw [List.map_cons, SynP.sizeAL, SynP.sizeDL, h1, e1, e2, List.length_cons]
    refine ⟨by omega, fun _ => ?_⟩
    cases l with
    | nil => rfl
    | cons d l => rw [h2 (by simp)]; rfl
theorem plain_sizes1 (c : UInt8) : SynP.sizeA (plainT [c]) = 1 ∧ SynP.sizeD (plainT [c]) = 1 := by
  show SynP.sizeA (SynP.Nd.cls (SynP.one (c.toNat : Int)) false) = 1 ∧ SynP.sizeD (SynP.Nd.cls (SynP.one (c.toNat : Int)) false) = 1
  unfold SynP.Nd.cls
  rw [SynP.sizeA, SynP.sizeD, SynP.sizeAL, SynP.sizeDL]
  exact ⟨rfl, rfl⟩
theorem plain_sizes2 {l : List UInt8} (h : 2 ≤ l.length) : SynP.sizeA (plainT l) = l.length + 1 ∧ SynP.sizeD (plainT l) = 2 := by
  match l, h with
  | a :: b :: l, _ =>
    obtain ⟨h1, h2⟩ := sizes_cls (nat_ (a :: b :: l))
    rw [plain_many, SynP.sizeA, SynP.sizeD, h1, h2 (by unfold nat_; simp)]
    unfold nat_
    rw [List.length_map]
    omega
theorem BRow.belowS {base : Nat} {w w' : World} {v : Value} {l : List UInt8} (h : BRow base w v l) (k : Below w.heap.size w w') : BRow base w' v l := OwnB.below h k
theorem BRow.nilS {base : Nat} {w : World} (h : base ≤ w.heap.size) : BRow base w (.slice none 0 0) [] := OwnB.nil_ h
theorem okB_snoc {l : List UInt8} (h : okB l) {x : Int} (hx : SynP.alnum x) : okB (l ++ [UInt8.ofNat x.toNat]) := by
  intro c hc
  rcases List.mem_append.1 hc with hc | hc
  · exact h c hc
  · rw [List.mem_singleton.1 hc, UInt8.toNat_ofNat']
    unfold SynP.alnum at hx ⊢
    omega

set_option maxRecDepth 100000 in
set_option maxHeartbeats 25600000 in
theorem law_plain (s : ByteArray) (w : World) (hs : s.size ≤ 9223372036854775807) : Calls Tryz.prog 3 #[.string s] w fun e w' => e = .returned (.bool true) ∧ Below w.heap.size w w' := by
  have HSp := Lib.hid sp_any
  have hfe := faultEq_same 0 0
  go_enter Tryz.func3, Tryz.ntmps3
  go_wp2_with (go_at_call 5; refine (HSp.out _).mono ?_; rintro e w1 ⟨rfl, hb1⟩; have HB1 := Lib.hid hb1; clear hb1)
  go_loopw [3, 4] (fun s3 s4 wr => ∃ (i : Nat) (l : List UInt8), i ≤ s.size ∧ s4 = .int .i64 i ∧ l.length ≤ 900 ∧ Hid (okB l) ∧ Hid (BRow w1.heap.size wr s3 l) ∧ Hid (Below w1.heap.size w1 wr)) (fun _ s4 _ => s.size + 1 - (intOf s4).toNat)
  case atStart => exact ⟨0, [], Nat.zero_le _, rfl, Nat.zero_le _, Lib.hid (fun c hc => by cases hc), Lib.hid (BRow.nilS (Nat.le_refl _)), Lib.hid (Below.refl _ _)⟩
  case round =>
    obtain ⟨i, l, hi, rfl, hl, HO, HR, HW⟩ := hrel
    obtain ⟨A, c, rfl, _, _⟩ := BRow.form HR.out
    by_cases hgo : i < s.size ∧ l.length < 900
    · obtain ⟨h1, h2⟩ := hgo
      have hii : (i : Int) < (s.size : Int) := by omega
      have hl9 : (l.length : Int) < 900 := by omega
      have hi0 : (0 : Int) ≤ (i : Int) := by omega
      have hx1 : ((s[i].toNat : Nat) : Int) < 256 := by have := UInt8.toNat_lt s[i]; omega
      have hx0 : (0 : Int) ≤ ((s[i].toNat : Nat) : Int) := by omega
      go_upto_region 8 with fail
      obtain ⟨x, hx⟩ : ∃ x : Int, ((s[i].toNat : Nat) : Int) = x := ⟨_, rfl⟩
      rw [hx] at hx0 hx1 ⊢
      clear hx
      by_cases d0 : 48 ≤ x
      · by_cases d1 : x ≤ 57
        · have ha : SynP.alnum x := by unfold SynP.alnum; omega
          have t0 : decide ((48 : Int) ≤ x) = true := decide_eq_true d0
          have t1 : decide (x ≤ (57 : Int)) = true := decide_eq_true d1
          have HNs := Lib.hid (nI_snoc l x hx0 hx1)
          have HO2 := Lib.hid (okB_snoc HO.out ha)
          go_wp2_with (at_builtin; (refine wpList_append_seqB _ rfl (.tmp 48) (.tmp 50) 23 rfl 1 elByte rfl (OwnB.alloc HR.out _) 1 rfl (SeqAt.new_at (E := Ebyte) _ [x] 5 _ rfl) rfl (by rw [nI_len]; simp only [maxLen]; omega) (by rw [nI_len]; omega) ?_); intro v2 w2 ho2 hg2; have HW2 := Lib.hid ((HW.out.alloc HW.out.size _).grown hg2 (by have := HW.out.size; simp; omega) (fun k hk => (BRow.lt HR.out k hk).1)); have HR2 : Hid (BRow w1.heap.size w2 v2 (l ++ [UInt8.ofNat x.toNat])) := Lib.hid (by unfold BRow; rw [HNs.out]; exact ho2); clear ho2 hg2)
          exact ⟨⟨i + 1, l ++ [UInt8.ofNat x.toNat], by omega, by simp, by rw [List.length_append, List.length_singleton]; omega, HO2, HR2, HW2⟩, by simp only [intOf]; omega⟩
        · have t0 : decide ((48 : Int) ≤ x) = true := decide_eq_true d0
          have t1 : decide (x ≤ (57 : Int)) = false := decide_eq_false d1
          by_cases d2 : 65 ≤ x
          · have t2 : decide ((65 : Int) ≤ x) = true := decide_eq_true d2
            by_cases d3 : x ≤ 90
            · have ha : SynP.alnum x := by unfold SynP.alnum; omega
              have t3 : decide (x ≤ (90 : Int)) = true := decide_eq_true d3
              have HNs := Lib.hid (nI_snoc l x hx0 hx1)
              have HO2 := Lib.hid (okB_snoc HO.out ha)
              go_wp2_with (at_builtin; (refine wpList_append_seqB _ rfl (.tmp 48) (.tmp 50) 23 rfl 1 elByte rfl (OwnB.alloc HR.out _) 1 rfl (SeqAt.new_at (E := Ebyte) _ [x] 5 _ rfl) rfl (by rw [nI_len]; simp only [maxLen]; omega) (by rw [nI_len]; omega) ?_); intro v2 w2 ho2 hg2; have HW2 := Lib.hid ((HW.out.alloc HW.out.size _).grown hg2 (by have := HW.out.size; simp; omega) (fun k hk => (BRow.lt HR.out k hk).1)); have HR2 : Hid (BRow w1.heap.size w2 v2 (l ++ [UInt8.ofNat x.toNat])) := Lib.hid (by unfold BRow; rw [HNs.out]; exact ho2); clear ho2 hg2)
              exact ⟨⟨i + 1, l ++ [UInt8.ofNat x.toNat], by omega, by simp, by rw [List.length_append, List.length_singleton]; omega, HO2, HR2, HW2⟩, by simp only [intOf]; omega⟩
            · have t3 : decide (x ≤ (90 : Int)) = false := decide_eq_false d3
              by_cases d4 : 97 ≤ x
              · have t4 : decide ((97 : Int) ≤ x) = true := decide_eq_true d4
                by_cases d5 : x ≤ 122
                · have ha : SynP.alnum x := by unfold SynP.alnum; omega
                  have t5 : decide (x ≤ (122 : Int)) = true := decide_eq_true d5
                  have HNs := Lib.hid (nI_snoc l x hx0 hx1)
                  have HO2 := Lib.hid (okB_snoc HO.out ha)
                  go_wp2_with (at_builtin; (refine wpList_append_seqB _ rfl (.tmp 48) (.tmp 50) 23 rfl 1 elByte rfl (OwnB.alloc HR.out _) 1 rfl (SeqAt.new_at (E := Ebyte) _ [x] 5 _ rfl) rfl (by rw [nI_len]; simp only [maxLen]; omega) (by rw [nI_len]; omega) ?_); intro v2 w2 ho2 hg2; have HW2 := Lib.hid ((HW.out.alloc HW.out.size _).grown hg2 (by have := HW.out.size; simp; omega) (fun k hk => (BRow.lt HR.out k hk).1)); have HR2 : Hid (BRow w1.heap.size w2 v2 (l ++ [UInt8.ofNat x.toNat])) := Lib.hid (by unfold BRow; rw [HNs.out]; exact ho2); clear ho2 hg2)
                  exact ⟨⟨i + 1, l ++ [UInt8.ofNat x.toNat], by omega, by simp, by rw [List.length_append, List.length_singleton]; omega, HO2, HR2, HW2⟩, by simp only [intOf]; omega⟩
                · have t5 : decide (x ≤ (122 : Int)) = false := decide_eq_false d5
                  go_wp2_with fail
                  exact ⟨⟨i + 1, l, by omega, by simp, hl, HO, HR, HW⟩, by simp only [intOf]; omega⟩
              · have t4 : decide ((97 : Int) ≤ x) = false := decide_eq_false d4
                go_wp2_with fail
                exact ⟨⟨i + 1, l, by omega, by simp, hl, HO, HR, HW⟩, by simp only [intOf]; omega⟩
          · have t2 : decide ((65 : Int) ≤ x) = false := decide_eq_false d2
            have d4 : ¬ 97 ≤ x := by omega
            have t4 : decide ((97 : Int) ≤ x) = false := decide_eq_false d4
            go_wp2_with fail
            exact ⟨⟨i + 1, l, by omega, by simp, hl, HO, HR, HW⟩, by simp only [intOf]; omega⟩
      · have t0 : decide ((48 : Int) ≤ x) = false := decide_eq_false d0
        have d2 : ¬ 65 ≤ x := by omega
        have d4 : ¬ 97 ≤ x := by omega
        have t2 : decide ((65 : Int) ≤ x) = false := decide_eq_false d2
        have t4 : decide ((97 : Int) ≤ x) = false := decide_eq_false d4
        go_wp2_with fail
        exact ⟨⟨i + 1, l, by omega, by simp, hl, HO, HR, HW⟩, by simp only [intOf]; omega⟩
    · by_cases hii0 : i < s.size
      · have hii : (i : Int) < (s.size : Int) := by omega
        have hl9 : ¬ (l.length : Int) < 900 := by omega
        have hl0 : ¬ l.length = 0 := by omega
        have hl2 : 2 ≤ l.length := by omega
        have HDs := Lib.hid (plain_sizes2 hl2)
        have HNe : Hid (l ≠ []) := Lib.hid (fun h => by rw [h] at hl0; exact hl0 rfl)
        have zl0 : ¬ (l.length : Int) = 0 := by omega
        have HP1 : Hid (∀ w, Calls Tryz.prog 6 #[.string (str l), .agg #[.bool false, .bool false, .bool false, .bool false]] w (TreeEnd (plainT l) w)) := Lib.hid fun w => tree_end l (plainT l) _ (okB_asc HO.out) (by first | omega | (simp)) (SynP.plain_parse (okB_nat HO.out)) w
        have HSh : Hid (ShowC (plainT l)) := Lib.hid (show_all (l.length + 1) _ (by rw [HDs.out.1]; first | omega | (simp)) (plain_ok HO.out HNe.out) (by rw [plain_text HO.out HNe.out]; first | omega | (simp)))
        have HSz : Hid (SizeC (plainT l)) := Lib.hid (nsize_all (l.length + 1) _ (by rw [HDs.out.1]; first | omega | (simp)) (by rw [HDs.out.1]; first | omega | (simp)))
        have HTx := Lib.hid (plain_text HO.out HNe.out)
        have hcv := conv_brow HR.out
        obtain ⟨q, hq⟩ : ∃ q, str l = q := ⟨_, rfl⟩
        have HQ := Lib.hid hq
        have hq' : (⟨l.toArray⟩ : ByteArray) = q := hq
        rw [hq] at HP1
        rw [hq'] at hcv
        clear hq hq'
        go_upto_region 13 with (go_at_call 6; refine (HP1.out _).mono ?_; rintro e w2 ⟨hb2, ⟨r0, r1, r2, r3, r4, r5, r6, r7, r8, r9, ra, rb, rc⟩, A', k, c', rfl, hl2⟩; have HB2 := Lib.hid (HW.out.trans (hb2.mono HW.out.size)); have HR2 := Lib.hid (BRow.belowS HR.out hb2); have HL2 := Lib.hid hl2; clear hb2 hl2; simp only [RawN.cells, List.cons_append, List.nil_append])
        obtain ⟨P, hP⟩ : ∃ P, w2.heap.size = P := ⟨_, rfl⟩
        have hps := PatS.start (pc := #[.int .i64 r0, .slice r1 r2 r3, .bool r4, .int .i64 r5, .int .i64 r6, .bool r7, .int .i64 r8, .string r9, .slice ra rb rc, .slice A' k c']) (fc := #[.int .i64 0, .int .i64 0]) HB2.out hP
        have hb3 := below_two w2 (.cells #[.int .i64 r0, .slice r1 r2 r3, .bool r4, .int .i64 r5, .int .i64 r6, .bool r7, .int .i64 r8, .string r9, .slice ra rb rc, .slice A' k c'] 31) (.cells #[.int .i64 0, .int .i64 0] 34)
        have hl3 := Lies.on (StandN.below hb3) _ _ HL2.out
        have hr3 := BRow.belowS HR2.out hb3
        rw [hP]
        clear hb3
        generalize (w2.alloc (.cells #[.int .i64 r0, .slice r1 r2 r3, .bool r4, .int .i64 r5, .int .i64 r6, .bool r7, .int .i64 r8, .string r9, .slice ra rb rc, .slice A' k c'] 31)).alloc (.cells #[.int .i64 0, .int .i64 0] 34) = W3 at hps hl3 hr3 ⊢
        have HS3 := Lib.hid hps
        have HL3 := Lib.hid hl3
        have HR3 := Lib.hid hr3
        have hcP := HS3.out.pcell
        have hcF := HS3.out.fcell
        clear hps hl3 hr3 hP HB2 HL2 HP1 hcv
        have HC1 : Hid (Calls Tryz.prog 7 #[.agg #[.int .i64 r0, .slice r1 r2 r3, .bool r4, .int .i64 r5, .int .i64 r6, .bool r7, .int .i64 r8, .string r9, .slice ra rb rc]] W3 fun e w' => e = .returned (.tuple #[.int .i64 ((l.length + 1 : Nat) : Int), .int .i64 2]) ∧ Below W3.heap.size W3 w') := Lib.hid (by
          have := HSz.out _ _ W3 HL3.out
          rw [HDs.out.1, HDs.out.2] at this
          exact this)
        have HC2 : Hid (∀ w4, Below W3.heap.size W3 w4 → Calls Tryz.prog 8 #[.agg #[.int .i64 r0, .slice r1 r2 r3, .bool r4, .int .i64 r5, .int .i64 r6, .bool r7, .int .i64 r8, .string r9, .slice ra rb rc]] w4 fun e w' => e = .returned (.string q) ∧ Below w4.heap.size w4 w') := Lib.hid fun w4 hb => by
          have := HSh.out _ _ w4 (Lies.on (StandN.below hb) _ _ HL3.out)
          rw [HTx.out, HQ.out] at this
          exact this
        have zl1 : ¬ (l.length : Int) = 1 := by omega
        have zl2 : (1 : Int) < (l.length : Int) := by omega
        have e1 : IntKind.i64.wrap ((l.length : Int) + 1) = ((l.length + 1 : Nat) : Int) := by rw [IntWalk.i64_in _ (by omega)]; omega
        go_upto_region 14 with (go_at_call 7; refine HC1.out.mono ?_; rintro e w4 ⟨rfl, hb4⟩; have HS4 := Lib.hid (HS3.out.below hb4); have HB4 := Lib.hid hb4; have HR4 := Lib.hid (BRow.belowS HR3.out hb4); clear hb4; replace hcP := HS4.out.pcell; replace hcF := HS4.out.fcell)
        have kP : ∀ (y : Later w4) o, y.here.cell? ⟨P, o, none⟩ = #[Value.int .i64 r0, .slice r1 r2 r3, .bool r4, .int .i64 r5, .int .i64 r6, .bool r7, .int .i64 r8, .string r9, .slice ra rb rc, .slice A' k c'][o]? := fun y o => (HS4.out.below y.below).pcell o
        have kF : ∀ (y : Later w4) o, y.here.cell? ⟨P + 1, o, none⟩ = #[Value.int .i64 0, .int .i64 0][o]? := fun y o => (HS4.out.below y.below).fcell o
        have kV : ∀ (y : Later w4), (convert 23 9 (.slice A l.length c)).run Tryz.prog y.here = .ok (.string q) y.here := fun y => (conv_brow (BRow.belowS HR4.out y.below)).trans (by rw [show (⟨l.toArray⟩ : ByteArray) = q from HQ.out])
        have HC3 : Hid (∀ y : Later w4, Calls Tryz.prog 8 #[.agg #[.int .i64 r0, .slice r1 r2 r3, .bool r4, .int .i64 r5, .int .i64 r6, .bool r7, .int .i64 r8, .string r9, .slice ra rb rc]] y.here fun e w' => e = .returned (.string q) ∧ Below y.here.heap.size y.here w') := Lib.hid fun y => HC2.out _ (HB4.out.trans (y.below.mono HB4.out.size))
        clear hcP hcF
        refine wp_region_later (by kernel_rfl) (by kernel_rfl) ?_
        repeat (any_goals (first
          | go_big_quiet_step ((go_at_call 8; exact later_of (HC3.out _)))
          | quiet_step ((go_at_call 8; exact later_of (HC3.out _)))))
        all_goals
          refine wpQuiet_nil ?_
          first | rintro _ ⟨⟨wx, hbx⟩, rfl⟩ | (rintro ⟨wx, hbx⟩)
          have HS5 := Lib.hid (HS4.out.below hbx)
          clear hbx kP kF kV
          go_wp2_with fail
          go_ret
          exact ⟨rfl, HB1.out.trans (HS5.out.bel.mono HB1.out.size)⟩
      · have hii : ¬ (i : Int) < (s.size : Int) := by omega
        by_cases hl0 : l.length = 0
        · obtain rfl := List.eq_nil_of_length_eq_zero hl0
          go_wp2_with fail
          go_ret
          exact ⟨rfl, HB1.out.trans (HW.out.mono HB1.out.size)⟩
        · by_cases hl1 : l.length = 1
          · obtain ⟨x, rfl⟩ : ∃ x, l = [x] := List.length_eq_one_iff.1 hl1
            clear hl0 hl1
            have HDs := Lib.hid (plain_sizes1 x)
            have HNe : Hid ([x] ≠ []) := Lib.hid (by simp)
            replace HR : Hid (BRow w1.heap.size wr (.slice A 1 c) [x]) := HR
            rw [show ([x] : List UInt8).length = 1 from rfl]
            have HP1 : Hid (∀ w, Calls Tryz.prog 6 #[.string (str [x]), .agg #[.bool false, .bool false, .bool false, .bool false]] w (TreeEnd (plainT [x]) w)) := Lib.hid fun w => tree_end [x] (plainT [x]) _ (okB_asc HO.out) (by first | omega | (simp)) (SynP.plain_parse (okB_nat HO.out)) w
            have HSh : Hid (ShowC (plainT [x])) := Lib.hid (show_all (2) _ (by rw [HDs.out.1]; first | omega | (simp)) (plain_ok HO.out HNe.out) (by rw [plain_text HO.out HNe.out]; first | omega | (simp)))
            have HSz : Hid (SizeC (plainT [x])) := Lib.hid (nsize_all (2) _ (by rw [HDs.out.1]; first | omega | (simp)) (by rw [HDs.out.1]; first | omega | (simp)))
            have HTx := Lib.hid (plain_text HO.out HNe.out)
            have hcv := conv_brow HR.out
            obtain ⟨q, hq⟩ : ∃ q, str [x] = q := ⟨_, rfl⟩
            have HQ := Lib.hid hq
            have hq' : (⟨[x].toArray⟩ : ByteArray) = q := hq
            rw [hq] at HP1
            rw [hq'] at hcv
            clear hq hq'
            go_upto_region 13 with (go_at_call 6; refine (HP1.out _).mono ?_; rintro e w2 ⟨hb2, ⟨r0, r1, r2, r3, r4, r5, r6, r7, r8, r9, ra, rb, rc⟩, A', k, c', rfl, hl2⟩; have HB2 := Lib.hid (HW.out.trans (hb2.mono HW.out.size)); have HR2 := Lib.hid (BRow.belowS HR.out hb2); have HL2 := Lib.hid hl2; clear hb2 hl2; simp only [RawN.cells, List.cons_append, List.nil_append])
            obtain ⟨P, hP⟩ : ∃ P, w2.heap.size = P := ⟨_, rfl⟩
            have hps := PatS.start (pc := #[.int .i64 r0, .slice r1 r2 r3, .bool r4, .int .i64 r5, .int .i64 r6, .bool r7, .int .i64 r8, .string r9, .slice ra rb rc, .slice A' k c']) (fc := #[.int .i64 0, .int .i64 0]) HB2.out hP
            have hb3 := below_two w2 (.cells #[.int .i64 r0, .slice r1 r2 r3, .bool r4, .int .i64 r5, .int .i64 r6, .bool r7, .int .i64 r8, .string r9, .slice ra rb rc, .slice A' k c'] 31) (.cells #[.int .i64 0, .int .i64 0] 34)
            have hl3 := Lies.on (StandN.below hb3) _ _ HL2.out
            have hr3 := BRow.belowS HR2.out hb3
            rw [hP]
            clear hb3
            generalize (w2.alloc (.cells #[.int .i64 r0, .slice r1 r2 r3, .bool r4, .int .i64 r5, .int .i64 r6, .bool r7, .int .i64 r8, .string r9, .slice ra rb rc, .slice A' k c'] 31)).alloc (.cells #[.int .i64 0, .int .i64 0] 34) = W3 at hps hl3 hr3 ⊢
            have HS3 := Lib.hid hps
            have HL3 := Lib.hid hl3
            have HR3 := Lib.hid hr3
            have hcP := HS3.out.pcell
            have hcF := HS3.out.fcell
            clear hps hl3 hr3 hP HB2 HL2 HP1 hcv
            have HC1 : Hid (Calls Tryz.prog 7 #[.agg #[.int .i64 r0, .slice r1 r2 r3, .bool r4, .int .i64 r5, .int .i64 r6, .bool r7, .int .i64 r8, .string r9, .slice ra rb rc]] W3 fun e w' => e = .returned (.tuple #[.int .i64 1, .int .i64 1]) ∧ Below W3.heap.size W3 w') := Lib.hid (by
              have := HSz.out _ _ W3 HL3.out
              rw [HDs.out.1, HDs.out.2] at this
              exact this)
            have HC2 : Hid (∀ w4, Below W3.heap.size W3 w4 → Calls Tryz.prog 8 #[.agg #[.int .i64 r0, .slice r1 r2 r3, .bool r4, .int .i64 r5, .int .i64 r6, .bool r7, .int .i64 r8, .string r9, .slice ra rb rc]] w4 fun e w' => e = .returned (.string q) ∧ Below w4.heap.size w4 w') := Lib.hid fun w4 hb => by
              have := HSh.out _ _ w4 (Lies.on (StandN.below hb) _ _ HL3.out)
              rw [HTx.out, HQ.out] at this
              exact this
            go_upto_region 14 with (go_at_call 7; refine HC1.out.mono ?_; rintro e w4 ⟨rfl, hb4⟩; have HS4 := Lib.hid (HS3.out.below hb4); have HB4 := Lib.hid hb4; have HR4 := Lib.hid (BRow.belowS HR3.out hb4); clear hb4; replace hcP := HS4.out.pcell; replace hcF := HS4.out.fcell)
            have kP : ∀ (y : Later w4) o, y.here.cell? ⟨P, o, none⟩ = #[Value.int .i64 r0, .slice r1 r2 r3, .bool r4, .int .i64 r5, .int .i64 r6, .bool r7, .int .i64 r8, .string r9, .slice ra rb rc, .slice A' k c'][o]? := fun y o => (HS4.out.below y.below).pcell o
            have kF : ∀ (y : Later w4) o, y.here.cell? ⟨P + 1, o, none⟩ = #[Value.int .i64 0, .int .i64 0][o]? := fun y o => (HS4.out.below y.below).fcell o
            have kV : ∀ (y : Later w4), (convert 23 9 (.slice A 1 c)).run Tryz.prog y.here = .ok (.string q) y.here := fun y => (conv_brow (BRow.belowS HR4.out y.below)).trans (by rw [show (⟨[x].toArray⟩ : ByteArray) = q from HQ.out])
            have HC3 : Hid (∀ y : Later w4, Calls Tryz.prog 8 #[.agg #[.int .i64 r0, .slice r1 r2 r3, .bool r4, .int .i64 r5, .int .i64 r6, .bool r7, .int .i64 r8, .string r9, .slice ra rb rc]] y.here fun e w' => e = .returned (.string q) ∧ Below y.here.heap.size y.here w') := Lib.hid fun y => HC2.out _ (HB4.out.trans (y.below.mono HB4.out.size))
            clear hcP hcF
            refine wp_region_later (by kernel_rfl) (by kernel_rfl) ?_
            repeat (any_goals (first
              | go_big_quiet_step ((go_at_call 8; exact later_of (HC3.out _)))
              | quiet_step ((go_at_call 8; exact later_of (HC3.out _)))))
            all_goals
              refine wpQuiet_nil ?_
              first | rintro _ ⟨⟨wx, hbx⟩, rfl⟩ | (rintro ⟨wx, hbx⟩)
              have HS5 := Lib.hid (HS4.out.below hbx)
              clear hbx kP kF kV
              go_wp2_with fail
              go_ret
              exact ⟨rfl, HB1.out.trans (HS5.out.bel.mono HB1.out.size)⟩
          · have hl2 : 2 ≤ l.length := by omega
            have HDs := Lib.hid (plain_sizes2 hl2)
            have HNe : Hid (l ≠ []) := Lib.hid (fun h => by rw [h] at hl0; exact hl0 rfl)
            have zl0 : ¬ (l.length : Int) = 0 := by omega
            have HP1 : Hid (∀ w, Calls Tryz.prog 6 #[.string (str l), .agg #[.bool false, .bool false, .bool false, .bool false]] w (TreeEnd (plainT l) w)) := Lib.hid fun w => tree_end l (plainT l) _ (okB_asc HO.out) (by first | omega | (simp)) (SynP.plain_parse (okB_nat HO.out)) w
            have HSh : Hid (ShowC (plainT l)) := Lib.hid (show_all (l.length + 1) _ (by rw [HDs.out.1]; first | omega | (simp)) (plain_ok HO.out HNe.out) (by rw [plain_text HO.out HNe.out]; first | omega | (simp)))
            have HSz : Hid (SizeC (plainT l)) := Lib.hid (nsize_all (l.length + 1) _ (by rw [HDs.out.1]; first | omega | (simp)) (by rw [HDs.out.1]; first | omega | (simp)))
            have HTx := Lib.hid (plain_text HO.out HNe.out)
            have hcv := conv_brow HR.out
            obtain ⟨q, hq⟩ : ∃ q, str l = q := ⟨_, rfl⟩
            have HQ := Lib.hid hq
            have hq' : (⟨l.toArray⟩ : ByteArray) = q := hq
            rw [hq] at HP1
            rw [hq'] at hcv
            clear hq hq'
            go_upto_region 13 with (go_at_call 6; refine (HP1.out _).mono ?_; rintro e w2 ⟨hb2, ⟨r0, r1, r2, r3, r4, r5, r6, r7, r8, r9, ra, rb, rc⟩, A', k, c', rfl, hl2⟩; have HB2 := Lib.hid (HW.out.trans (hb2.mono HW.out.size)); have HR2 := Lib.hid (BRow.belowS HR.out hb2); have HL2 := Lib.hid hl2; clear hb2 hl2; simp only [RawN.cells, List.cons_append, List.nil_append])
            obtain ⟨P, hP⟩ : ∃ P, w2.heap.size = P := ⟨_, rfl⟩
            have hps := PatS.start (pc := #[.int .i64 r0, .slice r1 r2 r3, .bool r4, .int .i64 r5, .int .i64 r6, .bool r7, .int .i64 r8, .string r9, .slice ra rb rc, .slice A' k c']) (fc := #[.int .i64 0, .int .i64 0]) HB2.out hP
            have hb3 := below_two w2 (.cells #[.int .i64 r0, .slice r1 r2 r3, .bool r4, .int .i64 r5, .int .i64 r6, .bool r7, .int .i64 r8, .string r9, .slice ra rb rc, .slice A' k c'] 31) (.cells #[.int .i64 0, .int .i64 0] 34)
            have hl3 := Lies.on (StandN.below hb3) _ _ HL2.out
            have hr3 := BRow.belowS HR2.out hb3
            rw [hP]
            clear hb3
            generalize (w2.alloc (.cells #[.int .i64 r0, .slice r1 r2 r3, .bool r4, .int .i64 r5, .int .i64 r6, .bool r7, .int .i64 r8, .string r9, .slice ra rb rc, .slice A' k c'] 31)).alloc (.cells #[.int .i64 0, .int .i64 0] 34) = W3 at hps hl3 hr3 ⊢
            have HS3 := Lib.hid hps
            have HL3 := Lib.hid hl3
            have HR3 := Lib.hid hr3
            have hcP := HS3.out.pcell
            have hcF := HS3.out.fcell
            clear hps hl3 hr3 hP HB2 HL2 HP1 hcv
            have HC1 : Hid (Calls Tryz.prog 7 #[.agg #[.int .i64 r0, .slice r1 r2 r3, .bool r4, .int .i64 r5, .int .i64 r6, .bool r7, .int .i64 r8, .string r9, .slice ra rb rc]] W3 fun e w' => e = .returned (.tuple #[.int .i64 ((l.length + 1 : Nat) : Int), .int .i64 2]) ∧ Below W3.heap.size W3 w') := Lib.hid (by
              have := HSz.out _ _ W3 HL3.out
              rw [HDs.out.1, HDs.out.2] at this
              exact this)
            have HC2 : Hid (∀ w4, Below W3.heap.size W3 w4 → Calls Tryz.prog 8 #[.agg #[.int .i64 r0, .slice r1 r2 r3, .bool r4, .int .i64 r5, .int .i64 r6, .bool r7, .int .i64 r8, .string r9, .slice ra rb rc]] w4 fun e w' => e = .returned (.string q) ∧ Below w4.heap.size w4 w') := Lib.hid fun w4 hb => by
              have := HSh.out _ _ w4 (Lies.on (StandN.below hb) _ _ HL3.out)
              rw [HTx.out, HQ.out] at this
              exact this
            have zl1 : ¬ (l.length : Int) = 1 := by omega
            have zl2 : (1 : Int) < (l.length : Int) := by omega
            have e1 : IntKind.i64.wrap ((l.length : Int) + 1) = ((l.length + 1 : Nat) : Int) := by rw [IntWalk.i64_in _ (by omega)]; omega
            go_upto_region 14 with (go_at_call 7; refine HC1.out.mono ?_; rintro e w4 ⟨rfl, hb4⟩; have HS4 := Lib.hid (HS3.out.below hb4); have HB4 := Lib.hid hb4; have HR4 := Lib.hid (BRow.belowS HR3.out hb4); clear hb4; replace hcP := HS4.out.pcell; replace hcF := HS4.out.fcell)
            have kP : ∀ (y : Later w4) o, y.here.cell? ⟨P, o, none⟩ = #[Value.int .i64 r0, .slice r1 r2 r3, .bool r4, .int .i64 r5, .int .i64 r6, .bool r7, .int .i64 r8, .string r9, .slice ra rb rc, .slice A' k c'][o]? := fun y o => (HS4.out.below y.below).pcell o
            have kF : ∀ (y : Later w4) o, y.here.cell? ⟨P + 1, o, none⟩ = #[Value.int .i64 0, .int .i64 0][o]? := fun y o => (HS4.out.below y.below).fcell o
            have kV : ∀ (y : Later w4), (convert 23 9 (.slice A l.length c)).run Tryz.prog y.here = .ok (.string q) y.here := fun y => (conv_brow (BRow.belowS HR4.out y.below)).trans (by rw [show (⟨l.toArray⟩ : ByteArray) = q from HQ.out])
            have HC3 : Hid (∀ y : Later w4, Calls Tryz.prog 8 #[.agg #[.int .i64 r0, .slice r1 r2 r3, .bool r4, .int .i64 r5, .int .i64 r6, .bool r7, .int .i64 r8, .string r9, .slice ra rb rc]] y.here fun e w' => e = .returned (.string q) ∧ Below y.here.heap.size y.here w') := Lib.hid fun y => HC2.out _ (HB4.out.trans (y.below.mono HB4.out.size))
            clear hcP hcF
            refine wp_region_later (by kernel_rfl) (by kernel_rfl) ?_
            repeat (any_goals (first
              | go_big_quiet_step ((go_at_call 8; exact later_of (HC3.out _)))
              | quiet_step ((go_at_call 8; exact later_of (HC3.out _)))))
            all_goals
              refine wpQuiet_nil ?_
              first | rintro _ ⟨⟨wx, hbx⟩, rfl⟩ | (rintro ⟨wx, hbx⟩)
              have HS5 := Lib.hid (HS4.out.below hbx)
              clear hbx kP kF kV
              go_wp2_with fail
              go_ret
              exact ⟨rfl, HB1.out.trans (HS5.out.bel.mono HB1.out.size)⟩

end Go.Proofs.YtjfeepajlkckeaaGreatDoor
