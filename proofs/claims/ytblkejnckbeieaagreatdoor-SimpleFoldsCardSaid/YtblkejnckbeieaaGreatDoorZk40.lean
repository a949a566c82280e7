/- Chapter 11: the walks of kid, Class of one plain sign, times, within. -/
import Derived.Test.YtblkejnckbeieaaGreatDoorZk25
import Derived.Test.YtblkejnckbeieaaGreatDoorZk39
import Derived.Test.YtblkejnckbeieaaGreatDoorZk2
import Derived.Test.YtblkejnckbeieaaGreatDoorShelf
import Derived.BigQuiet
namespace Go.Proofs.YtblkejnckbeieaaGreatDoor
open Go.RowKit SetPure

def hd (l : List SynP.Nd) : SynP.Nd := l.headD (SynP.Nd.leaf 0)
theorem headT_hd (l : List SynP.Nd) : SynP.headT (SynP.kidsT l) = ((hd l).kind, SynP.shN (hd l)) := by
  cases l with
  | nil =>
    show (0, SynP.emptyT) = ((SynP.Nd.leaf 0).kind, SynP.shN (SynP.Nd.leaf 0))
    unfold SynP.Nd.leaf
    rw [SynP.sh0]
    rfl
  | cons x l => rfl

set_option maxRecDepth 100000 in
set_option maxHeartbeats 1600000 in
theorem kid_any (P : Nat → Prop) (kind : Nat) (set : Option (Int → Bool)) (fold : Bool) (least most : Int) (lazy : Bool) (cap : Nat) (name : List UInt8) (kids : List SynP.Nd) (r : RawN) (w : World) (hl : Lies w P (.mk kind set fold least most lazy cap name kids) r) :
    Calls Tryz.prog 50 #[.agg r.cells.toArray] w fun e w' => ∃ r2 : RawN, e = .returned (.agg r2.cells.toArray) ∧ Below w.heap.size w w' ∧ Lies w' P (hd kids) r2 := by
  obtain ⟨hn, rs, hrs, hk, hls⟩ := hl.kids
  obtain ⟨r0, r1, r2, r3, r4, r5, r6, r7, r8, r9, ra, rb, rc⟩ := r
  simp only at hn hk
  subst hn
  have HZ : Hid (BoxN ((w.alloc (.cells #[.int .i64 r0, .slice r1 r2 r3, .bool r4, .int .i64 r5, .int .i64 r6, .bool r7, .int .i64 r8, .string r9, .slice ra kids.length rc] 29)).alloc (.cells zeroA 29)) (w.heap.size + 1) zeroA) := Lib.hid (by
    have := heap_alloc_new (w.alloc (.cells #[.int .i64 r0, .slice r1 r2 r3, .bool r4, .int .i64 r5, .int .i64 r6, .bool r7, .int .i64 r8, .string r9, .slice ra kids.length rc] 29)) (.cells zeroA 29)
    rw [World.size_alloc] at this
    exact this)
  have HB := Lib.hid (below_two w (.cells #[.int .i64 r0, .slice r1 r2 r3, .bool r4, .int .i64 r5, .int .i64 r6, .bool r7, .int .i64 r8, .string r9, .slice ra kids.length rc] 29) (.cells zeroA 29))
  have HX : Hid (((w.alloc (.cells #[.int .i64 r0, .slice r1 r2 r3, .bool r4, .int .i64 r5, .int .i64 r6, .bool r7, .int .i64 r8, .string r9, .slice ra kids.length rc] 29)).alloc (.cells zeroA 29)).heap[w.heap.size]? = some (.cells #[.int .i64 r0, .slice r1 r2 r3, .bool r4, .int .i64 r5, .int .i64 r6, .bool r7, .int .i64 r8, .string r9, .slice ra kids.length rc] 29)) := Lib.hid ((Below.heap_alloc _ _ _ (by simp)).trans (heap_alloc_new w _))
  have HK := Lib.hid hk
  have HL := Lib.hid hls
  have HRs := Lib.hid hrs
  clear hls hl hk hrs
  cases kids with
  | nil =>
    simp only [RawN.cells, List.length_nil] at HZ HB HX ⊢
    go_enter Tryz.func50, Tryz.ntmps50
    go_upto_region 1 with fail
    unfold zeroA at HZ HB HX
    generalize (w.alloc (.cells #[.int .i64 r0, .slice r1 r2 r3, .bool r4, .int .i64 r5, .int .i64 r6, .bool r7, .int .i64 r8, .string r9, .slice ra 0 rc] 29)).alloc (.cells #[.int .i64 0, .slice none 0 0, .bool false, .int .i64 0, .int .i64 0, .bool false, .int .i64 0, .string ⟨#[]⟩, .slice none 0 0] 29) = W at HZ HB HX ⊢
    have hc : ∀ o, W.cell? ⟨w.heap.size, o, none⟩ = #[Value.int .i64 r0, .slice r1 r2 r3, .bool r4, .int .i64 r5, .int .i64 r6, .bool r7, .int .i64 r8, .string r9, .slice ra 0 rc][o]? := fun o => Lib.cell_of_heap HX.out o
    go_wp2_with (refine wpList_store_row rfl 29 (.tmp 2) (.tmp 7) rfl (w.heap.size + 1) zeroN.cells.toArray rfl rfl 29 _ HZ.out sizeN rfl (cellsN_one _) ?_)
    refine retN rfl zeroN rfl (setRow_heap _ _ _ _ _ _ HZ.out) rfl ⟨_, rfl, below_setRow_ HB.out (Nat.le_succ _) _, ?_⟩
    exact Lies.leaf _ _ 0
  | cons k ks =>
    obtain ⟨q0, q1, q2⟩ : ∃ b off, ra = some ⟨b, off, none⟩ ∧ b < w.heap.size ∧ ∀ i (hi : i < rs.length) (o : Nat), o < 9 → w.cell? ⟨b, off + (i * 9 + o), none⟩ = some (rs[i].cells.getD o undef) := HK.out.nth (Nat.lt_of_lt_of_eq (Nat.succ_pos _) HRs.out.symm)
    obtain ⟨rfl, hb, hc⟩ := q2
    have hr0 : 0 < rs.length := Nat.lt_of_lt_of_eq (Nat.succ_pos _) HRs.out.symm
    have hL := LiesL.nth (k :: ks) rs HRs.out HL.out 0 (by simp) hr0
    obtain ⟨z, hz⟩ : ∃ z, rs[0]'hr0 = z := ⟨_, rfl⟩
    have hcz : ∀ o, o < 9 → w.cell? ⟨q0, q1 + o, none⟩ = some (z.cells.getD o undef) := fun o ho => by
      have := hc 0 hr0 o ho
      rw [hz, Nat.zero_mul, Nat.zero_add] at this
      exact this
    rw [hz] at hL
    have HLz := Lib.hid hL
    have HCz := Lib.hid hcz
    clear hc hL hz hcz
    have hlenp : (0 : Int) < ((k :: ks).length : Int) := by rw [List.length_cons]; omega
    have hlen0 : ((k :: ks).length : Int) ≠ 0 := by rw [List.length_cons]; omega
    generalize (k :: ks).length = n at HZ HB HX hlen0 hlenp ⊢
    simp only [RawN.cells] at HZ HB HX ⊢
    go_enter Tryz.func50, Tryz.ntmps50
    go_upto_region 1 with fail
    unfold zeroA at HZ HB HX
    generalize (w.alloc (.cells #[.int .i64 r0, .slice r1 r2 r3, .bool r4, .int .i64 r5, .int .i64 r6, .bool r7, .int .i64 r8, .string r9, .slice (some ⟨q0, q1, none⟩) n rc] 29)).alloc (.cells #[.int .i64 0, .slice none 0 0, .bool false, .int .i64 0, .int .i64 0, .bool false, .int .i64 0, .string ⟨#[]⟩, .slice none 0 0] 29) = W at HZ HB HX ⊢
    have hcW : ∀ o, W.cell? ⟨w.heap.size, o, none⟩ = #[Value.int .i64 r0, .slice r1 r2 r3, .bool r4, .int .i64 r5, .int .i64 r6, .bool r7, .int .i64 r8, .string r9, .slice (some ⟨q0, q1, none⟩) n rc][o]? := fun o => Lib.cell_of_heap HX.out o
    obtain ⟨z0, z1, z2, z3, z4, z5, z6, z7, z8, z9, za, zb, zc⟩ := z
    have mm : ∀ o, o < 9 → W.cell? ⟨q0, q1 + o, none⟩ = w.cell? ⟨q0, q1 + o, none⟩ := fun o _ => HB.out.cell (p := ⟨q0, q1 + o, none⟩) hb
    have m0 : W.cell? ⟨q0, q1, none⟩ = some (.int .i64 z0) := (mm 0 (by decide)).trans (HCz.out 0 (by decide))
    have m1 : W.cell? ⟨q0, q1 + 1, none⟩ = some (.slice z1 z2 z3) := (mm 1 (by decide)).trans (HCz.out 1 (by decide))
    have m2 : W.cell? ⟨q0, q1 + 2, none⟩ = some (.bool z4) := (mm 2 (by decide)).trans (HCz.out 2 (by decide))
    have m3 : W.cell? ⟨q0, q1 + 3, none⟩ = some (.int .i64 z5) := (mm 3 (by decide)).trans (HCz.out 3 (by decide))
    have m4 : W.cell? ⟨q0, q1 + 4, none⟩ = some (.int .i64 z6) := (mm 4 (by decide)).trans (HCz.out 4 (by decide))
    have m5 : W.cell? ⟨q0, q1 + 5, none⟩ = some (.bool z7) := (mm 5 (by decide)).trans (HCz.out 5 (by decide))
    have m6 : W.cell? ⟨q0, q1 + 6, none⟩ = some (.int .i64 z8) := (mm 6 (by decide)).trans (HCz.out 6 (by decide))
    have m7 : W.cell? ⟨q0, q1 + 7, none⟩ = some (.string z9) := (mm 7 (by decide)).trans (HCz.out 7 (by decide))
    have m8 : W.cell? ⟨q0, q1 + 8, none⟩ = some (.slice za zb zc) := (mm 8 (by decide)).trans (HCz.out 8 (by decide))
    clear mm
    go_wp2_with (refine wpList_store_row rfl 29 (.tmp 2) (.tmp 11) rfl (w.heap.size + 1) (RawN.mk z0 z1 z2 z3 z4 z5 z6 z7 z8 z9 za zb zc).cells.toArray rfl rfl 29 _ HZ.out sizeN rfl (cellsN_one _) ?_)
    refine retN rfl (RawN.mk z0 z1 z2 z3 z4 z5 z6 z7 z8 z9 za zb zc) rfl (setRow_heap _ _ _ _ _ _ HZ.out) rfl ⟨_, rfl, below_setRow_ HB.out (Nat.le_succ _) _, ?_⟩
    exact Lies.on (StandN.below (below_setRow_ HB.out (Nat.le_succ _) _)) _ _ HLz.out

/-- A set of one plain sign: its row. -/
theorem SetV.one_row {w : World} {v : Value} {c : Int} (hc : SynP.alnum c) (h : SetV w v (SynP.one c)) : ∃ b off cp, v = .slice (some ⟨b, off, none⟩) 1 cp ∧ w.cell? ⟨b, off, none⟩ = some (.int .i64 c) ∧ w.cell? ⟨b, off + 1, none⟩ = some (.int .i64 c) := by
  obtain ⟨s, h1, h2⟩ := h
  have hc2 : 0 ≤ c ∧ c ≤ 1114111 := by unfold SynP.alnum at hc; omega
  have hs : s = [(c, c)] := by
    refine Canon.unique h1.canon ?_ fun z => ?_
    · exact ⟨hc2.1, Int.le_refl _, hc2.2, trivial⟩
    · rw [← inB_iff, h2, InS_cons]
      simp only [Bool.and_eq_true, inR_iff, SynP.one, decide_eq_true_eq]
      constructor
      · rintro ⟨_, h⟩
        exact .inl (by omega)
      · rintro (h | h)
        · omega
        · exact absurd h (InS_nil _)
  subst hs
  obtain ⟨A, cp, rfl, _, _, hA⟩ := h1.1
  obtain ⟨b, off, rfl, hb, hcell⟩ := hA (by simp)
  refine ⟨b, off, cp, rfl, ?_, ?_⟩
  · have := hcell 0 (by show 0 < 1 * 2; decide)
    exact this
  · have := hcell 1 (by show 1 < 1 * 2; decide)
    exact this

theorem itoa_s (n : Int) (h0 : 0 ≤ n) (h1 : n < 100) (w : World) : Calls Tryz.prog 89 #[.int .i64 n] w fun e w' => e = .returned (.string (str (SynP.decS n))) ∧ w' = w := by
  have := Tryz.strconv_Itoa_small n.toNat (by omega) w
  rw [show ((n.toNat : Nat) : Int) = n by omega] at this
  exact this
theorem decS_len (n : Int) (h0 : 0 ≤ n) (h1 : n < 100) : (SynP.decS n).length ≤ 2 := by
  have : ∀ k : Fin 100, (SynP.decS (k.val : Int)).length ≤ 2 := by decide +kernel
  have h := this ⟨n.toNat, by omega⟩
  simp only at h
  rwa [show ((n.toNat : Nat) : Int) = n by omega] at h

set_option maxRecDepth 100000 in
set_option maxHeartbeats 1600000 in
theorem class_plain (c : Int) (hc : SynP.alnum c) (v : Value) (w : World) (h : SetV w v (SynP.one c)) : Calls Tryz.prog 17 #[v] w fun e w' => e = .returned (.string (str [UInt8.ofNat c.toNat])) ∧ Below w.heap.size w w' := by
  obtain ⟨b, off, cp, rfl, h0, h1⟩ := h.one_row hc
  have hconv := conv_one w c
  obtain ⟨S, hS⟩ : ∃ S, strOfNums [c] = S := ⟨_, rfl⟩
  have HE : Hid (str [UInt8.ofNat c.toNat] = S) := Lib.hid (by rw [← hS]; rfl)
  rw [hS] at hconv
  have hu : IntKind.u8.wrap c = c := IntWalk.u8_in _ (by unfold SynP.alnum at hc; omega)
  clear h hS
  have HP : Hid (∀ w, Calls Tryz.prog 40 #[.int .i64 c] w fun e w' => e = .returned (.bool true) ∧ w = w') := Lib.hid fun w => by
    unfold SynP.alnum at hc
    clear h0 h1 hconv hu HE
    rcases hc with hc | hc | hc
    · have t0 : decide ((48 : Int) ≤ c) = true := decide_eq_true hc.1
      have t1 : decide (c ≤ (57 : Int)) = true := decide_eq_true hc.2
      go_enter Tryz.func40, Tryz.ntmps40
      go_wp2
      go_ret
      exact ⟨rfl, rfl⟩
    · have t0 : decide ((48 : Int) ≤ c) = true := decide_eq_true (by omega)
      have t1 : decide (c ≤ (57 : Int)) = false := decide_eq_false (by omega)
      have t2 : decide ((65 : Int) ≤ c) = true := decide_eq_true hc.1
      have t3 : decide (c ≤ (90 : Int)) = true := decide_eq_true hc.2
      go_enter Tryz.func40, Tryz.ntmps40
      go_wp2
      go_ret
      exact ⟨rfl, rfl⟩
    · have t0 : decide ((48 : Int) ≤ c) = true := decide_eq_true (by omega)
      have t1 : decide (c ≤ (57 : Int)) = false := decide_eq_false (by omega)
      have t2 : decide ((65 : Int) ≤ c) = true := decide_eq_true (by omega)
      have t3 : decide (c ≤ (90 : Int)) = false := decide_eq_false (by omega)
      have t4 : decide ((97 : Int) ≤ c) = true := decide_eq_true hc.1
      have t5 : decide (c ≤ (122 : Int)) = true := decide_eq_true hc.2
      go_enter Tryz.func40, Tryz.ntmps40
      go_wp2
      go_ret
      exact ⟨rfl, rfl⟩
  clear hc
  go_enter Tryz.func17, Tryz.ntmps17
  go_wp2_with (go_at_call 40; refine (HP.out _).mono ?_; rintro e w1 ⟨rfl, rfl⟩)
  go_ret
  exact ⟨by rw [HE.out]; rfl, (Below.refl _ _).alloc (Nat.le_refl _) _⟩

/-- A quantifier's text. -/
theorem times_text (least most : Int) (lazy : Bool) (h : 0 ≤ least ∧ least < 100 ∧ 0 ≤ most ∧ most < 100) : SynP.timesT_ SynP.decS least most lazy = (if least = 0 ∧ most = 1 then [63] else if least = most then 123 :: (SynP.decS least ++ [125]) else 123 :: (SynP.decS least ++ 44 :: (SynP.decS most ++ [125]))) ++ (if lazy then [63] else []) := by
  unfold SynP.timesT_
  rw [if_neg (by omega), if_neg (by omega)]
  congr 1
  by_cases h1 : least = 0 ∧ most = 1
  · rw [if_pos h1, if_pos h1]
  · rw [if_neg h1, if_neg h1]
    by_cases h2 : least = most
    · rw [if_pos h2, if_pos h2]
    · rw [if_neg h2, if_neg h2, if_neg (by omega)]

set_option maxRecDepth 100000 in
set_option maxHeartbeats 6400000 in
theorem times_any_ (r : RawN) (h : 0 ≤ r.mn ∧ r.mn < 100 ∧ 0 ≤ r.mx ∧ r.mx < 100) (w : World) :
    Calls Tryz.prog 51 #[.agg r.cells.toArray] w fun e w' => e = .returned (.string (str (SynP.timesT_ SynP.decS r.mn r.mx r.lazy))) ∧ Below w.heap.size w w' := by
  rw [times_text _ _ _ h]
  obtain ⟨r0, r1, r2, r3, r4, r5, r6, r7, r8, r9, ra, rb, rc⟩ := r
  simp only at h
  obtain ⟨a1, a2, b1, b2⟩ := h
  have hla := decS_len r5 a1 a2
  have hlb := decS_len r6 b1 b2
  obtain ⟨sa, hsa⟩ : ∃ sa, SynP.decS r5 = sa := ⟨_, rfl⟩
  obtain ⟨sb, hsb⟩ : ∃ sb, SynP.decS r6 = sb := ⟨_, rfl⟩
  obtain ⟨qa, hqa⟩ : ∃ q, str sa = q := ⟨_, rfl⟩
  obtain ⟨qb, hqb⟩ : ∃ q, str sb = q := ⟨_, rfl⟩
  have HIt : Hid (∀ (n : Int) (q : ByteArray), (n = r5 ∧ q = qa ∨ n = r6 ∧ q = qb) → ∀ w, Calls Tryz.prog 89 #[.int .i64 n] w fun e w' => e = .returned (.string q) ∧ w' = w) := Lib.hid fun n q hn w => by
    rcases hn with ⟨rfl, rfl⟩ | ⟨rfl, rfl⟩
    · have := itoa_s n a1 a2 w
      rw [hsa, hqa] at this
      exact this
    · have := itoa_s n b1 b2 w
      rw [hsb, hqb] at this
      exact this
  rw [hsa] at hla
  rw [hsb] at hlb
  have ha : qa.size ≤ 2 := by rw [← hqa, str_size_]; exact hla
  have hb : qb.size ≤ 2 := by rw [← hqb, str_size_]; exact hlb
  simp only [hsa, hsb]
  have HT1 : Hid (∀ l : List UInt8, str (123 :: (sa ++ [125]) ++ l) = ⟨#[123]⟩ ++ qa ++ ⟨#[125]⟩ ++ str l) := Lib.hid fun l => by
    rw [← hqa, show (⟨#[123]⟩ : ByteArray) = str [123] from rfl, show (⟨#[125]⟩ : ByteArray) = str [125] from rfl, str_app_, str_app_, str_app_]
    rfl
  have HT2 : Hid (∀ l : List UInt8, str (123 :: (sa ++ 44 :: (sb ++ [125])) ++ l) = ⟨#[123]⟩ ++ qa ++ ⟨#[44]⟩ ++ qb ++ ⟨#[125]⟩ ++ str l) := Lib.hid fun l => by
    rw [← hqa, ← hqb, show (⟨#[123]⟩ : ByteArray) = str [123] from rfl, show (⟨#[125]⟩ : ByteArray) = str [125] from rfl, show (⟨#[44]⟩ : ByteArray) = str [44] from rfl, str_app_, str_app_, str_app_, str_app_, str_app_]
    congr 1
    simp
  have HN : Hid (∀ b : ByteArray, b ++ str [] = b) := Lib.hid fun b => by
    have h : (b ++ str []).data = b.data := by rw [ByteArray.data_append]; simp [str]
    exact congrArg ByteArray.mk h
  have z1 : ¬ 1 + qa.size > 9223372036854775807 := by omega
  have z2 : ¬ 1 + qa.size + 1 > 9223372036854775807 := by omega
  have z3 : ¬ 1 + qa.size + 1 + qb.size > 9223372036854775807 := by omega
  have z4 : ¬ 1 + qa.size + 1 + qb.size + 1 > 9223372036854775807 := by omega
  have z7 : ¬ 1 + qa.size + 1 + qa.size > 9223372036854775807 := by omega
  have z8 : ¬ 1 + qa.size + 1 + qa.size + 1 > 9223372036854775807 := by omega
  have z5 : ¬ 1 + qa.size + 1 + 1 > 9223372036854775807 := by omega
  have z6 : ¬ 1 + qa.size + 1 + qb.size + 1 + 1 > 9223372036854775807 := by omega
  have b6 : (r6 == -1) = false := by simp; omega
  simp only [RawN.cells]
  clear hla hlb hsa hsb hqa hqb ha hb
  by_cases hA : r5 = 0 ∧ r6 = 1
  · rw [if_pos hA]
    obtain ⟨rfl, rfl⟩ := hA
    cases r7
    · go_enter Tryz.func51, Tryz.ntmps51
      go_upto_region 1 with fail
      go_quiet ((go_at_call 89; exact Calls.quiet_of_same (HIt.out _ _ (by first | exact Or.inl ⟨rfl, rfl⟩ | exact Or.inr ⟨rfl, rfl⟩) _)))
      go_wp2_with fail
      go_ret
      exact ⟨rfl, below_drewN ((Below.refl _ _).alloc (Nat.le_refl _) _) _⟩
    · go_enter Tryz.func51, Tryz.ntmps51
      go_upto_region 1 with fail
      go_quiet ((go_at_call 89; exact Calls.quiet_of_same (HIt.out _ _ (by first | exact Or.inl ⟨rfl, rfl⟩ | exact Or.inr ⟨rfl, rfl⟩) _)))
      go_wp2_with fail
      go_ret
      exact ⟨rfl, below_drewN ((Below.refl _ _).alloc (Nat.le_refl _) _) _⟩
  · rw [if_neg hA]
    by_cases hB : r5 = r6
    · rw [if_pos hB]
      have bB : (r5 == r6) = true := by simp [hB]
      have HL := Lib.hid (HT1.out (if r7 = true then [63] else []))
      rw [HL.out]
      by_cases c0 : r5 = 0
      · have c2 : (r6 == 1) = false := by simp; omega
        have c1 : (r5 == 1) = false := by simp; omega
        have c3 : (r5 == 0) = true := by simp [c0]
        clear c0 hB hA a1 a2 b1 b2
        cases r7
        · rw [if_neg (by decide), HN.out]
          go_enter Tryz.func51, Tryz.ntmps51
          go_upto_region 1 with fail
          go_quiet ((go_at_call 89; exact Calls.quiet_of_same (HIt.out _ _ (by first | exact Or.inl ⟨rfl, rfl⟩ | exact Or.inr ⟨rfl, rfl⟩) _)))
          go_wp2_with fail
          go_ret
          exact ⟨rfl, below_drewN ((Below.refl _ _).alloc (Nat.le_refl _) _) _⟩
        · rw [if_pos rfl]
          go_enter Tryz.func51, Tryz.ntmps51
          go_upto_region 1 with fail
          go_quiet ((go_at_call 89; exact Calls.quiet_of_same (HIt.out _ _ (by first | exact Or.inl ⟨rfl, rfl⟩ | exact Or.inr ⟨rfl, rfl⟩) _)))
          go_wp2_with fail
          go_ret
          exact ⟨rfl, below_drewN ((Below.refl _ _).alloc (Nat.le_refl _) _) _⟩
      · have c3 : (r5 == 0) = false := by simp [c0]
        by_cases c1 : r5 = 1
        · subst c1; subst hB
          clear c0 hA a1 a2 b1 b2
          cases r7
          · rw [if_neg (by decide), HN.out]
            go_enter Tryz.func51, Tryz.ntmps51
            go_upto_region 1 with fail
            go_quiet ((go_at_call 89; exact Calls.quiet_of_same (HIt.out _ _ (by first | exact Or.inl ⟨rfl, rfl⟩ | exact Or.inr ⟨rfl, rfl⟩) _)))
            go_wp2_with fail
            go_ret
            exact ⟨rfl, below_drewN ((Below.refl _ _).alloc (Nat.le_refl _) _) _⟩
          · rw [if_pos rfl]
            go_enter Tryz.func51, Tryz.ntmps51
            go_upto_region 1 with fail
            go_quiet ((go_at_call 89; exact Calls.quiet_of_same (HIt.out _ _ (by first | exact Or.inl ⟨rfl, rfl⟩ | exact Or.inr ⟨rfl, rfl⟩) _)))
            go_wp2_with fail
            go_ret
            exact ⟨rfl, below_drewN ((Below.refl _ _).alloc (Nat.le_refl _) _) _⟩
        · have c4 : (r5 == 1) = false := by simp [c1]
          clear c0 c1 hB hA a1 a2 b1 b2
          cases r7
          · rw [if_neg (by decide), HN.out]
            go_enter Tryz.func51, Tryz.ntmps51
            go_upto_region 1 with fail
            go_quiet ((go_at_call 89; exact Calls.quiet_of_same (HIt.out _ _ (by first | exact Or.inl ⟨rfl, rfl⟩ | exact Or.inr ⟨rfl, rfl⟩) _)))
            go_wp2_with fail
            go_ret
            exact ⟨rfl, below_drewN ((Below.refl _ _).alloc (Nat.le_refl _) _) _⟩
          · rw [if_pos rfl]
            go_enter Tryz.func51, Tryz.ntmps51
            go_upto_region 1 with fail
            go_quiet ((go_at_call 89; exact Calls.quiet_of_same (HIt.out _ _ (by first | exact Or.inl ⟨rfl, rfl⟩ | exact Or.inr ⟨rfl, rfl⟩) _)))
            go_wp2_with fail
            go_ret
            exact ⟨rfl, below_drewN ((Below.refl _ _).alloc (Nat.le_refl _) _) _⟩
    · rw [if_neg hB]
      have bB : (r5 == r6) = false := by simp [hB]
      have HL := Lib.hid (HT2.out (if r7 = true then [63] else []))
      rw [HL.out]
      by_cases c0 : r5 = 0
      · have c2 : (r6 == 1) = false := by simp; omega
        have c1 : (r5 == 1) = false := by simp; omega
        have c3 : (r5 == 0) = true := by simp [c0]
        clear c0 hB hA a1 a2 b1 b2
        cases r7
        · rw [if_neg (by decide), HN.out]
          go_enter Tryz.func51, Tryz.ntmps51
          go_upto_region 1 with fail
          go_quiet ((go_at_call 89; exact Calls.quiet_of_same (HIt.out _ _ (by first | exact Or.inl ⟨rfl, rfl⟩ | exact Or.inr ⟨rfl, rfl⟩) _)))
          go_wp2_with fail
          go_ret
          exact ⟨rfl, below_drewN ((Below.refl _ _).alloc (Nat.le_refl _) _) _⟩
        · rw [if_pos rfl]
          go_enter Tryz.func51, Tryz.ntmps51
          go_upto_region 1 with fail
          go_quiet ((go_at_call 89; exact Calls.quiet_of_same (HIt.out _ _ (by first | exact Or.inl ⟨rfl, rfl⟩ | exact Or.inr ⟨rfl, rfl⟩) _)))
          go_wp2_with fail
          go_ret
          exact ⟨rfl, below_drewN ((Below.refl _ _).alloc (Nat.le_refl _) _) _⟩
      · have c3 : (r5 == 0) = false := by simp [c0]
        by_cases c1 : r5 = 1
        · subst c1
          clear c0 hB hA a1 a2 b1 b2
          cases r7
          · rw [if_neg (by decide), HN.out]
            go_enter Tryz.func51, Tryz.ntmps51
            go_upto_region 1 with fail
            go_quiet ((go_at_call 89; exact Calls.quiet_of_same (HIt.out _ _ (by first | exact Or.inl ⟨rfl, rfl⟩ | exact Or.inr ⟨rfl, rfl⟩) _)))
            go_wp2_with fail
            go_ret
            exact ⟨rfl, below_drewN ((Below.refl _ _).alloc (Nat.le_refl _) _) _⟩
          · rw [if_pos rfl]
            go_enter Tryz.func51, Tryz.ntmps51
            go_upto_region 1 with fail
            go_quiet ((go_at_call 89; exact Calls.quiet_of_same (HIt.out _ _ (by first | exact Or.inl ⟨rfl, rfl⟩ | exact Or.inr ⟨rfl, rfl⟩) _)))
            go_wp2_with fail
            go_ret
            exact ⟨rfl, below_drewN ((Below.refl _ _).alloc (Nat.le_refl _) _) _⟩
        · have c4 : (r5 == 1) = false := by simp [c1]
          clear c0 c1 hB hA a1 a2 b1 b2
          cases r7
          · rw [if_neg (by decide), HN.out]
            go_enter Tryz.func51, Tryz.ntmps51
            go_upto_region 1 with fail
            go_quiet ((go_at_call 89; exact Calls.quiet_of_same (HIt.out _ _ (by first | exact Or.inl ⟨rfl, rfl⟩ | exact Or.inr ⟨rfl, rfl⟩) _)))
            go_wp2_with fail
            go_ret
            exact ⟨rfl, below_drewN ((Below.refl _ _).alloc (Nat.le_refl _) _) _⟩
          · rw [if_pos rfl]
            go_enter Tryz.func51, Tryz.ntmps51
            go_upto_region 1 with fail
            go_quiet ((go_at_call 89; exact Calls.quiet_of_same (HIt.out _ _ (by first | exact Or.inl ⟨rfl, rfl⟩ | exact Or.inr ⟨rfl, rfl⟩) _)))
            go_wp2_with fail
            go_ret
            exact ⟨rfl, below_drewN ((Below.refl _ _).alloc (Nat.le_refl _) _) _⟩

/-- A text in brackets, if its kind is one of some. -/
theorem wrap_not {ks : List Nat} {kd : Nat} {t : List UInt8} (h : ∀ j (hj : j < ks.length), ks[j] ≠ kd) : SynP.wrapT ks (kd, t) = t := by
  unfold SynP.wrapT
  rw [if_neg]
  intro hm
  obtain ⟨j, hj, e⟩ := List.getElem_of_mem hm
  exact h j hj e
theorem wrap_in {ks : List Nat} {kd : Nat} {t : List UInt8} {j : Nat} (hj : j < ks.length) (h : ks[j] = kd) : SynP.wrapT ks (kd, t) = [40, 63, 58] ++ t ++ [41] := by
  unfold SynP.wrapT
  rw [if_pos]
  show kd ∈ ks
  rw [← h]
  exact List.getElem_mem hj

set_option maxRecDepth 100000 in
set_option maxHeartbeats 3200000 in
theorem within_any (t : List UInt8) (kd : Nat) (r : RawN) (hk : r.kind = kd) (ks : List Nat) (n g : Nat) (w : World) (hn : ks.length = n) (hn9 : n ≤ 9) (hg : w.heap[g]? = some (.cells (ks.map fun k : Nat => Value.int .i64 k).toArray 3)) (hsz : t.length ≤ 1000000000)
    (HS : Hid (∀ w', Below w.heap.size w w' → Calls Tryz.prog 25 #[.agg r.cells.toArray] w' fun e w2 => e = .returned (.string (str t)) ∧ Below w'.heap.size w' w2)) :
    Calls Tryz.prog 48 #[.agg r.cells.toArray, .slice (some ⟨g, 0, none⟩) n n] w fun e w' => e = .returned (.string (str (SynP.wrapT ks (kd, t)))) ∧ Below w.heap.size w w' := by
  have hb0 : Below w.heap.size w (w.alloc (.cells r.cells.toArray 29)) := (Below.refl _ w).alloc (Nat.le_refl _) _
  have HB0 := Lib.hid hb0
  have HBx := Lib.hid (heap_alloc_new w (.cells r.cells.toArray 29))
  have HG := Lib.hid ((hb0.block g (Array.getElem?_eq_some_iff.1 hg).1).trans hg)
  have hgl : g < w.heap.size := (Array.getElem?_eq_some_iff.1 hg).1
  have HN := Lib.hid hn
  obtain ⟨r0, r1, r2, r3, r4, r5, r6, r7, r8, r9, ra, rb, rc⟩ := r
  simp only at hk
  subst hk
  obtain ⟨S, hS⟩ : ∃ S, str t = S := ⟨_, rfl⟩
  have hSz : S.size ≤ 1000000000 := by rw [← hS, str_size_]; exact hsz
  have HSe := Lib.hid hS
  rw [hS] at HS
  simp only [RawN.cells] at HS HB0 HBx HG ⊢
  clear hb0 hg hn hsz hS
  go_enter Tryz.func48, Tryz.ntmps48
  go_upto_region 3 with (go_at_call 25; refine (HS.out _ HB0.out).mono ?_; rintro e w2 ⟨rfl, hb2⟩; have HB2 := Lib.hid hb2; clear hb2)
  have hx2 := (HB2.out.block w.heap.size (by simp)).trans HBx.out
  have hg2 := (HB2.out.block g (by simp; omega)).trans HG.out
  have HBw : Hid (Below w.heap.size w w2) := Lib.hid (HB0.out.trans (HB2.out.mono (by simp)))
  have hk0 : w2.cell? ⟨w.heap.size, 0, none⟩ = some (.int .i64 kd) := by rw [Lib.cell_of_heap hx2]; rfl
  have HC : Hid (∀ i (hi : i < ks.length), w2.cell? ⟨g, i, none⟩ = some (.int .i64 ks[i])) := Lib.hid fun i hi => by
    rw [Lib.cell_of_heap hg2]
    simp [hi]
  clear hx2 hg2 HB0 HBx HG HB2 HS
  go_loopw [12] (fun s12 wr => ∃ i : Nat, i ≤ n ∧ s12 = .int .i64 i ∧ wr = w2 ∧ Hid (∀ j (hj : j < ks.length), j < i → ks[j] ≠ kd)) (fun s12 _ => n + 1 - (intOf s12).toNat)
  case atStart => exact ⟨0, Nat.zero_le _, rfl, rfl, Lib.hid fun j _ h => absurd h (Nat.not_lt_zero _)⟩
  case round =>
    obtain ⟨i, hi, rfl, rfl, HJ⟩ := hrel
    by_cases hlt : i < n
    · have hii : (i : Int) < (n : Int) := by omega
      have hi0 : (0 : Int) ≤ (i : Int) := by omega
      have hil : i < ks.length := by rw [HN.out]; exact hlt
      have hci := HC.out i hil
      obtain ⟨q, hq⟩ : ∃ q, ks[i]'hil = q := ⟨_, rfl⟩
      rw [hq] at hci
      have HQ := Lib.hid hq
      clear hq
      by_cases hqk : q = kd
      · subst hqk
        have HT : Hid (str (SynP.wrapT ks (q, t)) = ⟨#[40, 63, 58]⟩ ++ S ++ ⟨#[41]⟩) := Lib.hid (by
          rw [wrap_in hil HQ.out, ← HSe.out, ← str_app_, ← str_app_]
          rfl)
        have z1 : ¬ 3 + S.size > 9223372036854775807 := by omega
        have z2 : ¬ 3 + S.size + 1 > 9223372036854775807 := by omega
        have bq : ((q : Int) == (q : Int)) = true := by simp
        go_wp2_with fail
        go_ret
        exact ⟨(congrArg (fun x => Ending.returned (Value.string x)) HT.out).symm, HBw.out⟩
      · have bq : ((kd : Int) == (q : Int)) = false := by simp; omega
        go_wp2_with fail
        exact ⟨⟨i + 1, by omega, by simp, trivial, Lib.hid fun j hj h => by
          rcases Nat.lt_or_ge j i with h' | h'
          · exact HJ.out j hj h'
          · obtain rfl : j = i := by omega
            rw [HQ.out]
            exact hqk⟩, by simp only [intOf]; omega⟩
    · obtain rfl : i = n := by omega
      have hii : ¬ (i : Int) < (i : Int) := by omega
      have HT : Hid (str (SynP.wrapT ks (kd, t)) = S) := Lib.hid (by rw [wrap_not (fun j hj => HJ.out j hj (by rw [HN.out] at hj; exact hj)), HSe.out])
      go_wp2_with fail
      go_ret
      exact ⟨(congrArg (fun x => Ending.returned (Value.string x)) HT.out).symm, HBw.out⟩

end Go.Proofs.YtblkejnckbeieaaGreatDoor
