/- Chapter 10: the parser of patterns: a group's name. -/
import Derived.Test.YtblkejnckbeieaaGreatDoorZk8
namespace Go.Proofs.YtblkejnckbeieaaGreatDoor
open Go.RowKit SetPure

theorem nameB_stop {rs : List Int} {f : Nat} {s : List UInt8} {i : Nat} (h : ¬ (48 ≤ SynP.pk rs i ∧ SynP.pk rs i ≤ 57 ∨ 65 ≤ SynP.pk rs i ∧ SynP.pk rs i ≤ 90 ∨ 97 ≤ SynP.pk rs i ∧ SynP.pk rs i ≤ 122 ∨ SynP.pk rs i = 95)) : SynP.nameB rs f s i = (s, i) := by
  cases f with
  | zero => rfl
  | succ f => unfold SynP.nameB SynP.isName; rw [decide_eq_false h]; rfl
theorem nameB_next {rs : List Int} {f : Nat} {s : List UInt8} {i : Nat} (h : 48 ≤ SynP.pk rs i ∧ SynP.pk rs i ≤ 57 ∨ 65 ≤ SynP.pk rs i ∧ SynP.pk rs i ≤ 90 ∨ 97 ≤ SynP.pk rs i ∧ SynP.pk rs i ≤ 122 ∨ SynP.pk rs i = 95) : SynP.nameB rs (f + 1) s i = SynP.nameB rs f (s ++ [UInt8.ofNat (SynP.pk rs i).toNat]) (i + 1) := by
  rw [SynP.nameB]
  unfold SynP.isName
  rw [decide_eq_true h]
  rfl

set_option maxRecDepth 100000 in
set_option maxHeartbeats 6400000 in
theorem name_any (from_ : Nat) (w : World) (X : Cx) (p : Pv) (i : Nat) (ns : List (List UInt8)) (An : Option Addr) (cn : Nat) (h : At w X p i) (hf : from_ ≤ X.rs.length) (hnm : p.nm = .slice An ns.length cn) (hnl : ns.length ≤ 100000) (hns : ∀ w', Mv X.b w w' → SeqAt Estr w' w'.heap.size An (ns.map str)) :
    Calls Tryz.prog 169 #[.pointer (some ⟨X.b, 0, none⟩), .int .i64 from_] w fun e w' => REnd w X p (fun x => .string (str x.1)) (fun x => x.2) (SynP.name X.rs ns from_ i) e w' := by
  have HA := Lib.hid h
  have HM := Lib.hid (Mv.rfl_ X.b w)
  have hfew := h.few
  have hc := h.cell
  have hz := h.frozen
  have hbase := h.lt
  have HNm := Lib.hid hns
  obtain ⟨R, hR⟩ : ∃ R, SynP.name X.rs ns from_ i = R := ⟨_, rfl⟩
  rw [hR]
  by_cases h60 : SynP.pk X.rs i ≠ 60
  · have hR2 : SynP.R.bad 25 from_ = R := by rw [← hR]; unfold SynP.name; rw [if_pos h60]
    have HR := Lib.hid hR2
    clear h hR hR2 hns
    go_enter Tryz.func169, Tryz.ntmps169
    go_wp2_with (first | (go_at_call 66; (first | refine (has_no _ _ X p _ HA.out (by simp only [UInt8.reduceToNat]; omega)).mono ?_ | refine (has_yes _ _ X p _ HA.out (by simp only [UInt8.reduceToNat]; omega)).mono ?_); rintro e w1 ⟨rfl, hm1, ha1⟩; replace HM := Lib.hid (HM.out.step hm1); replace HA := Lib.hid ha1; clear hm1 ha1; replace hc := HA.out.cell; replace hz := HA.out.frozen) | (go_at_call 101; refine (fail_any _ _ _ X p _ HA.out (by omega)).mono ?_; rintro e w1 ⟨hm1, he1⟩; unfold thrown at he1; subst he1; replace HM := Lib.hid (HM.out.step hm1); clear hm1))
    rw [← HR.out]; exact ⟨rfl, HM.out, rfl⟩
  have hi1 := pk_in (rs := X.rs) (i := i) (by omega)
  have HR0 : Hid (∀ s j, SynP.nameB X.rs X.rs.length [] (i + 1) = (s, j) → (if SynP.pk X.rs j ≠ 62 ∨ s.length = 0 ∨ 32 < s.length ∨ s ∈ ns then SynP.R.bad 25 from_ else .ok (s, j + 1)) = R) := Lib.hid fun s j hw => by
    rw [← hR]
    unfold SynP.name
    rw [if_neg h60]
    simp only [hw]
  obtain ⟨B, hB⟩ : ∃ B, w.heap.size = B := ⟨_, rfl⟩
  have HBe := Lib.hid hB
  rw [hB] at hbase
  clear h hR hns
  go_enter Tryz.func169, Tryz.ntmps169
  go_upto_region 5 with (first | (go_at_call 66; (first | refine (has_no _ _ X p _ HA.out (by simp only [UInt8.reduceToNat]; omega)).mono ?_ | refine (has_yes _ _ X p _ HA.out (by simp only [UInt8.reduceToNat]; omega)).mono ?_); rintro e w1 ⟨rfl, hm1, ha1⟩; replace HM := Lib.hid (HM.out.step hm1); replace HA := Lib.hid ha1; clear hm1 ha1; replace hc := HA.out.cell; replace hz := HA.out.frozen) | (go_at_call 100; refine (peek0 _ X p _ HA.out).mono ?_; rintro e w1 ⟨rfl, hm1, ha1⟩; replace HM := Lib.hid (HM.out.step hm1); replace HA := Lib.hid ha1; clear hm1 ha1; replace hc := HA.out.cell; replace hz := HA.out.frozen))
  go_loopg [5, 6] (X.rs.length + 1) (fun k s5 s6 wr => ∃ (s : List UInt8) (j : Nat), Hid (j = i + 1 + s.length) ∧ k = X.rs.length + 1 - s.length ∧ s.length ≤ X.rs.length ∧ s6 = .int .i64 (SynP.pk X.rs j) ∧ Hid (SynP.nameB X.rs (X.rs.length - s.length) s j = SynP.nameB X.rs X.rs.length [] (i + 1)) ∧ Hid (BRow B wr s5 s) ∧ Hid (Mv X.b w wr) ∧ Hid (At wr X p j))
  case atStart => exact ⟨[], i + 1, Lib.hid rfl, by simp, by simp, rfl, Lib.hid rfl, Lib.hid (OwnB.nil_ (by rw [← HBe.out]; exact HM.out.size)), HM, HA⟩
  case round =>
    clear HM HA
    obtain ⟨s, j, HJ, hk, hsl, rfl, HE, HB, HM, HA⟩ := hrel
    have HK := Lib.hid hk
    clear hk
    replace hc := HA.out.cell
    replace hz := HA.out.frozen
    have hvf := BRow.form HB.out
    obtain ⟨Av, cv, rfl, _, _⟩ := hvf
    by_cases hgo : 48 ≤ SynP.pk X.rs j ∧ SynP.pk X.rs j ≤ 57 ∨ 65 ≤ SynP.pk X.rs j ∧ SynP.pk X.rs j ≤ 90 ∨ 97 ≤ SynP.pk X.rs j ∧ SynP.pk X.rs j ≤ 122 ∨ SynP.pk X.rs j = 95
    · have hJ0 := HJ.out
      have hin := pk_in (rs := X.rs) (i := j) (by omega)
      have hE := HE.out
      rw [show X.rs.length - s.length = X.rs.length - (s.length + 1) + 1 by omega, nameB_next hgo] at hE
      have HE2 := Lib.hid hE
      have HN := Lib.hid (nI_snoc s (SynP.pk X.rs j) (by omega) (by omega))
      have hb0 : 0 ≤ SynP.pk X.rs j := by omega
      have hb1 : SynP.pk X.rs j < 256 := by omega
      clear hE HE hJ0
      rcases hgo with q | q | q | q
      · obtain ⟨q1, q2⟩ := q
        have d48 : decide (48 ≤ SynP.pk X.rs j) = true := decide_eq_true (by omega)
        have d57 : decide (SynP.pk X.rs j ≤ 57) = true := decide_eq_true (by omega)
        have d65 : decide (65 ≤ SynP.pk X.rs j) = false := decide_eq_false (by omega)
        have d90 : decide (SynP.pk X.rs j ≤ 90) = true := decide_eq_true (by omega)
        have d97 : decide (97 ≤ SynP.pk X.rs j) = false := decide_eq_false (by omega)
        have d122 : decide (SynP.pk X.rs j ≤ 122) = true := decide_eq_true (by omega)
        have e95 : (SynP.pk X.rs j == 95) = false := beq_eq_false_iff_ne.2 (by omega)
        go_upto_region 8 with (first | (go_at_call 100; refine (peek0 _ X p _ HA.out).mono ?_; rintro e w1 ⟨rfl, hm1, ha1⟩; replace HB := Lib.hid (OwnB.mv HB.out hm1 hbase); replace HM := Lib.hid (HM.out.step hm1); replace HA := Lib.hid ha1; clear hm1 ha1; replace hc := HA.out.cell; replace hz := HA.out.frozen) | (at_builtin; (refine wpList_append_seqB _ rfl (.tmp 43) (.tmp 46) 60 rfl 1 elByte rfl (OwnB.alloc HB.out _) 1 rfl (SeqAt.new_at (E := Ebyte) _ [SynP.pk X.rs j] 5 _ rfl) rfl (by rw [nI_len]; simp only [maxLen]; omega) (by rw [nI_len]; omega) ?_); intro v2 w2 ho2 hg2; replace HM := Lib.hid ((HM.out.alloc _).grown hg2 (fun k hk => by rw [HBe.out]; exact (OwnB.lt HB.out k hk).1)); replace HA := Lib.hid ((HA.out.below ((Below.refl _ _).alloc (Nat.le_refl _) _)).grown hg2 (fun k hk => Nat.lt_of_lt_of_le hbase (OwnB.lt HB.out k hk).1)); clear hg2; replace hc := HA.out.cell; replace hz := HA.out.frozen))
        go_upto_region 6 with fail
        have hput := HA.out.put ((j : Int) + 1) (j + 1) (by omega) (by omega)
        have hmp := HM.out.step (mv_put _ X (.int .i64 ((j : Int) + 1)))
        have hop := OwnB.setBelow ho2 (a := ⟨X.b, 4, none⟩) hbase (.int .i64 ((j : Int) + 1))
        obtain ⟨W, hW⟩ : ∃ W, W = w2.setCell ⟨X.b, 4, none⟩ (.int .i64 ((j : Int) + 1)) := ⟨_, rfl⟩
        rw [← hW] at hput hmp hop ⊢
        replace HA := Lib.hid hput
        replace HM := Lib.hid hmp
        replace HB := Lib.hid hop
        clear hput hmp hop hW ho2
        replace hc := HA.out.cell
        replace hz := HA.out.frozen
        go_wp2_with (go_at_call 100; refine (peek0 _ X p _ HA.out).mono ?_; rintro e w1 ⟨rfl, hm1, ha1⟩; replace HB := Lib.hid (OwnB.mv HB.out hm1 hbase); replace HM := Lib.hid (HM.out.step hm1); replace HA := Lib.hid ha1; clear hm1 ha1; replace hc := HA.out.cell; replace hz := HA.out.frozen)
        go_roundg (gk - 1)
        case measure => have := HK.out; omega
        case rel => exact ⟨s ++ [UInt8.ofNat (SynP.pk X.rs j).toNat], j + 1, Lib.hid (by have := HJ.out; rw [List.length_append, List.length_singleton]; omega), by have := HK.out; rw [List.length_append, List.length_singleton]; omega, by have := HJ.out; rw [List.length_append, List.length_singleton]; omega, rfl, Lib.hid (by rw [← HE2.out, List.length_append, List.length_singleton]), Lib.hid (by unfold BRow; rw [HN.out]; exact HB.out), HM, HA⟩
      · obtain ⟨q1, q2⟩ := q
        have d48 : decide (48 ≤ SynP.pk X.rs j) = true := decide_eq_true (by omega)
        have d57 : decide (SynP.pk X.rs j ≤ 57) = false := decide_eq_false (by omega)
        have d65 : decide (65 ≤ SynP.pk X.rs j) = true := decide_eq_true (by omega)
        have d90 : decide (SynP.pk X.rs j ≤ 90) = true := decide_eq_true (by omega)
        have d97 : decide (97 ≤ SynP.pk X.rs j) = false := decide_eq_false (by omega)
        have d122 : decide (SynP.pk X.rs j ≤ 122) = true := decide_eq_true (by omega)
        have e95 : (SynP.pk X.rs j == 95) = false := beq_eq_false_iff_ne.2 (by omega)
        go_upto_region 8 with (first | (go_at_call 100; refine (peek0 _ X p _ HA.out).mono ?_; rintro e w1 ⟨rfl, hm1, ha1⟩; replace HB := Lib.hid (OwnB.mv HB.out hm1 hbase); replace HM := Lib.hid (HM.out.step hm1); replace HA := Lib.hid ha1; clear hm1 ha1; replace hc := HA.out.cell; replace hz := HA.out.frozen) | (at_builtin; (refine wpList_append_seqB _ rfl (.tmp 43) (.tmp 46) 60 rfl 1 elByte rfl (OwnB.alloc HB.out _) 1 rfl (SeqAt.new_at (E := Ebyte) _ [SynP.pk X.rs j] 5 _ rfl) rfl (by rw [nI_len]; simp only [maxLen]; omega) (by rw [nI_len]; omega) ?_); intro v2 w2 ho2 hg2; replace HM := Lib.hid ((HM.out.alloc _).grown hg2 (fun k hk => by rw [HBe.out]; exact (OwnB.lt HB.out k hk).1)); replace HA := Lib.hid ((HA.out.below ((Below.refl _ _).alloc (Nat.le_refl _) _)).grown hg2 (fun k hk => Nat.lt_of_lt_of_le hbase (OwnB.lt HB.out k hk).1)); clear hg2; replace hc := HA.out.cell; replace hz := HA.out.frozen))
        go_upto_region 6 with fail
        have hput := HA.out.put ((j : Int) + 1) (j + 1) (by omega) (by omega)
        have hmp := HM.out.step (mv_put _ X (.int .i64 ((j : Int) + 1)))
        have hop := OwnB.setBelow ho2 (a := ⟨X.b, 4, none⟩) hbase (.int .i64 ((j : Int) + 1))
        obtain ⟨W, hW⟩ : ∃ W, W = w2.setCell ⟨X.b, 4, none⟩ (.int .i64 ((j : Int) + 1)) := ⟨_, rfl⟩
        rw [← hW] at hput hmp hop ⊢
        replace HA := Lib.hid hput
        replace HM := Lib.hid hmp
        replace HB := Lib.hid hop
        clear hput hmp hop hW ho2
        replace hc := HA.out.cell
        replace hz := HA.out.frozen
        go_wp2_with (go_at_call 100; refine (peek0 _ X p _ HA.out).mono ?_; rintro e w1 ⟨rfl, hm1, ha1⟩; replace HB := Lib.hid (OwnB.mv HB.out hm1 hbase); replace HM := Lib.hid (HM.out.step hm1); replace HA := Lib.hid ha1; clear hm1 ha1; replace hc := HA.out.cell; replace hz := HA.out.frozen)
        go_roundg (gk - 1)
        case measure => have := HK.out; omega
        case rel => exact ⟨s ++ [UInt8.ofNat (SynP.pk X.rs j).toNat], j + 1, Lib.hid (by have := HJ.out; rw [List.length_append, List.length_singleton]; omega), by have := HK.out; rw [List.length_append, List.length_singleton]; omega, by have := HJ.out; rw [List.length_append, List.length_singleton]; omega, rfl, Lib.hid (by rw [← HE2.out, List.length_append, List.length_singleton]), Lib.hid (by unfold BRow; rw [HN.out]; exact HB.out), HM, HA⟩
      · obtain ⟨q1, q2⟩ := q
        have d48 : decide (48 ≤ SynP.pk X.rs j) = true := decide_eq_true (by omega)
        have d57 : decide (SynP.pk X.rs j ≤ 57) = false := decide_eq_false (by omega)
        have d65 : decide (65 ≤ SynP.pk X.rs j) = true := decide_eq_true (by omega)
        have d90 : decide (SynP.pk X.rs j ≤ 90) = false := decide_eq_false (by omega)
        have d97 : decide (97 ≤ SynP.pk X.rs j) = true := decide_eq_true (by omega)
        have d122 : decide (SynP.pk X.rs j ≤ 122) = true := decide_eq_true (by omega)
        have e95 : (SynP.pk X.rs j == 95) = false := beq_eq_false_iff_ne.2 (by omega)
        go_upto_region 8 with (first | (go_at_call 100; refine (peek0 _ X p _ HA.out).mono ?_; rintro e w1 ⟨rfl, hm1, ha1⟩; replace HB := Lib.hid (OwnB.mv HB.out hm1 hbase); replace HM := Lib.hid (HM.out.step hm1); replace HA := Lib.hid ha1; clear hm1 ha1; replace hc := HA.out.cell; replace hz := HA.out.frozen) | (at_builtin; (refine wpList_append_seqB _ rfl (.tmp 43) (.tmp 46) 60 rfl 1 elByte rfl (OwnB.alloc HB.out _) 1 rfl (SeqAt.new_at (E := Ebyte) _ [SynP.pk X.rs j] 5 _ rfl) rfl (by rw [nI_len]; simp only [maxLen]; omega) (by rw [nI_len]; omega) ?_); intro v2 w2 ho2 hg2; replace HM := Lib.hid ((HM.out.alloc _).grown hg2 (fun k hk => by rw [HBe.out]; exact (OwnB.lt HB.out k hk).1)); replace HA := Lib.hid ((HA.out.below ((Below.refl _ _).alloc (Nat.le_refl _) _)).grown hg2 (fun k hk => Nat.lt_of_lt_of_le hbase (OwnB.lt HB.out k hk).1)); clear hg2; replace hc := HA.out.cell; replace hz := HA.out.frozen))
        go_upto_region 6 with fail
        have hput := HA.out.put ((j : Int) + 1) (j + 1) (by omega) (by omega)
        have hmp := HM.out.step (mv_put _ X (.int .i64 ((j : Int) + 1)))
        have hop := OwnB.setBelow ho2 (a := ⟨X.b, 4, none⟩) hbase (.int .i64 ((j : Int) + 1))
        obtain ⟨W, hW⟩ : ∃ W, W = w2.setCell ⟨X.b, 4, none⟩ (.int .i64 ((j : Int) + 1)) := ⟨_, rfl⟩
        rw [← hW] at hput hmp hop ⊢
        replace HA := Lib.hid hput
        replace HM := Lib.hid hmp
        replace HB := Lib.hid hop
        clear hput hmp hop hW ho2
        replace hc := HA.out.cell
        replace hz := HA.out.frozen
        go_wp2_with (go_at_call 100; refine (peek0 _ X p _ HA.out).mono ?_; rintro e w1 ⟨rfl, hm1, ha1⟩; replace HB := Lib.hid (OwnB.mv HB.out hm1 hbase); replace HM := Lib.hid (HM.out.step hm1); replace HA := Lib.hid ha1; clear hm1 ha1; replace hc := HA.out.cell; replace hz := HA.out.frozen)
        go_roundg (gk - 1)
        case measure => have := HK.out; omega
        case rel => exact ⟨s ++ [UInt8.ofNat (SynP.pk X.rs j).toNat], j + 1, Lib.hid (by have := HJ.out; rw [List.length_append, List.length_singleton]; omega), by have := HK.out; rw [List.length_append, List.length_singleton]; omega, by have := HJ.out; rw [List.length_append, List.length_singleton]; omega, rfl, Lib.hid (by rw [← HE2.out, List.length_append, List.length_singleton]), Lib.hid (by unfold BRow; rw [HN.out]; exact HB.out), HM, HA⟩
      · have q1 := q
        have d48 : decide (48 ≤ SynP.pk X.rs j) = true := decide_eq_true (by omega)
        have d57 : decide (SynP.pk X.rs j ≤ 57) = false := decide_eq_false (by omega)
        have d65 : decide (65 ≤ SynP.pk X.rs j) = true := decide_eq_true (by omega)
        have d90 : decide (SynP.pk X.rs j ≤ 90) = false := decide_eq_false (by omega)
        have d97 : decide (97 ≤ SynP.pk X.rs j) = false := decide_eq_false (by omega)
        have d122 : decide (SynP.pk X.rs j ≤ 122) = true := decide_eq_true (by omega)
        have e95 : (SynP.pk X.rs j == 95) = true := beq_iff_eq.2 q
        clear q q1
        go_upto_region 8 with (first | (go_at_call 100; refine (peek0 _ X p _ HA.out).mono ?_; rintro e w1 ⟨rfl, hm1, ha1⟩; replace HB := Lib.hid (OwnB.mv HB.out hm1 hbase); replace HM := Lib.hid (HM.out.step hm1); replace HA := Lib.hid ha1; clear hm1 ha1; replace hc := HA.out.cell; replace hz := HA.out.frozen) | (at_builtin; (refine wpList_append_seqB _ rfl (.tmp 43) (.tmp 46) 60 rfl 1 elByte rfl (OwnB.alloc HB.out _) 1 rfl (SeqAt.new_at (E := Ebyte) _ [SynP.pk X.rs j] 5 _ rfl) rfl (by rw [nI_len]; simp only [maxLen]; omega) (by rw [nI_len]; omega) ?_); intro v2 w2 ho2 hg2; replace HM := Lib.hid ((HM.out.alloc _).grown hg2 (fun k hk => by rw [HBe.out]; exact (OwnB.lt HB.out k hk).1)); replace HA := Lib.hid ((HA.out.below ((Below.refl _ _).alloc (Nat.le_refl _) _)).grown hg2 (fun k hk => Nat.lt_of_lt_of_le hbase (OwnB.lt HB.out k hk).1)); clear hg2; replace hc := HA.out.cell; replace hz := HA.out.frozen))
        go_upto_region 6 with fail
        have hput := HA.out.put ((j : Int) + 1) (j + 1) (by omega) (by omega)
        have hmp := HM.out.step (mv_put _ X (.int .i64 ((j : Int) + 1)))
        have hop := OwnB.setBelow ho2 (a := ⟨X.b, 4, none⟩) hbase (.int .i64 ((j : Int) + 1))
        obtain ⟨W, hW⟩ : ∃ W, W = w2.setCell ⟨X.b, 4, none⟩ (.int .i64 ((j : Int) + 1)) := ⟨_, rfl⟩
        rw [← hW] at hput hmp hop ⊢
        replace HA := Lib.hid hput
        replace HM := Lib.hid hmp
        replace HB := Lib.hid hop
        clear hput hmp hop hW ho2
        replace hc := HA.out.cell
        replace hz := HA.out.frozen
        go_wp2_with (go_at_call 100; refine (peek0 _ X p _ HA.out).mono ?_; rintro e w1 ⟨rfl, hm1, ha1⟩; replace HB := Lib.hid (OwnB.mv HB.out hm1 hbase); replace HM := Lib.hid (HM.out.step hm1); replace HA := Lib.hid ha1; clear hm1 ha1; replace hc := HA.out.cell; replace hz := HA.out.frozen)
        go_roundg (gk - 1)
        case measure => have := HK.out; omega
        case rel => exact ⟨s ++ [UInt8.ofNat (SynP.pk X.rs j).toNat], j + 1, Lib.hid (by have := HJ.out; rw [List.length_append, List.length_singleton]; omega), by have := HK.out; rw [List.length_append, List.length_singleton]; omega, by have := HJ.out; rw [List.length_append, List.length_singleton]; omega, rfl, Lib.hid (by rw [← HE2.out, List.length_append, List.length_singleton]), Lib.hid (by unfold BRow; rw [HN.out]; exact HB.out), HM, HA⟩
    · have hE : SynP.nameB X.rs X.rs.length [] (i + 1) = (s, j) := by rw [← HE.out]; exact nameB_stop hgo
      clear HE
      by_cases q62 : SynP.pk X.rs j ≠ 62
      · rcases (by omega : SynP.pk X.rs j < 48 ∨ (57 < SynP.pk X.rs j ∧ SynP.pk X.rs j < 65) ∨ (90 < SynP.pk X.rs j ∧ SynP.pk X.rs j < 97 ∧ SynP.pk X.rs j ≠ 95) ∨ 122 < SynP.pk X.rs j) with q | q | q | q
        · clear hgo
          have d48 : decide (48 ≤ SynP.pk X.rs j) = false := decide_eq_false (by omega)
          have d57 : decide (SynP.pk X.rs j ≤ 57) = true := decide_eq_true (by omega)
          have d65 : decide (65 ≤ SynP.pk X.rs j) = false := decide_eq_false (by omega)
          have d90 : decide (SynP.pk X.rs j ≤ 90) = true := decide_eq_true (by omega)
          have d97 : decide (97 ≤ SynP.pk X.rs j) = false := decide_eq_false (by omega)
          have d122 : decide (SynP.pk X.rs j ≤ 122) = true := decide_eq_true (by omega)
          have e95 : (SynP.pk X.rs j == 95) = false := beq_eq_false_iff_ne.2 (by omega)
          go_upto_region 9 with fail
          have hR2 : SynP.R.bad 25 from_ = R := by rw [← HR0.out _ _ hE, if_pos (.inl q62)]
          have HR := Lib.hid hR2
          clear hR2
          refine wp_region_any (by kernel_rfl) ?_
          try (change wpAny _ _ _ _ _ _ _ (World.drew _))
          refine wpAny_ready (rs := [0]) (by kernel_rfl) (by simp) ?_
          refine AllReady.cons rfl (fun K hK => ?_) AllReady.nil
          go_simp
          refine hK _ _ ?_
          clear hK K
          refine wpAny_ready (rs := [1]) (by kernel_rfl) (by simp) ?_
          refine AllReady.cons rfl (fun K hK => ?_) AllReady.nil
          go_simp
          (go_at_call 66; refine (has_no _ _ X p _ (HA.out.drewN 1) (by simp only [UInt8.reduceToNat]; omega)).mono ?_; rintro e w1 ⟨rfl, hm1, ha1⟩; replace HB := Lib.hid (OwnB.mv HB.out (Mv.of_drew hm1) hbase); replace HM := Lib.hid (HM.out.step (Mv.of_drew hm1)); replace HA := Lib.hid ha1; clear hm1 ha1; replace hc := HA.out.cell; replace hz := HA.out.frozen)
          refine hK _ _ ?_
          clear hK K
          refine wpAny_ready (rs := [2]) (by kernel_rfl) (by simp) ?_
          refine AllReady.cons rfl (fun K hK => ?_) AllReady.nil
          go_simp
          refine hK _ _ ?_
          clear hK K
          refine wpAny_ready (rs := [3]) (by kernel_rfl) (by simp) ?_
          refine AllReady.cons rfl (fun K hK => ?_) AllReady.nil
          go_simp
          refine hK _ _ ?_
          clear hK K
          refine wpAny_ready (rs := [4]) (by kernel_rfl) (by simp) ?_
          refine AllReady.cons rfl (fun K hK => ?_) AllReady.nil
          go_simp
          refine hK _ _ ?_
          clear hK K
          refine wpAny_ready (rs := [5]) (by kernel_rfl) (by simp) ?_
          refine AllReady.cons rfl (fun K hK => ?_) AllReady.nil
          go_simp
          refine hK _ _ ?_
          clear hK K
          refine wpAny_ready (rs := [6]) (by kernel_rfl) (by simp) ?_
          refine AllReady.cons rfl (fun K hK => ?_) AllReady.nil
          go_simp
          refine hK _ _ ?_
          clear hK K
          refine wpAny_ready (rs := [7]) (by kernel_rfl) (by simp) ?_
          refine AllReady.cons rfl (fun K hK => ?_) AllReady.nil
          go_simp
          refine hK _ _ ?_
          clear hK K
          refine wpAny_ready (rs := [8]) (by kernel_rfl) (by simp) ?_
          refine AllReady.cons rfl (fun K hK => ?_) AllReady.nil
          go_simp
          refine hK _ _ ?_
          clear hK K
          refine wpAny_ready (rs := [9]) (by kernel_rfl) (by simp) ?_
          refine AllReady.cons rfl (fun K hK => ?_) AllReady.nil
          go_simp
          refine hK _ _ ?_
          clear hK K
          refine wpAny_ready (rs := [10]) (by kernel_rfl) (by simp) ?_
          refine AllReady.cons rfl (fun K hK => ?_) AllReady.nil
          go_simp
          refine hK _ _ ?_
          clear hK K
          refine wpAny_ready (rs := [11]) (by kernel_rfl) (by simp) ?_
          refine AllReady.cons rfl (fun K hK => ?_) AllReady.nil
          go_simp
          refine hK _ _ ?_
          clear hK K
          refine wpAny_ready (rs := [12]) (by kernel_rfl) (by simp) ?_
          refine AllReady.cons rfl (fun K hK => ?_) AllReady.nil
          go_simp
          refine hK _ _ ?_
          clear hK K
          refine wpAny_ready (rs := [13]) (by kernel_rfl) (by simp) ?_
          refine AllReady.cons rfl (fun K hK => ?_) AllReady.nil
          go_simp
          refine hK _ _ ?_
          clear hK K
          refine wpAny_take (i := 14) (v := undef) rfl (by kernel_rfl) (by kernel_rfl) (by kernel_rfl) (fun _ _ _ h => h) (Or.inr ⟨by rfl, rfl⟩) ?_
          refine wpAny_take (i := 15) (v := undef) rfl (by kernel_rfl) (by kernel_rfl) (by kernel_rfl) (fun _ _ _ h => h) (Or.inr ⟨by rfl, rfl⟩) ?_
          refine wpAny_take (i := 16) (v := undef) rfl (by kernel_rfl) (by kernel_rfl) (by kernel_rfl) (fun _ _ _ h => h) (Or.inr ⟨by rfl, rfl⟩) ?_
          refine wpAny_take (i := 17) (v := undef) rfl (by kernel_rfl) (by kernel_rfl) (by kernel_rfl) (fun _ _ _ h => h) (Or.inr ⟨by rfl, rfl⟩) ?_
          refine wpAny_take (i := 18) (v := undef) rfl (by kernel_rfl) (by kernel_rfl) (by kernel_rfl) (fun _ _ _ h => h) (Or.inr ⟨by rfl, rfl⟩) ?_
          refine wpAny_take (i := 19) (v := undef) rfl (by kernel_rfl) (by kernel_rfl) (by kernel_rfl) (fun _ _ _ h => h) (Or.inr ⟨by rfl, rfl⟩) ?_
          refine wpAny_ready (rs := [20]) (by kernel_rfl) (by simp) ?_
          refine AllReady.cons rfl (fun K hK => ?_) AllReady.nil
          go_simp
          refine hK _ _ ?_
          clear hK K
          refine wpAny_ready (rs := [21]) (by kernel_rfl) (by simp) ?_
          refine AllReady.cons rfl (fun K hK => ?_) AllReady.nil
          go_simp
          refine hK _ _ ?_
          clear hK K
          refine wpAny_done (by kernel_rfl) ?_ _
          go_wp2_with (go_at_call 101; refine (fail_any _ _ _ X p _ HA.out (by omega)).mono ?_; rintro e w1 ⟨hm1, he1⟩; unfold thrown at he1; subst he1; replace HM := Lib.hid (HM.out.step hm1); clear hm1)
          rw [← HR.out]; exact ⟨rfl, HM.out, rfl⟩
        · clear hgo
          have d48 : decide (48 ≤ SynP.pk X.rs j) = true := decide_eq_true (by omega)
          have d57 : decide (SynP.pk X.rs j ≤ 57) = false := decide_eq_false (by omega)
          have d65 : decide (65 ≤ SynP.pk X.rs j) = false := decide_eq_false (by omega)
          have d90 : decide (SynP.pk X.rs j ≤ 90) = true := decide_eq_true (by omega)
          have d97 : decide (97 ≤ SynP.pk X.rs j) = false := decide_eq_false (by omega)
          have d122 : decide (SynP.pk X.rs j ≤ 122) = true := decide_eq_true (by omega)
          have e95 : (SynP.pk X.rs j == 95) = false := beq_eq_false_iff_ne.2 (by omega)
          go_upto_region 9 with fail
          have hR2 : SynP.R.bad 25 from_ = R := by rw [← HR0.out _ _ hE, if_pos (.inl q62)]
          have HR := Lib.hid hR2
          clear hR2
          refine wp_region_any (by kernel_rfl) ?_
          try (change wpAny _ _ _ _ _ _ _ (World.drew _))
          refine wpAny_ready (rs := [0]) (by kernel_rfl) (by simp) ?_
          refine AllReady.cons rfl (fun K hK => ?_) AllReady.nil
          go_simp
          refine hK _ _ ?_
          clear hK K
          refine wpAny_ready (rs := [1]) (by kernel_rfl) (by simp) ?_
          refine AllReady.cons rfl (fun K hK => ?_) AllReady.nil
          go_simp
          (go_at_call 66; refine (has_no _ _ X p _ (HA.out.drewN 1) (by simp only [UInt8.reduceToNat]; omega)).mono ?_; rintro e w1 ⟨rfl, hm1, ha1⟩; replace HB := Lib.hid (OwnB.mv HB.out (Mv.of_drew hm1) hbase); replace HM := Lib.hid (HM.out.step (Mv.of_drew hm1)); replace HA := Lib.hid ha1; clear hm1 ha1; replace hc := HA.out.cell; replace hz := HA.out.frozen)
          refine hK _ _ ?_
          clear hK K
          refine wpAny_ready (rs := [2]) (by kernel_rfl) (by simp) ?_
          refine AllReady.cons rfl (fun K hK => ?_) AllReady.nil
          go_simp
          refine hK _ _ ?_
          clear hK K
          refine wpAny_ready (rs := [3]) (by kernel_rfl) (by simp) ?_
          refine AllReady.cons rfl (fun K hK => ?_) AllReady.nil
          go_simp
          refine hK _ _ ?_
          clear hK K
          refine wpAny_ready (rs := [4]) (by kernel_rfl) (by simp) ?_
          refine AllReady.cons rfl (fun K hK => ?_) AllReady.nil
          go_simp
          refine hK _ _ ?_
          clear hK K
          refine wpAny_ready (rs := [5]) (by kernel_rfl) (by simp) ?_
          refine AllReady.cons rfl (fun K hK => ?_) AllReady.nil
          go_simp
          refine hK _ _ ?_
          clear hK K
          refine wpAny_ready (rs := [6]) (by kernel_rfl) (by simp) ?_
          refine AllReady.cons rfl (fun K hK => ?_) AllReady.nil
          go_simp
          refine hK _ _ ?_
          clear hK K
          refine wpAny_ready (rs := [7]) (by kernel_rfl) (by simp) ?_
          refine AllReady.cons rfl (fun K hK => ?_) AllReady.nil
          go_simp
          refine hK _ _ ?_
          clear hK K
          refine wpAny_ready (rs := [8]) (by kernel_rfl) (by simp) ?_
          refine AllReady.cons rfl (fun K hK => ?_) AllReady.nil
          go_simp
          refine hK _ _ ?_
          clear hK K
          refine wpAny_ready (rs := [9]) (by kernel_rfl) (by simp) ?_
          refine AllReady.cons rfl (fun K hK => ?_) AllReady.nil
          go_simp
          refine hK _ _ ?_
          clear hK K
          refine wpAny_ready (rs := [10]) (by kernel_rfl) (by simp) ?_
          refine AllReady.cons rfl (fun K hK => ?_) AllReady.nil
          go_simp
          refine hK _ _ ?_
          clear hK K
          refine wpAny_ready (rs := [11]) (by kernel_rfl) (by simp) ?_
          refine AllReady.cons rfl (fun K hK => ?_) AllReady.nil
          go_simp
          refine hK _ _ ?_
          clear hK K
          refine wpAny_ready (rs := [12]) (by kernel_rfl) (by simp) ?_
          refine AllReady.cons rfl (fun K hK => ?_) AllReady.nil
          go_simp
          refine hK _ _ ?_
          clear hK K
          refine wpAny_ready (rs := [13]) (by kernel_rfl) (by simp) ?_
          refine AllReady.cons rfl (fun K hK => ?_) AllReady.nil
          go_simp
          refine hK _ _ ?_
          clear hK K
          refine wpAny_take (i := 14) (v := undef) rfl (by kernel_rfl) (by kernel_rfl) (by kernel_rfl) (fun _ _ _ h => h) (Or.inr ⟨by rfl, rfl⟩) ?_
          refine wpAny_take (i := 15) (v := undef) rfl (by kernel_rfl) (by kernel_rfl) (by kernel_rfl) (fun _ _ _ h => h) (Or.inr ⟨by rfl, rfl⟩) ?_
          refine wpAny_take (i := 16) (v := undef) rfl (by kernel_rfl) (by kernel_rfl) (by kernel_rfl) (fun _ _ _ h => h) (Or.inr ⟨by rfl, rfl⟩) ?_
          refine wpAny_take (i := 17) (v := undef) rfl (by kernel_rfl) (by kernel_rfl) (by kernel_rfl) (fun _ _ _ h => h) (Or.inr ⟨by rfl, rfl⟩) ?_
          refine wpAny_take (i := 18) (v := undef) rfl (by kernel_rfl) (by kernel_rfl) (by kernel_rfl) (fun _ _ _ h => h) (Or.inr ⟨by rfl, rfl⟩) ?_
          refine wpAny_take (i := 19) (v := undef) rfl (by kernel_rfl) (by kernel_rfl) (by kernel_rfl) (fun _ _ _ h => h) (Or.inr ⟨by rfl, rfl⟩) ?_
          refine wpAny_ready (rs := [20]) (by kernel_rfl) (by simp) ?_
          refine AllReady.cons rfl (fun K hK => ?_) AllReady.nil
          go_simp
          refine hK _ _ ?_
          clear hK K
          refine wpAny_ready (rs := [21]) (by kernel_rfl) (by simp) ?_
          refine AllReady.cons rfl (fun K hK => ?_) AllReady.nil
          go_simp
          refine hK _ _ ?_
          clear hK K
          refine wpAny_done (by kernel_rfl) ?_ _
          go_wp2_with (go_at_call 101; refine (fail_any _ _ _ X p _ HA.out (by omega)).mono ?_; rintro e w1 ⟨hm1, he1⟩; unfold thrown at he1; subst he1; replace HM := Lib.hid (HM.out.step hm1); clear hm1)
          rw [← HR.out]; exact ⟨rfl, HM.out, rfl⟩
        · clear hgo
          have d48 : decide (48 ≤ SynP.pk X.rs j) = true := decide_eq_true (by omega)
          have d57 : decide (SynP.pk X.rs j ≤ 57) = false := decide_eq_false (by omega)
          have d65 : decide (65 ≤ SynP.pk X.rs j) = true := decide_eq_true (by omega)
          have d90 : decide (SynP.pk X.rs j ≤ 90) = false := decide_eq_false (by omega)
          have d97 : decide (97 ≤ SynP.pk X.rs j) = false := decide_eq_false (by omega)
          have d122 : decide (SynP.pk X.rs j ≤ 122) = true := decide_eq_true (by omega)
          have e95 : (SynP.pk X.rs j == 95) = false := beq_eq_false_iff_ne.2 (by omega)
          go_upto_region 9 with fail
          have hR2 : SynP.R.bad 25 from_ = R := by rw [← HR0.out _ _ hE, if_pos (.inl q62)]
          have HR := Lib.hid hR2
          clear hR2
          refine wp_region_any (by kernel_rfl) ?_
          try (change wpAny _ _ _ _ _ _ _ (World.drew _))
          refine wpAny_ready (rs := [0]) (by kernel_rfl) (by simp) ?_
          refine AllReady.cons rfl (fun K hK => ?_) AllReady.nil
          go_simp
          refine hK _ _ ?_
          clear hK K
          refine wpAny_ready (rs := [1]) (by kernel_rfl) (by simp) ?_
          refine AllReady.cons rfl (fun K hK => ?_) AllReady.nil
          go_simp
          (go_at_call 66; refine (has_no _ _ X p _ (HA.out.drewN 1) (by simp only [UInt8.reduceToNat]; omega)).mono ?_; rintro e w1 ⟨rfl, hm1, ha1⟩; replace HB := Lib.hid (OwnB.mv HB.out (Mv.of_drew hm1) hbase); replace HM := Lib.hid (HM.out.step (Mv.of_drew hm1)); replace HA := Lib.hid ha1; clear hm1 ha1; replace hc := HA.out.cell; replace hz := HA.out.frozen)
          refine hK _ _ ?_
          clear hK K
          refine wpAny_ready (rs := [2]) (by kernel_rfl) (by simp) ?_
          refine AllReady.cons rfl (fun K hK => ?_) AllReady.nil
          go_simp
          refine hK _ _ ?_
          clear hK K
          refine wpAny_ready (rs := [3]) (by kernel_rfl) (by simp) ?_
          refine AllReady.cons rfl (fun K hK => ?_) AllReady.nil
          go_simp
          refine hK _ _ ?_
          clear hK K
          refine wpAny_ready (rs := [4]) (by kernel_rfl) (by simp) ?_
          refine AllReady.cons rfl (fun K hK => ?_) AllReady.nil
          go_simp
          refine hK _ _ ?_
          clear hK K
          refine wpAny_ready (rs := [5]) (by kernel_rfl) (by simp) ?_
          refine AllReady.cons rfl (fun K hK => ?_) AllReady.nil
          go_simp
          refine hK _ _ ?_
          clear hK K
          refine wpAny_ready (rs := [6]) (by kernel_rfl) (by simp) ?_
          refine AllReady.cons rfl (fun K hK => ?_) AllReady.nil
          go_simp
          refine hK _ _ ?_
          clear hK K
          refine wpAny_ready (rs := [7]) (by kernel_rfl) (by simp) ?_
          refine AllReady.cons rfl (fun K hK => ?_) AllReady.nil
          go_simp
          refine hK _ _ ?_
          clear hK K
          refine wpAny_ready (rs := [8]) (by kernel_rfl) (by simp) ?_
          refine AllReady.cons rfl (fun K hK => ?_) AllReady.nil
          go_simp
          refine hK _ _ ?_
          clear hK K
          refine wpAny_ready (rs := [9]) (by kernel_rfl) (by simp) ?_
          refine AllReady.cons rfl (fun K hK => ?_) AllReady.nil
          go_simp
          refine hK _ _ ?_
          clear hK K
          refine wpAny_ready (rs := [10]) (by kernel_rfl) (by simp) ?_
          refine AllReady.cons rfl (fun K hK => ?_) AllReady.nil
          go_simp
          refine hK _ _ ?_
          clear hK K
          refine wpAny_ready (rs := [11]) (by kernel_rfl) (by simp) ?_
          refine AllReady.cons rfl (fun K hK => ?_) AllReady.nil
          go_simp
          refine hK _ _ ?_
          clear hK K
          refine wpAny_ready (rs := [12]) (by kernel_rfl) (by simp) ?_
          refine AllReady.cons rfl (fun K hK => ?_) AllReady.nil
          go_simp
          refine hK _ _ ?_
          clear hK K
          refine wpAny_ready (rs := [13]) (by kernel_rfl) (by simp) ?_
          refine AllReady.cons rfl (fun K hK => ?_) AllReady.nil
          go_simp
          refine hK _ _ ?_
          clear hK K
          refine wpAny_take (i := 14) (v := undef) rfl (by kernel_rfl) (by kernel_rfl) (by kernel_rfl) (fun _ _ _ h => h) (Or.inr ⟨by rfl, rfl⟩) ?_
          refine wpAny_take (i := 15) (v := undef) rfl (by kernel_rfl) (by kernel_rfl) (by kernel_rfl) (fun _ _ _ h => h) (Or.inr ⟨by rfl, rfl⟩) ?_
          refine wpAny_take (i := 16) (v := undef) rfl (by kernel_rfl) (by kernel_rfl) (by kernel_rfl) (fun _ _ _ h => h) (Or.inr ⟨by rfl, rfl⟩) ?_
          refine wpAny_take (i := 17) (v := undef) rfl (by kernel_rfl) (by kernel_rfl) (by kernel_rfl) (fun _ _ _ h => h) (Or.inr ⟨by rfl, rfl⟩) ?_
          refine wpAny_take (i := 18) (v := undef) rfl (by kernel_rfl) (by kernel_rfl) (by kernel_rfl) (fun _ _ _ h => h) (Or.inr ⟨by rfl, rfl⟩) ?_
          refine wpAny_take (i := 19) (v := undef) rfl (by kernel_rfl) (by kernel_rfl) (by kernel_rfl) (fun _ _ _ h => h) (Or.inr ⟨by rfl, rfl⟩) ?_
          refine wpAny_ready (rs := [20]) (by kernel_rfl) (by simp) ?_
          refine AllReady.cons rfl (fun K hK => ?_) AllReady.nil
          go_simp
          refine hK _ _ ?_
          clear hK K
          refine wpAny_ready (rs := [21]) (by kernel_rfl) (by simp) ?_
          refine AllReady.cons rfl (fun K hK => ?_) AllReady.nil
          go_simp
          refine hK _ _ ?_
          clear hK K
          refine wpAny_done (by kernel_rfl) ?_ _
          go_wp2_with (go_at_call 101; refine (fail_any _ _ _ X p _ HA.out (by omega)).mono ?_; rintro e w1 ⟨hm1, he1⟩; unfold thrown at he1; subst he1; replace HM := Lib.hid (HM.out.step hm1); clear hm1)
          rw [← HR.out]; exact ⟨rfl, HM.out, rfl⟩
        · clear hgo
          have d48 : decide (48 ≤ SynP.pk X.rs j) = true := decide_eq_true (by omega)
          have d57 : decide (SynP.pk X.rs j ≤ 57) = false := decide_eq_false (by omega)
          have d65 : decide (65 ≤ SynP.pk X.rs j) = true := decide_eq_true (by omega)
          have d90 : decide (SynP.pk X.rs j ≤ 90) = false := decide_eq_false (by omega)
          have d97 : decide (97 ≤ SynP.pk X.rs j) = true := decide_eq_true (by omega)
          have d122 : decide (SynP.pk X.rs j ≤ 122) = false := decide_eq_false (by omega)
          have e95 : (SynP.pk X.rs j == 95) = false := beq_eq_false_iff_ne.2 (by omega)
          go_upto_region 9 with fail
          have hR2 : SynP.R.bad 25 from_ = R := by rw [← HR0.out _ _ hE, if_pos (.inl q62)]
          have HR := Lib.hid hR2
          clear hR2
          refine wp_region_any (by kernel_rfl) ?_
          try (change wpAny _ _ _ _ _ _ _ (World.drew _))
          refine wpAny_ready (rs := [0]) (by kernel_rfl) (by simp) ?_
          refine AllReady.cons rfl (fun K hK => ?_) AllReady.nil
          go_simp
          refine hK _ _ ?_
          clear hK K
          refine wpAny_ready (rs := [1]) (by kernel_rfl) (by simp) ?_
          refine AllReady.cons rfl (fun K hK => ?_) AllReady.nil
          go_simp
          (go_at_call 66; refine (has_no _ _ X p _ (HA.out.drewN 1) (by simp only [UInt8.reduceToNat]; omega)).mono ?_; rintro e w1 ⟨rfl, hm1, ha1⟩; replace HB := Lib.hid (OwnB.mv HB.out (Mv.of_drew hm1) hbase); replace HM := Lib.hid (HM.out.step (Mv.of_drew hm1)); replace HA := Lib.hid ha1; clear hm1 ha1; replace hc := HA.out.cell; replace hz := HA.out.frozen)
          refine hK _ _ ?_
          clear hK K
          refine wpAny_ready (rs := [2]) (by kernel_rfl) (by simp) ?_
          refine AllReady.cons rfl (fun K hK => ?_) AllReady.nil
          go_simp
          refine hK _ _ ?_
          clear hK K
          refine wpAny_ready (rs := [3]) (by kernel_rfl) (by simp) ?_
          refine AllReady.cons rfl (fun K hK => ?_) AllReady.nil
          go_simp
          refine hK _ _ ?_
          clear hK K
          refine wpAny_ready (rs := [4]) (by kernel_rfl) (by simp) ?_
          refine AllReady.cons rfl (fun K hK => ?_) AllReady.nil
          go_simp
          refine hK _ _ ?_
          clear hK K
          refine wpAny_ready (rs := [5]) (by kernel_rfl) (by simp) ?_
          refine AllReady.cons rfl (fun K hK => ?_) AllReady.nil
          go_simp
          refine hK _ _ ?_
          clear hK K
          refine wpAny_ready (rs := [6]) (by kernel_rfl) (by simp) ?_
          refine AllReady.cons rfl (fun K hK => ?_) AllReady.nil
          go_simp
          refine hK _ _ ?_
          clear hK K
          refine wpAny_ready (rs := [7]) (by kernel_rfl) (by simp) ?_
          refine AllReady.cons rfl (fun K hK => ?_) AllReady.nil
          go_simp
          refine hK _ _ ?_
          clear hK K
          refine wpAny_ready (rs := [8]) (by kernel_rfl) (by simp) ?_
          refine AllReady.cons rfl (fun K hK => ?_) AllReady.nil
          go_simp
          refine hK _ _ ?_
          clear hK K
          refine wpAny_ready (rs := [9]) (by kernel_rfl) (by simp) ?_
          refine AllReady.cons rfl (fun K hK => ?_) AllReady.nil
          go_simp
          refine hK _ _ ?_
          clear hK K
          refine wpAny_ready (rs := [10]) (by kernel_rfl) (by simp) ?_
          refine AllReady.cons rfl (fun K hK => ?_) AllReady.nil
          go_simp
          refine hK _ _ ?_
          clear hK K
          refine wpAny_ready (rs := [11]) (by kernel_rfl) (by simp) ?_
          refine AllReady.cons rfl (fun K hK => ?_) AllReady.nil
          go_simp
          refine hK _ _ ?_
          clear hK K
          refine wpAny_ready (rs := [12]) (by kernel_rfl) (by simp) ?_
          refine AllReady.cons rfl (fun K hK => ?_) AllReady.nil
          go_simp
          refine hK _ _ ?_
          clear hK K
          refine wpAny_ready (rs := [13]) (by kernel_rfl) (by simp) ?_
          refine AllReady.cons rfl (fun K hK => ?_) AllReady.nil
          go_simp
          refine hK _ _ ?_
          clear hK K
          refine wpAny_take (i := 14) (v := undef) rfl (by kernel_rfl) (by kernel_rfl) (by kernel_rfl) (fun _ _ _ h => h) (Or.inr ⟨by rfl, rfl⟩) ?_
          refine wpAny_take (i := 15) (v := undef) rfl (by kernel_rfl) (by kernel_rfl) (by kernel_rfl) (fun _ _ _ h => h) (Or.inr ⟨by rfl, rfl⟩) ?_
          refine wpAny_take (i := 16) (v := undef) rfl (by kernel_rfl) (by kernel_rfl) (by kernel_rfl) (fun _ _ _ h => h) (Or.inr ⟨by rfl, rfl⟩) ?_
          refine wpAny_take (i := 17) (v := undef) rfl (by kernel_rfl) (by kernel_rfl) (by kernel_rfl) (fun _ _ _ h => h) (Or.inr ⟨by rfl, rfl⟩) ?_
          refine wpAny_take (i := 18) (v := undef) rfl (by kernel_rfl) (by kernel_rfl) (by kernel_rfl) (fun _ _ _ h => h) (Or.inr ⟨by rfl, rfl⟩) ?_
          refine wpAny_take (i := 19) (v := undef) rfl (by kernel_rfl) (by kernel_rfl) (by kernel_rfl) (fun _ _ _ h => h) (Or.inr ⟨by rfl, rfl⟩) ?_
          refine wpAny_ready (rs := [20]) (by kernel_rfl) (by simp) ?_
          refine AllReady.cons rfl (fun K hK => ?_) AllReady.nil
          go_simp
          refine hK _ _ ?_
          clear hK K
          refine wpAny_ready (rs := [21]) (by kernel_rfl) (by simp) ?_
          refine AllReady.cons rfl (fun K hK => ?_) AllReady.nil
          go_simp
          refine hK _ _ ?_
          clear hK K
          refine wpAny_done (by kernel_rfl) ?_ _
          go_wp2_with (go_at_call 101; refine (fail_any _ _ _ X p _ HA.out (by omega)).mono ?_; rintro e w1 ⟨hm1, he1⟩; unfold thrown at he1; subst he1; replace HM := Lib.hid (HM.out.step hm1); clear hm1)
          rw [← HR.out]; exact ⟨rfl, HM.out, rfl⟩
      · have q63 : SynP.pk X.rs j = 62 := by omega
        have hR := HR0.out _ _ hE
        rw [q63] at hR
        clear hgo hE
        have d48 : decide (48 ≤ SynP.pk X.rs j) = true := decide_eq_true (by omega)
        have d57 : decide (SynP.pk X.rs j ≤ 57) = false := decide_eq_false (by omega)
        have d65 : decide (65 ≤ SynP.pk X.rs j) = false := decide_eq_false (by omega)
        have d90 : decide (SynP.pk X.rs j ≤ 90) = true := decide_eq_true (by omega)
        have d97 : decide (97 ≤ SynP.pk X.rs j) = false := decide_eq_false (by omega)
        have d122 : decide (SynP.pk X.rs j ≤ 122) = true := decide_eq_true (by omega)
        have e95 : (SynP.pk X.rs j == 95) = false := beq_eq_false_iff_ne.2 (by omega)
        go_upto_region 9 with fail
        by_cases z1 : s.length = 0
        · rw [if_pos (.inr (.inl z1))] at hR
          have HR := Lib.hid hR
          clear hR
          have hzz : (s.length : Int) = 0 := by omega
          refine wp_region_any (by kernel_rfl) ?_
          try (change wpAny _ _ _ _ _ _ _ (World.drew _))
          refine wpAny_ready (rs := [0]) (by kernel_rfl) (by simp) ?_
          refine AllReady.cons rfl (fun K hK => ?_) AllReady.nil
          go_simp
          refine hK _ _ ?_
          clear hK K
          refine wpAny_ready (rs := [1]) (by kernel_rfl) (by simp) ?_
          refine AllReady.cons rfl (fun K hK => ?_) AllReady.nil
          go_simp
          (go_at_call 66; refine (has_yes _ _ X p _ (HA.out.drewN 1) (by simp only [UInt8.reduceToNat]; omega)).mono ?_; rintro e w1 ⟨rfl, hm1, ha1⟩; replace HB := Lib.hid (OwnB.mv HB.out (Mv.of_drew hm1) hbase); replace HM := Lib.hid (HM.out.step (Mv.of_drew hm1)); replace HA := Lib.hid ha1; clear hm1 ha1; replace hc := HA.out.cell; replace hz := HA.out.frozen)
          refine hK _ _ ?_
          clear hK K
          refine wpAny_ready (rs := [2]) (by kernel_rfl) (by simp) ?_
          refine AllReady.cons rfl (fun K hK => ?_) AllReady.nil
          go_simp
          refine hK _ _ ?_
          clear hK K
          refine wpAny_ready (rs := [3]) (by kernel_rfl) (by simp) ?_
          refine AllReady.cons rfl (fun K hK => ?_) AllReady.nil
          go_simp
          refine hK _ _ ?_
          clear hK K
          refine wpAny_ready (rs := [4]) (by kernel_rfl) (by simp) ?_
          refine AllReady.cons rfl (fun K hK => ?_) AllReady.nil
          go_simp
          refine hK _ _ ?_
          clear hK K
          refine wpAny_ready (rs := [5]) (by kernel_rfl) (by simp) ?_
          refine AllReady.cons rfl (fun K hK => ?_) AllReady.nil
          go_simp
          refine hK _ _ ?_
          clear hK K
          refine wpAny_ready (rs := [6]) (by kernel_rfl) (by simp) ?_
          refine AllReady.cons rfl (fun K hK => ?_) AllReady.nil
          go_simp
          refine hK _ _ ?_
          clear hK K
          refine wpAny_ready (rs := [7]) (by kernel_rfl) (by simp) ?_
          refine AllReady.cons rfl (fun K hK => ?_) AllReady.nil
          go_simp
          refine hK _ _ ?_
          clear hK K
          refine wpAny_ready (rs := [8]) (by kernel_rfl) (by simp) ?_
          refine AllReady.cons rfl (fun K hK => ?_) AllReady.nil
          go_simp
          refine hK _ _ ?_
          clear hK K
          refine wpAny_ready (rs := [9]) (by kernel_rfl) (by simp) ?_
          refine AllReady.cons rfl (fun K hK => ?_) AllReady.nil
          go_simp
          refine hK _ _ ?_
          clear hK K
          refine wpAny_ready (rs := [10]) (by kernel_rfl) (by simp) ?_
          refine AllReady.cons rfl (fun K hK => ?_) AllReady.nil
          go_simp
          refine hK _ _ ?_
          clear hK K
          refine wpAny_ready (rs := [11]) (by kernel_rfl) (by simp) ?_
          refine AllReady.cons rfl (fun K hK => ?_) AllReady.nil
          go_simp
          refine hK _ _ ?_
          clear hK K
          refine wpAny_ready (rs := [12]) (by kernel_rfl) (by simp) ?_
          refine AllReady.cons rfl (fun K hK => ?_) AllReady.nil
          go_simp
          refine hK _ _ ?_
          clear hK K
          refine wpAny_ready (rs := [13]) (by kernel_rfl) (by simp) ?_
          refine AllReady.cons rfl (fun K hK => ?_) AllReady.nil
          go_simp
          refine hK _ _ ?_
          clear hK K
          refine wpAny_take (i := 14) (v := undef) rfl (by kernel_rfl) (by kernel_rfl) (by kernel_rfl) (fun _ _ _ h => h) (Or.inr ⟨by rfl, rfl⟩) ?_
          refine wpAny_take (i := 15) (v := undef) rfl (by kernel_rfl) (by kernel_rfl) (by kernel_rfl) (fun _ _ _ h => h) (Or.inr ⟨by rfl, rfl⟩) ?_
          refine wpAny_take (i := 16) (v := undef) rfl (by kernel_rfl) (by kernel_rfl) (by kernel_rfl) (fun _ _ _ h => h) (Or.inr ⟨by rfl, rfl⟩) ?_
          refine wpAny_take (i := 17) (v := undef) rfl (by kernel_rfl) (by kernel_rfl) (by kernel_rfl) (fun _ _ _ h => h) (Or.inr ⟨by rfl, rfl⟩) ?_
          refine wpAny_take (i := 18) (v := undef) rfl (by kernel_rfl) (by kernel_rfl) (by kernel_rfl) (fun _ _ _ h => h) (Or.inr ⟨by rfl, rfl⟩) ?_
          refine wpAny_take (i := 19) (v := undef) rfl (by kernel_rfl) (by kernel_rfl) (by kernel_rfl) (fun _ _ _ h => h) (Or.inr ⟨by rfl, rfl⟩) ?_
          refine wpAny_ready (rs := [20]) (by kernel_rfl) (by simp) ?_
          refine AllReady.cons rfl (fun K hK => ?_) AllReady.nil
          go_simp
          refine hK _ _ ?_
          clear hK K
          refine wpAny_ready (rs := [21]) (by kernel_rfl) (by simp) ?_
          refine AllReady.cons rfl (fun K hK => ?_) AllReady.nil
          go_simp
          refine hK _ _ ?_
          clear hK K
          refine wpAny_done (by kernel_rfl) ?_ _
          go_wp2_with (go_at_call 101; refine (fail_any _ _ _ X p _ HA.out (by omega)).mono ?_; rintro e w1 ⟨hm1, he1⟩; unfold thrown at he1; subst he1; replace HM := Lib.hid (HM.out.step hm1); clear hm1)
          rw [← HR.out]; exact ⟨rfl, HM.out, rfl⟩
        have hzz : ((s.length : Int) == 0) = false := by rw [beq_eq_false_iff_ne]; omega
        by_cases z2 : 32 < s.length
        · rw [if_pos (.inr (.inr (.inl z2)))] at hR
          have HR := Lib.hid hR
          clear hR
          have hz2 : (32 : Int) < (s.length : Int) := by omega
          refine wp_region_any (by kernel_rfl) ?_
          try (change wpAny _ _ _ _ _ _ _ (World.drew _))
          refine wpAny_ready (rs := [0]) (by kernel_rfl) (by simp) ?_
          refine AllReady.cons rfl (fun K hK => ?_) AllReady.nil
          go_simp
          refine hK _ _ ?_
          clear hK K
          refine wpAny_ready (rs := [1]) (by kernel_rfl) (by simp) ?_
          refine AllReady.cons rfl (fun K hK => ?_) AllReady.nil
          go_simp
          (go_at_call 66; refine (has_yes _ _ X p _ (HA.out.drewN 1) (by simp only [UInt8.reduceToNat]; omega)).mono ?_; rintro e w1 ⟨rfl, hm1, ha1⟩; replace HB := Lib.hid (OwnB.mv HB.out (Mv.of_drew hm1) hbase); replace HM := Lib.hid (HM.out.step (Mv.of_drew hm1)); replace HA := Lib.hid ha1; clear hm1 ha1; replace hc := HA.out.cell; replace hz := HA.out.frozen)
          refine hK _ _ ?_
          clear hK K
          refine wpAny_ready (rs := [2]) (by kernel_rfl) (by simp) ?_
          refine AllReady.cons rfl (fun K hK => ?_) AllReady.nil
          go_simp
          refine hK _ _ ?_
          clear hK K
          refine wpAny_ready (rs := [3]) (by kernel_rfl) (by simp) ?_
          refine AllReady.cons rfl (fun K hK => ?_) AllReady.nil
          go_simp
          refine hK _ _ ?_
          clear hK K
          refine wpAny_ready (rs := [4]) (by kernel_rfl) (by simp) ?_
          refine AllReady.cons rfl (fun K hK => ?_) AllReady.nil
          go_simp
          refine hK _ _ ?_
          clear hK K
          refine wpAny_ready (rs := [5]) (by kernel_rfl) (by simp) ?_
          refine AllReady.cons rfl (fun K hK => ?_) AllReady.nil
          go_simp
          refine hK _ _ ?_
          clear hK K
          refine wpAny_ready (rs := [6]) (by kernel_rfl) (by simp) ?_
          refine AllReady.cons rfl (fun K hK => ?_) AllReady.nil
          go_simp
          refine hK _ _ ?_
          clear hK K
          refine wpAny_ready (rs := [7]) (by kernel_rfl) (by simp) ?_
          refine AllReady.cons rfl (fun K hK => ?_) AllReady.nil
          go_simp
          refine hK _ _ ?_
          clear hK K
          refine wpAny_ready (rs := [8]) (by kernel_rfl) (by simp) ?_
          refine AllReady.cons rfl (fun K hK => ?_) AllReady.nil
          go_simp
          refine hK _ _ ?_
          clear hK K
          refine wpAny_ready (rs := [9]) (by kernel_rfl) (by simp) ?_
          refine AllReady.cons rfl (fun K hK => ?_) AllReady.nil
          go_simp
          refine hK _ _ ?_
          clear hK K
          refine wpAny_ready (rs := [10]) (by kernel_rfl) (by simp) ?_
          refine AllReady.cons rfl (fun K hK => ?_) AllReady.nil
          go_simp
          refine hK _ _ ?_
          clear hK K
          refine wpAny_ready (rs := [11]) (by kernel_rfl) (by simp) ?_
          refine AllReady.cons rfl (fun K hK => ?_) AllReady.nil
          go_simp
          refine hK _ _ ?_
          clear hK K
          refine wpAny_ready (rs := [12]) (by kernel_rfl) (by simp) ?_
          refine AllReady.cons rfl (fun K hK => ?_) AllReady.nil
          go_simp
          refine hK _ _ ?_
          clear hK K
          refine wpAny_ready (rs := [13]) (by kernel_rfl) (by simp) ?_
          refine AllReady.cons rfl (fun K hK => ?_) AllReady.nil
          go_simp
          refine hK _ _ ?_
          clear hK K
          refine wpAny_take (i := 14) (v := undef) rfl (by kernel_rfl) (by kernel_rfl) (by kernel_rfl) (fun _ _ _ h => h) (Or.inr ⟨by rfl, rfl⟩) ?_
          refine wpAny_take (i := 15) (v := undef) rfl (by kernel_rfl) (by kernel_rfl) (by kernel_rfl) (fun _ _ _ h => h) (Or.inr ⟨by rfl, rfl⟩) ?_
          refine wpAny_take (i := 16) (v := undef) rfl (by kernel_rfl) (by kernel_rfl) (by kernel_rfl) (fun _ _ _ h => h) (Or.inr ⟨by rfl, rfl⟩) ?_
          refine wpAny_take (i := 17) (v := undef) rfl (by kernel_rfl) (by kernel_rfl) (by kernel_rfl) (fun _ _ _ h => h) (Or.inr ⟨by rfl, rfl⟩) ?_
          refine wpAny_take (i := 18) (v := undef) rfl (by kernel_rfl) (by kernel_rfl) (by kernel_rfl) (fun _ _ _ h => h) (Or.inr ⟨by rfl, rfl⟩) ?_
          refine wpAny_take (i := 19) (v := undef) rfl (by kernel_rfl) (by kernel_rfl) (by kernel_rfl) (fun _ _ _ h => h) (Or.inr ⟨by rfl, rfl⟩) ?_
          refine wpAny_ready (rs := [20]) (by kernel_rfl) (by simp) ?_
          refine AllReady.cons rfl (fun K hK => ?_) AllReady.nil
          go_simp
          refine hK _ _ ?_
          clear hK K
          refine wpAny_ready (rs := [21]) (by kernel_rfl) (by simp) ?_
          refine AllReady.cons rfl (fun K hK => ?_) AllReady.nil
          go_simp
          refine hK _ _ ?_
          clear hK K
          refine wpAny_done (by kernel_rfl) ?_ _
          go_wp2_with (go_at_call 101; refine (fail_any _ _ _ X p _ HA.out (by omega)).mono ?_; rintro e w1 ⟨hm1, he1⟩; unfold thrown at he1; subst he1; replace HM := Lib.hid (HM.out.step hm1); clear hm1)
          rw [← HR.out]; exact ⟨rfl, HM.out, rfl⟩
        have hz2 : ¬ (32 : Int) < (s.length : Int) := by omega
        have hcv := fun (w1 : World) (hb : BRow B w1 (.slice Av s.length cv) s) => conv_brow hb
        have HCv := Lib.hid hcv
        clear hcv
        rw [hnm] at hc
        by_cases z3 : s ∈ ns
        · rw [if_pos (.inr (.inr (.inr z3)))] at hR
          have HR := Lib.hid hR
          clear hR
          refine wp_region_any (by kernel_rfl) ?_
          try (change wpAny _ _ _ _ _ _ _ (World.drew _))
          refine wpAny_ready (rs := [0]) (by kernel_rfl) (by simp) ?_
          refine AllReady.cons rfl (fun K hK => ?_) AllReady.nil
          go_simp
          refine hK _ _ ?_
          clear hK K
          refine wpAny_ready (rs := [1]) (by kernel_rfl) (by simp) ?_
          refine AllReady.cons rfl (fun K hK => ?_) AllReady.nil
          go_simp
          (go_at_call 66; refine (has_yes _ _ X p _ (HA.out.drewN 1) (by simp only [UInt8.reduceToNat]; omega)).mono ?_; rintro e w1 ⟨rfl, hm1, ha1⟩; replace HB := Lib.hid (OwnB.mv HB.out (Mv.of_drew hm1) hbase); replace HM := Lib.hid (HM.out.step (Mv.of_drew hm1)); replace HA := Lib.hid ha1; clear hm1 ha1; replace hc := HA.out.cell; replace hz := HA.out.frozen)
          rw [hnm] at hc
          have hcv := HCv.out _ HB.out
          refine hK _ _ ?_
          clear hK K
          refine wpAny_ready (rs := [2]) (by kernel_rfl) (by simp) ?_
          refine AllReady.cons rfl (fun K hK => ?_) AllReady.nil
          go_simp
          refine hK _ _ ?_
          clear hK K
          refine wpAny_ready (rs := [3]) (by kernel_rfl) (by simp) ?_
          refine AllReady.cons rfl (fun K hK => ?_) AllReady.nil
          go_simp
          refine hK _ _ ?_
          clear hK K
          refine wpAny_ready (rs := [4]) (by kernel_rfl) (by simp) ?_
          refine AllReady.cons rfl (fun K hK => ?_) AllReady.nil
          go_simp
          refine hK _ _ ?_
          clear hK K
          refine wpAny_ready (rs := [5]) (by kernel_rfl) (by simp) ?_
          refine AllReady.cons rfl (fun K hK => ?_) AllReady.nil
          go_simp
          refine hK _ _ ?_
          clear hK K
          refine wpAny_ready (rs := [6]) (by kernel_rfl) (by simp) ?_
          refine AllReady.cons rfl (fun K hK => ?_) AllReady.nil
          go_simp
          refine hK _ _ ?_
          clear hK K
          refine wpAny_ready (rs := [7]) (by kernel_rfl) (by simp) ?_
          refine AllReady.cons rfl (fun K hK => ?_) AllReady.nil
          go_simp
          refine hK _ _ ?_
          clear hK K
          refine wpAny_ready (rs := [8]) (by kernel_rfl) (by simp) ?_
          refine AllReady.cons rfl (fun K hK => ?_) AllReady.nil
          go_simp
          refine hK _ _ ?_
          clear hK K
          refine wpAny_ready (rs := [9]) (by kernel_rfl) (by simp) ?_
          refine AllReady.cons rfl (fun K hK => ?_) AllReady.nil
          go_simp
          refine hK _ _ ?_
          clear hK K
          refine wpAny_ready (rs := [10]) (by kernel_rfl) (by simp) ?_
          refine AllReady.cons rfl (fun K hK => ?_) AllReady.nil
          go_simp
          refine hK _ _ ?_
          clear hK K
          refine wpAny_ready (rs := [11]) (by kernel_rfl) (by simp) ?_
          refine AllReady.cons rfl (fun K hK => ?_) AllReady.nil
          go_simp
          refine hK _ _ ?_
          clear hK K
          refine wpAny_ready (rs := [12]) (by kernel_rfl) (by simp) ?_
          refine AllReady.cons rfl (fun K hK => ?_) AllReady.nil
          go_simp
          refine hK _ _ ?_
          clear hK K
          refine wpAny_ready (rs := [13]) (by kernel_rfl) (by simp) ?_
          refine AllReady.cons rfl (fun K hK => ?_) AllReady.nil
          go_simp
          refine hK _ _ ?_
          clear hK K
          refine wpAny_take (i := 14) (v := ?_) rfl (by kernel_rfl) (by kernel_rfl) (by kernel_rfl) (fun _ _ _ h => h) (Or.inl ⟨by rfl, ?_⟩) ?_
          rotate_left
          (intro w; go_simp; try (with_reducible rfl))
          refine wpAny_take (i := 15) (v := ?_) rfl (by kernel_rfl) (by kernel_rfl) (by kernel_rfl) (fun _ _ _ h => h) (Or.inl ⟨by rfl, ?_⟩) ?_
          rotate_left
          (intro w; go_simp; try (with_reducible rfl))
          refine wpAny_take (i := 16) (v := ?_) rfl (by kernel_rfl) (by kernel_rfl) (by kernel_rfl) (fun _ _ _ h => h) (Or.inl ⟨by rfl, ?_⟩) ?_
          rotate_left
          (intro w; go_simp; try (with_reducible rfl))
          refine wpAny_take (i := 18) (v := ?_) rfl (by kernel_rfl) (by kernel_rfl) (by kernel_rfl) (fun _ _ _ h => h) (Or.inl ⟨by rfl, ?_⟩) ?_
          rotate_left
          (intro w; go_simp; try (with_reducible rfl))
          refine wpAny_ready (rs := [17, 19]) (by kernel_rfl) (by simp) ?_
          refine AllReady.cons rfl (fun K hK => ?_) (AllReady.cons rfl (fun K hK => ?_) AllReady.nil)
          · go_simp
            refine hK _ _ ?_
            clear hK K
            refine wpAny_ready (rs := [19]) (by kernel_rfl) (by simp) ?_
            refine AllReady.cons rfl (fun K hK => ?_) AllReady.nil
            go_simp
            refine hK _ _ ?_
            clear hK K
            refine wpAny_ready (rs := [20]) (by kernel_rfl) (by simp) ?_
            refine AllReady.cons rfl (fun K hK => ?_) AllReady.nil
            go_simp
            (go_at_call 193; refine (contains_strs _ _ _ _ (ns.map str) ⟨s.toArray⟩ _ (by rw [List.length_map]) (by omega) (HNm.out _ HM.out)).mono ?_; rintro e w1 ⟨⟨bq, rfl, hbq⟩, rfl⟩; have HBQ := Lib.hid hbq; clear hbq)
            have hbt := HBQ.out.2 (str_mem.2 z3)
            subst hbt
            refine hK _ _ ?_
            clear hK K
            refine wpAny_ready (rs := [21]) (by kernel_rfl) (by simp) ?_
            refine AllReady.cons rfl (fun K hK => ?_) AllReady.nil
            go_simp
            refine hK _ _ ?_
            clear hK K
            refine wpAny_done (by kernel_rfl) ?_ _
            go_wp2_with (go_at_call 101; refine (fail_any _ _ _ X p _ HA.out (by omega)).mono ?_; rintro e w1 ⟨hm1, he1⟩; unfold thrown at he1; subst he1; replace HM := Lib.hid (HM.out.step hm1); clear hm1)
            rw [← HR.out]; exact ⟨rfl, HM.out, rfl⟩
          · go_simp
            refine hK _ _ ?_
            clear hK K
            refine wpAny_ready (rs := [17]) (by kernel_rfl) (by simp) ?_
            refine AllReady.cons rfl (fun K hK => ?_) AllReady.nil
            go_simp
            refine hK _ _ ?_
            clear hK K
            refine wpAny_ready (rs := [20]) (by kernel_rfl) (by simp) ?_
            refine AllReady.cons rfl (fun K hK => ?_) AllReady.nil
            go_simp
            (go_at_call 193; refine (contains_strs _ _ _ _ (ns.map str) ⟨s.toArray⟩ _ (by rw [List.length_map]) (by omega) (HNm.out _ HM.out)).mono ?_; rintro e w1 ⟨⟨bq, rfl, hbq⟩, rfl⟩; have HBQ := Lib.hid hbq; clear hbq)
            have hbt := HBQ.out.2 (str_mem.2 z3)
            subst hbt
            refine hK _ _ ?_
            clear hK K
            refine wpAny_ready (rs := [21]) (by kernel_rfl) (by simp) ?_
            refine AllReady.cons rfl (fun K hK => ?_) AllReady.nil
            go_simp
            refine hK _ _ ?_
            clear hK K
            refine wpAny_done (by kernel_rfl) ?_ _
            go_wp2_with (go_at_call 101; refine (fail_any _ _ _ X p _ HA.out (by omega)).mono ?_; rintro e w1 ⟨hm1, he1⟩; unfold thrown at he1; subst he1; replace HM := Lib.hid (HM.out.step hm1); clear hm1)
            rw [← HR.out]; exact ⟨rfl, HM.out, rfl⟩
        · rw [if_neg (by rintro (h | h | h | h) <;> first | exact h rfl | exact z1 h | exact z2 h | exact z3 h)] at hR
          have HR := Lib.hid hR
          clear hR
          refine wp_region_any (by kernel_rfl) ?_
          try (change wpAny _ _ _ _ _ _ _ (World.drew _))
          refine wpAny_ready (rs := [0]) (by kernel_rfl) (by simp) ?_
          refine AllReady.cons rfl (fun K hK => ?_) AllReady.nil
          go_simp
          refine hK _ _ ?_
          clear hK K
          refine wpAny_ready (rs := [1]) (by kernel_rfl) (by simp) ?_
          refine AllReady.cons rfl (fun K hK => ?_) AllReady.nil
          go_simp
          (go_at_call 66; refine (has_yes _ _ X p _ (HA.out.drewN 1) (by simp only [UInt8.reduceToNat]; omega)).mono ?_; rintro e w1 ⟨rfl, hm1, ha1⟩; replace HB := Lib.hid (OwnB.mv HB.out (Mv.of_drew hm1) hbase); replace HM := Lib.hid (HM.out.step (Mv.of_drew hm1)); replace HA := Lib.hid ha1; clear hm1 ha1; replace hc := HA.out.cell; replace hz := HA.out.frozen)
          rw [hnm] at hc
          have hcv := HCv.out _ HB.out
          refine hK _ _ ?_
          clear hK K
          refine wpAny_ready (rs := [2]) (by kernel_rfl) (by simp) ?_
          refine AllReady.cons rfl (fun K hK => ?_) AllReady.nil
          go_simp
          refine hK _ _ ?_
          clear hK K
          refine wpAny_ready (rs := [3]) (by kernel_rfl) (by simp) ?_
          refine AllReady.cons rfl (fun K hK => ?_) AllReady.nil
          go_simp
          refine hK _ _ ?_
          clear hK K
          refine wpAny_ready (rs := [4]) (by kernel_rfl) (by simp) ?_
          refine AllReady.cons rfl (fun K hK => ?_) AllReady.nil
          go_simp
          refine hK _ _ ?_
          clear hK K
          refine wpAny_ready (rs := [5]) (by kernel_rfl) (by simp) ?_
          refine AllReady.cons rfl (fun K hK => ?_) AllReady.nil
          go_simp
          refine hK _ _ ?_
          clear hK K
          refine wpAny_ready (rs := [6]) (by kernel_rfl) (by simp) ?_
          refine AllReady.cons rfl (fun K hK => ?_) AllReady.nil
          go_simp
          refine hK _ _ ?_
          clear hK K
          refine wpAny_ready (rs := [7]) (by kernel_rfl) (by simp) ?_
          refine AllReady.cons rfl (fun K hK => ?_) AllReady.nil
          go_simp
          refine hK _ _ ?_
          clear hK K
          refine wpAny_ready (rs := [8]) (by kernel_rfl) (by simp) ?_
          refine AllReady.cons rfl (fun K hK => ?_) AllReady.nil
          go_simp
          refine hK _ _ ?_
          clear hK K
          refine wpAny_ready (rs := [9]) (by kernel_rfl) (by simp) ?_
          refine AllReady.cons rfl (fun K hK => ?_) AllReady.nil
          go_simp
          refine hK _ _ ?_
          clear hK K
          refine wpAny_ready (rs := [10]) (by kernel_rfl) (by simp) ?_
          refine AllReady.cons rfl (fun K hK => ?_) AllReady.nil
          go_simp
          refine hK _ _ ?_
          clear hK K
          refine wpAny_ready (rs := [11]) (by kernel_rfl) (by simp) ?_
          refine AllReady.cons rfl (fun K hK => ?_) AllReady.nil
          go_simp
          refine hK _ _ ?_
          clear hK K
          refine wpAny_ready (rs := [12]) (by kernel_rfl) (by simp) ?_
          refine AllReady.cons rfl (fun K hK => ?_) AllReady.nil
          go_simp
          refine hK _ _ ?_
          clear hK K
          refine wpAny_ready (rs := [13]) (by kernel_rfl) (by simp) ?_
          refine AllReady.cons rfl (fun K hK => ?_) AllReady.nil
          go_simp
          refine hK _ _ ?_
          clear hK K
          refine wpAny_take (i := 14) (v := ?_) rfl (by kernel_rfl) (by kernel_rfl) (by kernel_rfl) (fun _ _ _ h => h) (Or.inl ⟨by rfl, ?_⟩) ?_
          rotate_left
          (intro w; go_simp; try (with_reducible rfl))
          refine wpAny_take (i := 15) (v := ?_) rfl (by kernel_rfl) (by kernel_rfl) (by kernel_rfl) (fun _ _ _ h => h) (Or.inl ⟨by rfl, ?_⟩) ?_
          rotate_left
          (intro w; go_simp; try (with_reducible rfl))
          refine wpAny_take (i := 16) (v := ?_) rfl (by kernel_rfl) (by kernel_rfl) (by kernel_rfl) (fun _ _ _ h => h) (Or.inl ⟨by rfl, ?_⟩) ?_
          rotate_left
          (intro w; go_simp; try (with_reducible rfl))
          refine wpAny_take (i := 18) (v := ?_) rfl (by kernel_rfl) (by kernel_rfl) (by kernel_rfl) (fun _ _ _ h => h) (Or.inl ⟨by rfl, ?_⟩) ?_
          rotate_left
          (intro w; go_simp; try (with_reducible rfl))
          refine wpAny_ready (rs := [17, 19]) (by kernel_rfl) (by simp) ?_
          refine AllReady.cons rfl (fun K hK => ?_) (AllReady.cons rfl (fun K hK => ?_) AllReady.nil)
          · go_simp
            refine hK _ _ ?_
            clear hK K
            refine wpAny_ready (rs := [19]) (by kernel_rfl) (by simp) ?_
            refine AllReady.cons rfl (fun K hK => ?_) AllReady.nil
            go_simp
            refine hK _ _ ?_
            clear hK K
            refine wpAny_ready (rs := [20]) (by kernel_rfl) (by simp) ?_
            refine AllReady.cons rfl (fun K hK => ?_) AllReady.nil
            go_simp
            (go_at_call 193; refine (contains_strs _ _ _ _ (ns.map str) ⟨s.toArray⟩ _ (by rw [List.length_map]) (by omega) (HNm.out _ HM.out)).mono ?_; rintro e w1 ⟨⟨bq, rfl, hbq⟩, rfl⟩; have HBQ := Lib.hid hbq; clear hbq)
            have hbt : bq = false := (Bool.eq_false_iff).2 fun h => z3 (str_mem.1 (HBQ.out.1 h))
            subst hbt
            refine hK _ _ ?_
            clear hK K
            refine wpAny_ready (rs := [21]) (by kernel_rfl) (by simp) ?_
            refine AllReady.cons rfl (fun K hK => ?_) AllReady.nil
            go_simp
            refine hK _ _ ?_
            clear hK K
            refine wpAny_done (by kernel_rfl) ?_ _
            go_wp2
            go_ret
            rw [← HR.out]; exact ⟨rfl, HM.out, HA.out⟩
          · go_simp
            refine hK _ _ ?_
            clear hK K
            refine wpAny_ready (rs := [17]) (by kernel_rfl) (by simp) ?_
            refine AllReady.cons rfl (fun K hK => ?_) AllReady.nil
            go_simp
            refine hK _ _ ?_
            clear hK K
            refine wpAny_ready (rs := [20]) (by kernel_rfl) (by simp) ?_
            refine AllReady.cons rfl (fun K hK => ?_) AllReady.nil
            go_simp
            (go_at_call 193; refine (contains_strs _ _ _ _ (ns.map str) ⟨s.toArray⟩ _ (by rw [List.length_map]) (by omega) (HNm.out _ HM.out)).mono ?_; rintro e w1 ⟨⟨bq, rfl, hbq⟩, rfl⟩; have HBQ := Lib.hid hbq; clear hbq)
            have hbt : bq = false := (Bool.eq_false_iff).2 fun h => z3 (str_mem.1 (HBQ.out.1 h))
            subst hbt
            refine hK _ _ ?_
            clear hK K
            refine wpAny_ready (rs := [21]) (by kernel_rfl) (by simp) ?_
            refine AllReady.cons rfl (fun K hK => ?_) AllReady.nil
            go_simp
            refine hK _ _ ?_
            clear hK K
            refine wpAny_done (by kernel_rfl) ?_ _
            go_wp2
            go_ret
            rw [← HR.out]; exact ⟨rfl, HM.out, HA.out⟩

end Go.Proofs.YtblkejnckbeieaaGreatDoor
