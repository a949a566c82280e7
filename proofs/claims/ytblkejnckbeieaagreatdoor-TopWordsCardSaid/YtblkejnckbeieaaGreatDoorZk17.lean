/- Chapter 10: the parser of patterns: a group's brackets, by the contract of alternatives. -/
import Derived.Test.YtblkejnckbeieaaGreatDoorZk16
namespace Go.Proofs.YtblkejnckbeieaaGreatDoor
open Go.RowKit SetPure

set_option maxRecDepth 100000 in
set_option maxHeartbeats 6400000 in
theorem brk_group (s : SynP.St) (w : World) (X : Cx) (p : Pv) (hsc : Hid (Scal X.rs)) (hps : PS w X p { s with at_ := s.at_ + 1 }) (hat : s.at_ < X.rs.length) (hn : s.names.length ≤ s.at_ + 1) (s1 : SynP.St) (hs1 : s1 = { s with at_ := s.at_ + 1, names := s.names ++ [[]] }) (m : Nat) (ha : AltsC m) (hnn : 3 * (X.rs.length - s.at_) ≤ m + 1) (h32 : ¬ 32 ≤ s.opn.length) (h63 : SynP.pk X.rs (s.at_ + 1) ≠ 63) :
    Calls Tryz.prog 139 #[.pointer (some ⟨X.b, 0, none⟩), .int .i64 s.at_] w (AtomEnd w X (bodyS X.rs m s.at_ (some (s.names.length, [])) s.fl s1)) := by
  have hfew := hps.at_.few
  obtain ⟨V, hV⟩ : ∃ V, w.heap.size = V := ⟨_, rfl⟩
  have HVe := Lib.hid hV
  have HS := Lib.hid (BrkS.start hps hV)
  have hc := hps.at_.cell
  have hopf := hps.opn.form
  obtain ⟨Ao, co, hop, _, _⟩ := hopf
  rw [List.length_map] at hop
  rw [hop] at hc
  have HPf := Lib.hid hps.fl
  clear hV
  have hxb := hps.at_.lt
  clear hps
  have h33 : ¬ (32 : Int) ≤ (s.opn.length : Int) := by omega
  go_enter Tryz.func139, Tryz.ntmps139
  go_upto_region 6 with fail
  rw [HVe.out]
  simp only [zeroA, flA, leafN, RawN.cells] at HS
  generalize ((w.alloc (.cells #[.int .i64 0, .slice none 0 0, .bool false, .int .i64 0, .int .i64 0, .bool false, .int .i64 0, .string ⟨#[]⟩, .slice none 0 0] 29)).alloc (.cells #[.bool p.f.fold, .bool p.f.lines, .bool p.f.dot, .bool p.f.lazy] 39)).alloc (.cells #[.int .i64 11, .slice none 0 0, .bool false, .int .i64 0, .int .i64 0, .bool false, .int .i64 0, .string ⟨#[]⟩, .slice none 0 0] 29) = W0 at HS ⊢
  clear hc
  have hc := HS.out.ps.at_.cell
  have hz := HS.out.ps.at_.frozen
  have T0 : Hid True := Lib.hid trivial
  go_upto_region 13 with (first | (first | (go_at_call 66; clear T0; refine (has2_no _ X p _ HS.out.ps.at_ (by omega)).mono ?_; rintro e w1 ⟨rfl, hm1, ha1⟩; replace HS := Lib.hid (HS.out.mv hm1 ha1 (by omega)); clear hm1 ha1; replace hc := HS.out.ps.at_.cell; replace hz := HS.out.ps.at_.frozen) | (go_at_call 66; refine (has_no _ _ X p _ HS.out.ps.at_ (by simp only [UInt8.reduceToNat]; omega)).mono ?_; rintro e w1 ⟨rfl, hm1, ha1⟩; replace HS := Lib.hid (HS.out.mv hm1 ha1 (by omega)); clear hm1 ha1; replace hc := HS.out.ps.at_.cell; replace hz := HS.out.ps.at_.frozen)) | (go_at_call 170; refine (group_any [] _ X p _ HS.out.ps (by show _ ≤ _; omega)).mono ?_; rintro e w1 ⟨p1, rfl, hpm, hps⟩; replace HS := Lib.hid (HS.out.step hpm hps); clear hpm hps; have hcN := HS.out.ncell; have hzN := HS.out.nfroz))
  have hf6 : BrkS w _ V X p1 _ p.f (grpA s.names.length [] (.slice none 0 0)) := HS.out.field 6 (.int .i64 s.names.length)
  rw [← hs1, HPf.out] at hf6
  generalize w1.setCell ⟨V + 2, 6, none⟩ (.int .i64 s.names.length) = W at hf6 ⊢
  replace HS := Lib.hid hf6
  clear hf6 hc hz hcN hzN hop HPf
  have h1o : s1.opn = s.opn := by rw [hs1]
  have h1a : s.at_ < s1.at_ ∧ s1.at_ ≤ X.rs.length := by rw [hs1]; exact ⟨by show s.at_ < s.at_ + 1; omega, by show s.at_ + 1 ≤ _; omega⟩
  have h1m : 3 * (X.rs.length - s1.at_) + 2 ≤ m := by omega
  clear hs1
  obtain ⟨An, cn, hop, hnc, hcm⟩ := HS.out.ps.opn.form
  rw [List.length_map, h1o] at hop hnc
  have hc := HS.out.ps.at_.cell
  rw [hop] at hc
  have HOp := Lib.hid hop
  have hol : s.opn.length ≤ 32 := by omega
  have hlo := HS.out.ps.lo
  have hlen : (s.opn.map fun k : Nat => (k : Int)).length = s.opn.length := List.length_map ..
  have HLn := Lib.hid hlen
  have hown := HS.out.ps.opn
  rw [hop, h1o] at hown
  have HO := Lib.hid hown
  clear hown hlen hop
  go_upto_region 14 with (at_builtin; refine wpList_append_one (E := Eint) (base := X.B) (l := s.opn.map fun k : Nat => (k : Int)) (s.at_ : Int) ⟨W.heap.size, 0, none⟩ 1 rfl (.tmp 51) (.tmp 53) 22 (by rfl) 8 elIntN (by rfl) (HO.out.alloc _) (by rfl) (by exact news_new W _ _ _ rfl) (by have := HLn.out; unfold maxLen; omega) (by have := HLn.out; omega) ?_; intro v2 w2 ho2 hg2 hat2; have hba := (Below.refl W.heap.size W).alloc (Nat.le_refl _) (.cells #[.int .i64 s.at_] 3); have hHO := HO.out.alloc (.cells #[.int .i64 s.at_] 3); have hsa := HS.out.below hba; rw [← HOp.out] at hg2 hHO; have ha2 := hsa.ps.at_.grownT hHO (by decide) hg2; have hpm2 := Pm.own hHO (.inl rfl) hg2; have hno2 := hsa.ps.nms.kept_ hg2 (hsa.ps.nms.apart hHO (by decide)); obtain ⟨A2, c2, hv2, _, _⟩ := ho2.form; rw [List.length_append, HLn.out, List.length_singleton] at hv2; subst hv2; have HSA := Lib.hid hsa; have HA2 := Lib.hid ha2; have HPM2 := Lib.hid hpm2; have HNO2 := Lib.hid hno2; have HO2 := Lib.hid ho2; replace hc := ha2.cell; have hz := ha2.frozen; clear hba hHO hsa hg2 ha2 hpm2 hno2 ho2 hat2)
  have hmv := mv_cell w2 X 5 (.slice A2 (s.opn.length + 1) c2)
  have hps3 : PS (w2.setCell ⟨X.b, 5, none⟩ (.slice A2 (s.opn.length + 1) c2)) X { p1 with op := .slice A2 (s.opn.length + 1) c2 } { s1 with opn := s1.opn ++ [s.at_] } := by
    refine ⟨HA2.out.setOp _, HS.out.ps.fl, ?_, HNO2.out.mvT HA2.out hmv (by decide), ?_, fun q hq => ?_, HS.out.ps.nml⟩
    · show OwnB Eint 3 X.B _ _ ((s1.opn ++ [s.at_]).map fun k : Nat => (k : Int))
      rw [List.map_append, h1o]
      exact HO2.out.mvT HA2.out hmv (by decide)
    · show (s1.opn ++ [s.at_]).length ≤ 32
      rw [List.length_append, List.length_singleton, h1o]
      omega
    · rcases List.mem_append.1 hq with hq | hq
      · exact HS.out.ps.opk q hq
      · rw [List.mem_singleton.1 hq]; omega
  have hs3 := HSA.out.step (HPM2.out.step (Pm.mv HA2.out hmv)) hps3
  obtain ⟨p3, hp3⟩ : ∃ p3, ({ p1 with op := .slice A2 (s.opn.length + 1) c2 } : Pv) = p3 := ⟨_, rfl⟩
  rw [hp3] at hps3 hs3
  generalize w2.setCell ⟨X.b, 5, none⟩ (.slice A2 (s.opn.length + 1) c2) = W3 at hps3 hs3 ⊢
  have HC := Lib.hid (ha _ W3 X p3 hsc.out hps3 h1a.2 h1m)
  replace HS := Lib.hid hs3
  clear hps3 hs3 hmv hp3 HSA HPM2 HA2 HNO2 HO2 HO HOp hc hz ha
  cases hal : goS X.rs m (.alts []) { s1 with opn := s1.opn ++ [s.at_] } with
  | bad ec kk =>
    rw [hal] at HC
    rw [show bodyS X.rs m s.at_ (some (s.names.length, [])) s.fl s1 = .bad ec kk by unfold bodyS; rw [hal]]
    clear hal
    go_wp2_with (go_at_call 31; refine HC.out.mono ?_; rintro e w4 ⟨hpm4, he1⟩; unfold thrown at he1; subst he1; have HP := Lib.hid (HS.out.pm.step hpm4); clear hpm4)
    exact ⟨rfl, HP.out, rfl⟩
  | ok xs =>
    obtain ⟨x, s2⟩ := xs
    rw [hal] at HC
    have hs2o : s2.opn = s.opn ++ [s.at_] := by rw [SynP.go_opn _ _ _ hal]; exact congrArg (· ++ [s.at_]) h1o
    have hs2a := SynP.go_at _ _ _ hal h1a.2 (fun e => by cases e)
    have hs2b : s1.at_ ≤ s2.at_ ∧ s2.at_ ≤ X.rs.length := ⟨hs2a.1, hs2a.2.1⟩
    have hRn : SynP.pk X.rs s2.at_ ≠ 41 → bodyS X.rs m s.at_ (some (s.names.length, [])) s.fl s1 = .bad 25 s.at_ := fun h => by unfold bodyS; rw [hal]; simp only [if_pos h, hs2o, List.getLast?_concat, Option.getD_some]
    have hRy : SynP.pk X.rs s2.at_ = 41 → bodyS X.rs m s.at_ (some (s.names.length, [])) s.fl s1 = .ok (x.map (SynP.Nd.grp s.names.length []), { s2 with at_ := s2.at_ + 1, opn := s.opn, fl := s.fl }) := fun h => by unfold bodyS; rw [hal]; simp only [ne_eq, h, not_true_eq_false, if_false, hs2o, List.dropLast_concat]
    clear hal hs2a
    cases x with
    | none => go_wp2_with (go_at_call 31; refine HC.out.mono ?_; rintro e w4 hF; exact False.elim hF)
    | some nd =>
      go_upto_region 15 with (first | (refine wpList_store_new rfl 29 (.tmp 8) (.tmp 58) rfl #[.int .i64 r0, .slice r1 r2 r3, .bool r4, .int .i64 r5, .int .i64 r6, .bool r7, .int .i64 r8, .string r9, .slice ra rb rc] rfl rfl 29 zeroA sizeN rfl (cellsN_one ⟨r0, r1, r2, r3, r4, r5, r6, r7, r8, r9, ra, rb, rc⟩) ?_; have hba := (Below.refl w4.heap.size w4).alloc (Nat.le_refl _) (.cells #[.int .i64 r0, .slice r1 r2 r3, .bool r4, .int .i64 r5, .int .i64 r6, .bool r7, .int .i64 r8, .string r9, .slice ra rb rc] 29); have HS5 := Lib.hid (HS4.out.below hba); have HL5 := Lib.hid (Lies.on (StandN.below hba) _ _ HL4.out); have HB5 := Lib.hid (heap_alloc_new w4 (.cells #[.int .i64 r0, .slice r1 r2 r3, .bool r4, .int .i64 r5, .int .i64 r6, .bool r7, .int .i64 r8, .string r9, .slice ra rb rc] 29)); clear hba) | (go_at_call 31; refine HC.out.mono ?_; rintro e w4 ⟨r, p4, rfl, hpm4, hps4, hl4⟩; obtain ⟨r0, r1, r2, r3, r4, r5, r6, r7, r8, r9, ra, rb, rc⟩ := r; simp only [RawN.cells]; have hs4 := HS.out.step hpm4 hps4; have HL4 := Lib.hid (Lies.mono (A' := fun k => V + 3 ≤ k) (fun b hb _ => by have := HS.out.lt; omega) _ _ hl4); have HS4 := Lib.hid hs4; clear hpm4 hps4 hl4 hs4))
      obtain ⟨K, hK⟩ : ∃ K, w4.heap.size = K := ⟨_, rfl⟩
      rw [hK] at HB5 ⊢
      generalize w4.alloc (.cells #[.int .i64 r0, .slice r1 r2 r3, .bool r4, .int .i64 r5, .int .i64 r6, .bool r7, .int .i64 r8, .string r9, .slice ra rb rc] 29) = W5 at HS5 HL5 HB5 ⊢
      clear HS4 HL4 HS hK HC hlo hcm
      have hc := HS5.out.ps.at_.cell
      have hz := HS5.out.ps.at_.frozen
      obtain ⟨n, hnL⟩ : ∃ n, s.opn.length + 1 = n := ⟨_, rfl⟩
      have hsum : (n : Int) - 1 = (s.opn.length : Int) := by omega
      have hwr : IntKind.i64.wrap (s.opn.length : Int) = (s.opn.length : Int) := by rw [IntKind.wrap_i64]; omega
      have hin0 : (0 : Int) ≤ (s.opn.length : Int) := by omega
      have hin1 : (s.opn.length : Int) < (n : Int) := by omega
      have hin2 : (s.opn.length : Int) ≤ (n : Int) := by omega
      have htn : ((s.opn.length : Int)).toNat = s.opn.length := Int.toNat_natCast _
      by_cases h41 : SynP.pk X.rs s2.at_ = 41
      · clear hRn
        have h42 := SynP.pk_lt0 (rs := X.rs) (i := s2.at_) (by omega)
        go_upto_region 17 with (go_at_call 66; refine (has_yes _ _ X p4 _ HS5.out.ps.at_ (by simp only [UInt8.reduceToNat]; omega)).mono ?_; rintro e w6 ⟨rfl, hm1, ha1⟩; have hpm := Pm.mv HS5.out.ps.at_ hm1; replace HL5 := Lib.hid (Lies.on (StandN.pm hpm) _ _ HL5.out); replace HB5 := Lib.hid ((hpm.keep _ _ _ _ HB5.out (by decide) (by decide) (by decide)).trans HB5.out); replace HS5 := Lib.hid (HS5.out.mv hm1 ha1 (by omega)); clear hm1 ha1 hpm; replace hc := HS5.out.ps.at_.cell; replace hz := HS5.out.ps.at_.frozen)
        obtain ⟨g, c, hop, hgc, hcell, hgne, hglt, hk, ho7⟩ := HS5.out.ps.last_open hs2o
        rw [hnL] at hop hgc
        rw [hop] at hc
        clear hop
        have hgc2 : (n : Int) ≤ (c : Int) := by omega
        have hgc3 : (s.opn.length : Int) ≤ (c : Int) := by omega
        go_region
        obtain ⟨hs7, hpm7⟩ := HS5.out.popped hs2o ho7
        generalize (w6.setCell ⟨X.b, 5, none⟩ (.slice (some ⟨g, 0, none⟩) s.opn.length c)).drew = W7 at hs7 hpm7 ⊢
        obtain ⟨p7, hp7⟩ : ∃ p7, ({ p4 with op := .slice (some ⟨g, 0, none⟩) s.opn.length c } : Pv) = p7 := ⟨_, rfl⟩
        rw [hp7] at hs7
        have HL7 := Lib.hid (Lies.on (StandN.pm hpm7) _ _ HL5.out)
        have HB7 := Lib.hid ((hpm7.keep _ _ _ _ HB5.out (by decide) (by decide) (by decide)).trans HB5.out)
        have HS7 := Lib.hid hs7
        clear hs7 hpm7 hp7 HL5 HB5 HS5 hc hz hcell ho7
        have hc := HS7.out.ps.at_.cell
        have hz := HS7.out.ps.at_.frozen
        have g0 : W7.cell? ⟨V + 1, 0, none⟩ = some (.bool s.fl.fold) := Lib.cell_of_heap HS7.out.fb 0
        have g1 : W7.cell? ⟨V + 1, 1, none⟩ = some (.bool s.fl.lines) := Lib.cell_of_heap HS7.out.fb 1
        have g2 : W7.cell? ⟨V + 1, 2, none⟩ = some (.bool s.fl.dot) := Lib.cell_of_heap HS7.out.fb 2
        have g3 : W7.cell? ⟨V + 1, 3, none⟩ = some (.bool s.fl.lazy) := Lib.cell_of_heap HS7.out.fb 3
        go_upto_region 19 with fail
        obtain ⟨hs8, hpm8⟩ := HS7.out.setFl s.fl
        generalize (((W7.setCell ⟨X.b, 7, none⟩ (.bool s.fl.fold)).setCell ⟨X.b, 8, none⟩ (.bool s.fl.lines)).setCell ⟨X.b, 9, none⟩ (.bool s.fl.dot)).setCell ⟨X.b, 10, none⟩ (.bool s.fl.lazy) = W8 at hs8 hpm8 ⊢
        obtain ⟨p8, hp8⟩ : ∃ p8, ({ p7 with f := s.fl } : Pv) = p8 := ⟨_, rfl⟩
        rw [hp8] at hs8
        have HL8 := Lib.hid (Lies.on (StandN.pm hpm8) _ _ HL7.out)
        have HB8 := Lib.hid ((hpm8.keep _ _ _ _ HB7.out (by decide) (by decide) (by decide)).trans HB7.out)
        have HS8 := Lib.hid hs8
        clear hs8 hpm8 hp8 HL7 HB7 HS7 hc hz g0 g1 g2 g3
        have k0 : W8.cell? ⟨K, 0, none⟩ = some (.int .i64 r0) := Lib.cell_of_heap HB8.out 0
        have k1 : W8.cell? ⟨K, 1, none⟩ = some (.slice r1 r2 r3) := Lib.cell_of_heap HB8.out 1
        have k2 : W8.cell? ⟨K, 2, none⟩ = some (.bool r4) := Lib.cell_of_heap HB8.out 2
        have k3 : W8.cell? ⟨K, 3, none⟩ = some (.int .i64 r5) := Lib.cell_of_heap HB8.out 3
        have k4 : W8.cell? ⟨K, 4, none⟩ = some (.int .i64 r6) := Lib.cell_of_heap HB8.out 4
        have k5 : W8.cell? ⟨K, 5, none⟩ = some (.bool r7) := Lib.cell_of_heap HB8.out 5
        have k6 : W8.cell? ⟨K, 6, none⟩ = some (.int .i64 r8) := Lib.cell_of_heap HB8.out 6
        have k7 : W8.cell? ⟨K, 7, none⟩ = some (.string r9) := Lib.cell_of_heap HB8.out 7
        have k8 : W8.cell? ⟨K, 8, none⟩ = some (.slice ra rb rc) := Lib.cell_of_heap HB8.out 8
        have n0 : W8.cell? ⟨V + 1 + 1, 0, none⟩ = some (.int .i64 11) := HS8.out.ncell 0
        have n8 : W8.cell? ⟨V + 1 + 1, 8, none⟩ = some (.slice none 0 0) := HS8.out.ncell 8
        have z8 : W8.frozen? ⟨V + 1 + 1, 8, none⟩ = false := HS8.out.nfroz 8
        have hlt8 : V + 1 + 1 < W8.heap.size := HS8.out.lt
        go_upto_region 22 with fail
        clear n0 n8 z8 k0 k1 k2 k3 k4 k5 k6 k7 k8
        obtain ⟨G, hG⟩ : ∃ G, W8.heap.size = G := ⟨_, rfl⟩
        have hs9 : BrkS w (W8.setCell ⟨V + 1 + 1, 8, none⟩ (.slice (some ⟨W8.heap.size, 0, none⟩) 1 1)) V X p8 _ s.fl (grpA s.names.length [] (.slice (some ⟨W8.heap.size, 0, none⟩) 1 1)) := HS8.out.field 8 _
        have hst9 : StandN (fun k => V + 3 ≤ k) W8 (W8.setCell ⟨V + 1 + 1, 8, none⟩ (.slice (some ⟨W8.heap.size, 0, none⟩) 1 1)) := StandN.setCell _ HS8.out.nb (by omega)
        have hl9 := Lies.on hst9 _ _ HL8.out
        have hz9 : (W8.setCell ⟨V + 1 + 1, 8, none⟩ (.slice (some ⟨W8.heap.size, 0, none⟩) 1 1)).heap.size = W8.heap.size := size_setCell_ _ _ _
        rw [hG] at hs9 hl9 hz9 hlt8 ⊢
        generalize W8.setCell ⟨V + 1 + 1, 8, none⟩ (.slice (some ⟨G, 0, none⟩) 1 1) = W9 at hs9 hl9 hz9 ⊢
        have hba := (Below.refl W9.heap.size W9).alloc (Nat.le_refl _) (.cells #[.int .i64 r0, .slice r1 r2 r3, .bool r4, .int .i64 r5, .int .i64 r6, .bool r7, .int .i64 r8, .string r9, .slice ra rb rc] 29)
        have hs10 := hs9.below hba
        have hl10 := Lies.on (StandN.below hba) _ _ hl9
        have hb10 := heap_alloc_new W9 (.cells #[.int .i64 r0, .slice r1 r2 r3, .bool r4, .int .i64 r5, .int .i64 r6, .bool r7, .int .i64 r8, .string r9, .slice ra rb rc] 29)
        rw [hz9] at hb10
        generalize W9.alloc (.cells #[.int .i64 r0, .slice r1 r2 r3, .bool r4, .int .i64 r5, .int .i64 r6, .bool r7, .int .i64 r8, .string r9, .slice ra rb rc] 29) = W10 at hs10 hl10 hb10 ⊢
        have HS10 := Lib.hid hs10
        have HL10 := Lib.hid (Lies.grp (A := fun k => V + 3 ≤ k) (cap := s.names.length) (nm := []) hlt8 hb10 hl10)
        clear hs9 hst9 hl9 hz9 hba hs10 hl10 hb10 HS8 HL8 HB8
        have n0 : W10.cell? ⟨V + 1 + 1, 0, none⟩ = some (.int .i64 11) := HS10.out.ncell 0
        have n1 : W10.cell? ⟨V + 1 + 1, 1, none⟩ = some (.slice none 0 0) := HS10.out.ncell 1
        have n2 : W10.cell? ⟨V + 1 + 1, 2, none⟩ = some (.bool false) := HS10.out.ncell 2
        have n3 : W10.cell? ⟨V + 1 + 1, 3, none⟩ = some (.int .i64 0) := HS10.out.ncell 3
        have n4 : W10.cell? ⟨V + 1 + 1, 4, none⟩ = some (.int .i64 0) := HS10.out.ncell 4
        have n5 : W10.cell? ⟨V + 1 + 1, 5, none⟩ = some (.bool false) := HS10.out.ncell 5
        have n6 : W10.cell? ⟨V + 1 + 1, 6, none⟩ = some (.int .i64 (s.names.length : Nat)) := HS10.out.ncell 6
        have n7 : W10.cell? ⟨V + 1 + 1, 7, none⟩ = some (.string (str [])) := HS10.out.ncell 7
        have n8 : W10.cell? ⟨V + 1 + 1, 8, none⟩ = some (.slice (some ⟨G, 0, none⟩) 1 1) := HS10.out.ncell 8
        go_wp2_with (refine wpList_store_row rfl 29 (.tmp 4) (.tmp 101) rfl V (grpN s.names.length [] G).cells.toArray rfl rfl 29 zeroA HS10.out.box sizeN rfl (cellsN_one _) ?_)
        refine retN2 rfl (grpN s.names.length [] G) true rfl rfl (setRow_heap _ _ _ _ _ _ HS10.out.box) rfl ?_
        try rw [hRy h41]
        exact HS10.out.fin (Lies.mono (fun b hb _ => by omega) _ _ HL10.out)
      · clear hRy
        go_upto_region 16 with (go_at_call 66; refine (has_no _ _ X p4 _ HS5.out.ps.at_ (by simp only [UInt8.reduceToNat]; omega)).mono ?_; rintro e w6 ⟨rfl, hm1, ha1⟩; have hpm := Pm.mv HS5.out.ps.at_ hm1; replace HL5 := Lib.hid (Lies.on (StandN.pm hpm) _ _ HL5.out); replace HB5 := Lib.hid ((hpm.keep _ _ _ _ HB5.out (by decide) (by decide) (by decide)).trans HB5.out); replace HS5 := Lib.hid (HS5.out.mv hm1 ha1 (by omega)); clear hm1 ha1 hpm; replace hc := HS5.out.ps.at_.cell; replace hz := HS5.out.ps.at_.frozen)
        obtain ⟨g, c, hop, hgc, hcell, hgne, hglt, hk, _⟩ := HS5.out.ps.last_open hs2o
        rw [hnL] at hop hgc
        rw [hop] at hc
        clear hop
        go_still_tail 13, (by kernel_rfl)
        go_wp2_with (go_at_call 101; refine (fail_any _ s.at_ _ X p4 _ (HS5.out.ps.at_.drewN 1) (by omega)).mono ?_; rintro e w7 ⟨hm1, he1⟩; unfold thrown at he1; subst he1; have HP := Lib.hid (HS5.out.pm.step (Pm.mv HS5.out.ps.at_ (Mv.of_drew hm1))); clear hm1)
        try rw [hRn h41]
        exact ⟨rfl, HP.out, rfl⟩

end Go.Proofs.YtblkejnckbeieaaGreatDoor
