/- Chapter 18: the walks of speaks and of the law PrefixPlaces. -/
import Derived.Test.YtblkejnckbeieaaGreatDoorZk25
import Derived.Test.YtblkejnckbeieaaGreatDoorZk28
import Derived.Test.YtblkejnckbeieaaGreatDoorZk36
import Derived.Test.YtblkejnckbeieaaGreatDoorZk37
namespace Go.Proofs.YtblkejnckbeieaaGreatDoor
open Go.RowKit SetPure

def sp18I : SynP.Nd := .mk 8 none false 0 0 false 0 [] [SynP.sgnW 97, SynP.sgnW 98]
def sp18T : SynP.Nd := .mk 8 none false 0 0 false 0 [] [.grp 1 [] sp18I, SynP.sgnW 99]
theorem sp18_parse : SynP.parse (nat_ [40, 97, 98, 41, 99]) clsT perlT f0 = .ok (some sp18T, ⟨5, [], [[], []], f0⟩) := by kernel_rfl
theorem mk_18I : SynP.mkN cl0 sp18I = sp18I := by
  unfold sp18I
  rw [SynP.mkN, if_neg (by omega), if_neg (by omega), if_pos rfl]
  unfold SynP.mkL SynP.mkL SynP.mkL
  rw [SynP.mk_sgnW, SynP.mk_sgnW]
  rfl
theorem mk_18G : SynP.mkN cl0 (.grp 1 [] sp18I) = .grp 1 [] sp18I := by
  unfold SynP.Nd.grp
  rw [SynP.mkN, if_neg (by omega), if_neg (by omega), if_neg (by omega), if_neg (by omega), if_neg (by omega)]
  unfold SynP.mkL SynP.mkL
  rw [mk_18I]
theorem mkL_18 : SynP.mkL cl0 [.grp 1 [] sp18I, SynP.sgnW 99] = [.grp 1 [] sp18I, SynP.sgnW 99] := by
  unfold SynP.mkL SynP.mkL SynP.mkL
  rw [mk_18G, SynP.mk_sgnW]
theorem mk_18 : SynP.mkN cl0 sp18T = sp18T := by
  unfold sp18T
  rw [SynP.mkN, if_neg (by omega), if_neg (by omega), if_pos rfl, mkL_18]
  rfl
theorem few_sgn (c : UInt8) : SynP.fewN (SynP.sgnW c) := by unfold SynP.sgnW SynP.Nd.cls SynP.fewN; exact ⟨fun h => absurd h (by decide), by unfold SynP.fewL; trivial⟩
theorem few_18 : SynP.fewN sp18T := by
  have hi : SynP.fewN sp18I := by
    unfold sp18I SynP.fewN
    refine ⟨fun h => absurd h (by decide), ?_⟩
    unfold SynP.fewL SynP.fewL SynP.fewL
    exact ⟨few_sgn _, few_sgn _, trivial⟩
  unfold sp18T SynP.fewN
  refine ⟨fun h => absurd h (by decide), ?_⟩
  unfold SynP.fewL SynP.fewL SynP.fewL
  refine ⟨?_, few_sgn _, trivial⟩
  unfold SynP.Nd.grp SynP.fewN
  refine ⟨fun h => absurd h (by decide), ?_⟩
  unfold SynP.fewL SynP.fewL
  exact ⟨hi, trivial⟩
theorem ok_sgn (c : UInt8) : okF cl0 (SynP.sgnW c) := by
  unfold SynP.sgnW SynP.Nd.cls okF
  exact ⟨fun _ => ⟨rfl, _, rfl⟩, fun h => absurd h (by decide), by decide, by decide, by simp, by unfold okFL; trivial⟩
theorem ok_18 : okF cl0 sp18T := by
  have hi : okF cl0 sp18I := by
    unfold sp18I okF
    refine ⟨fun h => absurd h (by decide), fun _ => ?_, by decide, by decide, by simp, ?_⟩
    · unfold SynP.mkL SynP.mkL SynP.mkL
      rw [SynP.mk_sgnW, SynP.mk_sgnW]
      decide
    · unfold okFL okFL okFL
      exact ⟨ok_sgn _, ok_sgn _, trivial⟩
  unfold sp18T okF
  refine ⟨fun h => absurd h (by decide), fun _ => ?_, by decide, by decide, by simp, ?_⟩
  · rw [mkL_18]
    decide
  · unfold okFL okFL okFL
    refine ⟨?_, ok_sgn _, trivial⟩
    unfold SynP.Nd.grp okF
    refine ⟨fun h => absurd h (by decide), fun h => absurd h (by decide), by decide, by decide, by simp, ?_⟩
    unfold okFL okFL
    exact ⟨hi, trivial⟩
theorem cnt_sgn (c : UInt8) : SynP.cntN (SynP.sgnW c) = 1 := by unfold SynP.sgnW SynP.Nd.cls SynP.cntN; rw [if_neg (by omega), if_neg (by omega), if_neg (by omega)]
theorem cnt_18I : SynP.cntN sp18I = 3 := by
  unfold sp18I
  rw [SynP.cntN, if_pos (.inl rfl)]
  unfold SynP.cntS SynP.cntS SynP.cntS
  rw [cnt_sgn, cnt_sgn]
  rfl
theorem cnt_18G : SynP.cntN (.grp 1 [] sp18I) = 4 := by
  unfold SynP.Nd.grp
  rw [SynP.cntN, if_neg (by omega), if_pos rfl]
  unfold SynP.cntH
  rw [cnt_18I]
  rfl
theorem cnt_18 : SynP.cntN sp18T ≤ 8192 := by
  unfold sp18T
  rw [SynP.cntN, if_pos (.inl rfl)]
  unfold SynP.cntS SynP.cntS SynP.cntS
  rw [cnt_18G, cnt_sgn]
  decide
theorem lit_18 : SynP.Lit sp18T [97, 98, 99] := by
  have hi : SynP.Lit sp18I [97, 98] := by
    unfold sp18I
    refine SynP.Lit.cat _ _ _ _ _ _ _ _ [[97], [98]] rfl fun i h1 h2 => ?_
    match i, h1, h2 with
    | 0, _, _ => exact SynP.lit_sgnW (by decide)
    | 1, _, _ => exact SynP.lit_sgnW (by decide)
  unfold sp18T
  refine SynP.Lit.cat _ _ _ _ _ _ _ _ [[97, 98], [99]] rfl fun i h1 h2 => ?_
  match i, h1, h2 with
  | 0, _, _ => exact SynP.Lit.grp _ _ _ _ _ _ _ _ _ _ hi
  | 1, _, _ => exact SynP.lit_sgnW (by decide)

set_option maxRecDepth 100000 in
set_option maxHeartbeats 6400000 in
theorem sp18_any (w : World) : Calls Tryz.prog 21 #[] w fun e w' => e = .returned (.bool true) ∧ Below w.heap.size w w' := by
  have HP : Hid (∀ w, Calls Tryz.prog 11 #[.string ⟨#[40, 97, 98, 41, 99]⟩, .agg #[.bool false, .bool false, .bool false, .bool false]] w (TreeEnd sp18T w)) := Lib.hid fun w => tree_end [40, 97, 98, 41, 99] sp18T _ (by decide) (by decide) sp18_parse w
  have hs : SimpC sp18T sp18T := by
    have := simp_flat sp18T few_18 cnt_18 ok_18
    rwa [mk_18] at this
  have HSm := Lib.hid hs
  have HLi := Lib.hid (lit_len lit_18 (by decide))
  clear hs
  go_enter Tryz.func21, Tryz.ntmps21
  go_upto_region 2 with (first
      | (go_at_call 11; refine (HP.out _).mono ?_; rintro e w2 ⟨hb2, ⟨r0, r1, r2, r3, r4, r5, r6, r7, r8, r9, ra, rb, rc⟩, A, n, c, rfl, hl2⟩; have HB2 := Lib.hid (hb2); have HL2 := Lib.hid hl2; clear hb2 hl2; simp only [RawN.cells, List.cons_append, List.nil_append]))
  obtain ⟨P, hP⟩ : ∃ P, w2.heap.size = P := ⟨_, rfl⟩
  have hps := PatS.start (pc := #[.int .i64 r0, .slice r1 r2 r3, .bool r4, .int .i64 r5, .int .i64 r6, .bool r7, .int .i64 r8, .string r9, .slice ra rb rc, .slice A n c]) (fc := #[.int .i64 0, .int .i64 0]) HB2.out hP
  have hl3 := Lies.on (StandN.below (below_two w2 (.cells #[.int .i64 r0, .slice r1 r2 r3, .bool r4, .int .i64 r5, .int .i64 r6, .bool r7, .int .i64 r8, .string r9, .slice ra rb rc, .slice A n c] 32) (.cells #[.int .i64 0, .int .i64 0] 35))) _ _ HL2.out
  rw [hP]
  generalize (w2.alloc (.cells #[.int .i64 r0, .slice r1 r2 r3, .bool r4, .int .i64 r5, .int .i64 r6, .bool r7, .int .i64 r8, .string r9, .slice ra rb rc, .slice A n c] 32)).alloc (.cells #[.int .i64 0, .int .i64 0] 35) = W3 at hps hl3 ⊢
  have HS3 := Lib.hid hps
  have HL3 := Lib.hid hl3
  have hcP := HS3.out.pcell
  have hcF := HS3.out.fcell
  clear hps hl3 hP HB2 HL2 HP
  have HSc := Lib.hid (HSm.out ⟨r0, r1, r2, r3, r4, r5, r6, r7, r8, r9, ra, rb, rc⟩ _ W3 HL3.out)
  simp only [RawN.cells] at HSc
  clear HSm
  go_upto_region 3 with (go_at_call 12; refine HSc.out.mono ?_; rintro e w4 ⟨⟨q0, q1, q2, q3, q4, q5, q6, q7, q8, q9, qa, qb, qc⟩, rfl, hb4, hl4⟩; have HS4 := Lib.hid (HS3.out.below hb4); have HL4 := Lib.hid hl4; clear hb4 hl4)
  obtain ⟨M, hM⟩ : ∃ M, w4.heap.size = M := ⟨_, rfl⟩
  have hba : Below w4.heap.size w4 (w4.alloc (.cells #[.int .i64 q0, .slice q1 q2 q3, .bool q4, .int .i64 q5, .int .i64 q6, .bool q7, .int .i64 q8, .string q9, .slice qa qb qc] 29)) := (Below.refl _ _).alloc (Nat.le_refl _) _
  have hs5 := HS4.out.below hba
  have hl5 := Lies.on (StandN.below hba) _ _ HL4.out
  have hq5 := heap_alloc_new w4 (.cells #[.int .i64 q0, .slice q1 q2 q3, .bool q4, .int .i64 q5, .int .i64 q6, .bool q7, .int .i64 q8, .string q9, .slice qa qb qc] 29)
  rw [hM] at hq5 ⊢
  clear hba hM hcP hcF
  generalize w4.alloc (.cells #[.int .i64 q0, .slice q1 q2 q3, .bool q4, .int .i64 q5, .int .i64 q6, .bool q7, .int .i64 q8, .string q9, .slice qa qb qc] 29) = W5 at hs5 hl5 hq5 ⊢
  have HS5 := Lib.hid hs5
  have HL5 := Lib.hid hl5
  have hcF := HS5.out.fcell
  have hcq : ∀ o, W5.cell? ⟨M, o, none⟩ = #[Value.int .i64 q0, .slice q1 q2 q3, .bool q4, .int .i64 q5, .int .i64 q6, .bool q7, .int .i64 q8, .string q9, .slice qa qb qc][o]? := fun o => Lib.cell_of_heap hq5 o
  clear hs5 hl5 hq5 HSc HS4 HL4 HS3 HL3
  have HC : Hid (Calls Tryz.prog 13 #[.agg #[.int .i64 q0, .slice q1 q2 q3, .bool q4, .int .i64 q5, .int .i64 q6, .bool q7, .int .i64 q8, .string q9, .slice qa qb qc]] W5 fun e w' => e = .returned (.tuple #[.string ⟨#[97, 98, 99]⟩, .bool true]) ∧ Below W5.heap.size W5 w') := Lib.hid (by
    have := HLi.out _ _ W5 HL5.out
    exact this)
  clear hcF
  go_wp2_with (go_at_call 13; refine HC.out.mono ?_; rintro e w6 ⟨rfl, hb6⟩)
  go_ret
  exact ⟨rfl, HS5.out.bel.trans (hb6.mono HS5.out.bel.size)⟩

theorem slice_occ (t s : ByteArray) (p : Nat) (h : p + s.size ≤ t.size) : t.extract p (p + s.size) = s ↔ Lib.occAt t.data.toList s.data.toList p = true := by
  have hts : t.data.toList.length = t.size := len_size t
  have hss : s.data.toList.length = s.size := len_size s
  rw [Lib.occAt_iff_take _ _ _ (by omega), beq_iff_eq]
  have e : (t.extract p (p + s.size)).data.toList = (t.data.toList.drop p).take s.data.toList.length := by
    rw [ByteArray.data_extract, Array.toList_extract, hss]
    simp [List.extract]
  constructor
  · intro h1
    rw [← e, h1]
  · intro h1
    have h2 : (t.extract p (p + s.size)).data.toList = s.data.toList := by rw [e, h1]
    exact congrArg ByteArray.mk (Array.toList_inj.1 h2)

set_option maxRecDepth 100000 in
set_option maxHeartbeats 6400000 in
theorem law_places (t s : ByteArray) (w : World) (ht : t.size ≤ 140737488355328) (hs : s.size ≤ 140737488355328) (hB : BaseP w) :
    Calls Tryz.prog 6 #[.string t, .string s] w fun e w' => e = .returned (.bool true) ∧ Below w.heap.size w w' := by
  have HB := Lib.hid hB
  have hti : (t.size : Int) ≤ 9223372036854775807 := by omega
  have hsi : (s.size : Int) ≤ 9223372036854775807 := by omega
  clear hB
  go_enter Tryz.func6, Tryz.ntmps6
  go_upto_region 3 with (go_at_call 21; refine (sp18_any _).mono ?_; rintro e w1 ⟨rfl, hb1⟩; have HB1 := Lib.hid hb1; clear hb1)
  by_cases h1 : 2000 < t.size
  · have z1 : (2000 : Int) < (t.size : Int) := by omega
    go_wp2_with fail
    go_ret
    exact ⟨rfl, HB1.out⟩
  · have z1 : ¬ (2000 : Int) < (t.size : Int) := by omega
    by_cases h2 : s.size = 0
    · have e2 : s.toList = [] := by
        rw [ByteArray.toList_eq]
        have h3 : s.data.toList.length = s.size := len_size s
        exact List.eq_nil_of_length_eq_zero (by omega)
      have e3 : s.toList.isEmpty = true := by rw [e2]; rfl
      have e4 : (!s.toList.isEmpty) = false := by rw [e3]; rfl
      clear h1 h2
      go_wp2_with fail
      all_goals
        go_ret
        exact ⟨rfl, HB1.out⟩
    · have hne : s.toList.isEmpty = false := by
        rw [ByteArray.toList_eq]
        cases hl : s.data.toList with
        | nil =>
          have h3 : s.data.toList.length = s.size := len_size s
          rw [hl] at h3
          simp at h3
          omega
        | cons c l => rfl
      have hne2 : ¬ s.toList = [] := fun e => by rw [e] at hne; cases hne
      have hs0 : 0 < s.size := by omega
      have hsl : s.data.toList ≠ [] := fun e => by
        have h3 : s.data.toList.length = s.size := len_size s
        rw [e] at h3
        simp at h3
        omega
      have hl1 : t.data.toList.length = t.size := len_size t
      have hl2 : s.data.toList.length = s.size := len_size s
      have HLn := Lib.hid (And.intro hl1 (And.intro hl2 hsl))
      have HN : Hid (∀ (emp : Bool) (p : Nat), p ≤ 3000 → ∀ wx, Below w.heap.size w wx → Calls Tryz.prog 14 #[.string t, .string s, .slice none 0 0, .bool emp, .int .i64 (p : Int)] wx fun e w' => e = .returned (.int .i64 (nextW t.data.toList s.data.toList p)) ∧ Below wx.heap.size wx w') := Lib.hid fun emp p hp wx hb => next_word t s _ emp p wx (HB.out.later hb) hs0 (by omega) (by omega) (by omega)
      have HN0 := Lib.hid (HN.out true 0 (by omega) w1 HB1.out)
      have ht2 : (t.size : Int) ≤ 2000 := by omega
      clear h1 h2 hl1 hl2 hsl
      go_upto_region 6 with (go_at_call 14; refine HN0.out.mono ?_; rintro e w2 ⟨rfl, hb2⟩; have HB2 := Lib.hid (HB1.out.trans (hb2.mono HB1.out.size)); clear hb2)
      clear HN0 hne hne2
      go_wp2_with fail
      go_loopw [5, 6] (fun s5 s6 wr => ∃ p : Nat, p ≤ 2001 ∧ (p = 0 ∨ s.size ≤ 2000) ∧ s6 = .int .i64 p ∧ s5 = .int .i64 (nextW t.data.toList s.data.toList p) ∧ Hid (Below w.heap.size w wr)) (fun _ s6 _ => 2002 - (intOf s6).toNat)
      case atStart => exact ⟨0, by omega, .inl rfl, rfl, rfl, HB2⟩
      case round =>
        obtain ⟨p, hp, hps, rfl, rfl, HS⟩ := hrel
        have hsum : (p : Int) + (s.size : Int) ≤ 9223372036854775807 := by omega
        have hp0 : (0 : Int) ≤ (p : Int) := by omega
        by_cases hle : p + s.size ≤ t.size
        · have hlei : (p : Int) + (s.size : Int) ≤ (t.size : Int) := by omega
          have HN1 : Hid (Calls Tryz.prog 14 #[.string t, .string s, .slice none 0 0, .bool false, .int .i64 ((p : Int) + 1)] wr fun e w' => e = .returned (.int .i64 (nextW t.data.toList s.data.toList (p + 1))) ∧ Below wr.heap.size wr w') := Lib.hid (HN.out false (p + 1) (by omega) wr HS.out)
          have hpt : (p : Int) ≤ (t.size : Int) := by omega
          have hpe : p ≤ p + s.size := by omega
          have hpi : (p : Int) ≤ (p : Int) + (s.size : Int) := by omega
          have hp9 : (p : Int) ≤ 2001 := by omega
          by_cases ho : Lib.occAt t.data.toList s.data.toList p = true
          · have hx := (slice_occ t s p hle).2 ho
            have hn : nextW t.data.toList s.data.toList p = (p : Int) := nextW_hit (by rw [HLn.out.1]; omega) ho
            rw [hn]
            clear hn ho hps
            go_wp2_with (go_at_call 14; refine HN1.out.mono ?_; rintro e w3 ⟨rfl, hb3⟩; have HS3 := Lib.hid (HS.out.trans (hb3.mono HS.out.size)); clear hb3)
            exact ⟨⟨p + 1, by omega, .inr (by omega), by simp, rfl, HS3⟩, by simp only [intOf]; omega⟩
          · have ho2 : Lib.occAt t.data.toList s.data.toList p = false := by simpa using ho
            have hx : ((t.extract p (p + s.size)).toList == s.toList) = false := beq_false_of_ne fun e => ho ((slice_occ t s p hle).1 (by
              rw [ByteArray.toList_eq, ByteArray.toList_eq] at e
              exact congrArg ByteArray.mk (Array.toList_inj.1 e)))
            have hn : nextW t.data.toList s.data.toList p = nextW t.data.toList s.data.toList (p + 1) := nextW_miss (by rw [HLn.out.1]; omega) ho2
            rw [hn]
            clear hn ho ho2 hps
            go_wp2_with fail
            exact ⟨⟨p + 1, by omega, .inr (by omega), by simp, rfl, HS⟩, by simp only [intOf]; omega⟩
        · have hlei : ¬ (p : Int) + (s.size : Int) ≤ (t.size : Int) := by omega
          have hn : nextW t.data.toList s.data.toList p = -1 := nextW_end HLn.out.2.2 (by rw [HLn.out.1, HLn.out.2.1]; omega)
          rw [hn]
          clear hn hps
          go_wp2_with fail
          go_ret
          exact ⟨rfl, HS.out⟩

end Go.Proofs.YtblkejnckbeieaaGreatDoor
