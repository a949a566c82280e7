/- Chapter 11: a tree behind Parse; the walk of speaks. -/
import Derived.Test.YtblkejnckbeieaaGreatDoorZk25
import Derived.Test.YtblkejnckbeieaaGreatDoorZk43
namespace Go.Proofs.YtblkejnckbeieaaGreatDoor
open Go.RowKit SetPure

def spT : SynP.Nd := .mk 9 none false 0 0 false 0 [] [SynP.Nd.cls (SynP.one 97) false, SynP.Nd.rep 2 2 false (SynP.Nd.cls (SynP.one 98) true)]
theorem sp_parse : SynP.parse (nat_ [97, 124, 40, 63, 105, 41, 98, 123, 50, 125]) clsT perlT f0 = .ok (some spT, ⟨10, [], [[]], ⟨true, false, false, false⟩⟩) := by kernel_rfl
theorem alnum_a : SynP.alnum 97 := by unfold SynP.alnum; omega
theorem alnum_b : SynP.alnum 98 := by unfold SynP.alnum; omega
theorem sp_text : SynP.shN spT = [97, 124, 40, 63, 105, 58, 98, 41, 123, 50, 125] := by
  unfold spT
  rw [SynP.sh9]
  simp only [SynP.kidsT, List.map_cons, List.map_nil]
  unfold SynP.Nd.rep SynP.Nd.cls
  rw [SynP.sh1, SynP.sh10, SynP.clsTxt_one alnum_a]
  simp only [SynP.kidsT, List.map_cons, List.map_nil]
  rw [SynP.sh1, SynP.clsTxt_one alnum_b]
  decide +kernel
theorem ok_cls {c : Int} (hc : SynP.alnum c) (fold : Bool) : SynP.okN (SynP.Nd.cls (SynP.one c) fold) := by
  unfold SynP.Nd.cls SynP.okN
  refine ⟨fun _ => ⟨_, rfl, c, hc, rfl⟩, fun h => absurd h (by decide), fun h => absurd h (by decide), .inl rfl, ?_⟩
  unfold SynP.okL
  trivial
theorem sp_ok : SynP.okN spT := by
  unfold spT SynP.okN
  refine ⟨fun h => absurd h (by decide), fun h => absurd h (by decide), fun h => absurd h (by decide), .inr (.inr (.inl rfl)), ?_⟩
  unfold SynP.okL
  refine ⟨ok_cls alnum_a false, ?_⟩
  unfold SynP.okL
  refine ⟨?_, by unfold SynP.okL; trivial⟩
  unfold SynP.Nd.rep SynP.okN
  refine ⟨fun h => absurd h (by decide), fun _ => by decide, fun h => absurd h (by decide), .inr (.inr (.inr ⟨.inl rfl, by simp⟩)), ?_⟩
  unfold SynP.okL
  exact ⟨ok_cls alnum_b true, by unfold SynP.okL; trivial⟩

set_option maxRecDepth 100000 in
set_option maxHeartbeats 3200000 in
theorem sp_any (w : World) : Calls Tryz.prog 15 #[] w fun e w' => e = .returned (.bool true) ∧ Below w.heap.size w w' := by
  have HP1 : Hid (∀ w, Calls Tryz.prog 11 #[.string ⟨#[97, 124, 40, 63, 105, 41, 98, 123, 50, 125]⟩, .agg #[.bool false, .bool false, .bool false, .bool false]] w (TreeEnd spT w)) := Lib.hid fun w => tree_end [97, 124, 40, 63, 105, 41, 98, 123, 50, 125] spT _ (by decide) (by decide) sp_parse w
  have HSh : Hid (ShowC spT) := Lib.hid (show_all 10 spT (by decide +kernel) sp_ok (by rw [sp_text]; decide))
  have hfe := faultEq_same 0 0
  go_enter Tryz.func15, Tryz.ntmps15
  go_upto_region 2 with (go_at_call 11; refine (HP1.out _).mono ?_; rintro e w2 ⟨hb2, ⟨r0, r1, r2, r3, r4, r5, r6, r7, r8, r9, ra, rb, rc⟩, A, n, c, rfl, hl2⟩; have HB2 := Lib.hid hb2; have HL2 := Lib.hid hl2; clear hb2 hl2; simp only [RawN.cells, List.cons_append, List.nil_append])
  obtain ⟨P, hP⟩ : ∃ P, w2.heap.size = P := ⟨_, rfl⟩
  have hps := PatS.start (pc := #[.int .i64 r0, .slice r1 r2 r3, .bool r4, .int .i64 r5, .int .i64 r6, .bool r7, .int .i64 r8, .string r9, .slice ra rb rc, .slice A n c]) (fc := #[.int .i64 0, .int .i64 0]) HB2.out hP
  have hl3 := Lies.on (StandN.below (below_two w2 (.cells #[.int .i64 r0, .slice r1 r2 r3, .bool r4, .int .i64 r5, .int .i64 r6, .bool r7, .int .i64 r8, .string r9, .slice ra rb rc, .slice A n c] 32) (.cells #[.int .i64 0, .int .i64 0] 35))) _ _ HL2.out
  rw [hP]
  generalize (w2.alloc (.cells #[.int .i64 r0, .slice r1 r2 r3, .bool r4, .int .i64 r5, .int .i64 r6, .bool r7, .int .i64 r8, .string r9, .slice ra rb rc, .slice A n c] 32)).alloc (.cells #[.int .i64 0, .int .i64 0] 35) = W3 at hps hl3 ⊢
  have HS3 := Lib.hid hps
  have HC : Hid (Calls Tryz.prog 25 #[.agg #[.int .i64 r0, .slice r1 r2 r3, .bool r4, .int .i64 r5, .int .i64 r6, .bool r7, .int .i64 r8, .string r9, .slice ra rb rc]] W3 fun e w' => e = .returned (.string ⟨#[97, 124, 40, 63, 105, 58, 98, 41, 123, 50, 125]⟩) ∧ Below W3.heap.size W3 w') := Lib.hid (by
    have := HSh.out _ _ W3 hl3
    rw [sp_text] at this
    exact this)
  have hcP := HS3.out.pcell
  have hcF := HS3.out.fcell
  clear hps hl3 hP HB2 HL2 HP1
  go_wp2_with (go_at_call 25; refine HC.out.mono ?_; rintro e w4 ⟨rfl, hb4⟩)
  go_ret
  exact ⟨rfl, HS3.out.bel.trans (hb4.mono HS3.out.bel.size)⟩

end Go.Proofs.YtblkejnckbeieaaGreatDoor
