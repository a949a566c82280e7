/- Chapter 10: the parser of patterns: an item of a list. -/
import Derived.Test.YtblkejnckbeieaaGreatDoorZk5
import Derived.Deep.RegionWith
import Derived.RegionTactic
namespace Go.Proofs.YtblkejnckbeieaaGreatDoor
open Go.RowKit SetPure

set_option maxRecDepth 100000 in
set_option maxHeartbeats 1600000 in
theorem item_any (w : World) (X : Cx) (p : Pv) (i : Nat) (h : At w X p i) (hs : Scal X.rs) (hi : i < X.rs.length) :
    Calls Tryz.prog 172 #[.pointer (some ⟨X.b, 0, none⟩)] w (EscEnd w X p (SynP.item X.rs clsT perlT i)) := by
  have HA := Lib.hid h
  have HM := Lib.hid (Mv.rfl_ X.b w)
  have hfew := h.few
  have hc := h.cell
  have hz := h.frozen
  by_cases h92 : SynP.pk X.rs i = 92
  · rw [show SynP.item X.rs clsT perlT i = SynP.escape X.rs clsT perlT i (i + 1) by unfold SynP.item; rw [if_pos h92]]
    have HE : Hid (∀ w, At w X p (i + 1) → Calls Tryz.prog 144 #[.pointer (some ⟨X.b, 0, none⟩), .int .i64 i] w (EscEnd w X p (SynP.escape X.rs clsT perlT i (i + 1)))) := Lib.hid fun w h => escape_any i w X p (i + 1) h hs (by omega) (by omega)
    clear h
    cases hr : SynP.escape X.rs clsT perlT i (i + 1) with
    | bad ec k =>
      rw [hr] at HE
      go_enter Tryz.func172, Tryz.ntmps172
      go_wp2_with (first | (go_at_call 66; (first | refine (has_no _ _ X p _ HA.out (by simp only [UInt8.reduceToNat]; omega)).mono ?_ | refine (has_yes _ _ X p _ HA.out (by simp only [UInt8.reduceToNat]; omega)).mono ?_); rintro e w1 ⟨rfl, hm1, ha1⟩; replace HM := Lib.hid (HM.out.step hm1); replace HA := Lib.hid ha1; clear hm1 ha1; replace hc := HA.out.cell; replace hz := HA.out.frozen) | (go_at_call 144; refine (HE.out _ HA.out).mono ?_; rintro e w1 ⟨hm1, he1⟩; unfold thrown at he1; subst he1; replace HM := Lib.hid (HM.out.step hm1); clear hm1))
      exact ⟨rfl, HM.out, rfl⟩
    | ok x =>
      obtain ⟨f, r, j⟩ := x
      rw [hr] at HE
      go_enter Tryz.func172, Tryz.ntmps172
      go_wp2_with (first | (go_at_call 66; (first | refine (has_no _ _ X p _ HA.out (by simp only [UInt8.reduceToNat]; omega)).mono ?_ | refine (has_yes _ _ X p _ HA.out (by simp only [UInt8.reduceToNat]; omega)).mono ?_); rintro e w1 ⟨rfl, hm1, ha1⟩; replace HM := Lib.hid (HM.out.step hm1); replace HA := Lib.hid ha1; clear hm1 ha1; replace hc := HA.out.cell; replace hz := HA.out.frozen) | (go_at_call 144; refine (HE.out _ HA.out).mono ?_; rintro e w1 ⟨v, rfl, hm1, ha1, hv⟩; have HV := Lib.hid hv; replace HM := Lib.hid (HM.out.step hm1); replace HA := Lib.hid ha1; clear hm1 ha1 hv; replace hc := HA.out.cell; replace hz := HA.out.frozen))
      go_ret2
      exact ⟨v, rfl, HM.out, HA.out, HV.out⟩
  · rw [show SynP.item X.rs clsT perlT i = .ok (SynP.one (SynP.pk X.rs i), SynP.pk X.rs i, i + 1) by unfold SynP.item; rw [if_neg h92]]
    obtain ⟨br, off, hAr, hb, hcell⟩ := h.ru.int_ hi
    have hp : SynP.pk X.rs i = X.rs[i] := by unfold SynP.pk; rw [List.getD_eq_getElem?_getD, List.getElem?_eq_getElem hi]; rfl
    have hbB := h.low
    have hbw := h.lt
    have hii : (i : Int) < (X.rs.length : Int) := by omega
    have hi0 : (0 : Int) ≤ (i : Int) := by omega
    clear h hcell hbw
    go_enter Tryz.func172, Tryz.ntmps172
    go_upto_region 4 with (go_at_call 66; (first | refine (has_no _ _ X p _ HA.out (by simp only [UInt8.reduceToNat]; omega)).mono ?_ | refine (has_yes _ _ X p _ HA.out (by simp only [UInt8.reduceToNat]; omega)).mono ?_); rintro e w1 ⟨rfl, hm1, ha1⟩; replace HM := Lib.hid (HM.out.step hm1); replace HA := Lib.hid ha1; clear hm1 ha1; replace hc := HA.out.cell; replace hz := HA.out.frozen)
    go_upto_region 5 with fail
    have hput := HA.out.put ((i : Int) + 1) (i + 1) (by omega) (by omega)
    have hmp := HM.out.step (mv_put w1 X (.int .i64 ((i : Int) + 1)))
    have hcw : w1.cell? ⟨br, off + i, none⟩ = some (.int .i64 (SynP.pk X.rs i)) := by
      obtain ⟨br', off', hAr', hb', hcell'⟩ := HA.out.ru.int_ hi
      rw [hAr] at hAr'
      injection hAr' with e
      injection e with e1 e2
      subst e1; subst e2
      rw [hp]; exact hcell'
    have hcW : (w1.setCell ⟨X.b, 4, none⟩ (.int .i64 ((i : Int) + 1))).cell? ⟨br, off + i, none⟩ = some (.int .i64 (SynP.pk X.rs i)) := by
      rw [World.cell?_setCell_other _ _ _ _ (by intro e; have := congrArg Addr.block e; simp only at this; omega)]
      exact hcw
    generalize w1.setCell ⟨X.b, 4, none⟩ (.int .i64 ((i : Int) + 1)) = W at hput hmp hcW ⊢
    replace HA := Lib.hid hput
    replace HM := Lib.hid hmp
    clear hput hmp hc hz hcw hp
    have hc := HA.out.cell
    rw [hAr] at hc
    have hWb := HA.out.lt
    have hbW : br < W.heap.size := by omega
    go_region_with ((go_at_call 140; refine (one_any _ _).mono ?_; rintro e w2 ⟨v, rfl, hv, hb2⟩; have hbW2 : Below W.heap.size W w2 := ⟨hb2.os, hb2.tape, hb2.output, hb2.size, hb2.block⟩; have HV := Lib.hid hv; have HM2 := Lib.hid (HM.out.below hbW2); have HA2 := Lib.hid (HA.out.below hbW2); have hc2 := HA2.out.cell; rw [hAr] at hc2; have hcW2 := (hbW2.cell (p := ⟨br, off + i, none⟩) hbW).trans hcW; clear hv hb2 hbW2))
    all_goals
      go_wp2
      go_ret2
      exact ⟨v, rfl, HM2.out, HA2.out, HV.out⟩

end Go.Proofs.YtblkejnckbeieaaGreatDoor
