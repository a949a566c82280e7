/- Chapter 10: the parser of patterns: what stands in square brackets. -/
import Derived.Test.YtblkejnckbeieaaGreatDoorZk6
namespace Go.Proofs.YtblkejnckbeieaaGreatDoor
open Go.RowKit SetPure

theorem peek1 (w : World) (X : Cx) (p : Pv) (i : Nat) (h : At w X p i) :
    Calls Tryz.prog 100 #[.pointer (some ⟨X.b, 0, none⟩), .int .i64 1] w fun e w' => Went w X p (.int .i64 (SynP.pk X.rs (i + 1))) i e w' := peek_any 1 (by omega) w X p i h
theorem or_new {w : World} {v u : Value} {f g : Int → Bool} (h : SetV w v f) (k : SetV w u g) : Calls Tryz.prog 173 #[v, u] w (NewSet w fun z => f z || g z) := by
  refine (hold_or (h.hold.add (Below.refl _ w) k) (List.Mem.tail _ (List.Mem.head _)) (List.Mem.head _)).mono ?_
  rintro e w' ⟨x, rfl, hx⟩
  exact ⟨x, rfl, SetF.congr (hx.get (List.Mem.head _)) fun z => by cases inR z <;> simp, hx.1⟩
theorem not_new {w : World} {v : Value} {f : Int → Bool} (h : SetV w v f) : Calls Tryz.prog 57 #[v] w (NewSet w fun z => !f z) := by
  refine (hold_not h.hold (List.Mem.head _)).mono ?_
  rintro e w' ⟨x, rfl, hx⟩
  exact ⟨x, rfl, SetF.congr (hx.get (List.Mem.head _)) fun z => by cases inR z <;> simp, hx.1⟩
def listP : SynP.R ((Int → Bool) × Nat) → SynP.R ((Int → Bool) × Nat)
  | .bad e k => .bad e k
  | .ok (f, j) => .ok (f, j + 1)
def listN : SynP.R ((Int → Bool) × Nat) → SynP.R ((Int → Bool) × Nat)
  | .bad e k => .bad e k
  | .ok (f, j) => .ok (fun z => !f z, j + 1)
theorem items_succ (rs : List Int) (cls : List UInt8 → Option (Int → Bool)) (perl : Int → Option (Int → Bool)) (from_ n : Nat) (first : Bool) (out : Int → Bool) (i : Nat) : SynP.items rs cls perl from_ (n + 1) first out i =
    if first = false ∧ SynP.pk rs i = 93 then .ok (out, i)
    else if SynP.pk rs i = -1 then .bad 24 from_
    else match SynP.item rs cls perl i with
      | .bad e k => .bad e k
      | .ok (f, r, j) =>
        if 0 ≤ r ∧ SynP.pk rs j = 45 ∧ SynP.pk rs (j + 1) ≠ 93 ∧ SynP.pk rs (j + 1) ≠ -1 then
          match SynP.item rs cls perl (j + 1) with
          | .bad e k => .bad e k
          | .ok (_, hi, j2) => if hi < r then .bad 22 i else SynP.items rs cls perl from_ n false (fun z => out z || decide (r ≤ z ∧ z ≤ hi)) j2
        else SynP.items rs cls perl from_ n false (fun z => out z || f z) j := by
  conv => lhs; unfold SynP.items
  rfl
theorem nums_low (rs : List Int) : ∀ (f : Nat) (n : Int) (i : Nat), 0 ≤ n → 0 ≤ (SynP.nums rs f n i).1
  | 0, _, _, h => h
  | f + 1, n, i, h => by
    by_cases hx : 0 ≤ SynP.hexOf (SynP.pk rs i)
    · rw [nums_next hx]
      exact nums_low rs f _ _ (by omega)
    · rw [nums_stop (.inr hx)]
      exact h
theorem nums_two (rs : List Int) (i : Nat) : (SynP.nums rs 2 0 i).1 < 256 := by
  by_cases hx : 0 ≤ SynP.hexOf (SynP.pk rs i)
  · rw [nums_next hx]
    have h1 := hexOf_lt (c := SynP.pk rs i)
    have h2 := hexOf_lt (c := SynP.pk rs (i + 1))
    by_cases hy : 0 ≤ SynP.hexOf (SynP.pk rs (i + 1))
    · rw [nums_next hy, nums_stop (.inl rfl)]
      show 16 * (16 * 0 + SynP.hexOf (SynP.pk rs i)) + SynP.hexOf (SynP.pk rs (i + 1)) < 256
      omega
    · rw [nums_stop (.inr hy)]
      show 16 * 0 + SynP.hexOf (SynP.pk rs i) < 256
      omega
  · rw [nums_stop (.inr hx)]
    show (0 : Int) < 256
    decide
theorem number_sc {rs : List Int} {a b : Nat} {r : Int} {j : Nat} (h : SynP.number rs a b = .ok (r, j)) : -1 ≤ r ∧ r ≤ 1114111 := by
  by_cases hb : SynP.pk rs b = 123
  · rw [number_br hb] at h
    have := nums_low rs 6 0 (b + 1) (by omega)
    split at h
    · cases h
    · injection h with h
      injection h with h _
      omega
  · rw [number_no hb] at h
    have h1 := nums_low rs 2 0 b (by omega)
    have h2 := nums_two rs b
    split at h
    · cases h
    · injection h with h
      rw [h] at h1 h2
      simp only at h1 h2
      omega
/-- An item's scalar is one, or -1. -/
theorem item_sc {rs : List Int} (hs : Scal rs) {i : Nat} {f : Int → Bool} {r : Int} {j : Nat} (h : SynP.item rs clsT perlT i = .ok (f, r, j)) : -1 ≤ r ∧ r ≤ 1114111 := by
  have hp := pk_sc hs
  have he : ∀ a b, SynP.escape rs clsT perlT a b = .ok (f, r, j) → -1 ≤ r ∧ r ≤ 1114111 := fun a b h => by
    unfold SynP.escape at h
    simp only [] at h
    split at h
    · cases h
    · split at h
      · cases hn : SynP.named rs clsT a (b + 1) with
        | bad e k => rw [hn] at h; cases h
        | ok x =>
          rw [hn] at h
          injection h with h
          injection h with _ h
          injection h with h _
          omega
      · split at h
        · cases hn : SynP.number rs a (b + 1) with
          | bad e k => rw [hn] at h; cases h
          | ok x =>
            rw [hn] at h
            injection h with h
            injection h with _ h
            injection h with h _
            rw [← h]
            exact number_sc hn
        · cases hq : perlT (SynP.pk rs b) with
          | some g =>
            rw [hq] at h
            injection h with h
            injection h with _ h
            injection h with h _
            omega
          | none =>
            rw [hq] at h
            simp only at h
            cases hx : SynP.plainEsc (SynP.pk rs b) with
            | some x =>
              rw [hx] at h
              injection h with h
              injection h with _ h
              injection h with h _
              unfold SynP.plainEsc at hx
              have := hp b
              repeat (split at hx; · (injection hx with hx; omega))
              cases hx
            | none =>
              rw [hx] at h
              simp only at h
              split at h
              · cases h
              · injection h with h
                injection h with _ h
                injection h with h _
                have := hp b
                omega
  unfold SynP.item at h
  split at h
  · exact he _ _ h
  · injection h with h
    injection h with _ h
    injection h with h _
    have := hp i
    omega

set_option maxRecDepth 100000 in
set_option maxHeartbeats 6400000 in
theorem list_plain (from_ : Nat) (w : World) (X : Cx) (p : Pv) (i : Nat) (h : At w X p i) (hs : Hid (Scal X.rs)) (hf : from_ ≤ X.rs.length) (hi : i ≤ X.rs.length) (h94 : ¬ SynP.pk X.rs i = 94) :
    Calls Tryz.prog 143 #[.pointer (some ⟨X.b, 0, none⟩), .int .i64 from_] w (NamedEnd w X p (SynP.list X.rs clsT perlT from_ i)) := by
  have HA := Lib.hid h
  have HM := Lib.hid (Mv.rfl_ X.b w)
  have hfew := h.few
  have hc := h.cell
  have hz := h.frozen
  obtain ⟨Rr, hRr⟩ : ∃ Rr, SynP.items X.rs clsT perlT from_ (X.rs.length + 1) true (fun _ => false) (i) = Rr := ⟨_, rfl⟩
  have HRr := Lib.hid hRr
  obtain ⟨R, hR⟩ : ∃ R, SynP.list X.rs clsT perlT from_ i = R := ⟨_, rfl⟩
  have HR0 : Hid (listP Rr = R) := Lib.hid (by
    rw [← hR, ← hRr]
    unfold SynP.list
    simp only [h94, if_false]
    cases SynP.items X.rs clsT perlT from_ (X.rs.length + 1) true (fun _ => false) (i) <;> rfl)
  rw [hR]
  clear h hR hRr
  go_enter Tryz.func143, Tryz.ntmps143
  go_upto_region 4 with (go_at_call 66; (first | refine (has_no _ _ X p _ HA.out (by simp only [UInt8.reduceToNat]; omega)).mono ?_ | refine (has_yes _ _ X p _ HA.out (by simp only [UInt8.reduceToNat]; omega)).mono ?_); rintro e w1 ⟨rfl, hm1, ha1⟩; replace HM := Lib.hid (HM.out.step hm1); replace HA := Lib.hid ha1; clear hm1 ha1; replace hc := HA.out.cell; replace hz := HA.out.frozen)
  go_loopg [6, 7] (X.rs.length + 1) (fun k s6 s7 wr => ∃ (j : Nat) (first : Bool) (f : Int → Bool), s7 = .bool first ∧ Hid (SynP.items X.rs clsT perlT from_ k first f j = Rr) ∧ Hid (SetV wr s6 f) ∧ Hid (Mv X.b w wr) ∧ Hid (At wr X p j) ∧ j ≤ X.rs.length ∧ X.rs.length + 1 ≤ k + j)
  case atStart => exact ⟨i, true, fun _ => false, rfl, HRr, Lib.hid (SetV.nil_ _), HM, HA, by omega, by omega⟩
  case round =>
    clear HM HA HRr
    obtain ⟨j, first, f, rfl, HE, HO, HM, HA, hj, hkj⟩ := hrel
    obtain ⟨kk0, rfl⟩ : ∃ m, gk = m + 1 := ⟨gk - 1, by omega⟩
    have hvf := HO.out.form
    obtain ⟨Ao, no_, co, rfl⟩ := hvf
    have hE := HE.out
    rw [items_succ] at hE
    replace hc := HA.out.cell
    replace hz := HA.out.frozen
    by_cases hend : first = false ∧ SynP.pk X.rs j = 93
    · obtain ⟨rfl, h93⟩ := hend
      rw [if_pos ⟨rfl, h93⟩] at hE
      have hR := HR0.out
      rw [← hE] at hR
      simp only [listP] at hR
      have HR := Lib.hid hR
      clear hE hR HE
      have hin := pk_in (rs := X.rs) (i := j) (by omega)
      go_upto_region 18 with (go_at_call 100; refine (peek0 _ X p _ HA.out).mono ?_; rintro e w1 ⟨rfl, hm1, ha1⟩; replace HO := Lib.hid (HO.out.on (KeepR.mv HA.out hm1)); replace HM := Lib.hid (HM.out.step hm1); replace HA := Lib.hid ha1; clear hm1 ha1; replace hc := HA.out.cell; replace hz := HA.out.frozen)
      have hput := HA.out.put (((j : Nat) : Int) + 1) (j + 1) (by omega) (by omega)
      have hmp := HM.out.step (mv_put _ X (.int .i64 (((j : Nat) : Int) + 1)))
      have hop := HO.out.on (KeepR.put HA.out 4 (.int .i64 (((j : Nat) : Int) + 1)))
      obtain ⟨W, hW⟩ : ∃ W, W = w1.setCell ⟨X.b, 4, none⟩ (.int .i64 (((j : Nat) : Int) + 1)) := ⟨_, rfl⟩
      rw [← hW] at hput hmp hop ⊢
      replace HA := Lib.hid hput
      replace HM := Lib.hid hmp
      replace HO := Lib.hid hop
      clear hput hmp hop hW hc hz
      have hc := HA.out.cell
      have hz := HA.out.frozen
      go_wp2
      go_ret
      rw [← HR.out]; exact ⟨_, rfl, HM.out, HA.out, HO.out⟩
    rw [if_neg hend] at hE
    have hfst : first = true ∨ first = false ∧ SynP.pk X.rs j ≠ 93 := by
      cases first with
      | true => exact .inl rfl
      | false => exact .inr ⟨rfl, fun h => hend ⟨rfl, h⟩⟩
    clear hend HE
    rcases hfst with rfl | ⟨rfl, h93⟩
    all_goals
      go_upto_region 6 with (go_at_call 100; refine (peek0 _ X p _ HA.out).mono ?_; rintro e w1 ⟨rfl, hm1, ha1⟩; replace HO := Lib.hid (HO.out.on (KeepR.mv HA.out hm1)); replace HM := Lib.hid (HM.out.step hm1); replace HA := Lib.hid ha1; clear hm1 ha1; replace hc := HA.out.cell; replace hz := HA.out.frozen)
      by_cases hm0 : SynP.pk X.rs j = -1
      · rw [if_pos hm0] at hE
        have hR := HR0.out
        rw [← hE] at hR
        simp only [listP] at hR
        have HR := Lib.hid hR
        clear hE hR
        go_wp2_with (first | (go_at_call 100; refine (peek0 _ X p _ HA.out).mono ?_; rintro e w1 ⟨rfl, hm1, ha1⟩; replace HO := Lib.hid (HO.out.on (KeepR.mv HA.out hm1)); replace HM := Lib.hid (HM.out.step hm1); replace HA := Lib.hid ha1; clear hm1 ha1; replace hc := HA.out.cell; replace hz := HA.out.frozen) | (go_at_call 101; refine (fail_any _ _ _ X p _ HA.out (by omega)).mono ?_; rintro e w1 ⟨hm1, he1⟩; unfold thrown at he1; subst he1; replace HM := Lib.hid (HM.out.step hm1); clear hm1))
        rw [← HR.out]; exact ⟨rfl, HM.out, rfl⟩
      rw [if_neg hm0] at hE
      have hin := pk_in (rs := X.rs) (i := j) hm0
      cases hit : SynP.item X.rs clsT perlT j with
      | bad ec kk =>
        rw [hit] at hE
        have hR := HR0.out
        rw [← hE] at hR
        simp only [listP] at hR
        have HR := Lib.hid hR
        have HI : Hid (∀ w, At w X p j → Calls Tryz.prog 172 #[.pointer (some ⟨X.b, 0, none⟩)] w fun e w' => Threw w X ec kk e w') := Lib.hid fun w h => by
          have := item_any w X p j h hs.out (by omega)
          rw [hit] at this
          exact this
        clear hit
        clear hE hR
        go_wp2_with (first | (go_at_call 100; refine (peek0 _ X p _ HA.out).mono ?_; rintro e w1 ⟨rfl, hm1, ha1⟩; replace HO := Lib.hid (HO.out.on (KeepR.mv HA.out hm1)); replace HM := Lib.hid (HM.out.step hm1); replace HA := Lib.hid ha1; clear hm1 ha1; replace hc := HA.out.cell; replace hz := HA.out.frozen) | (go_at_call 172; refine (HI.out _ HA.out).mono ?_; rintro e w1 ⟨hm1, he1⟩; unfold thrown at he1; subst he1; replace HM := Lib.hid (HM.out.step hm1); clear hm1))
        rw [← HR.out]; exact ⟨rfl, HM.out, rfl⟩
      | ok x =>
        obtain ⟨g, r, j1⟩ := x
        rw [hit] at hE
        simp only at hE
        have hj1 := SynP.item_at hin hit
        have hrb := item_sc hs.out hit
        obtain ⟨hj1, hj1b⟩ := hj1
        obtain ⟨hrb0, hrb1⟩ := hrb
        have HI : Hid (∀ w, At w X p j → Calls Tryz.prog 172 #[.pointer (some ⟨X.b, 0, none⟩)] w fun e w' => ∃ v, e = .returned (.tuple #[v, .int .i64 r]) ∧ Mv X.b w w' ∧ At w' X p j1 ∧ SetV w' v g) := Lib.hid fun w h => by
          have := item_any w X p j h hs.out (by omega)
          rw [hit] at this
          exact this
        clear hit
        have HEi := Lib.hid hE
        clear hE
        go_upto_region 10 with (first | (go_at_call 100; refine (peek0 _ X p _ HA.out).mono ?_; rintro e w1 ⟨rfl, hm1, ha1⟩; replace HO := Lib.hid (HO.out.on (KeepR.mv HA.out hm1)); replace HM := Lib.hid (HM.out.step hm1); replace HA := Lib.hid ha1; clear hm1 ha1; replace hc := HA.out.cell; replace hz := HA.out.frozen) | (go_at_call 172; refine (HI.out _ HA.out).mono ?_; rintro e w1 ⟨v1, rfl, hm1, ha1, hv⟩; replace HO := Lib.hid (HO.out.on (KeepR.mv HA.out hm1)); have HS := Lib.hid hv; clear hv; replace HM := Lib.hid (HM.out.step hm1); replace HA := Lib.hid ha1; clear hm1 ha1; replace hc := HA.out.cell; replace hz := HA.out.frozen))
        have hvf1 := HS.out.form
        obtain ⟨A1, n1, c1, rfl⟩ := hvf1
        have T0 : Hid True := Lib.hid trivial
        by_cases hrg : 0 ≤ r ∧ SynP.pk X.rs j1 = 45 ∧ SynP.pk X.rs (j1 + 1) ≠ 93 ∧ SynP.pk X.rs (j1 + 1) ≠ -1
        · have hE := HEi.out
          rw [if_pos hrg] at hE
          obtain ⟨q1, q2, q3, q4⟩ := hrg
          have hin2 := pk_in (rs := X.rs) (i := j1 + 1) q4
          go_upto_region 12 with (first | (go_at_call 100; clear T0; refine (peek0 _ X p _ HA.out).mono ?_; rintro e w1 ⟨rfl, hm1, ha1⟩; replace HO := Lib.hid (HO.out.on (KeepR.mv HA.out hm1)); replace HS := Lib.hid (HS.out.on (KeepR.mv HA.out hm1)); replace HM := Lib.hid (HM.out.step hm1); replace HA := Lib.hid ha1; clear hm1 ha1; replace hc := HA.out.cell; replace hz := HA.out.frozen) | (go_at_call 100; refine (peek1 _ X p _ HA.out).mono ?_; rintro e w1 ⟨rfl, hm1, ha1⟩; replace HO := Lib.hid (HO.out.on (KeepR.mv HA.out hm1)); replace HS := Lib.hid (HS.out.on (KeepR.mv HA.out hm1)); replace HM := Lib.hid (HM.out.step hm1); replace HA := Lib.hid ha1; clear hm1 ha1; replace hc := HA.out.cell; replace hz := HA.out.frozen))
          have hput := HA.out.put (((j1 : Nat) : Int) + 1) (j1 + 1) (by omega) (by omega)
          have hmp := HM.out.step (mv_put _ X (.int .i64 (((j1 : Nat) : Int) + 1)))
          have hop := HO.out.on (KeepR.put HA.out 4 (.int .i64 (((j1 : Nat) : Int) + 1)))
          obtain ⟨W, hW⟩ : ∃ W, W = w1.setCell ⟨X.b, 4, none⟩ (.int .i64 (((j1 : Nat) : Int) + 1)) := ⟨_, rfl⟩
          rw [← hW] at hput hmp hop ⊢
          replace HA := Lib.hid hput
          replace HM := Lib.hid hmp
          replace HO := Lib.hid hop
          clear hput hmp hop hW hc hz
          have hc := HA.out.cell
          have hz := HA.out.frozen
          cases hit : SynP.item X.rs clsT perlT (j1 + 1) with
          | bad ec kk =>
            rw [hit] at hE
            have hR := HR0.out
            rw [← hE] at hR
            simp only [listP] at hR
            have HR := Lib.hid hR
            have HI2 : Hid (∀ w, At w X p (j1 + 1) → Calls Tryz.prog 172 #[.pointer (some ⟨X.b, 0, none⟩)] w fun e w' => Threw w X ec kk e w') := Lib.hid fun w h => by
              have := item_any w X p (j1 + 1) h hs.out (by omega)
              rw [hit] at this
              exact this
            clear hit
            clear hE hR
            go_wp2_with (go_at_call 172; refine (HI2.out _ HA.out).mono ?_; rintro e w1 ⟨hm1, he1⟩; unfold thrown at he1; subst he1; replace HM := Lib.hid (HM.out.step hm1); clear hm1)
            rw [← HR.out]; exact ⟨rfl, HM.out, rfl⟩
          | ok x =>
            obtain ⟨g2, hi2, j2⟩ := x
            rw [hit] at hE
            simp only at hE
            have hj2 := SynP.item_at hin2 hit
            have hrb2 := item_sc hs.out hit
            obtain ⟨hj2, hj2b⟩ := hj2
            obtain ⟨hrb3, hrb4⟩ := hrb2
            have HI2 : Hid (∀ w, At w X p (j1 + 1) → Calls Tryz.prog 172 #[.pointer (some ⟨X.b, 0, none⟩)] w fun e w' => ∃ v, e = .returned (.tuple #[v, .int .i64 hi2]) ∧ Mv X.b w w' ∧ At w' X p j2 ∧ SetV w' v g2) := Lib.hid fun w h => by
              have := item_any w X p (j1 + 1) h hs.out (by omega)
              rw [hit] at this
              exact this
            clear hit
            by_cases hlt : hi2 < r
            · rw [if_pos hlt] at hE
              have hR := HR0.out
              rw [← hE] at hR
              simp only [listP] at hR
              have HR := Lib.hid hR
              clear hE hR
              go_wp2_with (first | (go_at_call 172; refine (HI2.out _ HA.out).mono ?_; rintro e w1 ⟨v2, rfl, hm1, ha1, hv⟩; replace HO := Lib.hid (HO.out.on (KeepR.mv HA.out hm1)); clear hv; replace HM := Lib.hid (HM.out.step hm1); replace HA := Lib.hid ha1; clear hm1 ha1; replace hc := HA.out.cell; replace hz := HA.out.frozen) | (go_at_call 101; refine (fail_any _ _ _ X p _ HA.out (by omega)).mono ?_; rintro e w1 ⟨hm1, he1⟩; unfold thrown at he1; subst he1; replace HM := Lib.hid (HM.out.step hm1); clear hm1))
              rw [← HR.out]; exact ⟨rfl, HM.out, rfl⟩
            · rw [if_neg hlt] at hE
              have HE2 := Lib.hid hE
              clear hE
              go_wp2_with (first | (go_at_call 172; refine (HI2.out _ HA.out).mono ?_; rintro e w1 ⟨v2, rfl, hm1, ha1, hv⟩; replace HO := Lib.hid (HO.out.on (KeepR.mv HA.out hm1)); clear hv; replace HM := Lib.hid (HM.out.step hm1); replace HA := Lib.hid ha1; clear hm1 ha1; replace hc := HA.out.cell; replace hz := HA.out.frozen) | (go_at_call 16; refine (of_range r hi2 _ _ rfl).mono ?_; rintro e w1 ⟨vs, rfl, hv, hb1⟩; have HS := Lib.hid hv; replace HO := Lib.hid (HO.out.on (KeepR.below hb1)); clear hv; replace HM := Lib.hid (HM.out.below hb1); replace HA := Lib.hid (HA.out.below hb1); clear hb1; replace hc := HA.out.cell; replace hz := HA.out.frozen) | (go_at_call 173; refine (or_new HO.out HS.out).mono ?_; rintro e w1 ⟨vo, rfl, hv, hb1⟩; replace HO := Lib.hid hv; clear hv; replace HM := Lib.hid (HM.out.below hb1); replace HA := Lib.hid (HA.out.below hb1); clear hb1; replace hc := HA.out.cell; replace hz := HA.out.frozen))
              go_roundg kk0
              case measure => omega
              case rel => exact ⟨j2, false, _, rfl, HE2, HO, HM, HA, by omega, by omega⟩
        · have hE := HEi.out
          rw [if_neg hrg] at hE
          have HE2 := Lib.hid hE
          clear hE
          rcases (by omega : r < 0 ∨ (0 ≤ r ∧ SynP.pk X.rs j1 ≠ 45) ∨ (0 ≤ r ∧ SynP.pk X.rs j1 = 45 ∧ SynP.pk X.rs (j1 + 1) = 93) ∨ (0 ≤ r ∧ SynP.pk X.rs j1 = 45 ∧ SynP.pk X.rs (j1 + 1) = -1)) with q | ⟨q0, q⟩ | ⟨q0, q1, q⟩ | ⟨q0, q1, q⟩
          · have d1 : decide (0 ≤ r) = false := decide_eq_false (by omega)
            clear q hrg
            go_wp2_with (first | (first | (go_at_call 100; clear T0; refine (peek0 _ X p _ HA.out).mono ?_; rintro e w1 ⟨rfl, hm1, ha1⟩; replace HO := Lib.hid (HO.out.on (KeepR.mv HA.out hm1)); replace HS := Lib.hid (HS.out.on (KeepR.mv HA.out hm1)); replace HM := Lib.hid (HM.out.step hm1); replace HA := Lib.hid ha1; clear hm1 ha1; replace hc := HA.out.cell; replace hz := HA.out.frozen) | (go_at_call 100; refine (peek1 _ X p _ HA.out).mono ?_; rintro e w1 ⟨rfl, hm1, ha1⟩; replace HO := Lib.hid (HO.out.on (KeepR.mv HA.out hm1)); replace HS := Lib.hid (HS.out.on (KeepR.mv HA.out hm1)); replace HM := Lib.hid (HM.out.step hm1); replace HA := Lib.hid ha1; clear hm1 ha1; replace hc := HA.out.cell; replace hz := HA.out.frozen)) | (go_at_call 173; refine (or_new HO.out HS.out).mono ?_; rintro e w1 ⟨vo, rfl, hv, hb1⟩; replace HO := Lib.hid hv; clear hv; replace HM := Lib.hid (HM.out.below hb1); replace HA := Lib.hid (HA.out.below hb1); clear hb1; replace hc := HA.out.cell; replace hz := HA.out.frozen))
            go_roundg kk0
            case measure => omega
            case rel => exact ⟨j1, false, _, rfl, HE2, HO, HM, HA, by omega, by omega⟩
          · have d1 : (SynP.pk X.rs j1 == 45) = false := beq_eq_false_iff_ne.2 q
            clear q hrg
            go_wp2_with (first | (first | (go_at_call 100; clear T0; refine (peek0 _ X p _ HA.out).mono ?_; rintro e w1 ⟨rfl, hm1, ha1⟩; replace HO := Lib.hid (HO.out.on (KeepR.mv HA.out hm1)); replace HS := Lib.hid (HS.out.on (KeepR.mv HA.out hm1)); replace HM := Lib.hid (HM.out.step hm1); replace HA := Lib.hid ha1; clear hm1 ha1; replace hc := HA.out.cell; replace hz := HA.out.frozen) | (go_at_call 100; refine (peek1 _ X p _ HA.out).mono ?_; rintro e w1 ⟨rfl, hm1, ha1⟩; replace HO := Lib.hid (HO.out.on (KeepR.mv HA.out hm1)); replace HS := Lib.hid (HS.out.on (KeepR.mv HA.out hm1)); replace HM := Lib.hid (HM.out.step hm1); replace HA := Lib.hid ha1; clear hm1 ha1; replace hc := HA.out.cell; replace hz := HA.out.frozen)) | (go_at_call 173; refine (or_new HO.out HS.out).mono ?_; rintro e w1 ⟨vo, rfl, hv, hb1⟩; replace HO := Lib.hid hv; clear hv; replace HM := Lib.hid (HM.out.below hb1); replace HA := Lib.hid (HA.out.below hb1); clear hb1; replace hc := HA.out.cell; replace hz := HA.out.frozen))
            go_roundg kk0
            case measure => omega
            case rel => exact ⟨j1, false, _, rfl, HE2, HO, HM, HA, by omega, by omega⟩
          · have d1 : (SynP.pk X.rs (j1 + 1) != 93) = false := by rw [q]; rfl
            clear q hrg
            go_wp2_with (first | (first | (go_at_call 100; clear T0; refine (peek0 _ X p _ HA.out).mono ?_; rintro e w1 ⟨rfl, hm1, ha1⟩; replace HO := Lib.hid (HO.out.on (KeepR.mv HA.out hm1)); replace HS := Lib.hid (HS.out.on (KeepR.mv HA.out hm1)); replace HM := Lib.hid (HM.out.step hm1); replace HA := Lib.hid ha1; clear hm1 ha1; replace hc := HA.out.cell; replace hz := HA.out.frozen) | (go_at_call 100; refine (peek1 _ X p _ HA.out).mono ?_; rintro e w1 ⟨rfl, hm1, ha1⟩; replace HO := Lib.hid (HO.out.on (KeepR.mv HA.out hm1)); replace HS := Lib.hid (HS.out.on (KeepR.mv HA.out hm1)); replace HM := Lib.hid (HM.out.step hm1); replace HA := Lib.hid ha1; clear hm1 ha1; replace hc := HA.out.cell; replace hz := HA.out.frozen)) | (go_at_call 173; refine (or_new HO.out HS.out).mono ?_; rintro e w1 ⟨vo, rfl, hv, hb1⟩; replace HO := Lib.hid hv; clear hv; replace HM := Lib.hid (HM.out.below hb1); replace HA := Lib.hid (HA.out.below hb1); clear hb1; replace hc := HA.out.cell; replace hz := HA.out.frozen))
            go_roundg kk0
            case measure => omega
            case rel => exact ⟨j1, false, _, rfl, HE2, HO, HM, HA, by omega, by omega⟩
          · have d1 : (SynP.pk X.rs (j1 + 1) != 93) = true := by rw [q]; rfl
            have d2 : (SynP.pk X.rs (j1 + 1) != -1) = false := by rw [q]; rfl
            clear q hrg
            go_wp2_with (first | (first | (go_at_call 100; clear T0; refine (peek0 _ X p _ HA.out).mono ?_; rintro e w1 ⟨rfl, hm1, ha1⟩; replace HO := Lib.hid (HO.out.on (KeepR.mv HA.out hm1)); replace HS := Lib.hid (HS.out.on (KeepR.mv HA.out hm1)); replace HM := Lib.hid (HM.out.step hm1); replace HA := Lib.hid ha1; clear hm1 ha1; replace hc := HA.out.cell; replace hz := HA.out.frozen) | (go_at_call 100; refine (peek1 _ X p _ HA.out).mono ?_; rintro e w1 ⟨rfl, hm1, ha1⟩; replace HO := Lib.hid (HO.out.on (KeepR.mv HA.out hm1)); replace HS := Lib.hid (HS.out.on (KeepR.mv HA.out hm1)); replace HM := Lib.hid (HM.out.step hm1); replace HA := Lib.hid ha1; clear hm1 ha1; replace hc := HA.out.cell; replace hz := HA.out.frozen)) | (go_at_call 173; refine (or_new HO.out HS.out).mono ?_; rintro e w1 ⟨vo, rfl, hv, hb1⟩; replace HO := Lib.hid hv; clear hv; replace HM := Lib.hid (HM.out.below hb1); replace HA := Lib.hid (HA.out.below hb1); clear hb1; replace hc := HA.out.cell; replace hz := HA.out.frozen))
            go_roundg kk0
            case measure => omega
            case rel => exact ⟨j1, false, _, rfl, HE2, HO, HM, HA, by omega, by omega⟩

set_option maxRecDepth 100000 in
set_option maxHeartbeats 6400000 in
theorem list_not (from_ : Nat) (w : World) (X : Cx) (p : Pv) (i : Nat) (h : At w X p i) (hs : Hid (Scal X.rs)) (hf : from_ ≤ X.rs.length) (_hi : i ≤ X.rs.length) (h94 : SynP.pk X.rs i = 94) :
    Calls Tryz.prog 143 #[.pointer (some ⟨X.b, 0, none⟩), .int .i64 from_] w (NamedEnd w X p (SynP.list X.rs clsT perlT from_ i)) := by
  have HA := Lib.hid h
  have HM := Lib.hid (Mv.rfl_ X.b w)
  have hfew := h.few
  have hc := h.cell
  have hz := h.frozen
  have hi1 := pk_in (rs := X.rs) (i := i) (by omega)
  obtain ⟨Rr, hRr⟩ : ∃ Rr, SynP.items X.rs clsT perlT from_ (X.rs.length + 1) true (fun _ => false) (i + 1) = Rr := ⟨_, rfl⟩
  have HRr := Lib.hid hRr
  obtain ⟨R, hR⟩ : ∃ R, SynP.list X.rs clsT perlT from_ i = R := ⟨_, rfl⟩
  have HR0 : Hid (listN Rr = R) := Lib.hid (by
    rw [← hR, ← hRr]
    unfold SynP.list
    simp only [h94, if_true]
    cases SynP.items X.rs clsT perlT from_ (X.rs.length + 1) true (fun _ => false) (i + 1) <;> rfl)
  rw [hR]
  clear h hR hRr
  go_enter Tryz.func143, Tryz.ntmps143
  go_upto_region 4 with (go_at_call 66; (first | refine (has_no _ _ X p _ HA.out (by simp only [UInt8.reduceToNat]; omega)).mono ?_ | refine (has_yes _ _ X p _ HA.out (by simp only [UInt8.reduceToNat]; omega)).mono ?_); rintro e w1 ⟨rfl, hm1, ha1⟩; replace HM := Lib.hid (HM.out.step hm1); replace HA := Lib.hid ha1; clear hm1 ha1; replace hc := HA.out.cell; replace hz := HA.out.frozen)
  go_loopg [6, 7] (X.rs.length + 1) (fun k s6 s7 wr => ∃ (j : Nat) (first : Bool) (f : Int → Bool), s7 = .bool first ∧ Hid (SynP.items X.rs clsT perlT from_ k first f j = Rr) ∧ Hid (SetV wr s6 f) ∧ Hid (Mv X.b w wr) ∧ Hid (At wr X p j) ∧ j ≤ X.rs.length ∧ X.rs.length + 1 ≤ k + j)
  case atStart => exact ⟨i + 1, true, fun _ => false, rfl, HRr, Lib.hid (SetV.nil_ _), HM, HA, by omega, by omega⟩
  case round =>
    clear HM HA HRr
    obtain ⟨j, first, f, rfl, HE, HO, HM, HA, hj, hkj⟩ := hrel
    obtain ⟨kk0, rfl⟩ : ∃ m, gk = m + 1 := ⟨gk - 1, by omega⟩
    have hvf := HO.out.form
    obtain ⟨Ao, no_, co, rfl⟩ := hvf
    have hE := HE.out
    rw [items_succ] at hE
    replace hc := HA.out.cell
    replace hz := HA.out.frozen
    by_cases hend : first = false ∧ SynP.pk X.rs j = 93
    · obtain ⟨rfl, h93⟩ := hend
      rw [if_pos ⟨rfl, h93⟩] at hE
      have hR := HR0.out
      rw [← hE] at hR
      simp only [listN] at hR
      have HR := Lib.hid hR
      clear hE hR HE
      have hin := pk_in (rs := X.rs) (i := j) (by omega)
      go_upto_region 18 with (go_at_call 100; refine (peek0 _ X p _ HA.out).mono ?_; rintro e w1 ⟨rfl, hm1, ha1⟩; replace HO := Lib.hid (HO.out.on (KeepR.mv HA.out hm1)); replace HM := Lib.hid (HM.out.step hm1); replace HA := Lib.hid ha1; clear hm1 ha1; replace hc := HA.out.cell; replace hz := HA.out.frozen)
      have hput := HA.out.put (((j : Nat) : Int) + 1) (j + 1) (by omega) (by omega)
      have hmp := HM.out.step (mv_put _ X (.int .i64 (((j : Nat) : Int) + 1)))
      have hop := HO.out.on (KeepR.put HA.out 4 (.int .i64 (((j : Nat) : Int) + 1)))
      obtain ⟨W, hW⟩ : ∃ W, W = w1.setCell ⟨X.b, 4, none⟩ (.int .i64 (((j : Nat) : Int) + 1)) := ⟨_, rfl⟩
      rw [← hW] at hput hmp hop ⊢
      replace HA := Lib.hid hput
      replace HM := Lib.hid hmp
      replace HO := Lib.hid hop
      clear hput hmp hop hW hc hz
      have hc := HA.out.cell
      have hz := HA.out.frozen
      go_wp2_with (go_at_call 57; refine (not_new HO.out).mono ?_; rintro e w1 ⟨vo, rfl, hv, hb1⟩; replace HO := Lib.hid hv; clear hv; replace HM := Lib.hid (HM.out.below hb1); replace HA := Lib.hid (HA.out.below hb1); clear hb1; replace hc := HA.out.cell; replace hz := HA.out.frozen)
      go_ret
      rw [← HR.out]; exact ⟨_, rfl, HM.out, HA.out, HO.out⟩
    rw [if_neg hend] at hE
    have hfst : first = true ∨ first = false ∧ SynP.pk X.rs j ≠ 93 := by
      cases first with
      | true => exact .inl rfl
      | false => exact .inr ⟨rfl, fun h => hend ⟨rfl, h⟩⟩
    clear hend HE
    rcases hfst with rfl | ⟨rfl, h93⟩
    all_goals
      go_upto_region 6 with (go_at_call 100; refine (peek0 _ X p _ HA.out).mono ?_; rintro e w1 ⟨rfl, hm1, ha1⟩; replace HO := Lib.hid (HO.out.on (KeepR.mv HA.out hm1)); replace HM := Lib.hid (HM.out.step hm1); replace HA := Lib.hid ha1; clear hm1 ha1; replace hc := HA.out.cell; replace hz := HA.out.frozen)
      by_cases hm0 : SynP.pk X.rs j = -1
      · rw [if_pos hm0] at hE
        have hR := HR0.out
        rw [← hE] at hR
        simp only [listN] at hR
        have HR := Lib.hid hR
        clear hE hR
        go_wp2_with (first | (go_at_call 100; refine (peek0 _ X p _ HA.out).mono ?_; rintro e w1 ⟨rfl, hm1, ha1⟩; replace HO := Lib.hid (HO.out.on (KeepR.mv HA.out hm1)); replace HM := Lib.hid (HM.out.step hm1); replace HA := Lib.hid ha1; clear hm1 ha1; replace hc := HA.out.cell; replace hz := HA.out.frozen) | (go_at_call 101; refine (fail_any _ _ _ X p _ HA.out (by omega)).mono ?_; rintro e w1 ⟨hm1, he1⟩; unfold thrown at he1; subst he1; replace HM := Lib.hid (HM.out.step hm1); clear hm1))
        rw [← HR.out]; exact ⟨rfl, HM.out, rfl⟩
      rw [if_neg hm0] at hE
      have hin := pk_in (rs := X.rs) (i := j) hm0
      cases hit : SynP.item X.rs clsT perlT j with
      | bad ec kk =>
        rw [hit] at hE
        have hR := HR0.out
        rw [← hE] at hR
        simp only [listN] at hR
        have HR := Lib.hid hR
        have HI : Hid (∀ w, At w X p j → Calls Tryz.prog 172 #[.pointer (some ⟨X.b, 0, none⟩)] w fun e w' => Threw w X ec kk e w') := Lib.hid fun w h => by
          have := item_any w X p j h hs.out (by omega)
          rw [hit] at this
          exact this
        clear hit
        clear hE hR
        go_wp2_with (first | (go_at_call 100; refine (peek0 _ X p _ HA.out).mono ?_; rintro e w1 ⟨rfl, hm1, ha1⟩; replace HO := Lib.hid (HO.out.on (KeepR.mv HA.out hm1)); replace HM := Lib.hid (HM.out.step hm1); replace HA := Lib.hid ha1; clear hm1 ha1; replace hc := HA.out.cell; replace hz := HA.out.frozen) | (go_at_call 172; refine (HI.out _ HA.out).mono ?_; rintro e w1 ⟨hm1, he1⟩; unfold thrown at he1; subst he1; replace HM := Lib.hid (HM.out.step hm1); clear hm1))
        rw [← HR.out]; exact ⟨rfl, HM.out, rfl⟩
      | ok x =>
        obtain ⟨g, r, j1⟩ := x
        rw [hit] at hE
        simp only at hE
        have hj1 := SynP.item_at hin hit
        have hrb := item_sc hs.out hit
        obtain ⟨hj1, hj1b⟩ := hj1
        obtain ⟨hrb0, hrb1⟩ := hrb
        have HI : Hid (∀ w, At w X p j → Calls Tryz.prog 172 #[.pointer (some ⟨X.b, 0, none⟩)] w fun e w' => ∃ v, e = .returned (.tuple #[v, .int .i64 r]) ∧ Mv X.b w w' ∧ At w' X p j1 ∧ SetV w' v g) := Lib.hid fun w h => by
          have := item_any w X p j h hs.out (by omega)
          rw [hit] at this
          exact this
        clear hit
        have HEi := Lib.hid hE
        clear hE
        go_upto_region 10 with (first | (go_at_call 100; refine (peek0 _ X p _ HA.out).mono ?_; rintro e w1 ⟨rfl, hm1, ha1⟩; replace HO := Lib.hid (HO.out.on (KeepR.mv HA.out hm1)); replace HM := Lib.hid (HM.out.step hm1); replace HA := Lib.hid ha1; clear hm1 ha1; replace hc := HA.out.cell; replace hz := HA.out.frozen) | (go_at_call 172; refine (HI.out _ HA.out).mono ?_; rintro e w1 ⟨v1, rfl, hm1, ha1, hv⟩; replace HO := Lib.hid (HO.out.on (KeepR.mv HA.out hm1)); have HS := Lib.hid hv; clear hv; replace HM := Lib.hid (HM.out.step hm1); replace HA := Lib.hid ha1; clear hm1 ha1; replace hc := HA.out.cell; replace hz := HA.out.frozen))
        have hvf1 := HS.out.form
        obtain ⟨A1, n1, c1, rfl⟩ := hvf1
        have T0 : Hid True := Lib.hid trivial
        by_cases hrg : 0 ≤ r ∧ SynP.pk X.rs j1 = 45 ∧ SynP.pk X.rs (j1 + 1) ≠ 93 ∧ SynP.pk X.rs (j1 + 1) ≠ -1
        · have hE := HEi.out
          rw [if_pos hrg] at hE
          obtain ⟨q1, q2, q3, q4⟩ := hrg
          have hin2 := pk_in (rs := X.rs) (i := j1 + 1) q4
          go_upto_region 12 with (first | (go_at_call 100; clear T0; refine (peek0 _ X p _ HA.out).mono ?_; rintro e w1 ⟨rfl, hm1, ha1⟩; replace HO := Lib.hid (HO.out.on (KeepR.mv HA.out hm1)); replace HS := Lib.hid (HS.out.on (KeepR.mv HA.out hm1)); replace HM := Lib.hid (HM.out.step hm1); replace HA := Lib.hid ha1; clear hm1 ha1; replace hc := HA.out.cell; replace hz := HA.out.frozen) | (go_at_call 100; refine (peek1 _ X p _ HA.out).mono ?_; rintro e w1 ⟨rfl, hm1, ha1⟩; replace HO := Lib.hid (HO.out.on (KeepR.mv HA.out hm1)); replace HS := Lib.hid (HS.out.on (KeepR.mv HA.out hm1)); replace HM := Lib.hid (HM.out.step hm1); replace HA := Lib.hid ha1; clear hm1 ha1; replace hc := HA.out.cell; replace hz := HA.out.frozen))
          have hput := HA.out.put (((j1 : Nat) : Int) + 1) (j1 + 1) (by omega) (by omega)
          have hmp := HM.out.step (mv_put _ X (.int .i64 (((j1 : Nat) : Int) + 1)))
          have hop := HO.out.on (KeepR.put HA.out 4 (.int .i64 (((j1 : Nat) : Int) + 1)))
          obtain ⟨W, hW⟩ : ∃ W, W = w1.setCell ⟨X.b, 4, none⟩ (.int .i64 (((j1 : Nat) : Int) + 1)) := ⟨_, rfl⟩
          rw [← hW] at hput hmp hop ⊢
          replace HA := Lib.hid hput
          replace HM := Lib.hid hmp
          replace HO := Lib.hid hop
          clear hput hmp hop hW hc hz
          have hc := HA.out.cell
          have hz := HA.out.frozen
          cases hit : SynP.item X.rs clsT perlT (j1 + 1) with
          | bad ec kk =>
            rw [hit] at hE
            have hR := HR0.out
            rw [← hE] at hR
            simp only [listN] at hR
            have HR := Lib.hid hR
            have HI2 : Hid (∀ w, At w X p (j1 + 1) → Calls Tryz.prog 172 #[.pointer (some ⟨X.b, 0, none⟩)] w fun e w' => Threw w X ec kk e w') := Lib.hid fun w h => by
              have := item_any w X p (j1 + 1) h hs.out (by omega)
              rw [hit] at this
              exact this
            clear hit
            clear hE hR
            go_wp2_with (go_at_call 172; refine (HI2.out _ HA.out).mono ?_; rintro e w1 ⟨hm1, he1⟩; unfold thrown at he1; subst he1; replace HM := Lib.hid (HM.out.step hm1); clear hm1)
            rw [← HR.out]; exact ⟨rfl, HM.out, rfl⟩
          | ok x =>
            obtain ⟨g2, hi2, j2⟩ := x
            rw [hit] at hE
            simp only at hE
            have hj2 := SynP.item_at hin2 hit
            have hrb2 := item_sc hs.out hit
            obtain ⟨hj2, hj2b⟩ := hj2
            obtain ⟨hrb3, hrb4⟩ := hrb2
            have HI2 : Hid (∀ w, At w X p (j1 + 1) → Calls Tryz.prog 172 #[.pointer (some ⟨X.b, 0, none⟩)] w fun e w' => ∃ v, e = .returned (.tuple #[v, .int .i64 hi2]) ∧ Mv X.b w w' ∧ At w' X p j2 ∧ SetV w' v g2) := Lib.hid fun w h => by
              have := item_any w X p (j1 + 1) h hs.out (by omega)
              rw [hit] at this
              exact this
            clear hit
            by_cases hlt : hi2 < r
            · rw [if_pos hlt] at hE
              have hR := HR0.out
              rw [← hE] at hR
              simp only [listN] at hR
              have HR := Lib.hid hR
              clear hE hR
              go_wp2_with (first | (go_at_call 172; refine (HI2.out _ HA.out).mono ?_; rintro e w1 ⟨v2, rfl, hm1, ha1, hv⟩; replace HO := Lib.hid (HO.out.on (KeepR.mv HA.out hm1)); clear hv; replace HM := Lib.hid (HM.out.step hm1); replace HA := Lib.hid ha1; clear hm1 ha1; replace hc := HA.out.cell; replace hz := HA.out.frozen) | (go_at_call 101; refine (fail_any _ _ _ X p _ HA.out (by omega)).mono ?_; rintro e w1 ⟨hm1, he1⟩; unfold thrown at he1; subst he1; replace HM := Lib.hid (HM.out.step hm1); clear hm1))
              rw [← HR.out]; exact ⟨rfl, HM.out, rfl⟩
            · rw [if_neg hlt] at hE
              have HE2 := Lib.hid hE
              clear hE
              go_wp2_with (first | (go_at_call 172; refine (HI2.out _ HA.out).mono ?_; rintro e w1 ⟨v2, rfl, hm1, ha1, hv⟩; replace HO := Lib.hid (HO.out.on (KeepR.mv HA.out hm1)); clear hv; replace HM := Lib.hid (HM.out.step hm1); replace HA := Lib.hid ha1; clear hm1 ha1; replace hc := HA.out.cell; replace hz := HA.out.frozen) | (go_at_call 16; refine (of_range r hi2 _ _ rfl).mono ?_; rintro e w1 ⟨vs, rfl, hv, hb1⟩; have HS := Lib.hid hv; replace HO := Lib.hid (HO.out.on (KeepR.below hb1)); clear hv; replace HM := Lib.hid (HM.out.below hb1); replace HA := Lib.hid (HA.out.below hb1); clear hb1; replace hc := HA.out.cell; replace hz := HA.out.frozen) | (go_at_call 173; refine (or_new HO.out HS.out).mono ?_; rintro e w1 ⟨vo, rfl, hv, hb1⟩; replace HO := Lib.hid hv; clear hv; replace HM := Lib.hid (HM.out.below hb1); replace HA := Lib.hid (HA.out.below hb1); clear hb1; replace hc := HA.out.cell; replace hz := HA.out.frozen))
              go_roundg kk0
              case measure => omega
              case rel => exact ⟨j2, false, _, rfl, HE2, HO, HM, HA, by omega, by omega⟩
        · have hE := HEi.out
          rw [if_neg hrg] at hE
          have HE2 := Lib.hid hE
          clear hE
          rcases (by omega : r < 0 ∨ (0 ≤ r ∧ SynP.pk X.rs j1 ≠ 45) ∨ (0 ≤ r ∧ SynP.pk X.rs j1 = 45 ∧ SynP.pk X.rs (j1 + 1) = 93) ∨ (0 ≤ r ∧ SynP.pk X.rs j1 = 45 ∧ SynP.pk X.rs (j1 + 1) = -1)) with q | ⟨q0, q⟩ | ⟨q0, q1, q⟩ | ⟨q0, q1, q⟩
          · have d1 : decide (0 ≤ r) = false := decide_eq_false (by omega)
            clear q hrg
            go_wp2_with (first | (first | (go_at_call 100; clear T0; refine (peek0 _ X p _ HA.out).mono ?_; rintro e w1 ⟨rfl, hm1, ha1⟩; replace HO := Lib.hid (HO.out.on (KeepR.mv HA.out hm1)); replace HS := Lib.hid (HS.out.on (KeepR.mv HA.out hm1)); replace HM := Lib.hid (HM.out.step hm1); replace HA := Lib.hid ha1; clear hm1 ha1; replace hc := HA.out.cell; replace hz := HA.out.frozen) | (go_at_call 100; refine (peek1 _ X p _ HA.out).mono ?_; rintro e w1 ⟨rfl, hm1, ha1⟩; replace HO := Lib.hid (HO.out.on (KeepR.mv HA.out hm1)); replace HS := Lib.hid (HS.out.on (KeepR.mv HA.out hm1)); replace HM := Lib.hid (HM.out.step hm1); replace HA := Lib.hid ha1; clear hm1 ha1; replace hc := HA.out.cell; replace hz := HA.out.frozen)) | (go_at_call 173; refine (or_new HO.out HS.out).mono ?_; rintro e w1 ⟨vo, rfl, hv, hb1⟩; replace HO := Lib.hid hv; clear hv; replace HM := Lib.hid (HM.out.below hb1); replace HA := Lib.hid (HA.out.below hb1); clear hb1; replace hc := HA.out.cell; replace hz := HA.out.frozen))
            go_roundg kk0
            case measure => omega
            case rel => exact ⟨j1, false, _, rfl, HE2, HO, HM, HA, by omega, by omega⟩
          · have d1 : (SynP.pk X.rs j1 == 45) = false := beq_eq_false_iff_ne.2 q
            clear q hrg
            go_wp2_with (first | (first | (go_at_call 100; clear T0; refine (peek0 _ X p _ HA.out).mono ?_; rintro e w1 ⟨rfl, hm1, ha1⟩; replace HO := Lib.hid (HO.out.on (KeepR.mv HA.out hm1)); replace HS := Lib.hid (HS.out.on (KeepR.mv HA.out hm1)); replace HM := Lib.hid (HM.out.step hm1); replace HA := Lib.hid ha1; clear hm1 ha1; replace hc := HA.out.cell; replace hz := HA.out.frozen) | (go_at_call 100; refine (peek1 _ X p _ HA.out).mono ?_; rintro e w1 ⟨rfl, hm1, ha1⟩; replace HO := Lib.hid (HO.out.on (KeepR.mv HA.out hm1)); replace HS := Lib.hid (HS.out.on (KeepR.mv HA.out hm1)); replace HM := Lib.hid (HM.out.step hm1); replace HA := Lib.hid ha1; clear hm1 ha1; replace hc := HA.out.cell; replace hz := HA.out.frozen)) | (go_at_call 173; refine (or_new HO.out HS.out).mono ?_; rintro e w1 ⟨vo, rfl, hv, hb1⟩; replace HO := Lib.hid hv; clear hv; replace HM := Lib.hid (HM.out.below hb1); replace HA := Lib.hid (HA.out.below hb1); clear hb1; replace hc := HA.out.cell; replace hz := HA.out.frozen))
            go_roundg kk0
            case measure => omega
            case rel => exact ⟨j1, false, _, rfl, HE2, HO, HM, HA, by omega, by omega⟩
          · have d1 : (SynP.pk X.rs (j1 + 1) != 93) = false := by rw [q]; rfl
            clear q hrg
            go_wp2_with (first | (first | (go_at_call 100; clear T0; refine (peek0 _ X p _ HA.out).mono ?_; rintro e w1 ⟨rfl, hm1, ha1⟩; replace HO := Lib.hid (HO.out.on (KeepR.mv HA.out hm1)); replace HS := Lib.hid (HS.out.on (KeepR.mv HA.out hm1)); replace HM := Lib.hid (HM.out.step hm1); replace HA := Lib.hid ha1; clear hm1 ha1; replace hc := HA.out.cell; replace hz := HA.out.frozen) | (go_at_call 100; refine (peek1 _ X p _ HA.out).mono ?_; rintro e w1 ⟨rfl, hm1, ha1⟩; replace HO := Lib.hid (HO.out.on (KeepR.mv HA.out hm1)); replace HS := Lib.hid (HS.out.on (KeepR.mv HA.out hm1)); replace HM := Lib.hid (HM.out.step hm1); replace HA := Lib.hid ha1; clear hm1 ha1; replace hc := HA.out.cell; replace hz := HA.out.frozen)) | (go_at_call 173; refine (or_new HO.out HS.out).mono ?_; rintro e w1 ⟨vo, rfl, hv, hb1⟩; replace HO := Lib.hid hv; clear hv; replace HM := Lib.hid (HM.out.below hb1); replace HA := Lib.hid (HA.out.below hb1); clear hb1; replace hc := HA.out.cell; replace hz := HA.out.frozen))
            go_roundg kk0
            case measure => omega
            case rel => exact ⟨j1, false, _, rfl, HE2, HO, HM, HA, by omega, by omega⟩
          · have d1 : (SynP.pk X.rs (j1 + 1) != 93) = true := by rw [q]; rfl
            have d2 : (SynP.pk X.rs (j1 + 1) != -1) = false := by rw [q]; rfl
            clear q hrg
            go_wp2_with (first | (first | (go_at_call 100; clear T0; refine (peek0 _ X p _ HA.out).mono ?_; rintro e w1 ⟨rfl, hm1, ha1⟩; replace HO := Lib.hid (HO.out.on (KeepR.mv HA.out hm1)); replace HS := Lib.hid (HS.out.on (KeepR.mv HA.out hm1)); replace HM := Lib.hid (HM.out.step hm1); replace HA := Lib.hid ha1; clear hm1 ha1; replace hc := HA.out.cell; replace hz := HA.out.frozen) | (go_at_call 100; refine (peek1 _ X p _ HA.out).mono ?_; rintro e w1 ⟨rfl, hm1, ha1⟩; replace HO := Lib.hid (HO.out.on (KeepR.mv HA.out hm1)); replace HS := Lib.hid (HS.out.on (KeepR.mv HA.out hm1)); replace HM := Lib.hid (HM.out.step hm1); replace HA := Lib.hid ha1; clear hm1 ha1; replace hc := HA.out.cell; replace hz := HA.out.frozen)) | (go_at_call 173; refine (or_new HO.out HS.out).mono ?_; rintro e w1 ⟨vo, rfl, hv, hb1⟩; replace HO := Lib.hid hv; clear hv; replace HM := Lib.hid (HM.out.below hb1); replace HA := Lib.hid (HA.out.below hb1); clear hb1; replace hc := HA.out.cell; replace hz := HA.out.frozen))
            go_roundg kk0
            case measure => omega
            case rel => exact ⟨j1, false, _, rfl, HE2, HO, HM, HA, by omega, by omega⟩

theorem list_any (from_ : Nat) (w : World) (X : Cx) (p : Pv) (i : Nat) (h : At w X p i) (hs : Scal X.rs) (hf : from_ ≤ X.rs.length) (hi : i ≤ X.rs.length) :
    Calls Tryz.prog 143 #[.pointer (some ⟨X.b, 0, none⟩), .int .i64 from_] w (NamedEnd w X p (SynP.list X.rs clsT perlT from_ i)) := by
  by_cases h94 : SynP.pk X.rs i = 94
  · exact list_not from_ w X p i h (Lib.hid hs) hf hi h94
  · exact list_plain from_ w X p i h (Lib.hid hs) hf hi h94

end Go.Proofs.YtblkejnckbeieaaGreatDoor
