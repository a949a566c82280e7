/- The walk of the law UcdOrbits. -/
import Derived.Test.YtpidgcjioocmhaaOrbProg
import Derived.Test.YtpidgcjioocmhaaOrbRefO
import Derived.Test.YtpidgcjioocmhaaOrbChk
namespace Go.Proofs.Ytpidgcjioocmhaa
open Go.RowKit OrbPure

/-- The orbit of any number: none of what is no number. -/
def orbAll (r : Int) : List Int := if 0 ≤ r ∧ r ≤ 1114111 then progOrb r else []

set_option maxHeartbeats 400000 in
theorem orbit_any (r : Int) (w : World) : Calls Try.prog 11 #[.int .i64 r] w (RetSeq Eint w (orbAll r)) := by
  by_cases h : 0 ≤ r ∧ r ≤ 1114111
  · rw [show orbAll r = progOrb r from if_pos h]
    exact orbit_some r w h.1 h.2
  · rw [show orbAll r = [] from if_neg h]
    have hn : IsSeq Eint w (.slice none 0 0) ([] : List Int) := ⟨none, 0, rfl, by simp, by simp [maxLen], SeqAt.nil_⟩
    have HN := Lib.hid hn
    clear hn
    by_cases h0 : r < 0
    · clear h
      go_enter Try.func11, Try.ntmps11
      go_wp2_with fail
      go_ret
      exact ⟨_, rfl, HN.out, Below.refl _ _⟩
    · have h1 : 1114111 < r := by omega
      clear h
      go_enter Try.func11, Try.ntmps11
      go_wp2_with fail
      go_ret
      exact ⟨_, rfl, HN.out, Below.refl _ _⟩

set_option maxHeartbeats 400000 in
theorem refOrbit_any (r : Int) (w : World) : Calls Try.prog 12 #[.int .i64 r] w (RetSeq Eint w (orbAll r)) := by
  by_cases h : 0 ≤ r ∧ r ≤ 1114111
  · rw [show orbAll r = refOrb r from (if_pos h).trans (orbits h.1 h.2).1]
    exact refOrbit_some r w h.1 h.2
  · rw [show orbAll r = [] from if_neg h]
    have hn : IsSeq Eint w (.slice none 0 0) ([] : List Int) := ⟨none, 0, rfl, by simp, by simp [maxLen], SeqAt.nil_⟩
    have HN := Lib.hid hn
    clear hn
    by_cases h0 : r < 0
    · clear h
      go_enter Try.func12, Try.ntmps12
      go_wp2_with fail
      go_ret
      exact ⟨_, rfl, HN.out, Below.refl _ _⟩
    · have h1 : 1114111 < r := by omega
      clear h
      go_enter Try.func12, Try.ntmps12
      go_wp2_with fail
      go_ret
      exact ⟨_, rfl, HN.out, Below.refl _ _⟩

theorem orbAll_mem {r x : Int} (hx : x ∈ orbAll r) : orbAll x = orbAll r := by
  unfold orbAll at hx ⊢
  by_cases h : 0 ≤ r ∧ r ≤ 1114111
  · rw [if_pos h] at hx ⊢
    obtain ⟨h0, h1, h2⟩ := (orbits h.1 h.2).2 x hx
    rw [if_pos ⟨h0, h1⟩, h2]
  · rw [if_neg h] at hx
    cases hx
theorem orbAll_len (r : Int) : (orbAll r).length ≤ 3 := by
  unfold orbAll
  split
  · unfold progOrb
    have h1 : ∀ l r, shiftFind l r = [r] ∨ ∃ a b, shiftFind l r = [a, b] := by
      intro l r
      induction l with
      | nil => exact .inl rfl
      | cons x l ih =>
        obtain ⟨a, b, d⟩ := x
        simp only [shiftFind]
        split
        · exact .inr ⟨_, _, rfl⟩
        · split
          · exact .inr ⟨_, _, rfl⟩
          · exact ih
    have h2 : (shiftFind shiftsL r).length ≤ 3 := by
      rcases h1 shiftsL r with h | ⟨a, b, h⟩ <;> rw [h] <;> simp
    have h3 : ∀ l ∈ ringsL, l.length ≤ 3 := by decide
    have h4 : ∀ ls : List (List Int), (∀ l ∈ ls, l.length ≤ 3) → ∀ l, ringFind ls r = some l → l.length ≤ 3 := by
      intro ls
      induction ls with
      | nil => intro _ l h; cases h
      | cons x ls ih =>
        intro hl l h
        simp only [ringFind] at h
        split at h
        · injection h with h; subst h; exact hl _ (List.mem_cons_self ..)
        · exact ih (fun l hm => hl l (List.mem_cons_of_mem _ hm)) l h
    cases hrf : ringFind ringsL r with
    | none => exact h2
    | some l => exact h4 ringsL h3 l hrf
  · simp

theorem orbit_K (w : World) : Calls Try.prog 11 #[.int .i64 75] w (RetSeq Eint w [75, 107, 8490]) := by
  have h := orbit_any 75 w
  rwa [show orbAll 75 = [75, 107, 8490] by decide +kernel] at h

set_option maxHeartbeats 400000 in
theorem speaks_any (w : World) : Calls Try.prog 10 #[] w fun e w' => e = .returned (.bool true) ∧ Below w.heap.size w w' := by
  go_enter Try.func10, Try.ntmps10
  go_wp2_with (go_at_call 11; refine (orbit_K _).mono ?_; rintro e w1 ⟨v, rfl, ⟨A, c, rfl, _, _, hA⟩, hb⟩; obtain ⟨b, off, rfl, _, hc⟩ := hA.ints_ (by decide); have c1 := hc 1 (by decide); have c2 := hc 2 (by decide); clear hc hA)
  go_ret
  exact ⟨rfl, hb⟩

set_option maxHeartbeats 800000 in
set_option maxRecDepth 100000 in
theorem law_any (r : Int) (w : World) : Calls Try.prog 3 #[.int .i64 r] w fun e w' => e = .returned (.bool true) ∧ Below w.heap.size w w' := by
  have hmem : ∀ x ∈ orbAll r, orbAll x = orbAll r := fun x hx => orbAll_mem hx
  have hl3 := orbAll_len r
  have C1 := Lib.hid (fun w' => orbit_any r w')
  have C2 := Lib.hid (fun w' => refOrbit_any r w')
  generalize orbAll r = l at *
  have HM := Lib.hid hmem
  clear hmem
  go_enter Try.func3, Try.ntmps3
  go_wp2_with (first
    | (go_at_call 10; refine (speaks_any _).mono ?_; rintro e w1 ⟨rfl, hb1⟩)
    | (go_at_call 11; refine (C1.out _).mono ?_; rintro e w2 ⟨v, rfl, ⟨A, c, rfl, _, _, hA⟩, hb2⟩; have HA := Lib.hid hA; clear hA)
    | (go_at_call 12; refine (C2.out _).mono ?_; rintro e w3 ⟨v, rfl, ⟨A', c', rfl, _, _, hA'⟩, hb3⟩; have HA' := Lib.hid hA'; clear hA'))
  go_loopw [5] (fun s wr => ∃ i : Nat, i ≤ l.length ∧ s = .int .i64 i ∧ Below w3.heap.size w3 wr) (fun s _ => 5 - (intOf s).toNat)
  case atStart => exact ⟨0, by omega, rfl, Below.refl _ _⟩
  case round =>
    obtain ⟨i, hi, rfl, hbr⟩ := hrel
    have hz1 := hb1.size
    have hz2 := hb2.size
    have hz3 := hb3.size
    have hz4 := hbr.size
    by_cases hlt : i < l.length
    · obtain ⟨b, off, rfl, hbb, hc⟩ := (((HA.out.below hb3).more hz3).below hbr).ints_ (by omega)
      obtain ⟨b', off', rfl, hbb', hc'⟩ := (HA'.out.below hbr).ints_ (by omega)
      have HC := Lib.hid hc
      have x1 := hc i hlt
      have x2 := hc' i hlt
      have HX := Lib.hid (fun w' => orbit_any (l.getD i 0) w')
      rw [HM.out (l.getD i 0) (by rw [List.getD_eq_getElem?_getD, List.getElem?_eq_getElem hlt]; exact List.getElem_mem hlt)] at HX
      clear hc hc'
      generalize hx : l.getD i 0 = x at *
      clear hx
      have hii : (i : Int) < (l.length : Int) := by omega
      go_wp2
      go_quiet (fail)
      go_wp2_with (go_at_call 11; refine (HX.out _).mono ?_; rintro e w4 ⟨v, rfl, ⟨A2, c2, rfl, _, _, hA2⟩, hb4⟩; have HA2 := Lib.hid hA2; clear hA2)
      have hb5 := below_of_drewN hb4
      clear hb4
      obtain ⟨wo, rfl⟩ : ∃ wo : World, wo = wr := ⟨_, rfl⟩
      have hz5 := hb5.size
      go_loopw [7] (fun s wr => ∃ k : Nat, k ≤ l.length ∧ s = .int .i64 k ∧ Below w4.heap.size w4 wr) (fun s _ => 5 - (intOf s).toNat)
      case atStart => exact ⟨0, by omega, rfl, Below.refl _ _⟩
      case round =>
        obtain ⟨k, hk, rfl, hbq⟩ := hrel
        have hz6 := hbq.size
        have hb6 : Below wo.heap.size wo wr := hb5.trans (hbq.mono hz5)
        by_cases hlk : k < l.length
        · obtain ⟨b2, off2, rfl, _, hc2⟩ := (HA2.out.below hbq).ints_ (by omega)
          have y1 := hc2 k hlk
          have y2 := (hb6.cell (p := ⟨b, off + k, none⟩) (show b < wo.heap.size by omega)).trans (HC.out k hlk)
          clear hc2
          generalize hx : l.getD k 0 = y at *
          clear hx
          have hkk : (k : Int) < (l.length : Int) := by omega
          go_wp2
          go_quiet (fail)
          go_wp2
          go_roundw
          case rel => exact ⟨k + 1, by omega, by go_num, below_drewN hbq _⟩
          case measure => simp [intOf]; omega
        · go_wp2
          go_roundw
          case rel => exact ⟨i + 1, by omega, by go_num, hbr.trans (hb6.mono (by omega))⟩
          case measure => simp [intOf]; omega
    · go_wp2
      go_ret
      exact ⟨rfl, ((hb1.trans (hb2.mono hz1)).trans (hb3.mono (by omega))).trans (hbr.mono (by omega))⟩

end Go.Proofs.Ytpidgcjioocmhaa
