/- The walk of ucd's Close. -/
import Derived.Test.YtblkejnckbeieaaGreatDoorZk47
import Derived.Test.YtblkejnckbeieaaGreatDoorZk48
import Derived.Test.YtblkejnckbeieaaGreatDoorZk4
namespace Go.Proofs.YtblkejnckbeieaaGreatDoor
open Go.RowKit SetPure OrbPure

/-! ### Ranges that are moved -/
def mov (d : Int) (r : Rg) : Rg := (r.1 + d, r.2 + d)
theorem inB_append (s t : List Rg) (z : Int) : inB (s ++ t) z = (inB s z || inB t z) := by simp [inB, List.any_append]
theorem inB_mov (d : Int) (s : List Rg) (z : Int) : inB (s.map (mov d)) z = inB s (z - d) := by
  unfold inB
  rw [List.any_map]
  congr 1
  funext r
  show (decide (r.1 + d ≤ z) && decide (z ≤ r.2 + d)) = (decide (r.1 ≤ z - d) && decide (z - d ≤ r.2))
  rw [show decide (r.1 + d ≤ z) = decide (r.1 ≤ z - d) from decide_eq_decide.2 (by omega), show decide (z ≤ r.2 + d) = decide (z - d ≤ r.2) from decide_eq_decide.2 (by omega)]
theorem inB_one (a b z : Int) : inB [(a, b)] z = (decide (a ≤ z) && decide (z ≤ b)) := by simp [inB]
theorem mov_next {s : List Rg} {k : Nat} {r : Rg} {d : Int} (hk : k < s.length) (hr : s.getD k (0, 0) = r) : (s.take (k + 1)).map (mov d) = (s.take k).map (mov d) ++ [mov d r] := by
  rw [take_next' hk hr, List.map_append]; rfl
theorem mov_back {s : List Rg} {k : Nat} {x y d : Int} (hk : k < s.length) (hr : s.getD k (0, 0) = (x, y)) : (s.take (k + 1)).map (mov (-d)) = (s.take k).map (mov (-d)) ++ [(x - d, y - d)] := mov_next (d := -d) hk hr
theorem inB_dots (l : List Int) (z : Int) : inB (l.map fun r => (r, r)) z = decide (z ∈ l) := by
  unfold inB
  rw [List.any_map, Bool.eq_iff_iff, List.any_eq_true, decide_eq_true_eq]
  constructor
  · rintro ⟨x, hx, h⟩
    simp only [Function.comp, Bool.and_eq_true, decide_eq_true_eq] at h
    obtain rfl : z = x := by omega
    exact hx
  · intro h
    exact ⟨z, h, by simp⟩
theorem dots_next {s : List Int} {k : Nat} {r : Int} (hk : k < s.length) (hr : s.getD k 0 = r) : ((s.take (k + 1)).map fun r => (r, r)) = ((s.take k).map fun r => (r, r)) ++ [((r, r) : Rg)] := by
  rw [take_next hk hr, List.map_append]; rfl
theorem len_mov (d : Int) (l o : List Rg) {m : Nat} (hm : m ≤ o.length) : (l ++ (o.take m).map (mov d)).length = l.length + m := by
  rw [List.length_append, List.length_map, List.length_take]; omega
theorem len_dots (l : List Rg) (o : List Int) {m : Nat} (hm : m ≤ o.length) : (l ++ (o.take m).map fun r => (r, r)).length = l.length + m := by
  rw [List.length_append, List.length_map, List.length_take]; omega
theorem canon_bd {s : List Rg} (h : Canon s) {k : Nat} (hk : k < s.length) : 0 ≤ (s.getD k (0, 0)).1 ∧ (s.getD k (0, 0)).1 ≤ 1114111 ∧ 0 ≤ (s.getD k (0, 0)).2 ∧ (s.getD k (0, 0)).2 ≤ 1114111 := by
  have hm : s.getD k (0, 0) ∈ s := by rw [List.getD_eq_getElem?_getD, List.getElem?_eq_getElem hk]; exact List.getElem_mem hk
  have h1 := Canon.ge h _ hm
  have h2 := CanonFrom.lo h (x := (s.getD k (0, 0)).2) ⟨_, hm, h1.2, Int.le_refl _⟩
  omega

/-- What a set and a range have in common, in a row of the call's own. -/
theorem and_range {w : World} {v u : Value} {s t : List Rg} {f : Int → Bool} {a b : Int} (h : IsSet w v s) (k : IsSet w u t) (hf : ∀ z, inB s z = f z) (ht : ∀ x, InS t x ↔ InS [(a, b)] x ∧ 0 ≤ x ∧ x ≤ 1114111) :
    Calls Tryz.prog 54 #[v, u] w fun e w' => ∃ x o, e = .returned x ∧ Own Epair 51 w w' x o ∧ Canon o ∧ ∀ z, inB o z = (decide (a ≤ z) && decide (z ≤ b) && f z) := by
  refine (set_and_own h k).mono ?_
  rintro e w' ⟨x, rfl, ho⟩
  obtain ⟨n1, n2⟩ := andL_spec h.canon k.canon
  refine ⟨x, _, rfl, ho, n1, fun z => ?_⟩
  rw [← hf, ← inB_one, Bool.eq_iff_iff, Bool.and_eq_true, inB_iff, inB_iff, inB_iff, n2, ht]
  constructor
  · rintro ⟨h1, h2, _⟩; exact ⟨h2, h1⟩
  · rintro ⟨h1, h2⟩
    exact ⟨h2, h1, CanonFrom.lo h.canon h2⟩

/-- sets.Of of one range that was just laid. -/
theorem of_one (wo : World) (g : Nat) (a b : Int) (hg : wo.heap.size = g) :
    Calls Tryz.prog 16 #[.slice (some ⟨g, 0, none⟩) 1 1] (wo.alloc (.cells #[.int .i64 a, .int .i64 b] 51)) (SetEnd (fun x => InS [(a, b)] x ∧ 0 ≤ x ∧ x ≤ 1114111) (wo.alloc (.cells #[.int .i64 a, .int .i64 b] 51))) :=
  set_of (l := [(a, b)]) (IsSeq.new_at (E := Epair) wo [(a, b)] 51 1 g hg (by simp) (by simp [maxLen])) (by simp)

theorem shAny_two (f : Int → Bool) {k : Nat} (hk : k < 7) {a b d : Int} (h : shiftsL.getD k (0, 0, 0) = (a, b, d)) {l o p : List Rg} (hl : ∀ z, inB l z = (f z || shAny f k z)) (ho : ∀ z, inB o z = (decide (a ≤ z) && decide (z ≤ b) && f z))
    (hp : ∀ z, inB p z = (decide (a + d ≤ z) && decide (z ≤ b + d) && f z)) (z : Int) : inB (l ++ o.map (mov d) ++ p.map (mov (-d))) z = (f z || shAny f (k + 1) z) := by
  rw [inB_append, inB_append, inB_mov, inB_mov, hl, ho, hp, shAny_succ f hk h, show z - -d = z + d by omega, show decide (a + d ≤ z + d) = decide (a ≤ z) by rw [decide_eq_decide]; omega, show decide (z + d ≤ b + d) = decide (z ≤ b) by rw [decide_eq_decide]; omega]
  simp only [Bool.or_assoc]

/-- slices.ContainsFunc with a set's Has. -/
theorem anyHas_any (b : Nat) (l : List Int) (v : Value) (f : Int → Bool) (W w : World) (L : List (Value × (Int → Bool))) (hH : Hold W w L) (hv : (v, f) ∈ L) (hl : l.length ≤ 1000000) (hA : SeqAt Eint w w.heap.size (some ⟨b, 0, none⟩) l) :
    Calls Tryz.prog 90 #[.slice (some ⟨b, 0, none⟩) l.length l.length, .func (.func 37) #[v] #[]] w fun e w' => ∃ i : Int, e = .returned (.int .i64 i) ∧ (decide (0 ≤ i) = l.any f) ∧ Hold W w' L ∧ Below w.heap.size w w' := by
  have HA := Lib.hid hA
  have HB := Lib.hid (hH.base (Below.refl _ w))
  have hW := hH.1
  clear hA
  go_enter Tryz.func90, Tryz.ntmps90
  go_wp2
  go_loopw [5, 8] (fun _ ix wr => ∃ k : Nat, k ≤ l.length ∧ ix = .int .i64 k ∧ Hold w wr L ∧ Hid ((l.take k).any f = false)) (fun _ ix _ => l.length + 1 - (intOf ix).toNat)
  case atStart => exact ⟨0, by omega, rfl, HB.out, rfl⟩
  case round =>
    obtain ⟨k, hk, rfl, hHk, hno⟩ := hrel
    by_cases hlt : k < l.length
    · obtain ⟨b', off', hA', hb', hc⟩ := (HA.out.below hHk.1).int_ hlt
      injection hA' with hA'
      injection hA' with e1 e2
      subst e1; subst e2
      have hki : (k : Int) < (l.length : Int) := by omega
      have HT := Lib.hid (show (l.take (k + 1)).any f = ((l.take k).any f || f l[k]) by rw [List.take_add_one, List.getElem?_eq_getElem hlt, List.any_append]; simp)
      have HM := Lib.hid (List.getElem_mem hlt)
      generalize l[k] = r at *
      rw [Nat.zero_add] at hc
      cases hfr : f r
      all_goals
        have HX := Lib.hid hfr
        clear hfr
        go_wp2_with (go_at_call 37; refine (hold_has_eq hHk hv r _ HX.out).mono ?_; rintro e w1 ⟨rfl, hH1⟩)
      · go_roundw
        case rel => exact ⟨k + 1, by omega, by go_num, hH1, Lib.hid (by rw [HT.out, hno.out, HX.out]; rfl)⟩
        case measure => simp [intOf]; omega
      · go_ret
        exact ⟨k, rfl, by rw [List.any_eq_true.2 ⟨r, HM.out, HX.out⟩]; simp, Hold.rebase hW hH1, hH1.1⟩
    · obtain rfl : k = l.length := by omega
      go_wp2
      go_ret
      refine ⟨-1, rfl, ?_, Hold.rebase hW hHk, hHk.1⟩
      have := hno.out
      rw [List.take_length] at this
      rw [this]; rfl

theorem contains_has (b : Nat) (l : List Int) (v : Value) (f : Int → Bool) (W w : World) (L : List (Value × (Int → Bool))) (hH : Hold W w L) (hv : (v, f) ∈ L) (hl : l.length ≤ 1000000) (hA : SeqAt Eint w w.heap.size (some ⟨b, 0, none⟩) l) :
    Calls Tryz.prog 56 #[.slice (some ⟨b, 0, none⟩) l.length l.length, .func (.func 37) #[v] #[]] w fun e w' => e = .returned (.bool (l.any f)) ∧ Hold W w' L ∧ Below w.heap.size w w' := by
  have HC := Lib.hid (anyHas_any b l v f W w L hH hv hl hA)
  clear hA
  go_enter Tryz.func56, Tryz.ntmps56
  go_wp2_with (go_at_call 90; refine HC.out.mono ?_; rintro e w1 ⟨i, rfl, hi, hH1⟩; have HI := Lib.hid hi; clear hi)
  go_ret
  exact ⟨ret_bool HI.out, hH1⟩

end Go.Proofs.YtblkejnckbeieaaGreatDoor
