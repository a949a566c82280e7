/- The walk of Product: of any two rows of numbers. -/
import Derived.Test.YtnjmefjcaiepfaaDoorWLw
namespace Go.Proofs.YtnjmefjcaiepfaaDoor
open Go.RowKit WaveP

def fitsL (l : List Int) : Bool := l.all fun v => decide (-256 ≤ v ∧ v ≤ 256)
/-- A list as a row of numbers. -/
def atL (l : List Int) (i : Nat) : Int := l.getD i 0
def badP (a b : List Int) : Bool := decide (4096 < a.length + b.length) || !(fitsL a && fitsL b)
def prE (a b : List Int) : Int := if badP a b then 1 else 0
def prL (a b : List Int) : List Int := if badP a b then [] else if a.length = 0 ∨ b.length = 0 then [] else (List.range (a.length + b.length - 1)).map (cvI (atL a) (atL b))
theorem fitsL_at {l : List Int} (h : fitsL l = true) (i : Nat) : (atL l i).natAbs ≤ 256 := by
  unfold atL
  rcases getD_mem_or' l i with h1 | h1
  · have := of_decide_eq_true (List.all_eq_true.1 h _ h1)
    omega
  · rw [h1]; decide
where
  getD_mem_or' (l : List Int) (k : Nat) : l.getD k 0 ∈ l ∨ l.getD k 0 = 0 := by
    rw [List.getD_eq_getElem?_getD]
    rcases Nat.lt_or_ge k l.length with h | h
    · rw [List.getElem?_eq_getElem h]; exact .inl (List.getElem_mem h)
    · rw [List.getElem?_eq_none h]; exact .inr rfl
theorem atL_far {l : List Int} {i : Nat} (h : l.length ≤ i) : atL l i = 0 := by
  unfold atL
  rw [List.getD_eq_getElem?_getD, List.getElem?_eq_none h]; rfl
theorem fitsL_of {l : List Int} (h : ∀ i, i < l.length → -256 ≤ atL l i ∧ atL l i ≤ 256) : fitsL l = true := by
  refine List.all_eq_true.2 fun x hx => ?_
  obtain ⟨i, hi, rfl⟩ := List.getElem_of_mem hx
  have := h i hi
  unfold atL at this
  rw [List.getD_eq_getElem?_getD, List.getElem?_eq_getElem hi] at this
  exact decide_eq_true this
theorem fitsL_not {l : List Int} {i : Nat} (hi : i < l.length) (h : ¬ (-256 ≤ atL l i ∧ atL l i ≤ 256)) : fitsL l = false := by
  cases hf : fitsL l with
  | false => rfl
  | true =>
    have := List.all_eq_true.1 hf _ (List.getElem_mem hi)
    unfold atL at h
    rw [List.getD_eq_getElem?_getD, List.getElem?_eq_getElem hi] at h
    exact absurd (of_decide_eq_true this) h
/-- What both hand back. -/
def RetP (a b : List Int) (w : World) (e : Ending) (w' : World) : Prop := ∃ A n c, e = .returned (.tuple #[.slice A n c, .int .i64 (prE a b)]) ∧ (n = (prL a b).length ∧ n ≤ c) ∧ SeqAt Eint w' w'.heap.size A (prL a b) ∧ Below w.heap.size w w'
theorem ret_bad {a b : List Int} {w w' : World} (h : badP a b = true) (hb : Below w.heap.size w w') : RetP a b w (.returned (.tuple #[.slice none 0 0, .int .i64 1])) w' := by
  have h1 : prE a b = 1 := by unfold prE; rw [h]; rfl
  have h2 : prL a b = [] := by unfold prL; rw [h]; rfl
  exact ⟨none, 0, 0, by rw [h1], ⟨by rw [h2]; rfl, Nat.le_refl _⟩, by rw [h2]; exact SeqAt.nil_, hb⟩
theorem ret_none {a b : List Int} {w w' : World} (h : badP a b = false) (h0 : a.length = 0 ∨ b.length = 0) (hb : Below w.heap.size w w') : RetP a b w (.returned (.tuple #[.slice none 0 0, .int .i64 0])) w' := by
  have h1 : prE a b = 0 := by unfold prE; rw [h]; rfl
  have h2 : prL a b = [] := by unfold prL; rw [h, if_pos h0]; rfl
  exact ⟨none, 0, 0, by rw [h1], ⟨by rw [h2]; rfl, Nat.le_refl _⟩, by rw [h2]; exact SeqAt.nil_, hb⟩
theorem ret_row {a b : List Int} {w w' : World} {g all : Nat} (h : badP a b = false) (h1 : 0 < a.length) (h2 : 0 < b.length) (hall : a.length + b.length = all + 1) (hm : all ≤ maxLen) (hr : w'.rowIs g 3 all (fun j => .int .i64 (cvI (atL a) (atL b) j))) (hb : Below w.heap.size w w') :
    RetP a b w (.returned (.tuple #[.slice (some ⟨g, 0, none⟩) all all, .int .i64 0])) w' := by
  have e1 : prE a b = 0 := by unfold prE; rw [h]; rfl
  have e2 : prL a b = (List.range all).map (cvI (atL a) (atL b)) := by
    unfold prL
    rw [h, if_neg (by decide), if_neg (by omega), show a.length + b.length - 1 = all by omega]
  obtain ⟨A, c, hv, _, _, hs⟩ := seq_row hr hm
  injection hv with hv1 hv2 hv3
  subst hv1
  exact ⟨_, all, all, by rw [e1], ⟨by rw [e2, List.length_map, List.length_range], Nat.le_refl _⟩, by rw [e2]; exact hs, hb⟩

set_option maxHeartbeats 1600000 in
set_option maxRecDepth 100000 in
theorem product_all (A A' : Option Addr) (c c' : Nat) (a b : List Int) (w : World) (ha : a.length ≤ 17592186044416) (hb : b.length ≤ 17592186044416) (hA : SeqAt Eint w w.heap.size A a) (hA' : SeqAt Eint w w.heap.size A' b) (hT : ∀ w', Below w.heap.size w w' → TabsW w') :
    Calls Tryd.prog 17 #[.slice A a.length c, .slice A' b.length c'] w (RetP a b w) := by
  have HA := Lib.hid hA
  have HB := Lib.hid hA'
  obtain ⟨la, hla⟩ : ∃ la, la = a.length := ⟨_, rfl⟩
  obtain ⟨lb, hlb⟩ : ∃ lb, lb = b.length := ⟨_, rfl⟩
  have HLA := Lib.hid hla
  have HLB := Lib.hid hlb
  rw [← hla] at ha ⊢
  rw [← hlb] at hb ⊢
  have HT := Lib.hid hT
  clear hla hlb hA hA' hT
  by_cases hbig : la + lb ≤ 4096
  · go_enter Tryd.func17, Tryd.ntmps17
    go_wp2
    have hl0 : (w.alloc (.cells #[.slice A la c, .slice A' lb c'] 22)).cell? ⟨w.heap.size, 0, none⟩ = some (.slice A la c) := by rw [cell_of_row _ _ _ _ _ (0, 0) (heap_alloc_new w _)]; rfl
    have hl1 : (w.alloc (.cells #[.slice A la c, .slice A' lb c'] 22)).cell? ⟨w.heap.size, 1, none⟩ = some (.slice A' lb c') := by rw [cell_of_row _ _ _ _ _ (0, 0) (heap_alloc_new w _)]; rfl
    have hbe := (Below.refl w.heap.size w).alloc (Nat.le_refl _) (.cells #[.slice A la c, .slice A' lb c'] 22)
    obtain ⟨w1, hw1⟩ : ∃ w1, w1 = w.alloc (.cells #[.slice A la c, .slice A' lb c'] 22) := ⟨_, rfl⟩
    rw [← hw1] at hl0 hl1 hbe ⊢
    clear hw1
    have HA1 := Lib.hid (HA.out.below hbe)
    have HB1 := Lib.hid (HB.out.below hbe)
    go_loopw [20] (fun i wr => ∃ j : Nat, j ≤ 2 ∧ i = .int .i64 j ∧ wr = w1 ∧ Hid ((1 ≤ j → fitsL a = true) ∧ (2 ≤ j → fitsL b = true))) (fun i _ => 3 - (intOf i).toNat)
    case atStart => exact ⟨0, by omega, rfl, rfl, Lib.hid ⟨fun h => absurd h (by decide), fun h => absurd h (by decide)⟩⟩
    case round =>
      obtain ⟨j, hj, rfl, hw, HJ⟩ := hrel
      obtain rfl : w1 = wr := hw.symm
      rcases (show j = 0 ∨ j = 1 ∨ j = 2 by omega) with rfl | rfl | rfl
      · go_wp2
        go_loopw [26] (fun i wr => ∃ k : Nat, k ≤ la ∧ i = .int .i64 k ∧ wr = w1 ∧ Hid (∀ i, i < k → -256 ≤ atL a i ∧ atL a i ≤ 256)) (fun i _ => la + 1 - (intOf i).toNat)
        case atStart => exact ⟨0, by omega, rfl, rfl, Lib.hid fun i hi => absurd hi (Nat.not_lt_zero _)⟩
        case round =>
          obtain ⟨k, hk, rfl, hw, HK⟩ := hrel
          obtain rfl : w1 = wr := hw.symm
          by_cases hkl : k < la
          · obtain ⟨b0, o0, rfl, _, hc⟩ := HA1.out.ints_ (by have := HLA.out; omega)
            have hc0 := hc k (by rw [← HLA.out]; exact hkl)
            obtain ⟨x, hx⟩ : ∃ x, x = atL a k := ⟨_, rfl⟩
            have hc1 : w1.cell? ⟨b0, o0 + k, none⟩ = some (.int .i64 x) := by rw [hx]; exact hc0
            have HX := Lib.hid hx
            clear hc hc0 hx
            by_cases hx1 : -256 ≤ x
            · have hd0 : decide (x < -256) = false := decide_eq_false (by omega)
              by_cases hx2 : x ≤ 256
              · have hd : decide (256 < x) = false := decide_eq_false (by omega)
                have HK2 := Lib.hid (show ∀ i, i < k + 1 → -256 ≤ atL a i ∧ atL a i ≤ 256 from fun i hi => by
                  by_cases e : i = k
                  · subst e; rw [← HX.out]; exact ⟨hx1, hx2⟩
                  · exact HK.out i (by omega))
                go_wp2
                go_roundw
                case rel => exact ⟨k + 1, by omega, by go_num, trivial, HK2⟩
                case measure => simp [intOf]; omega
              · have hd : decide (256 < x) = true := decide_eq_true (by omega)
                have HBD := Lib.hid (show badP a b = true by unfold badP; rw [fitsL_not (l := a) (i := k) (by rw [← HLA.out]; exact hkl) (by rw [← HX.out]; omega)]; simp)
                go_wp2
                go_ret2
                exact ret_bad HBD.out hbe
            · have hd0 : decide (x < -256) = true := decide_eq_true (by omega)
              have HBD := Lib.hid (show badP a b = true by unfold badP; rw [fitsL_not (l := a) (i := k) (by rw [← HLA.out]; exact hkl) (by rw [← HX.out]; omega)]; simp)
              go_wp2
              go_ret2
              exact ret_bad HBD.out hbe
          · obtain rfl : k = la := by omega
            have HF := Lib.hid (show fitsL a = true from fitsL_of fun i hi => HK.out i (by rw [HLA.out]; exact hi))
            go_wp2
            go_roundw
            case rel => exact ⟨1, by omega, by go_num, trivial, Lib.hid ⟨fun _ => HF.out, fun h => absurd h (by decide)⟩⟩
            case measure => simp [intOf]
      · go_wp2
        go_loopw [26] (fun i wr => ∃ k : Nat, k ≤ lb ∧ i = .int .i64 k ∧ wr = w1 ∧ Hid (∀ i, i < k → -256 ≤ atL b i ∧ atL b i ≤ 256)) (fun i _ => lb + 1 - (intOf i).toNat)
        case atStart => exact ⟨0, by omega, rfl, rfl, Lib.hid fun i hi => absurd hi (Nat.not_lt_zero _)⟩
        case round =>
          obtain ⟨k, hk, rfl, hw, HK⟩ := hrel
          obtain rfl : w1 = wr := hw.symm
          by_cases hkl : k < lb
          · obtain ⟨b0, o0, rfl, _, hc⟩ := HB1.out.ints_ (by have := HLB.out; omega)
            have hc0 := hc k (by rw [← HLB.out]; exact hkl)
            obtain ⟨x, hx⟩ : ∃ x, x = atL b k := ⟨_, rfl⟩
            have hc1 : w1.cell? ⟨b0, o0 + k, none⟩ = some (.int .i64 x) := by rw [hx]; exact hc0
            have HX := Lib.hid hx
            clear hc hc0 hx
            by_cases hx1 : -256 ≤ x
            · have hd0 : decide (x < -256) = false := decide_eq_false (by omega)
              by_cases hx2 : x ≤ 256
              · have hd : decide (256 < x) = false := decide_eq_false (by omega)
                have HK2 := Lib.hid (show ∀ i, i < k + 1 → -256 ≤ atL b i ∧ atL b i ≤ 256 from fun i hi => by
                  by_cases e : i = k
                  · subst e; rw [← HX.out]; exact ⟨hx1, hx2⟩
                  · exact HK.out i (by omega))
                go_wp2
                exact ⟨⟨k + 1, by omega, by go_num, trivial, HK2⟩, by simp [intOf]; omega⟩
              · have hd : decide (256 < x) = true := decide_eq_true (by omega)
                have HBD := Lib.hid (show badP a b = true by unfold badP; rw [fitsL_not (l := b) (i := k) (by rw [← HLB.out]; exact hkl) (by rw [← HX.out]; omega)]; simp)
                go_wp2
                go_ret2
                exact ret_bad HBD.out hbe
            · have hd0 : decide (x < -256) = true := decide_eq_true (by omega)
              have HBD := Lib.hid (show badP a b = true by unfold badP; rw [fitsL_not (l := b) (i := k) (by rw [← HLB.out]; exact hkl) (by rw [← HX.out]; omega)]; simp)
              go_wp2
              go_ret2
              exact ret_bad HBD.out hbe
          · obtain rfl : k = lb := by omega
            have HF := Lib.hid (show fitsL b = true from fitsL_of fun i hi => HK.out i (by rw [HLB.out]; exact hi))
            go_wp2
            exact ⟨⟨2, by omega, by go_num, trivial, Lib.hid ⟨fun _ => HJ.out.1 (by decide), fun _ => HF.out⟩⟩, by simp [intOf]⟩
      · have hf1 := HJ.out.1 (by decide)
        have hf2 := HJ.out.2 (by decide)
        have HBD := Lib.hid (show badP a b = false by unfold badP; rw [← HLA.out, ← HLB.out, decide_eq_false (by omega), hf1, hf2]; rfl)
        by_cases h0 : la = 0
        · go_wp2
          go_ret2
          exact ret_none HBD.out (.inl (by rw [← HLA.out]; exact h0)) hbe
        · by_cases h1 : lb = 0
          · go_wp2
            go_ret2
            exact ret_none HBD.out (.inr (by rw [← HLB.out]; exact h1)) hbe
          · obtain ⟨ba, oa, rfl, _, hca⟩ := HA1.out.ints_ (by have := HLA.out; omega)
            obtain ⟨bb, ob, rfl, _, hcb⟩ := HB1.out.ints_ (by have := HLB.out; omega)
            have HP := Lib.hid (product_any ba oa c bb ob c' la lb (la + lb - 1) (atL a) (atL b) w1 (by omega) (by omega) hbig (by omega) (fun i hi => hca i (by rw [← HLA.out]; exact hi)) (fun i hi => hcb i (by rw [← HLB.out]; exact hi))
              (fitsL_at hf1) (fitsL_at hf2) (fun i hi => atL_far (by rw [← HLA.out]; exact hi)) (fun i hi => atL_far (by rw [← HLB.out]; exact hi)) (tabs_later HT.out hbe))
            clear hca hcb hf1 hf2
            go_wp2_with (go_at_call 23; (refine HP.out.mono ?_); rintro e w2 ⟨g, rfl, _, hb2, hr2⟩)
            go_ret2
            exact ret_row HBD.out (by rw [← HLA.out]; omega) (by rw [← HLB.out]; omega) (by rw [← HLA.out, ← HLB.out]; omega) (by unfold maxLen; omega) hr2 (hbe.trans (hb2.mono hbe.size))
  · have HBD := Lib.hid (show badP a b = true by unfold badP; rw [← HLA.out, ← HLB.out, decide_eq_true (by omega)]; rfl)
    go_enter Tryd.func17, Tryd.ntmps17
    go_wp2
    go_ret2
    exact ret_bad HBD.out (Below.refl _ _)
end Go.Proofs.YtnjmefjcaiepfaaDoor
