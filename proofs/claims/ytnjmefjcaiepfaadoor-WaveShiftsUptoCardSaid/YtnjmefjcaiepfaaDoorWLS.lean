/- The law WaveSelf. -/
import Derived.Test.YtnjmefjcaiepfaaDoorWLw
import Derived.Test.YtnjmefjcaiepfaaDoorStepCall
import Derived.Laws.IdiomStrings
import Derived.Laws.BytesArg
namespace Go.Proofs.YtnjmefjcaiepfaaDoor
open Go.RowKit WaveP

theorem agL_one {t s : ByteArray} (h : s.size = t.size) (h0 : 0 < s.size) (h1 : s.size ≤ 1024) : agL t s = [(agree (byN t) (byN s) s.size 0 : Int)] := by
  unfold agL
  rw [if_pos ⟨h0, h1⟩, show t.size + 1 - s.size = 1 by omega]
  rfl
theorem self_all (t : ByteArray) : agree (byN t) (byN t) t.size 0 = t.size := by
  unfold agree
  rw [cntN_all]
  intro i _
  rw [Nat.zero_add]; simp
theorem cntN_but {n p : Nat} {q : Nat → Bool} (hp : p < n) (h : ∀ i, i < n → (q i = true ↔ i ≠ p)) : cntN n q = n - 1 := by
  induction n with
  | zero => omega
  | succ n ih =>
    rw [cntN_succ]
    by_cases e : p = n
    · subst e
      have h1 : cntN p q = p := cntN_all.2 fun i hi => (h i (by omega)).2 (by omega)
      have h2 : ¬ q p = true := fun hq => (h p (by omega)).1 hq rfl
      rw [h1, if_neg h2]; omega
    · rw [ih (by omega) fun i hi => h i (by omega), if_pos ((h n (by omega)).2 (by omega))]
      omega
/-- The byte with its lowest bit turned. -/
theorem xor_one : ∀ x : Nat, x < 256 → (bits .xor .u8 (x : Int) 1 = ((if x % 2 = 0 then x + 1 else x - 1 : Nat) : Int)) ∧ (if x % 2 = 0 then x + 1 else x - 1) < 256 ∧ (if x % 2 = 0 then x + 1 else x - 1) ≠ x := by decide +kernel
/-- The text's bytes as numbers, one of them turned. -/
def tnL (s : ByteArray) (p y : Nat) : List Int := (List.range s.size).map fun i => if i = p then (y : Int) else (byN s i : Int)
theorem tn_size (s : ByteArray) (p y : Nat) : (strOfNums (tnL s p y)).size = s.size := by rw [strOfNums_size]; unfold tnL; simp
theorem tn_at (s : ByteArray) (p y i : Nat) (hi : i < s.size) (hy : y < 256) : byN (strOfNums (tnL s p y)) i = if i = p then y else byN s i := by
  show ((strOfNums (tnL s p y)).data.toList.getD i 0).toNat = _
  rw [strOfNums_data]
  unfold tnL
  rw [List.map_map, List.getD_eq_getElem?_getD, List.getElem?_map, List.getElem?_range hi]
  have hb := byN_lt s i
  by_cases e : i = p
  · simp [e, Nat.mod_eq_of_lt hy]
  · simp [e]
    omega
theorem turned_agree (s : ByteArray) (p y : Nat) (hp : p < s.size) (hy : y < 256) (hne : y ≠ byN s p) : agree (byN s) (byN (strOfNums (tnL s p y))) s.size 0 = s.size - 1 := by
  unfold agree
  refine cntN_but hp fun i hi => ?_
  rw [Nat.zero_add, tn_at s p y i hi hy, beq_iff_eq]
  by_cases e : i = p
  · subst e; rw [if_pos rfl]; exact ⟨fun h => absurd h.symm hne, fun h => absurd rfl h⟩
  · rw [if_neg e]; exact ⟨fun _ => e, fun _ => rfl⟩

theorem brow_cell (s : ByteArray) (w : World) (cap : Nat) (t : TypeId) (q : Nat × Nat) (i : Nat) (hi : i < s.size) : (w.alloc (.cells (bytesRow s cap) t q)).cell? ⟨w.heap.size, i, none⟩ = some (.int .u8 (byN s i : Nat)) := by
  rw [cell_of_row _ _ _ _ _ q (heap_alloc_new w _)]
  unfold bytesRow
  have hi' : i < s.data.toList.length := by rw [← size_list]; exact hi
  rw [Array.getElem?_append_left (by rw [Array.size_map]; exact hi), Array.getElem?_map]
  unfold byN
  rw [List.getD_eq_getElem?_getD, Array.getElem?_toList]
  have : s.data[i]? = some (s.data[i]'hi) := Array.getElem?_eq_getElem hi
  rw [this]; rfl
theorem brow_frozen (s : ByteArray) (w : World) (cap : Nat) (t : TypeId) (i : Nat) (hi : i < s.size) : (w.alloc (.cells (bytesRow s cap) t ((bytesRow s cap).size, (bytesRow s cap).size + 1))).frozen? ⟨w.heap.size, i, none⟩ = false := by
  have hs : (bytesRow s cap).size ≥ s.size := by
    unfold bytesRow
    rw [Array.size_append, Array.size_map]
    exact Nat.le_add_right _ _
  unfold World.frozen?
  rw [heap_alloc_new]
  dsimp only
  rw [decide_eq_false (by omega), Bool.false_and]
set_option maxHeartbeats 1600000 in
set_option maxRecDepth 100000 in
theorem self_any (s : ByteArray) (at_ : Int) (w : World) (hs : s.size ≤ 140737488355328) (hT : ∀ w', Below w.heap.size w w' → TabsW w') :
    Calls Tryd.prog 4 #[.string s, .int .i64 at_] w fun e w' => e = .returned (.bool true) ∧ Below w.heap.size w w' := by
  have HT := Lib.hid hT
  have HS := Lib.hid (speaks_any w hT)
  by_cases hbad : s.size = 0 ∨ 1024 < s.size
  · have HA := Lib.hid (fun w1 (hb : Below w.heap.size w w1) => (agL_far (t := s) (s := s) (by omega)) ▸ agree_any s s w1 (fun h => by omega) (by unfold maxLen; omega) (by unfold maxLen; omega) (tabs_later hT hb))
    clear hT
    rcases hbad with h0 | h0
    · go_enter Tryd.func4, Tryd.ntmps4
      go_wp2_with (first
        | (go_at_call 10; (refine HS.out.mono ?_); rintro e w1 ⟨rfl, hb1⟩)
        | (go_at_call 13; (refine (HA.out w1 hb1).mono ?_); rintro e w2 ⟨v1, rfl, ⟨A1, c1, rfl, hc1, hc2, hS1⟩, hb2⟩)
        | fail)
      go_ret
      exact ⟨rfl, hb1.trans (hb2.mono hb1.size)⟩
    · go_enter Tryd.func4, Tryd.ntmps4
      go_wp2_with (first
        | (go_at_call 10; (refine HS.out.mono ?_); rintro e w1 ⟨rfl, hb1⟩)
        | (go_at_call 13; (refine (HA.out w1 hb1).mono ?_); rintro e w2 ⟨v1, rfl, ⟨A1, c1, rfl, hc1, hc2, hS1⟩, hb2⟩)
        | fail)
      go_ret
      exact ⟨rfl, hb1.trans (hb2.mono hb1.size)⟩
  · obtain ⟨n, hn⟩ : ∃ n, s.size = n := ⟨_, rfl⟩
    have hn0 : 0 < n := by omega
    have hn1 : n ≤ 1024 := by omega
    obtain ⟨p, hpn, hp⟩ : ∃ p : Nat, p < n ∧ (wrap64 (at_.tmod (n : Int) + (n : Int))).tmod (n : Int) = (p : Int) := by
      have q1 := Int.tmod_lt_of_pos at_ (show (0 : Int) < n by omega)
      have q2 : -(n : Int) < at_.tmod n := Int.lt_tmod_of_pos _ (by omega)
      have q3 : wrap64 (at_.tmod (n : Int) + (n : Int)) = at_.tmod (n : Int) + (n : Int) := by unfold wrap64; omega
      have q4 := Int.tmod_nonneg (a := at_.tmod (n : Int) + (n : Int)) (n : Int) (by omega)
      have q5 := Int.tmod_lt_of_pos (at_.tmod (n : Int) + (n : Int)) (show (0 : Int) < n by omega)
      exact ⟨((at_.tmod (n : Int) + (n : Int)).tmod (n : Int)).toNat, by omega, by rw [q3]; omega⟩
    obtain ⟨x1, x2, x3⟩ := xor_one (byN s p) (byN_lt s p)
    obtain ⟨y, hy⟩ : ∃ y, y = (if byN s p % 2 = 0 then byN s p + 1 else byN s p - 1) := ⟨_, rfl⟩
    rw [← hy] at x1 x2 x3
    have HA := Lib.hid (show ∀ w1, Below w.heap.size w w1 → Calls Tryd.prog 13 #[.string s, .string s] w1 (RetSeq Eint w1 [(n : Int)]) from fun w1 hb => by
      have := agree_any s s w1 (fun h => by omega) (by unfold maxLen; omega) (by unfold maxLen; omega) (tabs_later hT hb)
      rw [agL_one rfl (by omega) (by omega), self_all, hn] at this
      exact this)
    have hz := tn_size s p y
    have HB := Lib.hid (show ∀ w1, Below w.heap.size w w1 → Calls Tryd.prog 13 #[.string s, .string (strOfNums (tnL s p y))] w1 (RetSeq Eint w1 [((n - 1 : Nat) : Int)]) from fun w1 hb => by
      have := agree_any s (strOfNums (tnL s p y)) w1 (fun h => by omega) (by unfold maxLen; omega) (by unfold maxLen; omega) (tabs_later hT hb)
      rw [agL_one hz (by omega) (by omega), hz, turned_agree s p y (by omega) x2 x3, hn] at this
      exact this)
    have hk := fun w => run_bytes_of_string (P := Tryd.prog) w 9 31 5 s Tryd.underlying9 Tryd.underlying31 Tryd.underlying5
    clear hT hbad hz hy
    go_enter Tryd.func4, Tryd.ntmps4
    go_wp2_with (go_at_call 10; (refine HS.out.mono ?_); rintro e w1 ⟨rfl, hb1⟩; have hc0 := brow_cell s w1 (grownCap w1 n 0 5) 5 ((bytesRow s (grownCap w1 n 0 5)).size, (bytesRow s (grownCap w1 n 0 5)).size + 1) p (by omega); have hf0 := brow_frozen s w1 (grownCap w1 n 0 5) 5 p (by omega))
    clear hk
    obtain ⟨cap, hcap⟩ : ∃ cap, cap = grownCap w1 n 0 5 := ⟨_, rfl⟩
    rw [← hcap] at hc0 hf0 ⊢
    clear hcap
    have hcs := fun i hi => brow_cell s w1 cap 5 ((bytesRow s cap).size, (bytesRow s cap).size + 1) i hi
    have hbb := (hb1.alloc hb1.size (.cells (bytesRow s cap) 5 ((bytesRow s cap).size, (bytesRow s cap).size + 1))).setCell (p := ⟨w1.heap.size, p, none⟩) hb1.size (.int .u8 (y : Int))
    obtain ⟨wA, hwA⟩ : ∃ wA, wA = ((w1.alloc (.cells (bytesRow s cap) 5 ((bytesRow s cap).size, (bytesRow s cap).size + 1))).setCell ⟨w1.heap.size, p, none⟩ (.int .u8 (y : Int))).drew := ⟨_, rfl⟩
    have hbA : Below w.heap.size w wA := by rw [hwA]; exact hbb.drew
    have hgA : w1.heap.size < wA.heap.size := by rw [hwA]; simp
    have hcA : ∀ i, i < n → wA.cell? ⟨w1.heap.size, 0 + i, none⟩ = some (.int .u8 ((tnL s p y).getD i 0)) := fun i hi => by
      rw [Nat.zero_add, hwA]
      have hd : (tnL s p y).getD i 0 = if i = p then (y : Int) else (byN s i : Int) := by
        unfold tnL
        rw [List.getD_eq_getElem?_getD, List.getElem?_map, List.getElem?_range (by omega)]; rfl
      rw [hd]
      by_cases e : i = p
      · subst e
        rw [if_pos rfl]
        exact World.cell?_setCell_same _ _ _ (hcs i (by omega))
      · rw [if_neg e]
        exact (World.cell?_setCell_other _ _ _ _ (fun h => e (by injection h with _ h2 _; exact h2.symm))).trans (hcs i (by omega))
    have hcv : ∀ w', Below wA.heap.size wA w' → (convert 31 9 (.slice (some ⟨w1.heap.size, 0, none⟩) n cap)).run Tryd.prog w' = .ok (.string (strOfNums (tnL s p y))) w' := fun w' hb =>
      run_convert_bytes_arg (P := Tryd.prog) w' 31 5 Tryd.underlying31 Tryd.underlying5 w1.heap.size 0 n cap (tnL s p y) (by unfold tnL; simp [hn]) (fun i hi => (hb.cell (p := ⟨w1.heap.size, 0 + i, none⟩) hgA).trans (hcA i hi)) 9 Tryd.underlying9
    rw [← hwA]
    have HCV := Lib.hid hcv
    have HBA := Lib.hid hbA
    have e0 := hcv wA (Below.refl _ _)
    have e1 := hcv wA.drew (Below.refl _ _).drew
    clear hcs hbb hcA hc0 hf0 hwA hcv hbA hb1
    go_region_law (first
      | (refine step_call2 (by rfl) 13 (.tmp 41) (.tmp 42) _ (by rfl) Tryd.func13 (by kernel_rfl) (by kernel_rfl) (.string s) (.string s) (by rfl) (by rfl) ?_
         refine (HA.out _ (by first | exact HBA.out.drew | exact HBA.out.trans (HB7.out.mono HBA.out.size))).mono ?_
         rintro e w6 ⟨v6, rfl, ⟨A6, c6, rfl, hc6, hd6, hS6⟩, hb6⟩
         simp only [CallEnd]
         have HS6 := Lib.hid hS6
         have HB6 := Lib.hid (show Below wA.heap.size wA w6 by first | exact ⟨hb6.os, hb6.tape, hb6.output, hb6.size, hb6.block⟩ | exact HB7.out.trans (hb6.mono HB7.out.size))
         have e6 := HCV.out w6 HB6.out
         try have HS7 := Lib.hid ((HS7.out.below hb6).more hb6.size)
         clear hS6 hc6 hd6 hb6)
      | (refine step_call2 (by rfl) 13 (.tmp 44) (.tmp 46) _ (by rfl) Tryd.func13 (by kernel_rfl) (by kernel_rfl) (.string s) (.string (strOfNums (tnL s p y))) (by rfl) (by rfl) ?_
         refine (HB.out _ (by first | exact HBA.out.drew | exact HBA.out.trans (HB6.out.mono HBA.out.size))).mono ?_
         rintro e w7 ⟨v7, rfl, ⟨A7, c7, rfl, hc7, hd7, hS7⟩, hb7⟩
         simp only [CallEnd]
         have HS7 := Lib.hid hS7
         have HB7 := Lib.hid (show Below wA.heap.size wA w7 by first | exact ⟨hb7.os, hb7.tape, hb7.output, hb7.size, hb7.block⟩ | exact HB6.out.trans (hb7.mono HB6.out.size))
         have e7 := HCV.out w7 HB7.out
         try have HS6 := Lib.hid ((HS6.out.below hb7).more hb7.size)
         clear hS7 hc7 hd7 hb7))
    all_goals
      obtain ⟨b6, o6, rfl, _, hx6⟩ := HS6.out.int_ (show 0 < [(n : Int)].length by simp)
      obtain ⟨b7, o7, rfl, _, hx7⟩ := HS7.out.int_ (show 0 < [((n - 1 : Nat) : Int)].length by simp)
      simp only [List.getElem_cons_zero, Nat.add_zero] at hx6 hx7
      have hn2 : (n : Int) - 1 = ((n - 1 : Nat) : Int) := by omega
      go_wp2
      go_ret
      first
        | exact ⟨rfl, HBA.out.trans (HB7.out.mono HBA.out.size)⟩
        | exact ⟨rfl, HBA.out.trans (HB6.out.mono HBA.out.size)⟩
end Go.Proofs.YtnjmefjcaiepfaaDoor
