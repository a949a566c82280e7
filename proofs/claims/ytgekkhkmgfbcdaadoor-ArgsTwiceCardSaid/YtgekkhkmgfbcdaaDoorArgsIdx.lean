/- Chapter 25: the walks of slices.IndexFunc with Parse's closure. -/
import Derived.Test.YtgekkhkmgfbcdaaDoorArgsVal
import Derived.Deep.Upon
namespace Go.Proofs.YtgekkhkmgfbcdaaDoor
open Go.Shelf Go.RowKit

/-- The places R stand at the head of block q, which has room for 18. -/
structure PlRow (po pb q : Nat) (R : List Nat) (w : World) : Prop where
  cells : ∀ i u, (allPl po pb R)[i]? = some u → w.cell? ⟨q, i, none⟩ = some u
  room : ∀ i, i < 72 → (w.cell? ⟨q, i, none⟩).isSome = true
  free : ∀ i, i < 72 → w.frozen? ⟨q, i, none⟩ = false
theorem encPl_len (po pb j : Nat) : (encPl po pb j).length = 4 := rfl
theorem allPl_len (po pb : Nat) (R : List Nat) : (allPl po pb R).length = R.length * 4 := by
  induction R with
  | nil => rfl
  | cons j R ih => show (encPl po pb j ++ allPl po pb R).length = _; rw [List.length_append, ih, encPl_len, List.length_cons]; omega
theorem allPl_at (po pb : Nat) (R : List Nat) (k : Nat) (hk : k < R.length) (i : Nat) (hi : i < 4) : (allPl po pb R)[k * 4 + i]? = (encPl po pb (R.getD k 0))[i]? := by
  induction R generalizing k with
  | nil => simp at hk
  | cons j R ih =>
    show (encPl po pb j ++ allPl po pb R)[k * 4 + i]? = _
    cases k with
    | zero => rw [List.getElem?_append_left (by rw [encPl_len]; omega)]; simp
    | succ k =>
      rw [List.getElem?_append_right (by rw [encPl_len]; omega), encPl_len, show (k + 1) * 4 + i - 4 = k * 4 + i by omega, ih k (by simpa using hk)]
      simp
theorem allPl_app (po pb : Nat) (R S : List Nat) : allPl po pb (R ++ S) = allPl po pb R ++ allPl po pb S := by unfold allPl; rw [List.flatMap_append]
theorem PlRow.below {po pb q : Nat} {R : List Nat} {w w' : World} (h : PlRow po pb q R w) (hq : q < w.heap.size) (hb : Below w.heap.size w w') : PlRow po pb q R w' :=
  ⟨fun i u hu => (hb.cell (p := ⟨q, i, none⟩) hq).trans (h.cells i u hu), fun i hi => by rw [hb.cell (p := ⟨q, i, none⟩) hq]; exact h.room i hi, fun i hi => by rw [hb.frozen (p := ⟨q, i, none⟩) hq]; exact h.free i hi⟩
theorem PlRow.at_ {po pb q : Nat} {R : List Nat} {w : World} (h : PlRow po pb q R w) {k : Nat} (hk : k < R.length) :
    w.cell? ⟨q, k * 4, none⟩ = some (.string (keyN (R.getD k 0))) ∧ w.cell? ⟨q, k * 4 + 1, none⟩ = (encPl po pb (R.getD k 0))[1]? ∧ w.cell? ⟨q, k * 4 + 2, none⟩ = (encPl po pb (R.getD k 0))[2]? ∧ w.cell? ⟨q, k * 4 + 3, none⟩ = (encPl po pb (R.getD k 0))[3]? := by
  have hx := fun i (hi : i < 4) => allPl_at po pb R k hk i hi
  refine ⟨h.cells (k * 4) _ ((hx 0 (by decide)).trans rfl), ?_, ?_, ?_⟩
  · exact (h.cells (k * 4 + 1) _ ((hx 1 (by decide)).trans rfl)).trans rfl
  · exact (h.cells (k * 4 + 2) _ ((hx 2 (by decide)).trans rfl)).trans rfl
  · exact (h.cells (k * 4 + 3) _ ((hx 3 (by decide)).trans rfl)).trans rfl
theorem PlRow.new (po pb : Nat) (w : World) : PlRow po pb w.heap.size (List.range 18) (w.alloc (.cells (allPl po pb (List.range 18)).toArray 78)).drew := by
  have hh : (w.alloc (.cells (allPl po pb (List.range 18)).toArray 78)).drew.heap[w.heap.size]? = _ := heap_alloc_new w (.cells (allPl po pb (List.range 18)).toArray 78)
  refine ⟨fun i u hu => ?_, fun i hi => ?_, fun i hi => Lib.frozen_of_heap hh i⟩
  · rw [Lib.cell_of_heap hh, List.getElem?_toArray]; exact hu
  · rw [Lib.cell_of_heap hh, List.getElem?_toArray, List.getElem?_eq_getElem (by rw [allPl_len]; exact hi)]; rfl

set_option maxRecDepth 100000 in
/-- The closure: is a place's key the text that stands at i? -/
theorem keyIs_any (j : Nat) (v1 v2 v3 : Value) (x : ByteArray) (pl pi g o n c : Nat) (i : Int) (w : World) (hl : w.cell? ⟨pl, 0, none⟩ = some (.slice (some ⟨g, o, none⟩) n c)) (hi : w.cell? ⟨pi, 0, none⟩ = some (.int .i64 i))
    (h0 : 0 ≤ i) (hn : i < n) (hx : w.cell? ⟨g, o + i.toNat, none⟩ = some (.string x)) :
    Calls Tryd.prog 27 #[.agg #[.string (keyN j), v1, v2, v3], .pointer (some ⟨pl, 0, none⟩), .pointer (some ⟨pi, 0, none⟩)] w fun e w' => e = .returned (.bool ((keyN j).toList == x.toList)) ∧ Below w.heap.size w w' := by
  generalize keyN j = key
  have l1 := cell_lt hl
  have l2 := cell_lt hi
  have l3 := cell_lt hx
  obtain ⟨m, rfl⟩ : ∃ m : Nat, i = m := ⟨i.toNat, by omega⟩
  rw [Int.toNat_natCast] at hx
  go_enter Tryd.func27, Tryd.ntmps27
  go_wp2
  go_quiet (fail)
  go_wp2
  go_ret
  exact ⟨rfl, below_drewN ((Below.refl _ w).alloc (Nat.le_refl _) _) _⟩

/-- What the search tells. -/
def IdxRes (R : List Nat) (x : ByteArray) (z : Int) : Prop := (z = -1 ∧ ∀ j, j < R.length → keyN (R.getD j 0) ≠ x) ∨ ∃ k : Nat, z = k ∧ k < R.length ∧ keyN (R.getD k 0) = x

theorem key_same {a b : ByteArray} : (a.toList == b.toList) = true ↔ a = b := by
  rw [ByteArray.toList_eq, ByteArray.toList_eq, beq_iff_eq]
  exact ⟨fun h => congrArg ByteArray.mk (Array.toList_inj.1 h), fun h => by rw [h]⟩

set_option maxRecDepth 100000 in
set_option maxHeartbeats 1000000 in
theorem index_any (po pb q : Nat) (R : List Nat) (x : ByteArray) (pl pi g o n c : Nat) (i : Int) (w : World) (hP : PlRow po pb q R w) (hq : q < w.heap.size) (hR : R.length ≤ 18)
    (hl : w.cell? ⟨pl, 0, none⟩ = some (.slice (some ⟨g, o, none⟩) n c)) (hi : w.cell? ⟨pi, 0, none⟩ = some (.int .i64 i)) (h0 : 0 ≤ i) (hn : i < n) (hx : w.cell? ⟨g, o + i.toNat, none⟩ = some (.string x)) :
    Calls Tryd.prog 26 #[.slice (some ⟨q, 0, none⟩) R.length 18, .func (.func 27) #[] #[.pointer (some ⟨pl, 0, none⟩), .pointer (some ⟨pi, 0, none⟩)]] w fun e w' =>
      ∃ z, e = .returned (.int .i64 z) ∧ IdxRes R x z ∧ Below w.heap.size w w' := by
  have l1 := cell_lt hl
  have l2 := cell_lt hi
  have l3 := cell_lt hx
  have HP := Lib.hid hP
  have HL := Lib.hid hl
  have HI := Lib.hid hi
  have HX := Lib.hid hx
  obtain ⟨m, hm⟩ : ∃ m, R.length = m := ⟨_, rfl⟩
  have HM := Lib.hid hm
  rw [hm] at hR ⊢
  clear hP hl hi hx hm
  go_enter Tryd.func26, Tryd.ntmps26
  go_wp2
  go_loopw [5, 8] (fun _ s8 wr => ∃ k : Nat, k ≤ m ∧ s8 = .int .i64 k ∧ Below w.heap.size w wr ∧ Hid (∀ j, j < k → keyN (R.getD j 0) ≠ x)) (fun _ s8 _ => m + 1 - (intOf s8).toNat)
  case atStart => exact ⟨0, by omega, rfl, Below.refl _ _, Lib.hid fun j hj => absurd hj (Nat.not_lt_zero _)⟩
  case round =>
    obtain ⟨k, hk, rfl, hbw, HN⟩ := hrel
    by_cases hlt : k < m
    · obtain ⟨c0, c1, c2, c3⟩ := (HP.out.below hq hbw).at_ (k := k) (by rw [HM.out]; exact hlt)
      have x0 := (hbw.cell (p := ⟨pl, 0, none⟩) l1).trans HL.out
      have x1 := (hbw.cell (p := ⟨pi, 0, none⟩) l2).trans HI.out
      have x2 := (hbw.cell (p := ⟨g, o + i.toNat, none⟩) l3).trans HX.out
      obtain ⟨j, hj⟩ : ∃ j, R.getD k 0 = j := ⟨_, rfl⟩
      rw [hj] at c0 c1 c2 c3
      have HJ := Lib.hid hj
      have HC := Lib.hid (fun v1 v2 v3 => keyIs_any j v1 v2 v3 x pl pi g o n c i wr x0 x1 h0 hn x2)
      obtain ⟨v1, hv1⟩ : ∃ v, (encPl po pb j)[1]? = some v := ⟨_, rfl⟩
      obtain ⟨v2, hv2⟩ : ∃ v, (encPl po pb j)[2]? = some v := ⟨_, rfl⟩
      obtain ⟨v3, hv3⟩ : ∃ v, (encPl po pb j)[3]? = some v := ⟨_, rfl⟩
      rw [hv1] at c1
      rw [hv2] at c2
      rw [hv3] at c3
      clear hj x0 x1 x2 hv1 hv2 hv3
      have hkm : (k : Int) < (m : Int) := by omega
      cases hq2 : ((keyN j).toList == x.toList)
      · have HQ := Lib.hid hq2
        rw [hq2] at HC
        clear hq2
        go_wp2_with (go_at_call 27; refine (HC.out _ _ _).mono ?_; rintro e w2 ⟨rfl, hb2⟩)
        go_roundw
        case rel => exact ⟨k + 1, by omega, by go_num, hbw.trans (hb2.mono hbw.size), Lib.hid fun i hi => by
          rcases Nat.lt_or_ge i k with h | h
          · exact HN.out i h
          · obtain rfl : i = k := by omega
            rw [HJ.out]
            intro e
            have := key_same.2 e
            rw [HQ.out] at this
            cases this⟩
        case measure => simp [intOf]; omega
      · have HQ := Lib.hid hq2
        rw [hq2] at HC
        clear hq2
        go_wp2_with (go_at_call 27; refine (HC.out _ _ _).mono ?_; rintro e w2 ⟨rfl, hb2⟩)
        go_ret
        exact ⟨_, rfl, .inr ⟨k, rfl, by rw [HM.out]; exact hlt, by rw [HJ.out]; exact key_same.1 HQ.out⟩, hbw.trans (hb2.mono hbw.size)⟩
    · have hkm : m ≤ k := by omega
      go_wp2
      go_ret
      exact ⟨_, rfl, .inl ⟨rfl, fun j hj => HN.out j (by rw [HM.out] at hj; omega)⟩, hbw⟩

end Go.Proofs.YtgekkhkmgfbcdaaDoor
