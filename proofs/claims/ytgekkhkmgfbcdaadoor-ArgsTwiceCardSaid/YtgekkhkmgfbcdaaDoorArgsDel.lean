/- Chapter 25: the walk of slices.Delete of one place. -/
import Derived.Test.YtgekkhkmgfbcdaaDoorArgsIdx
import Derived.Lib.SliceRun
import Derived.Deep.RegionLaw
import Derived.Lib.LazyBuf
import Derived.Deep.Upon
import Derived.Deep.MidRow
namespace Go.Proofs.YtgekkhkmgfbcdaaDoor
open Go.Shelf Go.RowKit

theorem place_info : ∃ i, Tryd.prog.info? 78 = some i ∧ i.size = 4 := Option.map_eq_some_iff.1 (show (Tryd.prog.info? 78).map (·.size) = some 4 by kernel_rfl)
def zeroPl : List Value := [.string ⟨#[]⟩, .pointer none, .pointer none, .pointer none]

theorem clear_one (w : World) (q o c : Nat) (ty : TypeId) (hc : ∀ j, j < 4 → (w.cell? ⟨q, o + j, none⟩).isSome = true) (hf : ∀ j, j < 4 → w.frozen? ⟨q, o + j, none⟩ = false) :
    (Builtin.clear_ #[70] ty #[.slice (some ⟨q, o, none⟩) 1 c]).run Tryd.prog w = .ok (.tuple #[]) (w.setCells q o zeroPl) := by
  have hz : ∀ w, (zeroValue 78).run Tryd.prog w = .ok (.agg zeroPl.toArray) w := fun _ => by kernel_rfl
  have hzc : (Builtin.zeroCells (Value.agg zeroPl.toArray).cells 1).toList = zeroPl := by kernel_rfl
  have hst := run_storeCells_cells (P := Tryd.prog) q o zeroPl 0 w (by simpa [zeroPl] using hc) (by simpa [zeroPl] using hf) (by intro v hv; simp [zeroPl] at hv; rcases hv with rfl | rfl <;> rfl)
  simp only [Nat.add_zero] at hst
  simp [Builtin.clear_, run_underlying Tryd.underlying70, hz, hzc, hst]

theorem PlRow.take {po pb q : Nat} {R : List Nat} {w : World} (h : PlRow po pb q R w) (k : Nat) : PlRow po pb q (R.take k) w := by
  refine ⟨fun i u hu => h.cells i u ?_, h.room, h.free⟩
  have hs : allPl po pb R = allPl po pb (R.take k) ++ allPl po pb (R.drop k) := by rw [← allPl_app, List.take_append_drop]
  rw [hs, List.getElem?_append_left (List.getElem?_eq_some_iff.1 hu).1]
  exact hu
/-- Cells laid behind the first places. -/
theorem PlRow.lay {po pb q : Nat} {R S : List Nat} {w : World} (h : PlRow po pb q R w) (hr : R.length + S.length ≤ 18) : PlRow po pb q (R ++ S) (w.setCells q (R.length * 4) (allPl po pb S)) := by
  refine ⟨fun i u hu => ?_, fun i hi => ?_, fun i hi => by rw [World.frozen?_setCells]; exact h.free i hi⟩
  · rw [allPl_app] at hu
    rcases Nat.lt_or_ge i (R.length * 4) with hlt | hge
    · rw [List.getElem?_append_left (by rw [allPl_len]; exact hlt)] at hu
      rw [World.cell?_setCells_out q _ _ w ⟨q, i, none⟩ (fun _ _ => Or.inl hlt)]
      exact h.cells i u hu
    · rw [List.getElem?_append_right (by rw [allPl_len]; exact hge), allPl_len] at hu
      obtain ⟨hlt, he⟩ := List.getElem?_eq_some_iff.1 hu
      have hlt' : i - R.length * 4 < S.length * 4 := by rw [allPl_len] at hlt; exact hlt
      have := World.cell?_setCells_in q (allPl po pb S) (R.length * 4) w (fun j hj => h.room _ (by rw [allPl_len] at hj; omega)) (i - R.length * 4) hlt
      rw [show R.length * 4 + (i - R.length * 4) = i by omega] at this
      rw [this, he]
  · exact World.isSome_setCells q _ _ w _ (h.room i hi)

/-- Cells behind the places turned. -/
theorem PlRow.behind {po pb q : Nat} {R : List Nat} {w : World} (h : PlRow po pb q R w) (vs : List Value) : PlRow po pb q R (w.setCells q (R.length * 4) vs) := by
  refine ⟨fun i u hu => ?_, fun i hi => World.isSome_setCells q _ _ w _ (h.room i hi), fun i hi => by rw [World.frozen?_setCells]; exact h.free i hi⟩
  have hlt : i < R.length * 4 := by rw [← allPl_len]; exact (List.getElem?_eq_some_iff.1 hu).1
  rw [World.cell?_setCells_out q _ _ w ⟨q, i, none⟩ (fun _ _ => Or.inl hlt)]
  exact h.cells i u hu
theorem PlRow.drew {po pb q : Nat} {R : List Nat} {w : World} (h : PlRow po pb q R w) : PlRow po pb q R w.drew := ⟨h.cells, h.room, h.free⟩
theorem grown_setCells {w w' : World} {q : Nat} (h : w.grownBy w' (some q)) (o : Nat) (vs : List Value) : w.grownBy (w'.setCells q o vs) (some q) := by
  induction vs generalizing o w' with
  | nil => exact h
  | cons v vs ih =>
    refine ih (w' := w'.setCell ⟨q, o, none⟩ v) ?_ (o + 1)
    refine ⟨h.os, h.tape, h.output, by simpa [World.setCell] using h.size, fun k hk hne => ?_⟩
    rw [← h.block k hk hne]
    have : k ≠ q := fun e => hne (by rw [e])
    exact World.heap_setCells_other w' q o [v] (Nat.lt_of_lt_of_le hk h.size) this

theorem allPl_one (po pb : Nat) (R : List Nat) : ∀ u ∈ allPl po pb R, u.oneCell' = true := by
  intro u hu
  obtain ⟨j, _, hj⟩ := List.mem_flatMap.1 hu
  simp only [encPl, List.mem_cons, List.not_mem_nil, or_false] at hj
  rcases hj with rfl | rfl | rfl | rfl
  · rfl
  all_goals (split <;> rfl)

set_option maxRecDepth 100000 in
set_option maxHeartbeats 1000000 in
theorem delete_any (po pb q : Nat) (R : List Nat) (k : Nat) (w : World) (hP : PlRow po pb q R w) (hR : R.length ≤ 18) (hk : k < R.length) :
    Calls Tryd.prog 29 #[.slice (some ⟨q, 0, none⟩) R.length 18, .int .i64 k, .int .i64 ((k + 1 : Nat) : Int)] w fun e w' =>
      e = .returned (.slice (some ⟨q, 0, none⟩) (R.length - 1) 18) ∧ PlRow po pb q (R.eraseIdx k) w' ∧ w.grownBy w' (some q) := by
  obtain ⟨i0, hi0, hz1⟩ := place_info
  obtain ⟨m, hm⟩ : ∃ m, R.length = m := ⟨_, rfl⟩
  obtain ⟨news, hnews⟩ : ∃ news, news = allPl po pb (R.drop (k + 1)) := ⟨_, rfl⟩
  have hlen : news.length = (m - (k + 1)) * 4 := by rw [hnews, allPl_len, List.length_drop, hm]
  have hL : (R.take k).length = k := by rw [List.length_take]; omega
  have hE : R.eraseIdx k = R.take k ++ R.drop (k + 1) := List.eraseIdx_eq_take_drop_succ R k
  have hP1 : PlRow po pb q (R.eraseIdx k) (w.drew.setCells q (0 + k * 4) news) := by
    have := ((hP.take k).drew).lay (S := R.drop (k + 1)) (by rw [hL, List.length_drop]; omega)
    rw [hL, ← hnews] at this
    rw [hE, Nat.zero_add]
    exact this
  have hLE : (R.eraseIdx k).length = m - 1 := by rw [hE, List.length_append, hL, List.length_drop, hm]; omega
  obtain ⟨A, hA, hsrc⟩ : ∃ A : Addr, (if 18 = k + 1 then (some ⟨q, 0, none⟩ : Option Addr) else some ⟨q, 0 + (k + 1) * 4, none⟩) = some A ∧ Hid (∀ t u, news[t]? = some u → w.drew.cell? (A.add t) = some u) := by
    by_cases h : 18 = k + 1
    · refine ⟨⟨q, 0, none⟩, by rw [if_pos h], fun t u hu => ?_⟩
      have h0 : news.length = 0 := by rw [hlen]; omega
      rw [List.length_eq_zero_iff.1 h0] at hu
      cases hu
    · refine ⟨⟨q, 0 + (k + 1) * 4, none⟩, by rw [if_neg h], fun t u hu => ?_⟩
      rw [add_off]
      refine hP.cells _ u ?_
      have hs : allPl po pb R = allPl po pb (R.take (k + 1)) ++ allPl po pb (R.drop (k + 1)) := by rw [← allPl_app, List.take_append_drop]
      have hl2 : (allPl po pb (R.take (k + 1))).length = (k + 1) * 4 := by rw [allPl_len, List.length_take]; congr 1; omega
      rw [hs, List.getElem?_append_right (by omega), hl2, show 0 + (k + 1) * 4 + t - (k + 1) * 4 = t by omega, ← hnews]
      exact hu
  have s1 := Lib.hid hlen
  have s2 : Hid (∀ u ∈ news, u.oneCell' = true) := by rw [hnews]; exact allPl_one _ _ _
  have s3 : Hid (∀ t, t < news.length → (w.drew.cell? ⟨q, 0 + k * 4 + t, none⟩).isSome = true ∧ w.drew.frozen? ⟨q, 0 + k * 4 + t, none⟩ = false) := by
    intro t ht
    rw [hlen] at ht
    exact ⟨hP.room _ (by omega), hP.free _ (by omega)⟩
  obtain ⟨W1, hW1⟩ : ∃ W1, W1 = w.drew.setCells q (0 + k * 4) news := ⟨_, rfl⟩
  rw [← hW1] at hP1
  have hG1 : w.grownBy W1 (some q) := by
    rw [hW1]
    exact grown_setCells (w := w) (w' := w.drew) ⟨rfl, rfl, rfl, Nat.le_refl _, fun _ _ _ => rfl⟩ _ _
  have hcl : ∀ ty, (Builtin.clear_ #[70] ty #[.slice (some ⟨q, (m - 1) * 4, none⟩) 1 (18 - (m - 1))]).run Tryd.prog W1 = .ok (.tuple #[]) (W1.setCells q ((m - 1) * 4) zeroPl) :=
    fun ty => clear_one W1 q _ _ ty (fun j hj => hP1.room _ (by omega)) (fun j hj => hP1.free _ (by omega))
  have hP2 := hP1.behind zeroPl
  rw [hLE] at hP2
  have X := Lib.hid (show PlRow po pb q (R.eraseIdx k) (W1.setCells q ((m - 1) * 4) zeroPl) ∧ w.grownBy (W1.setCells q ((m - 1) * 4) zeroPl) (some q) from ⟨hP2, grown_setCells hG1 _ _⟩)
  have hW := Lib.hid hW1
  have HM := Lib.hid hm
  rw [hm] at hk hR ⊢
  clear hW1 hP1 hP2 hG1 hP hnews hlen hE hLE hL hm
  by_cases h17 : k = 17
  · obtain rfl : m = 18 := by omega
    subst h17
    have hcl' : (Builtin.clear_ #[70] 0 #[.slice (some ⟨q, 68, none⟩) 1 1]).run Tryd.prog W1 = .ok (.tuple #[]) (W1.setCells q 68 zeroPl) := hcl 0
    have X' : Hid (PlRow po pb q (R.eraseIdx 17) (W1.setCells q 68 zeroPl) ∧ w.grownBy (W1.setCells q 68 zeroPl) (some q)) := X
    clear hcl X
    go_enter Tryd.func29, Tryd.ntmps29
    go_wp2_with fail
    go_region_law (refine step_append_room rfl (.tmp 22) (.tmp 25) 70 rfl 78 i0 4 Tryd.underlying70 hi0 hz1 q 0 17 18 (by simp [Act.eval, Act.put]) A (18 - (17 + 1)) (18 - (17 + 1)) news (by simpa [Act.eval, Act.put] using hA) s1.out hsrc.out s2.out (by omega) s3.out ?_; rw [← hW.out])
    go_wp2
    go_ret
    exact ⟨rfl, X'.out⟩
  · have hA' : A = ⟨q, 0 + (k + 1) * 4, none⟩ := by rw [if_neg (by omega)] at hA; exact (Option.some.inj hA).symm
    have hn18 : ¬ 18 = k + 1 := by omega
    have e1 : k + (m - (k + 1)) = m - 1 := by omega
    have e2 : m - (k + (m - (k + 1))) = 1 := by omega
    have hcl' : (Builtin.clear_ #[70] 0 #[.slice (some ⟨q, (k + (m - (k + 1))) * 4, none⟩) (m - (k + (m - (k + 1)))) (18 - (k + (m - (k + 1))))]).run Tryd.prog W1 = .ok (.tuple #[]) (W1.setCells q ((m - 1) * 4) zeroPl) := by rw [e2, e1]; exact hcl 0
    have E1 := Lib.hid e1
    subst hA'
    have hkk : (k : Int) ≤ (k : Int) + 1 := by omega
    have hk1 : (k : Int) + 1 ≤ (m : Int) := by omega
    have hic : k ≤ 18 := by omega
    have hjc : k + 1 ≤ 18 := by omega
    have hic' : (k : Int) ≤ 18 := by omega
    have hjc' : (k : Int) + 1 ≤ 18 := by omega
    have hk0 : (0 : Int) ≤ (k : Int) := by omega
    have hk1' : (0 : Int) ≤ (k : Int) + 1 := by omega
    have hkm : (k : Int) + 1 ≤ (m : Int) ∧ (m : Int) ≤ 18 := by omega
    have hne : ((k : Int) == (k : Int) + 1) = false := by simp; omega
    clear hcl e1 e2 hA h17
    go_enter Tryd.func29, Tryd.ntmps29
    go_wp2_with fail
    go_region_law (refine step_append_room rfl (.tmp 22) (.tmp 25) 70 rfl 78 i0 4 Tryd.underlying70 hi0 hz1 q 0 k 18 (by simp [Act.eval, Act.put]) ⟨q, 0 + (k + 1) * 4, none⟩ (m - (k + 1)) (18 - (k + 1)) news (by simp [Act.eval, Act.put, hn18]) s1.out hsrc.out s2.out (by omega) s3.out ?_; rw [← hW.out])
    go_wp2
    go_ret
    exact ⟨by rw [← E1.out]; rfl, X.out⟩

end Go.Proofs.YtgekkhkmgfbcdaaDoor
