/- Chapter 25: the walk of the law ArgsParses: the law itself. -/
import Derived.Test.YtgekkhkmgfbcdaaDoorArgsParLaw
import Derived.Test.YtgekkhkmgfbcdaaDoorQuietRow
import Derived.Deep.DeepCutAuto
namespace Go.Proofs.YtgekkhkmgfbcdaaDoor
open Go.Shelf Go.RowKit

theorem base_four {w : World} (h : Base w) : 4 ≤ w.heap.size := by
  obtain ⟨m, hm⟩ := h.most
  obtain ⟨ev, hv, _⟩ := h.syn
  obtain ⟨eu, hu, _⟩ := h.rng
  have h1 := cell_lt hm
  have h2 := cell_lt hv
  have h3 := cell_lt hu
  omega

set_option maxRecDepth 100000 in
set_option maxHeartbeats 4000000 in
theorem parses_law (s : ByteArray) (w : World) (hs : s.size ≤ 1048576) (hB : Base w) :
    Calls Tryd.prog 5 #[.string s] w fun e w' => e = .returned (.bool true) ∧ Below w.heap.size w w' := by
  have H := Lib.hid hB
  clear hB
  obtain ⟨vs, code, at_, hT, -, hP1, hP2⟩ := parse_both s (by omega)
  obtain ⟨n0, n1, n2, n3, n4, b0, b1, b2, b3, b4, b5, b6, b7, b8, b9, t0, t1, t2, rfl⟩ := hT.lit
  have hP1' : ∀ w, Base w → 4 ≤ w.heap.size → Calls Tryd.prog 13 #[.string s] w fun e w' => e = .returned (.tuple #[.agg #[.int .i64 n0, .int .i64 n1, .int .i64 n2, .int .i64 n3, .bool b0, .bool b1, .bool b2, .bool b3, .bool b4, .bool b5, .bool b6, .bool b7, .bool b8, .bool b9, .int .i64 n4, .string t0, .string t1], .string t2, .agg #[.int .i64 code, .int .i64 at_]]) ∧ Below w.heap.size w w' := fun w hB h6 => hP1 w hB h6
  have hP2' : ∀ w, Calls Tryd.prog 14 #[.string s] w fun e w' => e = .returned (.tuple #[.agg #[.int .i64 n0, .int .i64 n1, .int .i64 n2, .int .i64 n3, .int .i64 n4, .bool b0, .bool b1, .bool b2, .bool b3, .bool b4, .bool b5, .bool b6, .bool b7, .bool b8, .bool b9, .string t0, .string t1, .string t2], .int .i64 code, .int .i64 at_]) ∧ Below w.heap.size w w' := fun w => hP2 w
  have HP1 := Lib.hid hP1'
  have HP2 := Lib.hid hP2'
  clear hT hP1 hP2 hP1' hP2'
  have hfe := faultEq_same code at_
  go_enter Tryd.func5, Tryd.ntmps5
  go_upto_region 3 with (go_at_call 8; refine (speaks_any _ H.out).mono ?_; rintro e w1 ⟨rfl, hb1⟩)
  go_upto_region 5 with (first
    | (go_at_call 13; refine (HP1.out _ (H.out.below hb1) (base_four (H.out.below hb1))).mono ?_; rintro e w2 ⟨rfl, hb2⟩)
    | (go_at_call 14; refine (HP2.out _).mono ?_; rintro e w3 ⟨rfl, hb3⟩))
  obtain ⟨O1, hO1⟩ : ∃ O, O = Obj.cells #[Value.int .i64 n0, .int .i64 n1, .int .i64 n2, .int .i64 n3, .bool b0, .bool b1, .bool b2, .bool b3, .bool b4, .bool b5, .bool b6, .bool b7, .bool b8, .bool b9, .int .i64 n4, .string t0, .string t1] 39 := ⟨_, rfl⟩
  obtain ⟨O2, hO2⟩ : ∃ O, O = Obj.cells #[.int .i64 code, .int .i64 at_] 27 := ⟨_, rfl⟩
  obtain ⟨O3, hO3⟩ : ∃ O, O = Obj.cells #[Value.int .i64 n0, .int .i64 n1, .int .i64 n2, .int .i64 n3, .int .i64 n4, .bool b0, .bool b1, .bool b2, .bool b3, .bool b4, .bool b5, .bool b6, .bool b7, .bool b8, .bool b9, .string t0, .string t1, .string t2] 46 := ⟨_, rfl⟩
  rw [← hO1, ← hO2] at hb3
  obtain ⟨k1, k2, hb23, z3⟩ := two_kept hb3
  have hb13 := (hb1.trans (hb2.mono hb1.size)).trans (hb23.mono (hb1.trans (hb2.mono hb1.size)).size)
  obtain ⟨W, hW⟩ : ∃ W, W = w3.alloc O3 := ⟨_, rfl⟩
  have hbW : Below w3.heap.size w3 W := by rw [hW]; exact (Below.refl _ w3).alloc (Nat.le_refl _) O3
  have q1 : W.heap[w2.heap.size]? = some O1 := (hbW.block _ (by omega)).trans k1
  have q2 : W.heap[w2.heap.size + 1]? = some O2 := (hbW.block _ (by omega)).trans k2
  have q3 : W.heap[w3.heap.size]? = some O3 := by rw [hW]; exact heap_alloc_new w3 O3
  have hbw := hb13.trans (hbW.mono hb13.size)
  rw [hO1] at q1
  rw [hO2] at q2
  rw [hO3] at q3
  rw [← hO3, ← hW]
  have zW : w3.heap.size < W.heap.size := by rw [hW]; simp
  have l2 : ∀ (x : Later W) o, x.here.cell? ⟨w2.heap.size + 1, o, none⟩ = #[Value.int .i64 code, .int .i64 at_][o]? := fun x o => (x.below.cell (p := ⟨w2.heap.size + 1, o, none⟩) (by show w2.heap.size + 1 < _; omega)).trans (Lib.cell_of_heap q2 o)
  have l3 : ∀ (x : Later W), x.here.cell? ⟨w3.heap.size, 17, none⟩ = some (.string t2) := fun x => (x.below.cell (p := ⟨w3.heap.size, 17, none⟩) (by show w3.heap.size < _; omega)).trans (Lib.cell_of_heap q3 17)
  have ho := fun w => options_any n0 n1 n2 n3 n4 b0 b1 b2 b3 b4 b5 b6 b7 b8 b9 t0 t1 t2 w
  have he := fun w => eql_opt n0 n1 n2 n3 n4 b0 b1 b2 b3 b4 b5 b6 b7 b8 b9 t0 t1 w
  obtain ⟨c17, h17⟩ : ∃ c, #[Value.int .i64 n0, .int .i64 n1, .int .i64 n2, .int .i64 n3, .bool b0, .bool b1, .bool b2, .bool b3, .bool b4, .bool b5, .bool b6, .bool b7, .bool b8, .bool b9, .int .i64 n4, .string t0, .string t1] = c := ⟨_, rfl⟩
  obtain ⟨c18, h18⟩ : ∃ c, #[Value.int .i64 n0, .int .i64 n1, .int .i64 n2, .int .i64 n3, .int .i64 n4, .bool b0, .bool b1, .bool b2, .bool b3, .bool b4, .bool b5, .bool b6, .bool b7, .bool b8, .bool b9, .string t0, .string t1, .string t2] = c := ⟨_, rfl⟩
  have s17 : (Tryd.prog.info? 39).map (·.size) = some c17.size := by rw [← h17]; exact optInfo
  have s18 : (Tryd.prog.info? 46).map (·.size) = some c18.size := by rw [← h18]; exact refInfo
  rw [h17] at q1 ho he ⊢
  rw [h18] at q3 ho ⊢
  have HO := Lib.hid ho
  have R1 := Lib.hid (fun w' (hw : ∃ s : Later W, w' = s.here) => by obtain ⟨s, rfl⟩ := hw; exact (s.below.block _ (by omega)).trans q1 : ∀ w', (∃ s : Later W, w' = s.here) → w'.heap[w2.heap.size]? = some (.cells c17 39))
  have R3 := Lib.hid (fun w' (hw : ∃ s : Later W, w' = s.here) => by obtain ⟨s, rfl⟩ := hw; exact (s.below.block _ (by omega)).trans q3 : ∀ w', (∃ s : Later W, w' = s.here) → w'.heap[w3.heap.size]? = some (.cells c18 46))
  have S17 := Lib.hid s17
  have S18 := Lib.hid s18
  have HBW := Lib.hid hbw
  clear q1 q2 q3 hW hbW hb13 hb23 k1 k2 hb3 hO1 hO2 hO3 hbw ho h17 h18 s17 s18
  go_cut [2] (fun s2 wx => s2 = .bool true ∧ Below W.heap.size W wx)
  case first => as_aux_lemma =>
    refine wp_region_later (by kernel_rfl) (by kernel_rfl) ?_
    repeat (any_goals (first
      | (refine BigFrame.wpQuiet_want (by kernel_rfl) (fun K hK => ?_); with_reducible refine quiet_load_row 39 (.tmp 3) rfl w2.heap.size rfl 39 c17 (0, 0) _ R1.out Tryd.underlying39 rfl S17.out ?_; refine hK _ ?_; clear hK K; go_simp)
      | (refine BigFrame.wpQuiet_want (by kernel_rfl) (fun K hK => ?_); with_reducible refine quiet_load_row 46 (.tmp 6) rfl w3.heap.size rfl 46 c18 (0, 0) _ R3.out Tryd.underlying46 rfl S18.out ?_; refine hK _ ?_; clear hK K; go_simp)
      | go_big_quiet_step ((go_at_call 15; exact later_of (HO.out _)))
      | quiet_step ((go_at_call 15; exact later_of (HO.out _)))
      | (refine wpQuiet_step (fun K hK => ?_); go_simp; split <;> (refine hK _ ?_; clear hK K))))
    all_goals
      refine wpQuiet_nil ?_
      first | rintro _ ⟨⟨wx, hbx⟩, rfl⟩ | (rintro ⟨wx, hbx⟩)
      go_wp2
      go_meet
      exact ⟨rfl, hbx⟩
  case rest => as_aux_lemma =>
    obtain ⟨rfl, hbx⟩ := hcut
    go_wp2
    go_ret
    exact ⟨rfl, HBW.out.trans (hbx.mono HBW.out.size)⟩

end Go.Proofs.YtgekkhkmgfbcdaaDoor
