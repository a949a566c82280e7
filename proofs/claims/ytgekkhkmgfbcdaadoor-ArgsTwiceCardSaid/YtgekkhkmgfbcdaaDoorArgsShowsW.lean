/- Chapter 25: the walk of the law ArgsShows: the law itself. -/
import Derived.Test.YtgekkhkmgfbcdaaDoorArgsShowsLaw
namespace Go.Proofs.YtgekkhkmgfbcdaaDoor
open Go.Shelf Go.RowKit

theorem str_refl (q : ByteArray) : (q.toList == q.toList) = true := by simp

/-- A whole variable read behind a guard that lets it by. -/
theorem wpList_load_rowG {P : Program} {ops : Array Oper} {rest : List Oper} {o : Oper} {a : Act} {w : World} {Q : Exit → Act → World → Prop} (hw : Region.wanted o (yielded ops a.tmps) = true) (ty : TypeId) (x : Operand) (ho : o.op = .load ty x)
    (g : Nat) (hx : a.eval x = .pointer (some ⟨g, 0, none⟩)) (t : TypeId) (cs : Array Value) (fr : Nat × Nat) (d : TypeDesc) (hg : w.heap[g]? = some (.cells cs t fr))
    (hu : P.underlying ty = some d) (hd : (match d with | .struct _ | .array _ _ => true | _ => false) = true) (hi : (P.info? ty).map (·.size) = some cs.size)
    (h : wpList P ops Q rest (a.put o.dst (.agg cs)) w) : wpList P ops Q (o :: rest) a w :=
  wpList_step fun K hK => by rw [if_pos hw]; exact wp_load_row ty x ho g hx t cs fr d hg hu hd hi (hK _ _ h)
theorem setRow_alloc2 (w : World) (z c : Array Value) (t : TypeId) (o : Obj) : ((w.alloc (.cells z t)).alloc o).setRow w.heap.size c = (w.alloc (.cells c t)).alloc o := by
  unfold World.setRow World.alloc
  congr 1
  refine Array.ext (by simp) (fun i h1 h2 => ?_)
  rw [Array.getElem_modify]
  simp only [Array.size_modify, Array.size_push] at h1
  rcases Nat.lt_trichotomy i w.heap.size with hi | hi | hi
  · rw [if_neg (by omega), Array.getElem_push_lt (by simp; omega), Array.getElem_push_lt hi, Array.getElem_push_lt (by simp; omega), Array.getElem_push_lt hi]
  · subst hi
    simp [Array.getElem_push]
  · obtain rfl : i = w.heap.size + 1 := by omega
    simp [Array.getElem_push]
theorem wpList_store_new2 {P : Program} {ops : Array Oper} {rest : List Oper} {o : Oper} {a : Act} {w : World} {ob : Obj} {Q : Exit → Act → World → Prop} (hgd : o.guard = none) (ty : TypeId) (x y : Operand) (ho : o.op = .store ty x y)
    (z cells : Array Value) (hx : a.eval x = .pointer (some ⟨w.heap.size, 0, none⟩)) (hy : a.eval y = .agg cells)
    (t : TypeId) (hi : (P.info? ty).map (·.size) = some cells.size) (hz : z.size = cells.size) (h1 : cells.all (·.oneCell') = true)
    (h : wpList P ops Q rest (a.put o.dst undef) ((w.alloc (.cells cells t)).alloc ob)) : wpList P ops Q (o :: rest) a ((w.alloc (.cells z t)).alloc ob) :=
  wpList_store_row hgd ty x y ho w.heap.size cells hx hy t z ((Below.heap_alloc _ _ _ (by simp)).trans (heap_alloc_new w _)) hi hz h1 (by rw [setRow_alloc2]; exact h)

set_option maxRecDepth 100000 in
set_option maxHeartbeats 8000000 in
theorem shows_law (vs : List Value) (hT : Typed vs) (hI : Ints vs) (hb : Bound vs) (w : World) (hB : Base w) :
    Calls Tryd.prog 6 #[.agg vs.toArray] w fun e w' => e = .returned (.bool true) ∧ Below w.heap.size w w' := by
  have H := Lib.hid hB
  obtain ⟨z, hF⟩ := show_facts hT hI hb
  obtain ⟨q, hq⟩ : ∃ q, bytesOf (showT vs) = q := ⟨_, rfl⟩
  obtain ⟨c17, hc17⟩ : ∃ c, (optC vs).toArray = c := ⟨_, rfl⟩
  obtain ⟨c18, hc18⟩ : ∃ c, vs.toArray = c := ⟨_, rfl⟩
  rw [hq, hc17, hc18] at hF
  rw [hc18]
  have he := hF.eq
  have HF := Lib.hid hF
  have I17 : Hid ((Tryd.prog.info? 39).map (·.size) = some c17.size) := Lib.hid (by rw [hF.s17]; exact optInfo)
  have I18 : Hid ((Tryd.prog.info? 50).map (·.size) = some c18.size) := Lib.hid (by rw [hF.s18]; exact lawInfo)
  have S17 : Hid (17 = c17.size) := Lib.hid hF.s17.symm
  have O17 := Lib.hid hF.o17
  clear hB hT hI hb hq hc17 hc18 hF
  go_enter Tryd.func6, Tryd.ntmps6
  go_upto_region 3 with (go_at_call 8; refine (speaks_any _ (H.out.below ((Below.refl _ w).alloc (Nat.le_refl _) _))).mono ?_; rintro e w1 ⟨rfl, hb1⟩)
  have k1 : w1.heap[w.heap.size]? = some (.cells c18 50) := (hb1.block _ (by simp)).trans (heap_alloc_new w _)
  have hb01 : Below w.heap.size w w1 := ((Below.refl _ w).alloc (Nat.le_refl _) _).trans (hb1.mono (by simp))
  have hz1 : w.heap.size < w1.heap.size := by have := hb1.size; simp at this; omega
  have K1 := Lib.hid k1
  have HB1 := Lib.hid hb01
  clear k1 hb1 hb01
  obtain ⟨N, hN⟩ : ∃ N, w.heap.size = N := ⟨_, rfl⟩
  rw [hN] at hz1 K1 ⊢
  have HNe := Lib.hid hN
  clear hN
  go_upto_region 4 with (first
    | (refine wpList_load_row rfl 50 (.tmp 1) rfl N rfl 50 _ (0, 0) _ K1.out Tryd.underlying50 rfl I18.out ?_)
    | (go_at_call 15; refine (HF.out.opt _).mono ?_; rintro e w2 ⟨rfl, hb2⟩)
    | (refine wpList_store_new rfl 39 (.tmp 3) (.tmp 13) rfl _ c17 rfl rfl 39 I17.out S17.out O17.out ?_))
  obtain ⟨W3, hW3⟩ : ∃ W3, W3 = w2.alloc (.cells c17 39) := ⟨_, rfl⟩
  have hb13 : Below w1.heap.size w1 W3 := by rw [hW3]; exact hb2.alloc hb2.size _
  have hM : W3.heap[w2.heap.size]? = some (.cells c17 39) := by rw [hW3]; exact heap_alloc_new w2 _
  have hzM : w2.heap.size < W3.heap.size := by rw [hW3]; simp
  have hz2 := hb2.size
  rw [← hW3]
  clear hW3 hb2
  obtain ⟨M, hMe⟩ : ∃ M, w2.heap.size = M := ⟨_, rfl⟩
  rw [hMe] at hM hzM hz2 ⊢
  have HM := Lib.hid hM
  have HB3 := Lib.hid (HB1.out.trans (hb13.mono HB1.out.size))
  have K3 := Lib.hid ((hb13.block N hz1).trans K1.out)
  have cz : W3.cell? ⟨N, 17, none⟩ = some (.string z) := (Lib.cell_of_heap K3.out 17).trans HF.out.zat
  have HBase3 := Lib.hid (H.out.below HB3.out)
  have hs3 := hb13.size
  clear hM hMe hb13 w2
  go_upto_region 5 with (first
    | (refine wpList_load_row rfl 39 (.tmp 3) rfl M rfl 39 _ (0, 0) _ HM.out Tryd.underlying39 rfl I17.out ?_)
    | (go_at_call 16; refine (HF.out.sh _ HBase3.out).mono ?_; rintro e w4 ⟨rfl, hb4⟩))
  have K4 := Lib.hid ((hb4.block N (by omega)).trans K3.out)
  have HM4 := Lib.hid ((hb4.block M hzM).trans HM.out)
  have HB4 := Lib.hid (HB3.out.trans (hb4.mono HB3.out.size))
  have hs4 := hb4.size
  have hqq := str_refl q
  clear hb4 cz
  go_upto_region 7 with (first
    | (refine wpList_load_row rfl 50 (.tmp 1) rfl N rfl 50 _ (0, 0) _ K4.out Tryd.underlying50 rfl I18.out ?_)
    | (go_at_call 17; refine (HF.out.rf _).mono ?_; rintro e w5 ⟨rfl, hb5⟩))
  have K5 := Lib.hid ((hb5.block N (by omega)).trans K4.out)
  have HM5 := Lib.hid ((hb5.block M (by omega)).trans HM4.out)
  have HB5 := Lib.hid (HB4.out.trans (hb5.mono HB4.out.size))
  have hs5 := hb5.size
  have HC := Lib.hid (fun j => Lib.cell_of_heap K5.out j)
  clear hb5
  go_wp2
  go_loop [5] (fun s5 => ∃ k : Nat, k ≤ 5 ∧ s5 = .int .i64 k ∧ Hid (∀ j, j < k → ∀ n, vs[j]? = some (.int .i64 n) → n < 1000000000000000000 ∧ -1000000000000000000 < n)) (fun s5 => 5 - (intOf s5).toNat)
  case atStart => exact ⟨0, by omega, rfl, Lib.hid fun j hj => absurd hj (Nat.not_lt_zero _)⟩
  case round =>
    obtain ⟨k, hk, rfl, HS⟩ := hrel
    by_cases hlt : k < 5
    · obtain ⟨n, hn1, hn2, hn3, hn4⟩ := HF.out.nat k hlt
      have cn : w5.cell? ⟨N, k, none⟩ = some (.int .i64 n) := (HC.out k).trans hn1
      have HN2 := Lib.hid hn2
      have hkk : (k : Int) < 5 := by omega
      have hk0 : (0 : Int) ≤ (k : Int) := by omega
      clear hn1 hn2
      by_cases c1 : (1000000000000000000 : Int) ≤ n
      · go_wp2
        go_ret
        exact ⟨rfl, HB5.out⟩
      · by_cases c2 : n ≤ -1000000000000000000
        · have c1' : decide ((1000000000000000000 : Int) ≤ n) = false := decide_eq_false c1
          go_wp2
          go_ret
          exact ⟨rfl, HB5.out⟩
        · have c1' : decide ((1000000000000000000 : Int) ≤ n) = false := decide_eq_false c1
          have c2' : decide (n ≤ (-1000000000000000000 : Int)) = false := decide_eq_false c2
          go_wp2
          go_round
          case rel => exact ⟨k + 1, by omega, by go_num, Lib.hid fun j hj m hm => by
            rcases Nat.lt_or_ge j k with h | h
            · exact HS.out j h m hm
            · obtain rfl : j = k := by omega
              rw [HN2.out] at hm
              injection hm with hm
              injection hm with _ hm
              subst hm
              omega⟩
          case measure => simp [intOf]; omega
    · obtain rfl : k = 5 := by omega
      have HSm : Hid (Small vs) := Lib.hid HS.out
      clear HS
      go_wp2
      go_loop [6] (fun s6 => ∃ k : Nat, k ≤ 3 ∧ s6 = .int .i64 k ∧ Hid (∀ j, j < k → ∀ s, vs[15 + j]? = some (.string s) → s.size ≤ 9999999)) (fun s6 => 3 - (intOf s6).toNat)
      case atStart => exact ⟨0, by omega, rfl, Lib.hid fun j hj => absurd hj (Nat.not_lt_zero _)⟩
      case round =>
        obtain ⟨k, hk, rfl, HT3⟩ := hrel
        by_cases hlt : k < 3
        · obtain ⟨s, hs1, hs3, hs2⟩ := HF.out.tat k hlt
          have cn : w5.cell? ⟨N, 15 + k, none⟩ = some (.string s) := (HC.out (15 + k)).trans hs1
          have hkk : (k : Int) < 3 := by omega
          have hk0 : (0 : Int) ≤ (k : Int) := by omega
          have HS3 := Lib.hid hs3
          clear hs1 hs3
          by_cases hss : (9999999 : Int) < (s.size : Int)
          · go_wp2
            go_ret
            exact ⟨rfl, HB5.out⟩
          · go_wp2
            go_round
            case rel => exact ⟨k + 1, by omega, by go_num, Lib.hid fun j hj x hx => by
              rcases Nat.lt_or_ge j k with h | h
              · exact HT3.out j h x hx
              · obtain rfl : j = k := by omega
                rw [HS3.out] at hx
                injection hx with hx
                injection hx with hx
                subst hx
                omega⟩
            case measure => simp [intOf]; omega
        · obtain rfl : k = 3 := by omega
          have HSh : Hid (ShortT vs) := Lib.hid HT3.out
          clear HT3
          go_upto_region 18 with (first
            | (go_at_call 13; refine (HF.out.back HSm.out HSh.out _ (H.out.below HB5.out) (base_four (H.out.below HB5.out))).mono ?_; rintro e w6 ⟨rfl, hb6⟩)
            | (refine wpList_store_new2 rfl 39 (.tmp 7) (.tmp 52) rfl _ c17 rfl rfl 39 I17.out S17.out O17.out ?_))
          have K6 := Lib.hid ((hb6.block N (by omega)).trans K5.out)
          have HM6 := Lib.hid ((hb6.block M (by omega)).trans HM5.out)
          have HB6 := Lib.hid (HB5.out.trans (hb6.mono HB5.out.size))
          have hs6 := hb6.size
          have cz6 : w6.cell? ⟨N, 17, none⟩ = some (.string z) := (Lib.cell_of_heap K6.out 17).trans HF.out.zat
          have hzz := str_refl z
          have hfe := faultEq_same 0 0
          have hN6 : N < w6.heap.size := by omega
          have HR7 : Hid (((w6.alloc (.cells c17 39)).alloc (.cells #[.int .i64 0, .int .i64 0] 27)).heap[w6.heap.size]? = some (.cells c17 39)) := Lib.hid ((Below.heap_alloc _ _ _ (by simp)).trans (heap_alloc_new w6 _))
          have HR3 : Hid (((w6.alloc (.cells c17 39)).alloc (.cells #[.int .i64 0, .int .i64 0] 27)).heap[M]? = some (.cells c17 39)) := Lib.hid ((Below.heap_alloc _ _ _ (by simp; omega)).trans ((Below.heap_alloc _ _ _ (by omega)).trans HM6.out))
          have HBf := Lib.hid ((HB6.out.alloc HB6.out.size (.cells c17 39)).alloc (by have := HB6.out.size; simp; omega) (.cells #[.int .i64 0, .int .i64 0] 27))
          clear hb6
          go_wp2_with (first
            | (refine wpList_load_rowG (by kernel_rfl) 39 (.tmp 7) rfl w6.heap.size rfl 39 _ (0, 0) _ HR7.out Tryd.underlying39 rfl I17.out ?_)
            | (refine wpList_load_rowG (by kernel_rfl) 39 (.tmp 3) rfl M rfl 39 _ (0, 0) _ HR3.out Tryd.underlying39 rfl I17.out ?_))
          go_ret
          exact ⟨rfl, HBf.out⟩

end Go.Proofs.YtgekkhkmgfbcdaaDoor
