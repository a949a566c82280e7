/- Chapter 25: the walk of a place's get, and of args' Show. -/
import Derived.Test.YtgekkhkmgfbcdaaDoorArgsShowP
namespace Go.Proofs.YtgekkhkmgfbcdaaDoor
open Go.Shelf Go.RowKit

theorem get_num (key : ByteArray) (b o : Nat) (n : Int) (w : World) (h1 : -9223372036854775808 ≤ n) (h2 : n ≤ 9223372036854775807) (hB : Base w) (hc : w.cell? ⟨b, o, none⟩ = some (.int .i64 n)) :
    Calls Tryd.prog 31 #[.agg #[.string key, .pointer (some ⟨b, o, none⟩), .pointer none, .pointer none]] w fun e w' => e = .returned (.string (valS (.int .i64 n))) ∧ Below w.heap.size w w' := by
  have H := Lib.hid hB
  have hlt := cell_lt hc
  clear hB
  by_cases h0 : n = 0
  · have HV : Hid (valS (.int .i64 n) = ⟨#[]⟩) := Lib.hid (by unfold valS; simp only; rw [if_pos h0])
    have h0' : (n != 0) = false := by simp [h0]
    clear h0
    go_enter Tryd.func31, Tryd.ntmps31
    go_wp2
    go_ret
    exact ⟨by rw [HV.out]; rfl, (Below.refl _ _).alloc (Nat.le_refl _) _⟩
  · have HV : Hid (valS (.int .i64 n) = bytesOf (Lib.itoa n)) := Lib.hid (by unfold valS; simp only; rw [if_neg h0])
    have h0' : (n != 0) = true := by simp [h0]
    have HI := Lib.hid (bytesOf_list (Lib.itoa n)).symm
    clear h0
    go_enter Tryd.func31, Tryd.ntmps31
    go_wp2_with (go_at_call 20; refine (itoa_w _ n _ HI.out (by omega) (by omega) (H.out.below ((Below.refl _ w).alloc (Nat.le_refl _) _))).mono ?_; rintro e w1 ⟨rfl, hb1⟩)
    go_ret
    exact ⟨by rw [HV.out]; rfl, ((Below.refl _ w).alloc (Nat.le_refl _) _).trans (hb1.mono (by simp))⟩
theorem get_yes (key : ByteArray) (b o : Nat) (y : Bool) (w : World) (hc : w.cell? ⟨b, o, none⟩ = some (.bool y)) :
    Calls Tryd.prog 31 #[.agg #[.string key, .pointer none, .pointer (some ⟨b, o, none⟩), .pointer none]] w fun e w' => e = .returned (.string (valS (.bool y))) ∧ Below w.heap.size w w' := by
  have hlt := cell_lt hc
  cases y
  all_goals
    go_enter Tryd.func31, Tryd.ntmps31
    go_wp2
    go_ret
    exact ⟨rfl, (Below.refl _ _).alloc (Nat.le_refl _) _⟩
theorem get_txt (key : ByteArray) (b o : Nat) (s : ByteArray) (w : World) (hc : w.cell? ⟨b, o, none⟩ = some (.string s)) :
    Calls Tryd.prog 31 #[.agg #[.string key, .pointer none, .pointer none, .pointer (some ⟨b, o, none⟩)]] w fun e w' => e = .returned (.string (valS (.string s))) ∧ Below w.heap.size w w' := by
  have hlt := cell_lt hc
  go_enter Tryd.func31, Tryd.ntmps31
  go_wp2
  go_ret
  exact ⟨rfl, (Below.refl _ _).alloc (Nat.le_refl _) _⟩

/-- The cell of a value. -/
theorem val_cell {w : World} {N : Nat} {vs : List Value} (h0 : w.heap[N]? = some (.cells (optC vs).toArray 39)) (h1 : w.heap[N + 1]? = some (.cells #[vs.getD 17 undef] 9)) {j : Nat} (hj : j < 18) :
    w.cell? (valA N (N + 1) j) = some (vs.getD j undef) := by
  by_cases h17 : j = 17
  · subst h17
    show w.cell? ⟨N + 1, 0, none⟩ = _
    rw [Lib.cell_of_heap h1]; rfl
  · have ha : (valA N (N + 1) j) = ⟨N, offN j, none⟩ := by unfold valA; rw [if_neg h17]
    rw [ha, Lib.cell_of_heap h0, List.getElem?_toArray]
    have key : ∀ (a : Fin 17), permN[offN a.val]? = some a.val := by decide
    have hk := key ⟨j, by omega⟩
    simp only at hk
    simp only [optC, List.getElem?_map, hk, Option.map_some]
/-- The numbers are such. -/
def Ints (vs : List Value) : Prop := ∀ j, j < 5 → ∀ n, vs[j]? = some (.int .i64 n) → -9223372036854775808 ≤ n ∧ n ≤ 9223372036854775807
theorem get_pl {w : World} {N : Nat} {vs : List Value} (hT : Typed vs) (hI : Ints vs) (hB : Base w) (h0 : w.heap[N]? = some (.cells (optC vs).toArray 39)) (h1 : w.heap[N + 1]? = some (.cells #[vs.getD 17 undef] 9)) {j : Nat} (hj : j < 18)
    (v1 v2 v3 : Value) (g1 : (encPl N (N + 1) j)[1]? = some v1) (g2 : (encPl N (N + 1) j)[2]? = some v2) (g3 : (encPl N (N + 1) j)[3]? = some v3) :
    Calls Tryd.prog 31 #[.agg #[.string (keyN j), v1, v2, v3]] w fun e w' => e = .returned (.string (valS (vs.getD j undef))) ∧ Below w.heap.size w w' := by
  have hc := val_cell h0 h1 hj
  obtain ⟨b, o, ha⟩ : ∃ b o, valA N (N + 1) j = ⟨b, o, none⟩ := by unfold valA; split <;> exact ⟨_, _, rfl⟩
  rw [ha] at hc
  simp only [encPl, List.getElem?_cons_succ, List.getElem?_cons_zero, Option.some.injEq, ha] at g1 g2 g3
  subst g1
  subst g2
  subst g3
  have hg : ∀ v, vs[j]? = some v → vs.getD j undef = v := fun v e => by rw [List.getD_eq_getElem?_getD, e]; rfl
  by_cases h5 : j < 5
  · rw [if_pos h5, if_neg (by omega), if_neg (by omega)]
    obtain ⟨n, hn⟩ := (hT.2 j hj).1 h5
    rw [hg _ hn] at hc ⊢
    exact get_num _ b o n w (hI j h5 n hn).1 (hI j h5 n hn).2 hB hc
  · by_cases h15 : j < 15
    · rw [if_neg h5, if_pos ⟨by omega, h15⟩, if_neg (by omega)]
      obtain ⟨y, hy⟩ := (hT.2 j hj).2.1 (by omega) h15
      rw [hg _ hy] at hc ⊢
      exact get_yes _ b o y w hc
    · rw [if_neg h5, if_neg (fun e => h15 e.2), if_pos (by omega)]
      obtain ⟨s, hs⟩ := (hT.2 j hj).2.2 (by omega)
      rw [hg _ hs] at hc ⊢
      exact get_txt _ b o s w hc

set_option maxRecDepth 100000 in
set_option maxHeartbeats 4000000 in
theorem show_any {vs : List Value} (hT : Typed vs) (hI : Ints vs) (z : ByteArray) (hz : vs.getD 17 undef = .string z) (w : World) (hB : Base w) (hS : ∀ j, j < 18 → (valS (vs.getD j undef)).size ≤ 140737488355328) (hP : (showT vs).length ≤ 140737488355328) :
    Calls Tryd.prog 16 #[.agg (optC vs).toArray, .string z] w fun e w' => e = .returned (.string (bytesOf (showT vs))) ∧ Below w.heap.size w w' := by
  have H := Lib.hid hB
  have HT := Lib.hid hT
  have HI := Lib.hid hI
  have HZ := Lib.hid hz
  have HS := Lib.hid hS
  have HP := Lib.hid hP
  obtain ⟨co, hco⟩ : ∃ co, (optC vs).toArray = co := ⟨_, rfl⟩
  have HCo := Lib.hid hco
  rw [hco]
  clear hB hT hI hz hS hP hco
  go_enter Tryd.func16, Tryd.ntmps16
  go_wp2_with (go_at_call 25; refine (places_any w.heap.size (w.heap.size + 1) _).mono ?_; rintro e w1 ⟨rfl, rfl⟩)
  have hpl := PlRow.new w.heap.size (w.heap.size + 1) ((w.alloc (.cells co 39)).alloc (.cells #[.string z] 9))
  rw [show ((w.alloc (.cells co 39)).alloc (.cells #[.string z] 9)).heap.size = w.heap.size + 1 + 1 by simp] at hpl
  have hb0 : Below w.heap.size w (((w.alloc (.cells co 39)).alloc (.cells #[.string z] 9)).alloc (.cells (allPl w.heap.size (w.heap.size + 1) (List.range 18)).toArray 78)).drew :=
    ((((Below.refl _ w).alloc (Nat.le_refl _) _).alloc (by simp) _).alloc (by simp; omega) _).drew
  have q1 : ((((w.alloc (.cells co 39)).alloc (.cells #[.string z] 9)).alloc (.cells (allPl w.heap.size (w.heap.size + 1) (List.range 18)).toArray 78)).drew).heap[w.heap.size + 1]? = some (.cells #[.string z] 9) := by
    have := heap_alloc_new (w.alloc (.cells co 39)) (.cells #[.string z] 9)
    rw [show (w.alloc (.cells co 39)).heap.size = w.heap.size + 1 by simp] at this
    exact (Below.heap_alloc _ _ _ (by simp)).trans this
  have q0 : ((((w.alloc (.cells co 39)).alloc (.cells #[.string z] 9)).alloc (.cells (allPl w.heap.size (w.heap.size + 1) (List.range 18)).toArray 78)).drew).heap[w.heap.size]? = some (.cells co 39) :=
    (Below.heap_alloc _ _ _ (by simp; omega)).trans ((Below.heap_alloc _ _ _ (by simp)).trans (heap_alloc_new w _))
  have hsz : ((((w.alloc (.cells co 39)).alloc (.cells #[.string z] 9)).alloc (.cells (allPl w.heap.size (w.heap.size + 1) (List.range 18)).toArray 78)).drew).heap.size = w.heap.size + 1 + 1 + 1 := by simp
  have hr18 : [0, 1, 2, 3, 4, 5, 6, 7, 8, 9, 10, 11, 12, 13, 14, 15, 16, 17] = List.range 18 := rfl
  rw [hr18]
  generalize (((w.alloc (.cells co 39)).alloc (.cells #[.string z] 9)).alloc (.cells (allPl w.heap.size (w.heap.size + 1) (List.range 18)).toArray 78)).drew = W at hpl hb0 q0 q1 hsz ⊢
  obtain ⟨N, hN⟩ : ∃ N, w.heap.size = N := ⟨_, rfl⟩
  rw [hN] at hpl q0 q1 hsz ⊢
  have HPl := Lib.hid hpl
  have HBW := Lib.hid hb0
  have hq0 : W.heap[N]? = some (.cells (optC vs).toArray 39) := by rw [HCo.out]; exact q0
  have hq1 : W.heap[N + 1]? = some (.cells #[vs.getD 17 undef] 9) := by rw [HZ.out]; exact q1
  have HGet : Hid (∀ w', Below W.heap.size W w' → ∀ j, j < 18 → ∀ v1 v2 v3, (encPl N (N + 1) j)[1]? = some v1 → (encPl N (N + 1) j)[2]? = some v2 → (encPl N (N + 1) j)[3]? = some v3 →
      Calls Tryd.prog 31 #[.agg #[.string (keyN j), v1, v2, v3]] w' fun e w'' => e = .returned (.string (valS (vs.getD j undef))) ∧ Below w'.heap.size w' w'') :=
    Lib.hid fun w' hb j hj v1 v2 v3 g1 g2 g3 => get_pl HT.out HI.out ((H.out.below HBW.out).below hb) ((hb.block N (by omega)).trans hq0) ((hb.block (N + 1) (by omega)).trans hq1) hj v1 v2 v3 g1 g2 g3
  have HBase := Lib.hid (H.out.below HBW.out)
  clear hpl hb0 q0 q1 hr18 hq0 hq1 hN
  go_loopw [5, 11] (fun s5 s11 wr => ∃ k : Nat, k ≤ 18 ∧ s11 = .int .i64 k ∧ Own Estr 9 W wr s5 (prsOf vs (jsOf vs k))) (fun _ s11 _ => 18 - (intOf s11).toNat)
  case atStart => exact ⟨0, by omega, rfl, Own.nil_ _⟩
  case round =>
    obtain ⟨k, hk, rfl, hO⟩ := hrel
    have hb := hO.2
    by_cases hlt : k < 18
    · obtain ⟨c0, c1, c2, c3⟩ := (HPl.out.below (by omega) hb).at_ (k := k) (by simp; exact hlt)
      have hgk : (List.range 18).getD k 0 = k := by rw [List.getD_eq_getElem?_getD, List.getElem?_range hlt]; rfl
      rw [hgk] at c0 c1 c2 c3
      obtain ⟨v1, hv1⟩ : ∃ v, (encPl N (N + 1) k)[1]? = some v := ⟨_, rfl⟩
      obtain ⟨v2, hv2⟩ : ∃ v, (encPl N (N + 1) k)[2]? = some v := ⟨_, rfl⟩
      obtain ⟨v3, hv3⟩ : ∃ v, (encPl N (N + 1) k)[3]? = some v := ⟨_, rfl⟩
      rw [hv1] at c1
      rw [hv2] at c2
      rw [hv3] at c3
      have HG := Lib.hid (fun w' hb' => HGet.out w' hb' k hlt v1 v2 v3 hv1 hv2 hv3)
      obtain ⟨x, hx⟩ : ∃ x, valS (vs.getD k undef) = x := ⟨_, rfl⟩
      rw [hx] at HG
      have HX := Lib.hid hx
      obtain ⟨key, hkey⟩ : ∃ key, keyN k = key := ⟨_, rfl⟩
      rw [hkey] at HG c0
      have HKey := Lib.hid hkey
      have hkk : (k : Int) < 18 := by omega
      have hk0 : (0 : Int) ≤ (k : Int) := by omega
      have HO := Lib.hid hO
      have hvo1 : v1.oneCell' = true := by
        simp only [encPl, List.getElem?_cons_succ, List.getElem?_cons_zero, Option.some.injEq] at hv1
        subst hv1; split <;> rfl
      have hvo2 : v2.oneCell' = true := by
        simp only [encPl, List.getElem?_cons_succ, List.getElem?_cons_zero, Option.some.injEq] at hv2
        subst hv2; split <;> rfl
      have hvo3 : v3.oneCell' = true := by
        simp only [encPl, List.getElem?_cons_succ, List.getElem?_cons_zero, Option.some.injEq] at hv3
        subst hv3; split <;> rfl
      have e1 := fun (w : World) (a : Addr) (m : Mode) => run_store Tryd.prog w a v1 m hvo1
      have e2 := fun (w : World) (a : Addr) (m : Mode) => run_store Tryd.prog w a v2 m hvo2
      have e3 := fun (w : World) (a : Addr) (m : Mode) => run_store Tryd.prog w a v3 m hvo3
      clear hv1 hv2 hv3 hgk hx hkey hvo1 hvo2 hvo3 hO
      by_cases hx0 : x.size = 0
      · obtain rfl := size_zero hx0
        have HJ : Hid (jsOf vs (k + 1) = jsOf vs k) := Lib.hid (jsOf_no (by unfold nz; rw [HX.out]; rfl))
        go_wp2_with (go_at_call 31; refine (HG.out _ (hb.alloc hb.size _)).mono ?_; rintro e w2 ⟨rfl, hb2⟩)
        go_roundw
        case rel => exact ⟨k + 1, by omega, by go_num, by rw [HJ.out]; exact (HO.out.alloc _).below hb2⟩
        case measure => simp [intOf]; omega
      · have HJ : Hid (prsOf vs (jsOf vs (k + 1)) = prsOf vs (jsOf vs k) ++ [key, x]) := Lib.hid (by rw [prsOf_yes (by unfold nz; rw [HX.out]; simpa using hx0), HX.out, HKey.out])
        have hx1 : x.toList.isEmpty = false := by
          rw [ByteArray.toList_eq]
          cases hl : x.data.toList with
          | nil => exact absurd (by rw [← len_bytes, hl]; rfl) hx0
          | cons a b => rfl
        have hx2 : (!x.toList.isEmpty) = true := by rw [hx1]; rfl
        go_upto_region 6 with (go_at_call 31; refine (HG.out _ (hb.alloc hb.size _)).mono ?_; rintro e w2 ⟨rfl, hb2⟩)
        have ck : w2.cell? ⟨wr.heap.size, 0, none⟩ = some (.string key) := (hb2.cell (p := ⟨wr.heap.size, 0, none⟩) (by simp)).trans ((World.cell?_alloc_new wr _ _ 0).trans rfl)
        have hl2 : (prsOf vs (jsOf vs k)).length ≤ 36 := by rw [prsOf_len]; have := jsOf_len vs k; omega
        have HO2 := Lib.hid ((HO.out.alloc (.cells #[.string key, v1, v2, v3] 78)).below hb2)
        have hz2 : wr.heap.size < w2.heap.size := by have := hb2.size; simp at this; omega
        have HL2 := Lib.hid hl2
        clear hl2 hx0
        go_wp2_with (at_builtin; (refine wpList_append_seq _ rfl (.tmp 19) (.tmp 23) 22 rfl 16 elStr rfl (HO2.out.alloc _) 2 rfl (SeqAt.new (E := Estr) w2 [key, x] 9) rfl (by have := HL2.out; simp only [maxLen]; omega) (by have := HL2.out; omega) ?_); intro v3' w3 hO3 hg3)
        go_roundw
        case rel => exact ⟨k + 1, by omega, by go_num, by rw [HJ.out]; exact hO3⟩
        case measure => simp [intOf]; omega
    · obtain rfl : k = 18 := by omega
      obtain ⟨A, c, rfl, _, _, hA⟩ := hO.isSeq
      have hl : (prsOf vs (jsOf vs 18)).length ≤ 36 := by rw [prsOf_len]; have := jsOf_len vs 18; omega
      have HK := Lib.hid (pack_any A c (prsOf vs (jsOf vs 18)) wr wr.heap.size hA (Nat.le_refl _) (by omega) HP.out (HBase.out.below hb))
      obtain ⟨n, hn⟩ : ∃ n, (prsOf vs (jsOf vs 18)).length = n := ⟨_, rfl⟩
      rw [hn] at HK ⊢
      clear hn hA
      go_wp2_with (go_at_call 9; refine HK.out.mono ?_; rintro e w2 ⟨rfl, hb2⟩)
      go_ret
      exact ⟨rfl, HBW.out.trans ((hb.mono HBW.out.size).trans (hb2.mono (Nat.le_trans HBW.out.size hb.size)))⟩

end Go.Proofs.YtgekkhkmgfbcdaaDoor
