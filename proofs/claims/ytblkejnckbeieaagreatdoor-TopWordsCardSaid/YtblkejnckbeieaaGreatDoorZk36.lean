/- The walk of Agree: at each place of a text how many bytes are a word's.
  The document's Agree; Agree and Places of the code, as lists.
  Agree and Places of the code, as lists.
  Chapter 18: the next place of a word, in plain Lean; what Places tells first. -/
import Derived.Test.YtblkejnckbeieaaGreatDoorZk35
import Derived.Lib.Index
namespace Go.Proofs.YtblkejnckbeieaaGreatDoor
open Go.RowKit WaveP

def fitsB (t s : ByteArray) : Bool := decide (0 < s.size ∧ s.size ≤ t.size ∧ s.size ≤ 1024)
theorem nil_list {s : ByteArray} : (s.toList == []) = decide (s.size = 0) := by
  rw [ByteArray.toList_eq, size_list]
  cases s.data.toList <;> simp
set_option maxRecDepth 100000 in
theorem fits_any (t s : ByteArray) (w : World) (_ht : t.size ≤ maxLen) (hs : s.size ≤ maxLen) :
    Calls Tryz.prog 58 #[.string t, .string s] w fun e w' => e = .returned (.bool (fitsB t s)) ∧ w = w' := by
  unfold fitsB
  unfold maxLen at _ht hs
  have h0 := nil_list (s := s)
  by_cases hz : s.size = 0
  · rw [decide_eq_true hz] at h0
    have e : decide (0 < s.size ∧ s.size ≤ t.size ∧ s.size ≤ 1024) = false := decide_eq_false (by omega)
    rw [e]
    clear e
    go_enter Tryz.func58, Tryz.ntmps58
    go_wp2
    go_ret
    exact ⟨rfl, rfl⟩
  · rw [decide_eq_false hz] at h0
    by_cases h1 : s.size ≤ t.size
    · by_cases h2 : s.size ≤ 1024
      · have e : decide (0 < s.size ∧ s.size ≤ t.size ∧ s.size ≤ 1024) = true := decide_eq_true (by omega)
        rw [e]
        clear e
        go_enter Tryz.func58, Tryz.ntmps58
        go_wp2
        go_ret
        exact ⟨congrArg (fun b => Ending.returned (.bool b)) (decide_eq_true (by omega)), rfl⟩
      · have e : decide (0 < s.size ∧ s.size ≤ t.size ∧ s.size ≤ 1024) = false := decide_eq_false (by omega)
        rw [e]
        clear e
        go_enter Tryz.func58, Tryz.ntmps58
        go_wp2
        go_ret
        exact ⟨congrArg (fun b => Ending.returned (.bool b)) (decide_eq_false (by omega)), rfl⟩
    · have e : decide (0 < s.size ∧ s.size ≤ t.size ∧ s.size ≤ 1024) = false := decide_eq_false (by omega)
      rw [e]
      clear e
      go_enter Tryz.func58, Tryz.ntmps58
      go_wp2
      go_ret
      exact ⟨rfl, rfl⟩

def b256 : Array Value := Array.replicate 256 (.bool false)
theorem b256_at (i : Nat) (hi : i < b256.size) : b256[i]? = some (.bool false) := by
  unfold b256 at hi ⊢
  rw [Array.size_replicate] at hi
  rw [Array.getElem?_replicate, if_pos hi]
theorem b256_size : b256.size = 256 := Array.size_replicate ..
/-- What stands at a place q while the byte c is told: before it, and behind from + m. -/
def mid (T W : Nat → Nat) (lw k c m q : Nat) : Nat := agN T W lw k q + (if q < m then agC T W lw c q else 0)
theorem mid_zero (T W : Nat → Nat) (lw k c q : Nat) : mid T W lw k c 0 q = agN T W lw k q := by
  unfold mid; rw [if_neg (Nat.not_lt_zero _), Nat.add_zero]
theorem mid_end {T W : Nat → Nat} {lw k m q : Nat} (h : seenB W k (W k) = false) (hq : q < m) : mid T W lw k (W k) m q = agN T W lw (k + 1) q := by
  unfold mid; rw [if_pos hq, agN_new h]
theorem mid_far {T W : Nat → Nat} {lw k c m m' q : Nat} (hq : q < m) (h : q < m') : mid T W lw k c m q = mid T W lw k c m' q := by
  unfold mid; rw [if_pos hq, if_pos h]
theorem mid_set (T W : Nat → Nat) (lw k c m q : Nat) : (if q = m then agN T W lw k m + agC T W lw c m else mid T W lw k c m q) = mid T W lw k c (m + 1) q := by
  unfold mid
  by_cases e : q = m
  · subst e; rw [if_pos rfl, if_pos (by omega)]
  · rw [if_neg e]
    by_cases e2 : q < m
    · rw [if_pos e2, if_pos (by omega)]
    · rw [if_neg e2, if_neg (by omega)]
theorem mid_le (T W : Nat → Nat) (lw k c m q : Nat) : mid T W lw k c m q ≤ 2 * lw := by
  unfold mid agN agC
  have h1 := cntN_le lw (fun j => T (q + j) == W j && seenB W k (W j))
  have h2 := cntN_le lw (fun j => T (q + j) == c && W j == c)
  split <;> omega
/-- A part of a text. -/
theorem byN_cut (t : ByteArray) (o h j : Nat) (hh : h ≤ t.size) (hj : o + j < h) : byN (t.extract o h) j = byN t (o + j) := by
  unfold byN
  rw [ByteArray.data_extract, Array.toList_extract]
  congr 1
  have hl : h ≤ t.data.toList.length := by rw [← size_list]; exact hh
  rw [List.getD_eq_getElem?_getD, List.getD_eq_getElem?_getD, List.extract_eq_take_drop, List.getElem?_take_of_lt (by omega), List.getElem?_drop]
theorem mkT_cut (t : ByteArray) (c o h n j : Nat) (hh : h ≤ t.size) (hn : o + n = h) : mkT (byN (t.extract o h)) c 0 n j = mkT (byN t) c o n j := by
  unfold mkT
  by_cases hj : j < n
  · rw [Nat.zero_add, byN_cut t o h j hh (by omega)]
  · rw [if_neg (fun x => hj x.1), if_neg (fun x => hj x.1)]

set_option maxHeartbeats 3200000 in
set_option maxRecDepth 100000 in
theorem agree_fits (t s : ByteArray) (lt lw lo : Nat) (w : World) (h1 : t.size = lt) (h2 : s.size = lw) (h3 : 0 < lw) (h4 : lw ≤ 1024) (h5 : lw + lo = lt + 1) (h6 : 0 < lo) (h7 : lt ≤ 1073741824) (hT : ∀ w', Below w.heap.size w w' → TabsW w') :
    Calls Tryz.prog 28 #[.string t, .string s] w fun e w' => ∃ g, e = .returned (.slice (some ⟨g, 0, none⟩) lo lo) ∧ w.heap.size ≤ g ∧ Below w.heap.size w w' ∧ w'.rowIs g 3 lo (fun p => .int .i64 (agree (byN t) (byN s) lw p : Nat)) := by
  have hf : fitsB t s = true := decide_eq_true (by omega)
  have HFT := Lib.hid (hf ▸ fits_any t s w (by unfold maxLen; omega) (by unfold maxLen; omega))
  have hmk := run_make_row' (P := Tryz.prog) 22 3 (.int .i64 0) 8 Tryz.underlying22 (by kernel_rfl) rfl .i64 .i64 lo (by omega) (by omega)
  have hz : ∀ w, (zeroValue 61).run Tryz.prog w = .ok (.agg b256) w := fun _ => by kernel_rfl
  have HT := Lib.hid hT
  have hlo : (lt : Int) - (lw : Int) + 1 = (lo : Int) := by omega
  obtain ⟨part, hpart⟩ : ∃ part : Nat, part + lw = 4096 := ⟨4096 - lw, by omega⟩
  have hpi : (4096 : Int) - (lw : Int) = (part : Int) := by omega
  clear hf hT
  go_enter Tryz.func28, Tryz.ntmps28
  go_wp2_with (go_at_call 58; (refine HFT.out.mono ?_); rintro e w1 ⟨rfl, rfl⟩)
  obtain ⟨bo, hbo⟩ : ∃ bo, bo = w.heap.size := ⟨_, rfl⟩
  have hro := (World.rowIs_made w (.int .i64 0) lo 3).alloc (.cells b256 61)
  have hrs := World.rowIs_alloc (w.alloc (.cells (madeCells #[Value.int .i64 0] lo) 3)) b256 61 (fun _ => .bool false) (fun i hi => b256_at i hi)
  have hs1 : (w.alloc (.cells (madeCells #[Value.int .i64 0] lo) 3)).heap.size = w.heap.size + 1 := by simp
  rw [b256_size, hs1] at hrs
  have hbe0 := ((Below.refl w.heap.size w).alloc (Nat.le_refl _) (.cells (madeCells #[Value.int .i64 0] lo) 3)).alloc (by rw [hs1]; omega) (.cells b256 61)
  clear hmk hz hs1 HFT
  rw [← hbo] at hro hrs ⊢
  have hlebo : w.heap.size ≤ bo := by omega
  clear hbo
  go_loopw [32] (fun i wr => ∃ k : Nat, k ≤ lw ∧ i = .int .i64 k ∧ wr.rowIs bo 3 lo (fun q => .int .i64 (agN (byN t) (byN s) lw k q : Nat)) ∧ wr.rowIs (bo + 1) 61 256 (fun c => .bool (seenB (byN s) k c)) ∧ Below w.heap.size w wr)
    (fun i _ => lw + 1 - (intOf i).toNat)
  case atStart => exact ⟨0, by omega, rfl, hro.congr (fun j _ => by rw [agN_zero]; rfl), hrs, hbe0⟩
  case round =>
    obtain ⟨k, hk, rfl, hrO, hrS, hbe⟩ := hrel
    clear hro hrs hbe0
    by_cases hkl : k < lw
    · have hks : k < s.size := by omega
      have hat := at_byN hks
      have hx6 := byN_lt s k
      obtain ⟨x, hx⟩ : ∃ x, x = byN s k := ⟨_, rfl⟩
      rw [← hx] at hat hx6
      have HX := Lib.hid hx
      have hcx := hrS.cell hx6
      have hfx := hrS.frozen x
      by_cases hsn : seenB (byN s) k x = true
      · rw [hsn] at hcx
        have hO2 := hrO.congr (g := fun q => .int .i64 (agN (byN t) (byN s) lw (k + 1) q : Nat)) (fun q _ => by rw [agN_seen (by rw [← hx]; exact hsn)])
        have hS2 := hrS.congr (g := fun c => .bool (seenB (byN s) (k + 1) c)) (fun c _ => by
          rw [seenB_succ, ← hx]
          by_cases e : x = c
          · rw [← e, hsn]; rfl
          · have : (x == c) = false := by simp [e]
            rw [this, Bool.or_false])
        clear hx
        go_wp2
        go_roundw
        case rel => exact ⟨k + 1, by omega, by go_num, hO2, hS2, hbe⟩
        case measure => simp [intOf]; omega
      · have hsf : seenB (byN s) k x = false := by cases h : seenB (byN s) k x <;> simp_all
        rw [hsf] at hcx
        have hS2 := (hrS.set x (.bool true)).congr (g := fun c => .bool (seenB (byN s) (k + 1) c)) (fun c _ => by
          rw [seenB_succ, ← hx]
          by_cases e : c = x
          · rw [if_pos e, ← e]; simp
          · have : (x == c) = false := by simp; exact fun h => e h.symm
            rw [if_neg e, this, Bool.or_false])
        have hO2 := hrO.setOther (a := ⟨bo + 1, x, none⟩) (by simp) (.bool true)
        have hbe2 := hbe.setCell (p := ⟨bo + 1, x, none⟩) (show w.heap.size ≤ bo + 1 by omega) (.bool true)
        clear hx hrO hrS hbe hsn
        have HSF := Lib.hid hsf
        clear hsf
        go_wp2_with (go_at_call 59; (refine (marks_any s x lw true (wr.setCell ⟨bo + 1, x, none⟩ (.bool true)) h2 h3 (by omega) hx6).mono ?_); rintro e w2 ⟨rfl, hb2, hr2⟩)
        have hs2 : (wr.setCell ⟨bo + 1, x, none⟩ (.bool true)).heap.size = wr.heap.size := by simp
        rw [hs2] at hr2
        obtain ⟨bw, hbw⟩ : ∃ bw, bw = wr.heap.size := ⟨_, rfl⟩
        have hO3 := (rowIs_below hO2 hb2).congr (g := fun q => .int .i64 (mid (byN t) (byN s) lw k x 0 q : Nat)) (fun q _ => by rw [mid_zero])
        have hS3 := rowIs_below hS2 hb2
        have hbe3 := hbe2.trans (hb2.mono hbe2.size)
        have hW3 := hr2.congr (g := fun j => .int .i64 (mkW (byN s) x lw j)) (fun j _ => by rw [mkF_end_w])
        have hbwo : bw ≠ bo := by have h := hO2.lt; rw [hs2] at h; omega
        have hlew : w.heap.size ≤ bw := by have h := hbe2.size; rw [hs2] at h; omega
        rw [← hbw] at hW3 ⊢
        clear hO2 hS2 hbe2 hb2 hr2 hs2 hbw hcx hfx hat hks
        go_loopw [11] (fun i wr => ∃ fr : Nat, fr ≤ lo + 4096 ∧ i = .int .i64 fr ∧ wr.rowIs bo 3 lo (fun q => .int .i64 (mid (byN t) (byN s) lw k x fr q : Nat)) ∧ wr.rowIs (bo + 1) 61 256 (fun c => .bool (seenB (byN s) (k + 1) c)) ∧
            wr.rowIs bw 3 lw (fun j => .int .i64 (mkW (byN s) x lw j)) ∧ Below w.heap.size w wr)
          (fun i _ => lo + 5000 - (intOf i).toNat)
        case atStart => exact ⟨0, by omega, rfl, hO3, hS3, hW3, hbe3⟩
        case round =>
          obtain ⟨fr, hfr, rfl, hrO, hrS, hrW, hbe⟩ := hrel
          clear hO3 hS3 hW3 hbe3
          by_cases hfl : fr < lo
          · obtain ⟨h, hh⟩ : ∃ h, h = min (fr + part) lt := ⟨_, rfl⟩
            obtain ⟨ls, hls⟩ : ∃ ls, fr + ls = h := ⟨h - fr, by omega⟩
            obtain ⟨all, hall⟩ : ∃ all, ls + lw = all + 1 := ⟨ls + lw - 1, by omega⟩
            have hmin : min ((fr : Int) + (part : Int)) (lt : Int) = (h : Int) := by omega
            have hht : h ≤ t.size := by omega
            have hfh : fr ≤ h := by omega
            have hls0 : 0 < ls := by omega
            have hlsw : lw ≤ ls := by omega
            have hlsp : ls ≤ part := by omega
            have hsub : (t.extract fr h).size = ls := by rw [ByteArray.size_extract]; omega
            have HM1 : Hid True := Lib.hid trivial
            have HLP := Lib.hid (show ls = part ∨ fr + ls + 1 = lo + lw by omega)
            have HH := Lib.hid hls
            clear hh hls
            go_wp2_with (first
              | (go_at_call 59; (refine (marks_any (t.extract fr h) x ls false wr hsub hls0 (by omega) hx6).mono ?_); rintro e w4 ⟨rfl, hb4, hr4⟩)
              | (go_at_call 60; (refine (product_any wr.heap.size 0 ls bw 0 lw ls lw all (mkT (byN t) x fr ls) (mkW (byN s) x lw) w4 hls0 h3 (by omega) hall (fun i hi => by rw [Nat.zero_add, hr4.cell hi, mkF_end_t, mkT_cut t x fr h ls i hht HH.out]) (fun i hi => by rw [Nat.zero_add]; exact (rowIs_below hrW hb4).cell hi) (mkT_abs _ _ _ _) (mkW_abs _ _ _) (mkT_far _ _ _ _) (mkW_far _ _ _) (tabs_later HT.out (hbe.trans (hb4.mono hbe.size)))).mono ?_); rintro e w5 ⟨bp, rfl, hbp, hb5, hr5⟩)
              | fail)
            have hbe5 := (hbe.trans (hb4.mono hbe.size)).trans (hb5.mono (hbe.trans (hb4.mono hbe.size)).size)
            have hO5 := (rowIs_below (rowIs_below hrO hb4) hb5).congr (g := fun q => .int .i64 (mid (byN t) (byN s) lw k x (fr + min (0 + 1 - lw) (ls + 1 - lw)) q : Nat)) (fun q _ => by rw [show fr + min (0 + 1 - lw) (ls + 1 - lw) = fr by omega])
            have hS5 := rowIs_below (rowIs_below hrS hb4) hb5
            have hW5 := rowIs_below (rowIs_below hrW hb4) hb5
            have hbpo : bp ≠ bo := by have h1 := hrO.lt; have h2 := hb4.size; omega
            have hle5 : w.heap.size ≤ bp := Nat.le_trans hbe.size (Nat.le_trans hb4.size hbp)
            have hall2 : all + 1 - lw = ls := by omega
            clear hrO hrS hrW hbe hb4 hr4 hb5 hbp
            go_loopw [72] (fun i wr => ∃ j : Nat, j ≤ all ∧ i = .int .i64 j ∧ wr.rowIs bo 3 lo (fun q => .int .i64 (mid (byN t) (byN s) lw k x (fr + min (j + 1 - lw) (ls + 1 - lw)) q : Nat)) ∧ wr.rowIs (bo + 1) 61 256 (fun c => .bool (seenB (byN s) (k + 1) c)) ∧
                wr.rowIs bw 3 lw (fun j => .int .i64 (mkW (byN s) x lw j)) ∧ wr.rowIs bp 3 all (fun j => .int .i64 (cvI (mkT (byN t) x fr ls) (mkW (byN s) x lw) j)) ∧ Below w.heap.size w wr)
              (fun i _ => all + 1 - (intOf i).toNat)
            case atStart => exact ⟨0, by omega, rfl, hO5, hS5, hW5, hr5, hbe5⟩
            case round =>
              obtain ⟨j, hj, rfl, hrO, hrS, hrW, hrP, hbe⟩ := hrel
              clear hO5 hS5 hW5 hr5 hbe5
              by_cases hjl : j < all
              · have hcP := hrP.cell hjl
                by_cases hlow : j + 1 < lw
                · have hO6 := hrO.congr (g := fun q => .int .i64 (mid (byN t) (byN s) lw k x (fr + min (j + 1 + 1 - lw) (ls + 1 - lw)) q : Nat)) (fun q _ => by rw [show j + 1 + 1 - lw = j + 1 - lw by omega])
                  go_wp2
                  go_roundw
                  case rel => exact ⟨j + 1, by omega, by go_num, hO6, hrS, hrW, hrP, hbe⟩
                  case measure => simp [intOf]; omega
                · obtain ⟨p, hp⟩ : ∃ p, j + 1 = p + lw := ⟨j + 1 - lw, by omega⟩
                  have hpi2 : (j : Int) - (lw : Int) + 1 = (p : Int) := by omega
                  have hpi3 : (ls : Int) - (lw : Int) = ((ls - lw : Nat) : Int) := by omega
                  by_cases hhi : p ≤ ls - lw
                  · have hj2 : j = p + lw - 1 := by omega
                    rw [hj2, cv_marks _ _ _ _ _ _ _ (by omega) h3, ← hj2] at hcP
                    obtain ⟨b, hb⟩ : ∃ b, b = agC (byN t) (byN s) lw x (fr + p) := ⟨_, rfl⟩
                    have hcP2 : wr.cell? ⟨bp, j, none⟩ = some (.int .i64 (b : Int)) := by rw [hb]; exact hcP
                    have hqn : fr + p < lo := by have := HH.out; omega
                    have hcO := hrO.cell hqn
                    have hfO := hrO.frozen (fr + p)
                    have hm : min (j + 1 - lw) (ls + 1 - lw) = p := by omega
                    have hm2 : min (j + 1 + 1 - lw) (ls + 1 - lw) = p + 1 := by omega
                    rw [hm] at hcO hrO
                    obtain ⟨a, ha⟩ : ∃ a, a = agN (byN t) (byN s) lw k (fr + p) := ⟨_, rfl⟩
                    have hmid : mid (byN t) (byN s) lw k x (fr + p) (fr + p) = a := by unfold mid; rw [if_neg (by omega), ← ha]; rfl
                    rw [hmid] at hcO
                    have hla : a ≤ lw := by rw [ha]; exact cntN_le _ _
                    have hlb : b ≤ lw := by rw [hb]; exact cntN_le _ _
                    have hO6 := (hrO.set (fr + p) (.int .i64 ((a : Int) + (b : Int)))).congr (g := fun q => .int .i64 (mid (byN t) (byN s) lw k x (fr + min (j + 1 + 1 - lw) (ls + 1 - lw)) q : Nat)) (fun q _ => by
                      rw [hm2, ← Nat.add_assoc, ← mid_set]
                      by_cases e : q = fr + p
                      · rw [if_pos e, if_pos e, ← ha, ← hb, Int.natCast_add]
                      · rw [if_neg e, if_neg e])
                    have hS6 := hrS.setOther (a := ⟨bo, fr + p, none⟩) (by simp) (.int .i64 ((a : Int) + (b : Int)))
                    have hW6 := hrW.setOther (a := ⟨bo, fr + p, none⟩) hbwo (.int .i64 ((a : Int) + (b : Int)))
                    have hP6 := hrP.setOther (a := ⟨bo, fr + p, none⟩) hbpo (.int .i64 ((a : Int) + (b : Int)))
                    have hbe6 := hbe.setCell (p := ⟨bo, fr + p, none⟩) hlebo (.int .i64 ((a : Int) + (b : Int)))
                    clear ha hb hmid hm hm2 hj2 hcP hrO hrS hrW hrP hbe
                    go_wp2
                    go_roundw
                    case rel => exact ⟨j + 1, by omega, by go_num, hO6, hS6, hW6, hP6, hbe6⟩
                    case measure => simp [intOf]; omega
                  · have hO6 := hrO.congr (g := fun q => .int .i64 (mid (byN t) (byN s) lw k x (fr + min (j + 1 + 1 - lw) (ls + 1 - lw)) q : Nat)) (fun q _ => by
                      rw [show min (j + 1 + 1 - lw) (ls + 1 - lw) = min (j + 1 - lw) (ls + 1 - lw) by omega])
                    go_wp2
                    go_roundw
                    case rel => exact ⟨j + 1, by omega, by go_num, hO6, hrS, hrW, hrP, hbe⟩
                    case measure => simp [intOf]; omega
              · obtain rfl : j = all := by omega
                have hO6 := hrO.congr (g := fun q => .int .i64 (mid (byN t) (byN s) lw k x (fr + (part + 1 - lw)) q : Nat)) (fun q hq => by
                  have hl := HLP.out
                  rw [hall2, show min ls (ls + 1 - lw) = ls + 1 - lw by omega]
                  by_cases e : q < fr + (ls + 1 - lw)
                  · rw [mid_far e (show q < fr + (part + 1 - lw) by omega)]
                  · rw [show fr + (ls + 1 - lw) = fr + (part + 1 - lw) by omega])
                have hst : (fr : Int) + ((part : Int) - (lw : Int) + 1) = ((fr + (part + 1 - lw) : Nat) : Int) := by omega
                go_wp2
                go_roundw
                case rel => exact ⟨fr + (part + 1 - lw), by omega, by go_num, hO6, hrS, hrW, hbe⟩
                case measure => simp [intOf]; omega
          · have hO5 := hrO.congr (g := fun q => .int .i64 (agN (byN t) (byN s) lw (k + 1) q : Nat)) (fun q hq => by
              rw [HX.out, mid_end (by rw [← HX.out]; exact HSF.out) (by omega)])
            go_wp2
            go_roundw
            case rel => exact ⟨k + 1, by omega, by go_num, hO5, hrS, hbe⟩
            case measure => simp [intOf]; omega
    · obtain rfl : k = lw := by omega
      go_wp2
      go_ret
      exact ⟨bo, rfl, hlebo, hbe, hrO.congr (fun q _ => by rw [agN_end])⟩
end Go.Proofs.YtblkejnckbeieaaGreatDoor

namespace Go.Proofs.YtblkejnckbeieaaGreatDoor
open Go.RowKit WaveP

theorem elIntW : ElemOf Tryz.prog 22 3 Eint.k 8 := by
  have h : (Tryz.prog.info? 3).map (fun i => (i.zero, i.size, i.bytes)) = some (some (.int .i64 0), 1, 8) := by kernel_rfl
  rcases hi : Tryz.prog.info? 3 with _ | i
  · rw [hi] at h; cases h
  · rw [hi] at h
    injection h with h
    injection h with h1 h2
    injection h2 with h2 h3
    exact ⟨i, _, Tryz.underlying22, hi, h1, h2, h3, rfl⟩
theorem flat_int (l : List Int) : l.flatMap Eint.enc = l.map (fun x => Value.int .i64 x) := by
  induction l with
  | nil => rfl
  | cons a l ih => rw [List.flatMap_cons, ih]; rfl
/-- A row of ints that a call has made, as a list. -/
theorem seq_row {w : World} {g n : Nat} {t : TypeId} {f : Nat → Int} (h : w.rowIs g t n (fun p => .int .i64 (f p))) (hn : n ≤ maxLen) : IsSeq Eint w (.slice (some ⟨g, 0, none⟩) n n) ((List.range n).map f) := by
  have hl : ((List.range n).map f).length = n := by simp
  refine ⟨some ⟨g, 0, none⟩, n, by rw [hl], by omega, hn, fun h0 => ⟨g, 0, rfl, h.lt, fun j hj => ?_⟩⟩
  have hj2 : j < n := by rw [hl] at hj; simpa [Eint] using hj
  rw [Nat.zero_add, h.cell hj2, flat_int, List.getD_eq_getElem?_getD, List.getElem?_eq_getElem (by simpa using hj2)]
  simp

def agL (t s : ByteArray) : List Int := if 0 < s.size ∧ s.size ≤ 1024 then (List.range (t.size + 1 - s.size)).map (fun p => (agree (byN t) (byN s) s.size p : Int)) else []
theorem range_one (f : Nat → Int) (p : Nat) : (List.range p).map f ++ [f p] = (List.range (p + 1)).map f := by rw [List.range_succ, List.map_append]; rfl

end Go.Proofs.YtblkejnckbeieaaGreatDoor

namespace Go.Proofs.YtblkejnckbeieaaGreatDoor
open Go.RowKit WaveP

theorem agL_far {t s : ByteArray} (h : ¬ (0 < s.size ∧ s.size ≤ t.size ∧ s.size ≤ 1024)) : agL t s = [] := by
  unfold agL
  by_cases hf : 0 < s.size ∧ s.size ≤ 1024
  · rw [if_pos hf, show t.size + 1 - s.size = 0 by omega]; rfl
  · rw [if_neg hf]
set_option maxRecDepth 100000 in
theorem agree_any (t s : ByteArray) (w : World) (ht : s.size ≤ 1024 → t.size ≤ 1073741824) (ht2 : t.size ≤ maxLen) (hs : s.size ≤ maxLen) (hT : ∀ w', Below w.heap.size w w' → TabsW w') :
    Calls Tryz.prog 28 #[.string t, .string s] w (RetSeq Eint w (agL t s)) := by
  by_cases hf : 0 < s.size ∧ s.size ≤ t.size ∧ s.size ≤ 1024
  · obtain ⟨f1, f2, f3⟩ := hf
    refine (agree_fits t s t.size s.size (t.size + 1 - s.size) w rfl rfl f1 f3 (by omega) (by omega) (ht f3) hT).mono ?_
    rintro e w' ⟨g, rfl, _, hb, hr⟩
    have hl : agL t s = (List.range (t.size + 1 - s.size)).map (fun p => (agree (byN t) (byN s) s.size p : Int)) := by unfold agL; rw [if_pos ⟨f1, f3⟩]
    refine ⟨_, rfl, ?_, hb⟩
    rw [hl]
    exact seq_row hr (by have := ht f3; unfold maxLen; omega)
  · rw [agL_far hf]
    have hb : fitsB t s = false := decide_eq_false hf
    have HF := Lib.hid (hb ▸ fits_any t s w ht2 hs)
    clear hf hb hT ht ht2 hs
    go_enter Tryz.func28, Tryz.ntmps28
    go_wp2_with (go_at_call 58; (refine HF.out.mono ?_); rintro e w1 ⟨rfl, rfl⟩)
    go_ret
    exact (Own.nil_of (Below.refl _ _)).ret (e := 3)

/-- The places below k where the list says n. -/
def plN (f : Nat → Bool) : Nat → List Int
  | 0 => []
  | p + 1 => plN f p ++ (if f p then [(p : Int)] else [])
theorem plN_succ (f : Nat → Bool) (p : Nat) : plN f (p + 1) = plN f p ++ (if f p then [(p : Int)] else []) := rfl
theorem plN_len (f : Nat → Bool) (p : Nat) : (plN f p).length ≤ p := by
  induction p with
  | zero => exact Nat.le_refl _
  | succ p ih =>
    rw [plN_succ, List.length_append]
    split <;> simp <;> omega
theorem agL_len (t s : ByteArray) : (agL t s).length ≤ t.size := by
  unfold agL
  split
  · rw [List.length_map, List.length_range]; omega
  · simp
def isN (l : List Int) (n : Nat) (p : Nat) : Bool := l.getD p 0 == (n : Int)
def plL (t s : ByteArray) : List Int := plN (isN (agL t s) s.size) (agL t s).length

set_option maxHeartbeats 1600000 in
set_option maxRecDepth 100000 in
theorem places_any (t s : ByteArray) (w : World) (ht : s.size ≤ 1024 → t.size ≤ 1073741824) (ht2 : t.size ≤ maxLen) (hs : s.size ≤ maxLen) (hT : ∀ w', Below w.heap.size w w' → TabsW w') :
    Calls Tryz.prog 9 #[.string t, .string s] w (RetSeq Eint w (plL t s)) := by
  have HA := Lib.hid (agree_any t s w ht ht2 hs hT)
  have hll : (agL t s).length ≤ 1073741824 := by
    have := agL_len t s
    by_cases h : s.size ≤ 1024
    · have := ht h; omega
    · rw [agL_far (by omega)]; exact Nat.zero_le _
  have HP := Lib.hid (show plL t s = plN (isN (agL t s) s.size) (agL t s).length from rfl)
  unfold maxLen at hs
  obtain ⟨l, hl⟩ : ∃ l, l = agL t s := ⟨_, rfl⟩
  rw [← hl] at HA hll HP
  clear hl hT ht ht2
  obtain ⟨n, hn⟩ : ∃ n, n = l.length := ⟨_, rfl⟩
  rw [← hn] at hll HP
  have HN := Lib.hid hn
  clear hn
  go_enter Tryz.func9, Tryz.ntmps9
  go_wp2_with (go_at_call 28; (refine HA.out.mono ?_); rintro e w1 ⟨v1, rfl, ⟨A1, c1, rfl, hc1, hc2, hS1⟩, hb1⟩; have HS1 := Lib.hid hS1; clear hS1; (rw [← HN.out] at hc1 ⊢))
  go_loopw [5, 12] (fun vo i wr => ∃ k : Nat, k ≤ n ∧ i = .int .i64 k ∧ Hid (Own Eint 3 w1 wr vo (plN (isN l s.size) k))) (fun _ i _ => n + 1 - (intOf i).toNat)
  case atStart => exact ⟨0, by omega, rfl, Lib.hid (Own.nil_of (Below.refl _ _))⟩
  case round =>
    obtain ⟨k, hk, rfl, HO⟩ := hrel
    have hbe := HO.out.2
    by_cases hkn : k < n
    · obtain ⟨ba, oa, rfl, hba, hca⟩ := (HS1.out.below hbe).int_ (show k < l.length by rw [← HN.out]; exact hkn)
      have hlen := plN_len (isN l s.size) k
      have HNX := Lib.hid (plN_succ (isN l s.size) k)
      have hgd : l.getD k 0 = l[k]'(by rw [← HN.out]; exact hkn) := by rw [List.getD_eq_getElem?_getD, List.getElem?_eq_getElem (by rw [← HN.out]; exact hkn)]; rfl
      obtain ⟨x, hx⟩ : ∃ x, x = l.getD k 0 := ⟨_, rfl⟩
      rw [← hgd, ← hx] at hca
      have HX := Lib.hid hx
      clear hgd hx
      by_cases hxs : x = (s.size : Int)
      · have hi : isN l s.size k = true := by unfold isN; rw [← HX.out, hxs]; simp
        rw [hi, if_pos rfl] at HNX
        clear hi
        go_wp2_with (at_builtin; (refine wpList_append_seq _ rfl (.tmp 21) (.tmp 23) 22 rfl 8 elIntW rfl (HO.out.alloc _) 1 rfl (SeqAt.new (E := Eint) _ [(k : Int)] 3) rfl ?c3 ?c4 ?_))
        case c3 => simp only [maxLen]; omega
        case c4 => omega
        intro v2 w2 hO2 hg2
        rw [← HNX.out] at hO2
        have HO3 := Lib.hid hO2
        clear hO2 hg2
        go_wp2
        go_roundw
        case rel => exact ⟨k + 1, by omega, by go_num, HO3⟩
        case measure => simp [intOf]; omega
      · have hi : isN l s.size k = false := by unfold isN; rw [← HX.out]; simp [hxs]
        rw [hi] at HNX
        have HO3 := Lib.hid (show Own Eint 3 w1 wr u5 (plN (isN l s.size) (k + 1)) by rw [HNX.out]; simpa using HO.out)
        clear hi
        go_wp2
        go_roundw
        case rel => exact ⟨k + 1, by omega, by go_num, HO3⟩
        case measure => simp [intOf]; omega
    · obtain rfl : k = n := by omega
      go_wp2
      go_ret
      rw [HP.out]
      exact ⟨_, rfl, HO.out.isSeq, hb1.trans (hbe.mono hb1.size)⟩
end Go.Proofs.YtblkejnckbeieaaGreatDoor

namespace Go.Proofs.YtblkejnckbeieaaGreatDoor
open Go.RowKit WaveP

theorem len_size (t : ByteArray) : t.data.toList.length = t.size := by rw [Array.length_toList]; rfl
/-- The next place of a word from a place on; -1 where there is none. -/
def nextW (t s : List UInt8) (p : Nat) : Int := if t.length < p then -1 else if 0 ≤ Lib.index (t.drop p) s then (p : Int) + Lib.index (t.drop p) s else -1
theorem occ_drop (t s : List UInt8) (p j : Nat) : Lib.occAt (t.drop p) s j = Lib.occAt t s (p + j) := by
  unfold Lib.occAt
  rw [List.drop_drop]
theorem nextW_hit {t s : List UInt8} {p : Nat} (hp : p ≤ t.length) (h : Lib.occAt t s p = true) : nextW t s p = p := by
  have h0 : Lib.index (t.drop p) s = ((0 : Nat) : Int) := Lib.index_first (Nat.zero_le _) (by rw [occ_drop]; exact h) (fun j hj => absurd hj (Nat.not_lt_zero _))
  unfold nextW
  rw [if_neg (by omega), h0, if_pos (by omega)]
  omega
theorem nextW_miss {t s : List UInt8} {p : Nat} (hp : p < t.length) (h : Lib.occAt t s p = false) : nextW t s p = nextW t s (p + 1) := by
  have hd : t.drop p = t[p] :: t.drop (p + 1) := List.drop_eq_getElem_cons hp
  have hi : Lib.index (t.drop p) s = if Lib.index (t.drop (p + 1)) s == -1 then -1 else Lib.index (t.drop (p + 1)) s + 1 := by
    unfold Lib.occAt at h
    rw [hd] at h ⊢
    rw [Lib.index, h]
    rfl
  have hg := Lib.index_ge (t.drop (p + 1)) s
  unfold nextW
  rw [if_neg (show ¬ t.length < p by omega), if_neg (show ¬ t.length < p + 1 by omega), hi]
  by_cases e : Lib.index (t.drop (p + 1)) s = -1
  · rw [e]
    rfl
  · have e2 : (Lib.index (t.drop (p + 1)) s == -1) = false := beq_false_of_ne e
    rw [e2]
    simp only [Bool.false_eq_true, if_false]
    rw [if_pos (by omega), if_pos (by omega)]
    omega
theorem nextW_end {t s : List UInt8} {p : Nat} (hs : s ≠ []) (h : t.length < p + s.length) : nextW t s p = -1 := by
  unfold nextW
  by_cases hp : t.length < p
  · rw [if_pos hp]
  · have h0 : Lib.index (t.drop p) s = -1 := Lib.index_none fun j hj => by
      rw [occ_drop]
      cases ho : Lib.occAt t s (p + j) with
      | false => rfl
      | true =>
        rcases Lib.occAt_room ho with h1 | h1
        · omega
        · exact absurd h1 hs
    rw [if_neg hp, h0, if_neg (by decide)]
theorem occ_all {t s : List UInt8} {p : Nat} (h : p + s.length ≤ t.length) : Lib.occAt t s p = true ↔ ∀ i, i < s.length → (t.getD (p + i) 0).toNat = (s.getD i 0).toNat := by
  rw [Lib.occAt_iff_take _ _ _ h, beq_iff_eq]
  constructor
  · intro e i hi
    have h1 : s.getD i 0 = t.getD (p + i) 0 := by
      conv => lhs; rw [← e]
      rw [List.getD_eq_getElem?_getD, List.getD_eq_getElem?_getD, List.getElem?_take_of_lt hi, List.getElem?_drop]
    rw [h1]
  · intro e
    apply List.ext_getElem?
    intro i
    by_cases hi : i < s.length
    · have h1 := e i hi
      have hp : p + i < t.length := by omega
      rw [List.getD_eq_getElem?_getD, List.getD_eq_getElem?_getD, List.getElem?_eq_getElem hp, List.getElem?_eq_getElem hi] at h1
      rw [List.getElem?_take_of_lt hi, List.getElem?_drop, List.getElem?_eq_getElem hp, List.getElem?_eq_getElem hi]
      exact congrArg some (UInt8.toNat_inj.1 h1)
    · rw [List.getElem?_eq_none (by simp; omega), List.getElem?_eq_none (by omega)]
theorem plN_first (f : Nat → Bool) : ∀ n : Nat, (∃ p, p < n ∧ f p = true ∧ (∀ j, j < p → f j = false) ∧ ∃ rest, plN f n = (p : Int) :: rest) ∨ (∀ j, j < n → f j = false) ∧ plN f n = []
  | 0 => .inr ⟨fun j hj => absurd hj (Nat.not_lt_zero _), rfl⟩
  | n + 1 => by
    rcases plN_first f n with ⟨p, h1, h2, h3, rest, h4⟩ | ⟨h1, h2⟩
    · exact .inl ⟨p, by omega, h2, h3, rest ++ (if f n then [(n : Int)] else []), by rw [plN_succ, h4]; rfl⟩
    · cases hf : f n with
      | true => exact .inl ⟨n, Nat.lt_succ_self _, hf, h1, [], by rw [plN_succ, h2, hf]; rfl⟩
      | false =>
        refine .inr ⟨fun j hj => ?_, by rw [plN_succ, h2, hf]; rfl⟩
        rcases Nat.lt_or_eq_of_le (Nat.le_of_lt_succ hj) with h | h
        · exact h1 j h
        · rw [h]; exact hf
theorem is_occ (t s : ByteArray) (h0 : 0 < s.size) (h1 : s.size ≤ 1024) (p : Nat) (hp : p < t.size + 1 - s.size) : isN (agL t s) s.size p = Lib.occAt t.data.toList s.data.toList p := by
  have hts := size_list t
  have hss := size_list s
  have hg : (agL t s).getD p 0 = (agree (byN t) (byN s) s.size p : Int) := by
    unfold agL
    rw [if_pos ⟨h0, h1⟩, List.getD_eq_getElem?_getD, List.getElem?_map, List.getElem?_range hp]
    rfl
  unfold isN
  rw [hg, Bool.eq_iff_iff, beq_iff_eq, occ_all (by omega)]
  unfold agree
  constructor
  · intro h i hi
    have := (cntN_all.1 (Int.ofNat_inj.1 h)) i (by omega)
    unfold byN at this
    exact beq_iff_eq.1 this
  · intro h
    refine congrArg _ (cntN_all.2 fun i hi => ?_)
    unfold byN
    exact beq_iff_eq.2 (h i (by omega))
theorem agL_len_ (t s : ByteArray) (h0 : 0 < s.size) (h1 : s.size ≤ 1024) : (agL t s).length = t.size + 1 - s.size := by
  unfold agL
  rw [if_pos ⟨h0, h1⟩]
  simp
/-- What Places tells first is where Index finds the word. -/
theorem plL_first (t s : ByteArray) (h0 : 0 < s.size) (h1 : s.size ≤ 1024) : (plL t s = [] ∧ Lib.index t.data.toList s.data.toList = -1) ∨ ∃ (p : Nat) (rest : List Int), plL t s = (p : Int) :: rest ∧ Lib.index t.data.toList s.data.toList = p := by
  have hts := size_list t
  have hss := size_list s
  have hl := agL_len_ t s h0 h1
  unfold plL
  rcases plN_first (isN (agL t s) s.size) (agL t s).length with ⟨p, h2, h3, h4, rest, h5⟩ | ⟨h2, h3⟩
  · refine .inr ⟨p, rest, h5, Lib.index_first (by omega) ?_ fun j hj => ?_⟩
    · rw [← is_occ t s h0 h1 p (by omega)]; exact h3
    · rw [← is_occ t s h0 h1 j (by omega)]; exact h4 j hj
  · refine .inl ⟨h3, Lib.index_none fun j hj => ?_⟩
    by_cases hjn : j < t.size + 1 - s.size
    · rw [← is_occ t s h0 h1 j hjn]; exact h2 j (by omega)
    · cases ho : Lib.occAt t.data.toList s.data.toList j with
      | false => rfl
      | true =>
        rcases Lib.occAt_room ho with h | h
        · omega
        · rw [h] at hss; have h7 : s.size = 0 := (by first | exact hss | exact hss.symm); omega
theorem index_le : ∀ (t s : List UInt8), Lib.index t s ≤ t.length
  | [], s => by unfold Lib.index; split <;> simp
  | c :: t, s => by
    have := index_le t s
    unfold Lib.index
    rw [List.length_cons]
    split
    · omega
    · split <;> omega
end Go.Proofs.YtblkejnckbeieaaGreatDoor
