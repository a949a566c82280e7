/- The law WaveShifts. -/
import Derived.Test.YtnjmefjcaiepfaaDoorWLU
namespace Go.Proofs.YtnjmefjcaiepfaaDoor
open Go.RowKit WaveP

theorem byN_append (a t : ByteArray) (i : Nat) : byN (a ++ t) (a.size + i) = byN t i := by
  unfold byN
  rw [ByteArray.data_append, Array.toList_append, List.getD_eq_getElem?_getD, List.getD_eq_getElem?_getD, size_list, List.getElem?_append_right (Nat.le_add_right _ _), Nat.add_sub_cancel_left]
theorem agree_shift (a t s : ByteArray) (n p : Nat) : agree (byN (a ++ t)) (byN s) n (a.size + p) = agree (byN t) (byN s) n p := by
  unfold agree
  refine cntN_congr fun j _ => ?_
  rw [Nat.add_assoc, byN_append]
theorem plN_add (f : Nat → Bool) (m n : Nat) : plN f (m + n) = plN f m ++ (plN (fun i => f (m + i)) n).map (fun x => x + (m : Int)) := by
  induction n with
  | zero => simp [plN]
  | succ n ih =>
    rw [← Nat.add_assoc, plN_succ, ih, plN_succ, List.map_append, List.append_assoc]
    congr 2
    split
    · simp; omega
    · rfl
theorem plN_congr {f g : Nat → Bool} {n : Nat} (h : ∀ i, i < n → f i = g i) : plN f n = plN g n := by
  induction n with
  | zero => rfl
  | succ n ih => rw [plN_succ, plN_succ, ih fun i hi => h i (by omega), h n (by omega)]
theorem agL_getD {t s : ByteArray} (h0 : 0 < s.size) (h1 : s.size ≤ 1024) (p : Nat) (hp : p < t.size + 1 - s.size) : (agL t s).getD p 0 = (agree (byN t) (byN s) s.size p : Int) := by
  unfold agL
  rw [if_pos ⟨h0, h1⟩, getD_map_range _ _ _ hp]
theorem agL_length {t s : ByteArray} (h0 : 0 < s.size) (h1 : s.size ≤ 1024) : (agL t s).length = t.size + 1 - s.size := by
  unfold agL
  rw [if_pos ⟨h0, h1⟩, List.length_map, List.length_range]
/-- The places behind more bytes ahead. -/
theorem pl_shift (a t s : ByteArray) : ∃ l, plL (a ++ t) s = l ++ (plL t s).map (fun x => x + (a.size : Int)) := by
  by_cases hf : 0 < s.size ∧ s.size ≤ t.size ∧ s.size ≤ 1024
  · obtain ⟨f1, f2, f3⟩ := hf
    have hsz : (a ++ t).size = a.size + t.size := ByteArray.size_append
    unfold plL
    rw [agL_length f1 f3, agL_length f1 f3, hsz, show a.size + t.size + 1 - s.size = a.size + (t.size + 1 - s.size) by omega, plN_add]
    refine ⟨_, congrArg _ (congrArg _ (plN_congr fun i hi => ?_))⟩
    unfold isN
    rw [agL_getD f1 f3 _ (by rw [hsz]; omega), agL_getD f1 f3 _ hi, agree_shift]
  · refine ⟨plL (a ++ t) s, ?_⟩
    have : plL t s = [] := by unfold plL; rw [agL_far hf]; rfl
    rw [this]; simp

theorem plN_mem (f : Nat → Bool) (n : Nat) : ∀ x ∈ plN f n, 0 ≤ x ∧ x < (n : Int) := by
  induction n with
  | zero => intro x hx; cases hx
  | succ n ih =>
    intro x hx
    rw [plN_succ, List.mem_append] at hx
    rcases hx with h | h
    · have := ih x h; omega
    · split at h
      · rw [List.mem_singleton] at h; omega
      · cases h
theorem getD_mem_or (l : List Int) (k : Nat) : l.getD k 0 ∈ l ∨ l.getD k 0 = 0 := by
  rw [List.getD_eq_getElem?_getD]
  rcases Nat.lt_or_ge k l.length with h | h
  · rw [List.getElem?_eq_getElem h]; exact .inl (List.getElem_mem h)
  · rw [List.getElem?_eq_none h]; exact .inr rfl

set_option maxHeartbeats 1600000 in
set_option maxRecDepth 100000 in
theorem shifts_any (a t s : ByteArray) (w : World) (ha : a.size ≤ 1048576) (ht : t.size ≤ 1048576) (hs : s.size ≤ 1048576) (hT : ∀ w', Below w.heap.size w w' → TabsW w') :
    Calls Tryd.prog 7 #[.string a, .string t, .string s] w fun e w' => e = .returned (.bool true) ∧ Below w.heap.size w w' := by
  have hsz : (a ++ t).size = a.size + t.size := ByteArray.size_append
  have HS := Lib.hid (speaks_any w hT)
  have HP := Lib.hid (fun w1 (hb : Below w.heap.size w w1) => places_any t s w1 (fun _ => by omega) (by unfold maxLen; omega) (by unfold maxLen; omega) (tabs_later hT hb))
  have HQ := Lib.hid (fun w1 (hb : Below w.heap.size w w1) => places_any (a ++ t) s w1 (fun _ => by omega) (by unfold maxLen; omega) (by unfold maxLen; omega) (tabs_later hT hb))
  obtain ⟨L, hL⟩ := pl_shift a t s
  have hl1 := plN_len (isN (agL t s) s.size) (agL t s).length
  have hl2 := agL_len t s
  have hl3 := plN_len (isN (agL (a ++ t) s) s.size) (agL (a ++ t) s).length
  have hl4 := agL_len (a ++ t) s
  obtain ⟨l, hl⟩ : ∃ l, l = plL t s := ⟨_, rfl⟩
  obtain ⟨m, hm⟩ : ∃ m, m = l.length := ⟨_, rfl⟩
  obtain ⟨r, hr⟩ : ∃ r, r = L.length := ⟨_, rfl⟩
  have hlen : (plL (a ++ t) s).length = r + m := by rw [hL, ← hl, List.length_append, List.length_map, hr, hm]
  have hm1 : m ≤ 1048576 := by rw [hm, hl]; show (plN _ _).length ≤ _; omega
  have hr1 : r + m ≤ 2097152 := by rw [← hlen]; show (plN _ _).length ≤ _; omega
  rw [← hl] at HP hL
  rw [hL] at HQ hlen
  have HL := Lib.hid hlen
  have HM := Lib.hid hm
  have HR := Lib.hid hr
  obtain ⟨q, hq⟩ : ∃ q, q = (a.size + t.size) * (s.size + 1) := ⟨_, rfl⟩
  have hq1 : q ≤ 2097152 * 1048577 := by rw [hq]; exact Nat.mul_le_mul (by omega) (by omega)
  have hqi : ((a.size : Int) + (t.size : Int)) * ((s.size : Int) + 1) = (q : Int) := by rw [hq, Int.natCast_mul, Int.natCast_add]; rfl
  have hla : ∀ k, 0 ≤ l.getD k 0 ∧ l.getD k 0 ≤ 1048576 := fun k => by
    rcases getD_mem_or l k with h | h
    · have : ∀ x ∈ l, 0 ≤ x ∧ x < ((agL t s).length : Int) := by rw [hl]; exact plN_mem _ _
      have := this _ h
      omega
    · omega
  have hgl : ∀ k, k < m → (L ++ l.map (fun x => x + (a.size : Int))).getD (r + k) 0 = l.getD k 0 + (a.size : Int) := fun k hk => by
    have hk2 : k < l.length := by omega
    rw [List.getD_eq_getElem?_getD, List.getD_eq_getElem?_getD, List.getElem?_append_right (by omega), hr, Nat.add_sub_cancel_left, List.getElem?_map, List.getElem?_eq_getElem hk2]
    rfl
  have HG := Lib.hid hgl
  have HLA := Lib.hid hla
  clear hT hl hm hr hL hlen hl1 hl2 hl3 hl4 hq hla hgl
  by_cases hqb : q ≤ 4194304
  · have HM1 : Hid True := Lib.hid trivial
    go_enter Tryd.func7, Tryd.ntmps7
    go_wp2_with (first
      | (go_at_call 10; (refine HS.out.mono ?_); rintro e w1 ⟨rfl, hb1⟩)
      | (go_at_call 16; clear HM1; (refine (HP.out _ hb1).mono ?_); rintro e w2 ⟨v2, rfl, ⟨A2, c2, rfl, hc2, hd2, hS2⟩, hb2⟩; have HS2 := Lib.hid hS2; clear hc2 hd2 hS2; (rw [← HM.out]))
      | (go_at_call 16; (refine (HQ.out _ (hb1.trans (hb2.mono hb1.size))).mono ?_); rintro e w3 ⟨v3, rfl, ⟨A3, c3, rfl, hc3, hd3, hS3⟩, hb3⟩; have HS3 := Lib.hid hS3; clear hc3 hd3 hS3; (rw [HL.out]))
      | fail)
    have hb13 := (hb1.trans (hb2.mono hb1.size)).trans (hb3.mono (hb1.trans (hb2.mono hb1.size)).size)
    have HS2b := Lib.hid ((HS2.out.below hb3).more hb3.size)
    clear hb1 hb2 hb3 HS2
    go_loopw [9] (fun i wr => ∃ k : Nat, k ≤ m ∧ i = .int .i64 k ∧ Below w3.heap.size w3 wr) (fun i _ => m + 1 - (intOf i).toNat)
    case atStart => exact ⟨0, by omega, rfl, Below.refl _ _⟩
    case round =>
      obtain ⟨k, hk, rfl, hbe⟩ := hrel
      by_cases hkm : k < m
      · obtain ⟨b, o, rfl, _, g0⟩ := (HS2b.out.below hbe).ints_ (by have := HM.out; omega)
        obtain ⟨b', o', rfl, _, g1⟩ := (HS3.out.below hbe).ints_ (by rw [HL.out]; omega)
        have c0 := g0 k (by rw [← HM.out]; exact hkm)
        have c1 := g1 (r + k) (by rw [HL.out]; omega)
        rw [HG.out k hkm] at c1
        obtain ⟨x1, x2⟩ := HLA.out k
        obtain ⟨x, hx⟩ : ∃ x, x = l.getD k 0 := ⟨_, rfl⟩
        rw [← hx] at c0 c1 x1 x2
        clear g0 g1 hx
        obtain ⟨j, hj⟩ : ∃ j, j = r + k := ⟨_, rfl⟩
        have hj2 : (r : Int) + (k : Int) = (j : Int) := by omega
        have hj3 : decide ((j : Int) < 0) = false := decide_eq_false (by omega)
        rw [← hj] at c1
        have hjn : j < r + m := by omega
        have hwx : IntKind.i64.wrap (x + (a.size : Int)) = x + (a.size : Int) := IntWalk.i64_in _ (by omega)
        clear hj
        go_wp2
        go_quiet (fail)
        go_wp2
        go_roundw
        case rel => exact ⟨k + 1, by omega, by go_num, below_drewN hbe _⟩
        case measure => simp [intOf]; omega
      · obtain rfl : k = m := by omega
        go_wp2
        go_ret
        exact ⟨congrArg (fun b => Ending.returned (.bool b)) (decide_eq_true (by omega)), hb13.trans (hbe.mono hb13.size)⟩
  · go_enter Tryd.func7, Tryd.ntmps7
    go_wp2_with (go_at_call 10; (refine HS.out.mono ?_); rintro e w1 ⟨rfl, hb1⟩)
    go_ret
    exact ⟨rfl, hb1⟩
end Go.Proofs.YtnjmefjcaiepfaaDoor
