/- Agree and Places of the code, as lists. -/
import Derived.Test.YtnjmefjcaiepfaaDoorWRf
namespace Go.Proofs.YtnjmefjcaiepfaaDoor
open Go.RowKit WaveP

theorem agL_far {t s : ByteArray} (h : ¬ (0 < s.size ∧ s.size ≤ t.size ∧ s.size ≤ 1024)) : agL t s = [] := by
  unfold agL
  by_cases hf : 0 < s.size ∧ s.size ≤ 1024
  · rw [if_pos hf, show t.size + 1 - s.size = 0 by omega]; rfl
  · rw [if_neg hf]
set_option maxRecDepth 100000 in
theorem agree_any (t s : ByteArray) (w : World) (ht : s.size ≤ 1024 → t.size ≤ 1073741824) (ht2 : t.size ≤ maxLen) (hs : s.size ≤ maxLen) (hT : ∀ w', Below w.heap.size w w' → TabsW w') :
    Calls Tryd.prog 13 #[.string t, .string s] w (RetSeq Eint w (agL t s)) := by
  by_cases hf : 0 < s.size ∧ s.size ≤ t.size ∧ s.size ≤ 1024
  · obtain ⟨f1, f2, f3⟩ := hf
    refine (agree_fits t s t.size s.size (t.size + 1 - s.size) w rfl rfl f1 f3 (by omega) (by omega) (ht f3) hT).mono ?_
    rintro e w' ⟨g, rfl, _, hb, hr⟩
    have hl : agL t s = (List.range (t.size + 1 - s.size)).map (fun p => (agree (byN t) (byN s) s.size p : Int)) := by unfold agL; rw [if_pos ⟨f1, f3⟩]
    refine ⟨_, rfl, ?_, hb⟩
    rw [hl]
    exact seq_row hr (by have := ht f3; unfold maxLen; omega)
  · rw [agL_far hf]
    have hb : fitsB t s = false := decide_eq_false hf
    have HF := Lib.hid (hb ▸ fits_any t s w ht2 hs)
    clear hf hb hT ht ht2 hs
    go_enter Tryd.func13, Tryd.ntmps13
    go_wp2_with (go_at_call 21; (refine HF.out.mono ?_); rintro e w1 ⟨rfl, rfl⟩)
    go_ret
    exact (Own.nil_of (Below.refl _ _)).ret (e := 3)

/-- The places below k where the list says n. -/
def plN (f : Nat → Bool) : Nat → List Int
  | 0 => []
  | p + 1 => plN f p ++ (if f p then [(p : Int)] else [])
theorem plN_succ (f : Nat → Bool) (p : Nat) : plN f (p + 1) = plN f p ++ (if f p then [(p : Int)] else []) := rfl
theorem plN_len (f : Nat → Bool) (p : Nat) : (plN f p).length ≤ p := by
  induction p with
  | zero => exact Nat.le_refl _
  | succ p ih =>
    rw [plN_succ, List.length_append]
    split <;> simp <;> omega
theorem agL_len (t s : ByteArray) : (agL t s).length ≤ t.size := by
  unfold agL
  split
  · rw [List.length_map, List.length_range]; omega
  · simp
def isN (l : List Int) (n : Nat) (p : Nat) : Bool := l.getD p 0 == (n : Int)
def plL (t s : ByteArray) : List Int := plN (isN (agL t s) s.size) (agL t s).length

set_option maxHeartbeats 1600000 in
set_option maxRecDepth 100000 in
theorem places_any (t s : ByteArray) (w : World) (ht : s.size ≤ 1024 → t.size ≤ 1073741824) (ht2 : t.size ≤ maxLen) (hs : s.size ≤ maxLen) (hT : ∀ w', Below w.heap.size w w' → TabsW w') :
    Calls Tryd.prog 16 #[.string t, .string s] w (RetSeq Eint w (plL t s)) := by
  have HA := Lib.hid (agree_any t s w ht ht2 hs hT)
  have hll : (agL t s).length ≤ 1073741824 := by
    have := agL_len t s
    by_cases h : s.size ≤ 1024
    · have := ht h; omega
    · rw [agL_far (by omega)]; exact Nat.zero_le _
  have HP := Lib.hid (show plL t s = plN (isN (agL t s) s.size) (agL t s).length from rfl)
  unfold maxLen at hs
  obtain ⟨l, hl⟩ : ∃ l, l = agL t s := ⟨_, rfl⟩
  rw [← hl] at HA hll HP
  clear hl hT ht ht2
  obtain ⟨n, hn⟩ : ∃ n, n = l.length := ⟨_, rfl⟩
  rw [← hn] at hll HP
  have HN := Lib.hid hn
  clear hn
  go_enter Tryd.func16, Tryd.ntmps16
  go_wp2_with (go_at_call 13; (refine HA.out.mono ?_); rintro e w1 ⟨v1, rfl, ⟨A1, c1, rfl, hc1, hc2, hS1⟩, hb1⟩; have HS1 := Lib.hid hS1; clear hS1; (rw [← HN.out] at hc1 ⊢))
  go_loopw [5, 12] (fun vo i wr => ∃ k : Nat, k ≤ n ∧ i = .int .i64 k ∧ Hid (Own Eint 3 w1 wr vo (plN (isN l s.size) k))) (fun _ i _ => n + 1 - (intOf i).toNat)
  case atStart => exact ⟨0, by omega, rfl, Lib.hid (Own.nil_of (Below.refl _ _))⟩
  case round =>
    obtain ⟨k, hk, rfl, HO⟩ := hrel
    have hbe := HO.out.2
    by_cases hkn : k < n
    · obtain ⟨ba, oa, rfl, hba, hca⟩ := (HS1.out.below hbe).int_ (show k < l.length by rw [← HN.out]; exact hkn)
      have hlen := plN_len (isN l s.size) k
      have HNX := Lib.hid (plN_succ (isN l s.size) k)
      have hgd : l.getD k 0 = l[k]'(by rw [← HN.out]; exact hkn) := by rw [List.getD_eq_getElem?_getD, List.getElem?_eq_getElem (by rw [← HN.out]; exact hkn)]; rfl
      obtain ⟨x, hx⟩ : ∃ x, x = l.getD k 0 := ⟨_, rfl⟩
      rw [← hgd, ← hx] at hca
      have HX := Lib.hid hx
      clear hgd hx
      by_cases hxs : x = (s.size : Int)
      · have hi : isN l s.size k = true := by unfold isN; rw [← HX.out, hxs]; simp
        rw [hi, if_pos rfl] at HNX
        clear hi
        go_wp2_with (at_builtin; (refine wpList_append_seq _ rfl (.tmp 21) (.tmp 23) 22 rfl 8 elInt rfl (HO.out.alloc _) 1 rfl (SeqAt.new (E := Eint) _ [(k : Int)] 3) rfl ?c3 ?c4 ?_))
        case c3 => simp only [maxLen]; omega
        case c4 => omega
        intro v2 w2 hO2 hg2
        rw [← HNX.out] at hO2
        have HO3 := Lib.hid hO2
        clear hO2 hg2
        go_wp2
        go_roundw
        case rel => exact ⟨k + 1, by omega, by go_num, HO3⟩
        case measure => simp [intOf]; omega
      · have hi : isN l s.size k = false := by unfold isN; rw [← HX.out]; simp [hxs]
        rw [hi] at HNX
        have HO3 := Lib.hid (show Own Eint 3 w1 wr u5 (plN (isN l s.size) (k + 1)) by rw [HNX.out]; simpa using HO.out)
        clear hi
        go_wp2
        go_roundw
        case rel => exact ⟨k + 1, by omega, by go_num, HO3⟩
        case measure => simp [intOf]; omega
    · obtain rfl : k = n := by omega
      go_wp2
      go_ret
      rw [HP.out]
      exact ⟨_, rfl, HO.out.isSeq, hb1.trans (hbe.mono hb1.size)⟩
end Go.Proofs.YtnjmefjcaiepfaaDoor
