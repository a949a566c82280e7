/- The walk of marks: 1 where a byte stands. -/
import Derived.Test.YtnjmefjcaiepfaaDoorWPrd
import Derived.Test.YtnjmefjcaiepfaaDoorWAgP
namespace Go.Proofs.YtnjmefjcaiepfaaDoor
open Go.RowKit WaveP

theorem size_list (s : ByteArray) : s.size = s.data.toList.length := by rw [Array.length_toList]; rfl
/-- The byte at i, as a number. -/
def byN (s : ByteArray) (i : Nat) : Nat := (s.data.toList.getD i 0).toNat
theorem byN_lt (s : ByteArray) (i : Nat) : byN s i < 256 := UInt8.toNat_lt _
theorem at_byN {s : ByteArray} {k : Nat} (hk : k < s.size) : (s[k]'hk).toNat = byN s k := by
  have hk' : k < s.data.toList.length := by rw [← size_list]; exact hk
  unfold byN
  rw [List.getD_eq_getElem?_getD, List.getElem?_eq_getElem hk']
  simp
  rfl
/-- The marks behind k rounds. -/
def mkB (T : Nat → Nat) (c n k j : Nat) : Int := if j < n ∧ n - 1 - j < k ∧ T (n - 1 - j) = c then 1 else 0
def mkF (back : Bool) (T : Nat → Nat) (c n k j : Nat) : Int := if back then mkB T c n k j else mkT T c 0 k j
theorem mkF_zero (back : Bool) (T : Nat → Nat) (c n j : Nat) : mkF back T c n 0 j = 0 := by
  unfold mkF mkB mkT
  cases back <;> simp
theorem mkF_skip {back : Bool} {T : Nat → Nat} {c n k j : Nat} (h : T k ≠ c) : mkF back T c n k j = mkF back T c n (k + 1) j := by
  unfold mkF mkB mkT
  cases back
  · simp only [Nat.zero_add, Bool.false_eq_true, if_false]
    by_cases e : j = k
    · subst e; rw [if_neg (fun h2 => by omega), if_neg (fun h2 => h h2.2)]
    · by_cases e2 : j < k
      · by_cases e3 : T j = c
        · rw [if_pos ⟨e2, e3⟩, if_pos ⟨by omega, e3⟩]
        · rw [if_neg (fun h2 => e3 h2.2), if_neg (fun h2 => e3 h2.2)]
      · rw [if_neg (fun h2 => e2 h2.1), if_neg (fun h2 => by omega)]
  · simp only [if_true]
    by_cases e : n - 1 - j = k
    · rw [if_neg (fun h2 => by omega), if_neg (fun h2 => h (by rw [← e]; exact h2.2.2))]
    · by_cases e2 : j < n ∧ n - 1 - j < k ∧ T (n - 1 - j) = c
      · rw [if_pos e2, if_pos ⟨e2.1, by omega, e2.2.2⟩]
      · rw [if_neg e2, if_neg (fun h2 => e2 ⟨h2.1, by omega, h2.2.2⟩)]
theorem mkF_set {back : Bool} {T : Nat → Nat} {c n k : Nat} (hk : k < n) (h : T k = c) (j : Nat) (hj : j < n) :
    (if j = (if back then n - 1 - k else k) then 1 else mkF back T c n k j) = mkF back T c n (k + 1) j := by
  unfold mkF mkB mkT
  cases back
  · simp only [Nat.zero_add, Bool.false_eq_true, if_false]
    by_cases e : j = k
    · subst e; rw [if_pos rfl, if_pos ⟨by omega, h⟩]
    · rw [if_neg e]
      by_cases e2 : j < k
      · by_cases e3 : T j = c
        · rw [if_pos ⟨e2, e3⟩, if_pos ⟨by omega, e3⟩]
        · rw [if_neg (fun h2 => e3 h2.2), if_neg (fun h2 => e3 h2.2)]
      · rw [if_neg (fun h2 => e2 h2.1), if_neg (fun h2 => by omega)]
  · simp only [if_true]
    by_cases e : j = n - 1 - k
    · rw [if_pos e, if_pos ⟨hj, by omega, by rw [show n - 1 - j = k by omega]; exact h⟩]
    · rw [if_neg e]
      by_cases e2 : j < n ∧ n - 1 - j < k ∧ T (n - 1 - j) = c
      · rw [if_pos e2, if_pos ⟨e2.1, by omega, e2.2.2⟩]
      · rw [if_neg e2, if_neg (fun h2 => e2 ⟨h2.1, by omega, h2.2.2⟩)]
theorem mkF_end_t (T : Nat → Nat) (c n j : Nat) : mkF false T c n n j = mkT T c 0 n j := rfl
theorem mkF_end_w (T : Nat → Nat) (c n j : Nat) : mkF true T c n n j = mkW T c n j := by
  show mkB T c n n j = _
  unfold mkB mkW
  by_cases h : j < n ∧ T (n - 1 - j) = c
  · rw [if_pos h, if_pos ⟨h.1, by omega, h.2⟩]
  · rw [if_neg h, if_neg (fun h2 => h ⟨h2.1, h2.2.2⟩)]

set_option maxHeartbeats 1600000 in
set_option maxRecDepth 100000 in
theorem marks_any (s : ByteArray) (c n : Nat) (back : Bool) (w : World) (hsz : s.size = n) (hn0 : 0 < n) (hn1 : n ≤ 4096) (hc : c < 256) :
    Calls Tryd.prog 22 #[.string s, .int .u8 c, .bool back] w fun e w' => e = .returned (.slice (some ⟨w.heap.size, 0, none⟩) n n) ∧ Below w.heap.size w w' ∧ w'.rowIs w.heap.size 3 n (fun j => .int .i64 (mkF back (byN s) c n n j)) := by
  have hmk := run_make_row' (P := Tryd.prog) 22 3 (.int .i64 0) 8 Tryd.underlying22 (by kernel_rfl) rfl .i64 .i64 n (by omega) (by omega)
  go_enter Tryd.func22, Tryd.ntmps22
  go_wp2
  clear hmk
  go_loopw [14] (fun i wr => ∃ k : Nat, k ≤ n ∧ i = .int .i64 k ∧ wr.rowIs w.heap.size 3 n (fun j => .int .i64 (mkF back (byN s) c n k j)) ∧ Below w.heap.size w wr)
    (fun i _ => n + 1 - (intOf i).toNat)
  case atStart => exact ⟨0, by omega, rfl, (World.rowIs_made w _ n _).congr (fun j _ => by rw [mkF_zero]), (Below.refl _ w).alloc (Nat.le_refl _) _⟩
  case round =>
    obtain ⟨k, hk, rfl, hrow, hbe⟩ := hrel
    by_cases hlt : k < n
    · have hks : k < s.size := by omega
      have hat := at_byN hks
      have hb := byN_lt s k
      obtain ⟨x, hx⟩ : ∃ x, x = byN s k := ⟨_, rfl⟩
      rw [← hx] at hat hb
      have hs1 := hrow.cell hlt
      have hs2 := hrow.cell (show n - 1 - k < n by omega)
      have hf1 := hrow.frozen k
      have hf2 := hrow.frozen (n - 1 - k)
      have hq : (n : Int) - 1 - (k : Int) = ((n - 1 - k : Nat) : Int) := by omega
      by_cases hxc : x = c
      · have hst := hrow.set (if back then n - 1 - k else k) (.int .i64 1)
        have hse := fun j hj => mkF_set (back := back) hlt (show byN s k = c by rw [← hx]; exact hxc) j hj
        have HX := Lib.hid hx
        subst hxc
        clear hx
        cases back
        · go_wp2
          go_roundw
          case rel =>
            refine ⟨k + 1, by omega, by go_num, hst.congr (fun j hj => ?_), hbe.setCell (Nat.le_refl _) _⟩
            rw [← hse j hj]
            by_cases e : j = (if false = true then n - 1 - k else k)
            · rw [if_pos e, if_pos e]
            · rw [if_neg e, if_neg e]
          case measure => simp [intOf]; omega
        · go_wp2
          go_roundw
          case rel =>
            refine ⟨k + 1, by omega, by go_num, hst.congr (fun j hj => ?_), hbe.setCell (Nat.le_refl _) _⟩
            rw [← hse j hj]
            by_cases e : j = (if true = true then n - 1 - k else k)
            · rw [if_pos e, if_pos e]
            · rw [if_neg e, if_neg e]
          case measure => simp [intOf]; omega
      · have hrow2 := hrow.congr (fun j _ => congrArg (Value.int .i64) (mkF_skip (back := back) (n := n) (j := j) (show byN s k ≠ c by rw [← hx]; exact hxc)))
        clear hx
        go_wp2
        go_roundw
        case rel => exact ⟨k + 1, by omega, by go_num, hrow2, hbe⟩
        case measure => simp [intOf]; omega
    · obtain rfl : k = n := by omega
      go_wp2
      go_ret
      exact ⟨rfl, hbe, hrow⟩
end Go.Proofs.YtnjmefjcaiepfaaDoor
