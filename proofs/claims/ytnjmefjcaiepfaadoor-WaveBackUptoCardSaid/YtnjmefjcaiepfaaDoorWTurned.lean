/- The walk of turned: the numbers by their places' bits the other way round. -/
import Derived.Test.YtnjmefjcaiepfaaDoorWRev
import Derived.Test.YtnjmefjcaiepfaaDoorShelf
import Derived.Deep.OwnRows
namespace Go.Proofs.YtnjmefjcaiepfaaDoor
open Go.RowKit WaveP
open Go in
theorem run_store_complex (P : Program) (w : World) (a : Addr) (m : Mode) (k : FloatKind) (x y : Nat) : (store a (.complex k x y) m).run P w = stored P w a (.complex k x y) m := run_store P w a _ m rfl
attribute [local go_sem] run_store_complex

/-- The row behind k rounds. -/
def cpx (p : Nat × Nat) : Value := .complex .f64 p.1 p.2
def rvF (L k : Nat) (f : Nat → Nat × Nat) (j : Nat) : Value := if rev L j < k then cpx (f (rev L j)) else .complex .f64 0 0
theorem rvF_step {L k : Nat} {f : Nat → Nat × Nat} (hL : L ≤ 12) (hk : k < 2 ^ L) (j : Nat) (hj : j < 2 ^ L) : (if j = rev L k then cpx (f k) else rvF L k f j) = rvF L (k + 1) f j := by
  unfold rvF
  by_cases h : j = rev L k
  · rw [if_pos h, h, rev_rev hL hk, if_pos (by omega)]
  · rw [if_neg h]
    have hne : rev L j ≠ k := fun e => h (by rw [← e, rev_rev hL hj])
    by_cases h2 : rev L j < k
    · rw [if_pos h2, if_pos (by omega)]
    · rw [if_neg h2, if_neg (by omega)]
theorem len_pow : ∀ L, L ≤ 12 → Lib.bitLen (2 ^ L) = L + 1 := by decide +kernel
theorem and_mask_i64 (x L : Nat) (hL : L ≤ 12) (hx : x < 2 ^ L) : bits .and .i64 (x : Int) (((2 ^ L : Nat) : Int) - 1) = (x : Int) := by
  have hp : 2 ^ L ≤ 2 ^ 12 := Nat.pow_le_pow_right (by decide) hL
  have hp0 := Nat.two_pow_pos L
  rw [show (((2 ^ L : Nat) : Int) - 1) = ((2 ^ L - 1 : Nat) : Int) by omega]
  show IntKind.i64.wrap ((BitVec.ofInt 64 (x : Int) &&& BitVec.ofInt 64 ((2 ^ L - 1 : Nat) : Int)).toNat : Int) = _
  rw [BitVec.toNat_and, BitVec.toNat_ofInt, BitVec.toNat_ofInt, show ((x : Int) % ((2 ^ 64 : Nat) : Int)).toNat = x by omega, show (((2 ^ L - 1 : Nat) : Int) % ((2 ^ 64 : Nat) : Int)).toNat = 2 ^ L - 1 by omega, Nat.and_two_pow_sub_one_eq_mod, Nat.mod_eq_of_lt hx, IntKind.wrap_i64]
  omega

set_option maxHeartbeats 1600000 in
set_option maxRecDepth 100000 in
theorem turned_any (gb go c n L : Nat) (f : Nat → Nat × Nat) (w : World) (hL : L ≤ 12) (hn : n = 2 ^ L) (hx : ∀ i, i < n → w.cell? ⟨gb, go + i, none⟩ = some (cpx (f i))) :
    Calls Tryd.prog 19 #[.slice (some ⟨gb, go, none⟩) n c] w fun e w' => e = .returned (.slice (some ⟨w.heap.size, 0, none⟩) n n) ∧ Below w.heap.size w w' ∧ w'.rowIs w.heap.size 25 n (fun j => cpx (f (rev L j))) := by
  have hp : 2 ^ L ≤ 4096 := Nat.le_trans (Nat.pow_le_pow_right (by decide) hL : 2 ^ L ≤ 2 ^ 12) (by decide)
  have hp0 := Nat.two_pow_pos L
  have hn0 : 0 < n := by omega
  have hn1 : n ≤ 4096 := by omega
  have HX := Lib.hid hx
  have HN := Lib.hid hn
  have HL := Lib.hid hL
  have hgb : gb < w.heap.size := World.block_lt_of_cell? _ _ (hx 0 hn0)
  obtain ⟨m, hm⟩ : ∃ m, m = L + 1 := ⟨_, rfl⟩
  have hlen : Lib.bitLen n = m := by rw [hn, hm]; exact len_pow L hL
  have hm1 : (m : Int) - 1 = (L : Int) := by omega
  have HLEN := Lib.hid hlen
  clear hx hp hp0 hn hlen hm
  have hmk := run_make_row' (P := Tryd.prog) 24 25 (.complex .f64 0 0) 16 Tryd.underlying24 (by kernel_rfl) rfl .i64 .i64 n (by omega) (by omega)
  go_enter Tryd.func19, Tryd.ntmps19
  go_wp2_with (go_at_call 24; refine (Tryd.bits_Len (n : Int) _ (by omega) (by omega)).mono ?_; rintro e w1 ⟨rfl, rfl⟩; (simp only [Int.toNat_natCast, HLEN.out]))
  clear hmk hm1
  go_loopw [17] (fun i wr => ∃ k : Nat, k ≤ n ∧ i = .int .i64 k ∧ wr.rowIs w.heap.size 25 n (rvF L k f) ∧ Below w.heap.size w wr)
    (fun i _ => n + 1 - (intOf i).toNat)
  case atStart => exact ⟨0, by omega, rfl, (World.rowIs_made w _ n _).congr (fun j _ => by unfold rvF; rw [if_neg (by omega)]), (Below.refl _ w).alloc (Nat.le_refl _) _⟩
  case round =>
    obtain ⟨k, hk, rfl, hrow, hbe⟩ := hrel
    by_cases hlt : k < n
    · have hkL : k < 2 ^ L := by rw [← HN.out]; exact hlt
      have hc0 : wr.cell? ⟨gb, go + k, none⟩ = some (.complex .f64 (f k).1 (f k).2) := (hbe.cell (p := ⟨gb, go + k, none⟩) hgb).trans (HX.out k hlt)
      have hj : rev L k < n := by rw [HN.out]; exact rev_lt L k
      have hs0 := hrow.cell hj
      have hf0 := hrow.frozen (rev L k)
      have hsh : ((bitsR k : Nat) : Int) / 2 ^ (32 - L) = ((rev L k : Nat) : Int) := by
        rw [← bitsR_rev HL.out hkL]; push_cast; rfl
      have hw64 : wrap64 ((rev L k : Nat) : Int) = ((rev L k : Nat) : Int) := by unfold wrap64; omega
      have hand := and_mask_i64 (rev L k) L HL.out (rev_lt L k)
      rw [← HN.out] at hand
      go_wp2_with (go_at_call 25; (refine (rev32_any k (by omega) _).mono ?_); rintro e w1 ⟨rfl, rfl⟩)
      go_roundw
      case rel => exact ⟨k + 1, by omega, by go_num, (hrow.set (rev L k) (cpx (f k))).congr (fun j hj => rvF_step HL.out hkL j (by rw [← HN.out]; exact hj)), hbe.setCell (Nat.le_refl _) _⟩
      case measure => simp [intOf]; omega
    · obtain rfl : k = n := by omega
      go_wp2
      go_ret
      exact ⟨rfl, hbe, hrow.congr (fun j hj => by unfold rvF; rw [if_pos (by rw [HN.out]; exact rev_lt L j)])⟩
end Go.Proofs.YtnjmefjcaiepfaaDoor
