/- The walk of points: numbers as points, as many as a transform has. -/
import Derived.Test.YtnjmefjcaiepfaaDoorWTr
import Derived.Test.YtnjmefjcaiepfaaDoorWConv
namespace Go.Proofs.YtnjmefjcaiepfaaDoor
open Go.RowKit WaveP
open Go in
theorem run_store_complex3 (P : Program) (w : World) (a : Addr) (m : Mode) (k : FloatKind) (x y : Nat) : (store a (.complex k x y) m).run P w = stored P w a (.complex k x y) m := run_store P w a _ m rfl
attribute [local go_sem] run_store_complex3

def wI (x : Int) : Nat := floatOfInt .f64 x
/-- The points' words. -/
def ptF (m : Nat) (f : Nat → Int) (j : Nat) : Nat × Nat := if j < m then (wI (f j), 0) else (0, 0)
theorem wI_all : ∀ n : Nat, n < 257 → (fin (wI (n : Int)) = true ∧ val (wI (n : Int)) = (n : Rat)) ∧ (fin (wI (-(n : Int))) = true ∧ val (wI (-(n : Int))) = -(n : Rat)) := by decide +kernel
theorem wI_val {x : Int} (h : x.natAbs ≤ 256) : fin (wI x) = true ∧ val (wI x) = (x : Rat) := by
  obtain ⟨h1, h2⟩ := wI_all x.natAbs (by omega)
  rcases Int.natAbs_eq x with e | e
  · rw [← e] at h1
    refine ⟨h1.1, h1.2.trans ?_⟩
    have := congrArg (fun x : Int => (x : Rat)) e
    rw [Rat.intCast_natCast] at this
    exact this.symm
  · rw [← e] at h2
    refine ⟨h2.1, h2.2.trans ?_⟩
    have := congrArg (fun x : Int => (x : Rat)) e
    rw [Rat.intCast_neg, Rat.intCast_natCast] at this
    exact this.symm
theorem ptF_near {m : Nat} {f : Nat → Int} (h : ∀ i, (f i).natAbs ≤ 256) (h0 : ∀ i, m ≤ i → f i = 0) (j : Nat) : Nc (ptF m f j).1 (ptF m f j).2 (toC (f j)) 0 := by
  have z : fin 0 = true ∧ val 0 = 0 := by decide +kernel
  unfold ptF
  by_cases hj : j < m
  · rw [if_pos hj]
    obtain ⟨h1, h2⟩ := wI_val (h j)
    refine ⟨h1, z.1, Rat.le_refl, ?_⟩
    simp only [Cx.sub_re, Cx.sub_im, cv2, toC, h2, z.2]
    grind
  · rw [if_neg hj, h0 j (by omega)]
    refine ⟨z.1, z.1, Rat.le_refl, ?_⟩
    simp only [Cx.sub_re, Cx.sub_im, cv2, toC, z.2]
    decide +kernel

set_option maxHeartbeats 1600000 in
set_option maxRecDepth 100000 in
theorem points_any (ga go m c n : Nat) (f : Nat → Int) (w : World) (hm0 : 0 < m) (hm : m ≤ n) (hn : n ≤ 4096) (hx : ∀ i, i < m → w.cell? ⟨ga, go + i, none⟩ = some (.int .i64 (f i))) :
    Calls Tryd.prog 30 #[.slice (some ⟨ga, go, none⟩) m c, .int .i64 n] w fun e w' => e = .returned (.slice (some ⟨w.heap.size, 0, none⟩) n n) ∧ Below w.heap.size w w' ∧ w'.rowIs w.heap.size 25 n (fun j => cpx (ptF m f j)) := by
  have HX := Lib.hid hx
  have hgb : ga < w.heap.size := World.block_lt_of_cell? _ _ (hx 0 hm0)
  clear hx
  have hmk := run_make_row' (P := Tryd.prog) 24 25 (.complex .f64 0 0) 16 Tryd.underlying24 (by kernel_rfl) rfl .i64 .i64 n (by omega) (by omega)
  go_enter Tryd.func30, Tryd.ntmps30
  go_wp2
  clear hmk
  go_loopw [12] (fun i wr => ∃ k : Nat, k ≤ m ∧ i = .int .i64 k ∧ wr.rowIs w.heap.size 25 n (fun j => cpx (ptF k f j)) ∧ Below w.heap.size w wr)
    (fun i _ => m + 1 - (intOf i).toNat)
  case atStart => exact ⟨0, by omega, rfl, (World.rowIs_made w _ n _).congr (fun j _ => by unfold ptF; rw [if_neg (by omega)]; rfl), (Below.refl _ w).alloc (Nat.le_refl _) _⟩
  case round =>
    obtain ⟨k, hk, rfl, hrow, hbe⟩ := hrel
    by_cases hlt : k < m
    · have hc0 : wr.cell? ⟨ga, go + k, none⟩ = some (.int .i64 (f k)) := (hbe.cell (p := ⟨ga, go + k, none⟩) hgb).trans (HX.out k hlt)
      have hs0 := hrow.cell (show k < n by omega)
      have hf0 := hrow.frozen k
      have hw : floatOfInt .f64 (f k) = wI (f k) := rfl
      go_wp2
      go_roundw
      case rel =>
        refine ⟨k + 1, by omega, by go_num, (hrow.set k (cpx (wI (f k), 0))).congr (fun j _ => ?_), hbe.setCell (Nat.le_refl _) _⟩
        unfold ptF
        by_cases hj : j = k
        · subst hj; rw [if_pos rfl, if_pos (by omega)]
        · rw [if_neg hj]
          by_cases hj2 : j < k
          · rw [if_pos hj2, if_pos (by omega)]
          · rw [if_neg hj2, if_neg (by omega)]
      case measure => simp [intOf]; omega
    · obtain rfl : k = m := by omega
      go_wp2
      go_ret
      exact ⟨rfl, hbe, hrow⟩
end Go.Proofs.YtnjmefjcaiepfaaDoor
