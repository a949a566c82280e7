/- sets.Of's own call of sort.Slice. -/
import Derived.Test.YtpidgcjioocmhaaSortSlice
namespace Go.Proofs.Ytpidgcjioocmhaa
open Go.RowKit SetPure Go.Shelf Go.Lib Go.Sort

noncomputable def svT : TypeInfo := (Try.prog.info? 27).get (by kernel_rfl)
noncomputable def svE : TypeInfo := (Try.prog.info? 29).get (by kernel_rfl)
theorem svK (n : Nat) (h2 : 2 ≤ n) : Lib.swapperK n svE 25 = 9 := by
  have a : svE.hasPointers = false := by kernel_rfl
  have b : svE.bytes = 16 := by kernel_rfl
  have c : (n == 0) = false := by simp; omega
  have d : (n == 1) = false := by simp; omega
  simp [Lib.swapperK, a, b, c, d]
theorem svK0 : Lib.swapperK 0 svE 25 = 1 := by simp [Lib.swapperK]
theorem svK1 : Lib.swapperK 1 svE 25 = 2 := by simp [Lib.swapperK]

set_option maxHeartbeats 2000000 in
/-- Of's closure. -/
theorem less_any (blk off c Bs size : Nat) (W : World) (G : Nat → Int) (hs : W.cell? ⟨Bs, 0, none⟩ = some (.slice (some ⟨blk, off, none⟩) size c))
    (hc : ∀ t, t < size → W.cell? ⟨blk, off + t * 2, none⟩ = some (.int .i64 (G t))) (i j : Nat) (hi : i < size) (hj : j < size) (_hsz : size < 4611686018427387904) :
    Calls Try.prog 32 #[.int .i64 i, .int .i64 j, .pointer (some ⟨Bs, 0, none⟩)] W fun e w' => e = .returned (.bool (decide (G i < G j))) ∧ ∃ q, w' = W.drewN q := by
  have ci := hc i hi
  have cj := hc j hj
  clear hc
  go_enter Try.func32, Try.ntmps32
  go_wp2
  go_quiet (fail)
  go_wp2
  go_ret
  exact ⟨rfl, nq, rfl⟩

theorem sort_cells (g c Bs : Nat) (d : Array Rg) (h2 : 2 ≤ d.size) (hsz : d.size < 4611686018427387904) (w : World) (hH : HoldsK Epair.enc 2 w g 0 d) (hblk : g < w.heap.size)
    (hBs : w.cell? ⟨Bs, 0, none⟩ = some (.slice (some ⟨g, 0, none⟩) d.size c)) (hB1 : Bs < w.heap.size) (hB2 : Bs ≠ g) :
    Calls Try.prog 31 #[.iface 27 (.slice (some ⟨g, 0, none⟩) d.size c), .func (.func 32) #[] #[.pointer (some ⟨Bs, 0, none⟩)]] w fun e w' =>
      e = .returned (.tuple #[]) ∧ ∃ d' n os, PermIn 0 d.size d d' ∧ SortedIn ltFrom 0 d.size d' ∧ w' = grow (putRowK Epair.enc 2 (Sort.ahead w n) g 0 d') os := by
  have hless : LessReadsK Try.prog 32 #[.pointer (some ⟨Bs, 0, none⟩)] Epair.enc 2 ltFrom g 0 d.size w := by
    intro m os dk hs i j hi hj
    have e : sortWorldK Epair.enc 2 w g 0 m dk os = putRowK Epair.enc 2 (grow (Sort.ahead w m) os) g 0 dk := by
      unfold sortWorldK; rw [putRowK_grow _ _ (Sort.ahead w m) _ g 0 _ hblk]
    have hHg : HoldsK Epair.enc 2 (grow (Sort.ahead w m) os) g 0 d := holdsK_grow _ _ _ _ g 0 d hblk (holdsK_ahead _ _ _ _ _ _ _ hH)
    refine less_any g 0 c Bs d.size _ (fun t => dk[t]!.1) ?_ (fun t ht => ?_) i j hi hj (by omega)
    · rw [e, cell?_putRowK_other _ _ _ g 0 dk _ (by exact hB2), cell?_grow _ _ _ (by exact hB1)]; exact hBs
    · rw [e]; exact ((holdsK_putRowK _ _ _ g 0 d dk hHg hs).cell (i := t) (c := 0) (by omega) (by omega)).1
  exact Any.sort_Slice_cells_sorted Try.laysGg6 27 29 svT svE (by kernel_rfl) (by kernel_rfl) (by kernel_rfl) (by kernel_rfl) 25 (fun _ => by kernel_rfl) Epair.enc 2 (fun _ => rfl) (by kernel_rfl) (fun _ => by kernel_rfl)
    (fun x v hv => Epair.one x v hv) ltFrom swo_ltFrom 32 _
    (enters_of Try.func32 (by kernel_rfl) rfl) g 0 c d h2 hsz 62 (by rw [svK _ h2]; kernel_rfl) false
    (fun args W => run_callFunc_extern Try.func62 (by kernel_rfl) (by kernel_rfl) (by kernel_rfl) (e := Extern.ReflectliteSwapper.swap false) (by kernel_rfl) args W) w hless hH hblk

theorem sort_tiny (p : Option Addr) (n c : Nat) (h1 : n ≤ 1) (Bs : Nat) (w : World) :
    Calls Try.prog 31 #[.iface 27 (.slice p n c), .func (.func 32) #[] #[.pointer (some ⟨Bs, 0, none⟩)]] w fun e w' => e = .returned (.tuple #[]) ∧ ∃ os, w' = grow w os := by
  have h01 : n = 0 ∨ n = 1 := by omega
  rcases h01 with rfl | rfl
  · exact Any.sort_Slice_tiny Try.laysGg6 27 29 svT svE (by kernel_rfl) (by kernel_rfl) (by kernel_rfl) (by kernel_rfl) 25 (fun _ => by kernel_rfl) p 0 c (by omega) 54 (by rw [svK0]; kernel_rfl) _ _ _ w
  · exact Any.sort_Slice_tiny Try.laysGg6 27 29 svT svE (by kernel_rfl) (by kernel_rfl) (by kernel_rfl) (by kernel_rfl) 25 (fun _ => by kernel_rfl) p 1 c (by omega) 55 (by rw [svK1]; kernel_rfl) _ _ _ w

/-- The sort's end: a permutation that rises, in the same row; below the row's base the world stands. -/
def SortEnd (base : Nat) (v : Value) (L : List Rg) (w : World) (e : Ending) (w' : World) : Prop :=
  e = .returned (.tuple #[]) ∧ ∃ L' : List Rg, L'.Perm L ∧ L'.Pairwise (fun a b => a.1 ≤ b.1) ∧ OwnB Epair 29 base w' v L' ∧ Below base w w'

theorem sort_any (base Bs : Nat) (v : Value) (L : List Rg) (w : World) (hown : OwnB Epair 29 base w v L) (hlen : L.length < 4611686018427387904) (hBs : w.cell? ⟨Bs, 0, none⟩ = some v) (hB : Bs < base) :
    Calls Try.prog 31 #[.iface 27 v, .func (.func 32) #[] #[.pointer (some ⟨Bs, 0, none⟩)]] w (SortEnd base v L w) := by
  obtain ⟨A, c, rfl, hc1, hc2⟩ := hown.form
  by_cases h1 : L.length ≤ 1
  · refine (sort_tiny A L.length c h1 Bs w).mono ?_
    rintro e w' ⟨rfl, os, rfl⟩
    have hb : Below w.heap.size w (grow w os) := ⟨rfl, rfl, rfl, by simp [grow], fun k hk => by simp only [grow]; rw [Array.getElem?_append_left hk]⟩
    refine ⟨rfl, L, List.Perm.refl _, ?_, hown.below hb, hb.mono hown.2⟩
    match L, h1 with
    | [], _ => exact List.Pairwise.nil
    | [r], _ => exact List.pairwise_singleton _ _
  · have hrow := hown.1
    rcases hrow.2 with ⟨h', _⟩ | ⟨g, cap, cur, h', hbg, hg, hnc, hm, hs, ht⟩
    · injection h' with _ h2 _; omega
    · injection h' with e1 _ e3
      subst e1; subst e3
      have hgl := (Array.getElem?_eq_some_iff.1 hg).1
      have hH : HoldsK Epair.enc 2 w g 0 L.toArray := by
        intro j hj
        have hj' : j < L.length * 2 := by simpa using hj
        have hx := hrow.cellAt j hj'
        refine ⟨?_, by rw [Nat.zero_add]; exact hrow.frozenAt j⟩
        rw [Nat.zero_add, hx]
        have hfl : (flatK Epair.enc 2 L.toArray).toList = L.flatMap Epair.enc := flatK_list Epair L.toArray
        rw [← hfl, getElem!_pos _ j hj, Array.getElem?_toList, Array.getElem?_eq_getElem hj]
        rfl
      have hs := sort_cells g c Bs L.toArray (by simp; omega) (by simpa using hlen) w hH hgl (by simpa using hBs) (by have := hown.2; omega) (by omega)
      rw [List.size_toArray] at hs
      refine hs.mono ?_
      rintro e w' ⟨rfl, d', n, os, hp, hso, rfl⟩
      obtain ⟨hp1, _, hp3⟩ := hp
      have hp1' : d'.toList.length = L.length := by rw [Array.length_toList]; simpa using hp1
      obtain ⟨o1, o2, o3⟩ := own_sorted (os := os) (n := n) hown hp1'
      rw [Array.toArray_toList] at o1 o2 o3
      have hperm : d'.toList.Perm L := by
        have h3 := hp3
        have hz : L.length = d'.size := by simpa using hp1'.symm
        have e1 : d'.extract 0 L.length = d' := by rw [hz]; simp
        have e2 : L.toArray.extract 0 L.length = L.toArray := by simp
        rw [e1, e2] at h3
        exact h3
      refine ⟨rfl, d'.toList, hperm, ?_, o1, ?_⟩
      · rw [List.pairwise_iff_getElem]
        intro i j hi hj hij
        have := hso i j (Nat.zero_le _) hij (by omega)
        rw [getElem!_pos d' j (by simpa using hj), getElem!_pos d' i (by simpa using hi)] at this
        simp only [ltFrom, decide_eq_false_iff_not] at this
        simp only [Array.getElem_toList]
        omega
      · exact ⟨rfl, rfl, rfl, o3, fun k hk => o2 k (by have := hown.2; omega) (by omega)⟩

end Go.Proofs.Ytpidgcjioocmhaa
