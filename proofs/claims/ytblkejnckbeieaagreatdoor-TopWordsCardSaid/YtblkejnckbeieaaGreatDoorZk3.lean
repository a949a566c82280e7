/- sets.Of's own call of sort.Slice.
  The walk of sets.Of: what is kept, sorted by the library, and merged.
  Rows of the call's own that grow beside other blocks of the call's own: where a row lies behind an append, and what stands beside it.
  The walk of sets.Set's And.
  Every method's contract, of values that read as sets, but Or and Same.
  Sets told by what is in them: every method's contract over the sets that a walk holds so far, each with its test of numbers.
  The walks of sets.Set's Or, and of slices.Clone.
  Sets told by what is in them: the contract of Or.
  The walks of ucd's of, classes, unions, blanks.
  The walks of ucd's of and blanks: a set of ranges that lie as arrays of two. -/
import Derived.Test.YtblkejnckbeieaaGreatDoorZk2
import Derived.Test.YtblkejnckbeieaaGreatDoorZk1
import Derived.BigRegion
import Derived.Lib.LazyBuf
namespace Go.Proofs.YtblkejnckbeieaaGreatDoor
open Go.RowKit SetPure Go.Shelf Go.Lib Go.Sort

noncomputable def svT : TypeInfo := (Tryz.prog.info? 25).get (by kernel_rfl)
noncomputable def svE : TypeInfo := (Tryz.prog.info? 51).get (by kernel_rfl)
theorem svK (n : Nat) (h2 : 2 ≤ n) : Lib.swapperK n svE 25 = 9 := by
  have a : svE.hasPointers = false := by kernel_rfl
  have b : svE.bytes = 16 := by kernel_rfl
  have c : (n == 0) = false := by simp; omega
  have d : (n == 1) = false := by simp; omega
  simp [Lib.swapperK, a, b, c, d]
theorem svK0 : Lib.swapperK 0 svE 25 = 1 := by simp [Lib.swapperK]
theorem svK1 : Lib.swapperK 1 svE 25 = 2 := by simp [Lib.swapperK]

set_option maxHeartbeats 2000000 in
/-- Of's closure. -/
theorem less_any (blk off c Bs size : Nat) (W : World) (G : Nat → Int) (hs : W.cell? ⟨Bs, 0, none⟩ = some (.slice (some ⟨blk, off, none⟩) size c))
    (hc : ∀ t, t < size → W.cell? ⟨blk, off + t * 2, none⟩ = some (.int .i64 (G t))) (i j : Nat) (hi : i < size) (hj : j < size) (_hsz : size < 4611686018427387904) :
    Calls Tryz.prog 39 #[.int .i64 i, .int .i64 j, .pointer (some ⟨Bs, 0, none⟩)] W fun e w' => e = .returned (.bool (decide (G i < G j))) ∧ ∃ q, w' = W.drewN q := by
  have ci := hc i hi
  have cj := hc j hj
  clear hc
  go_enter Tryz.func39, Tryz.ntmps39
  go_wp2
  go_quiet (fail)
  go_wp2
  go_ret
  exact ⟨rfl, nq, rfl⟩

theorem sort_cells (g c Bs : Nat) (d : Array Rg) (h2 : 2 ≤ d.size) (hsz : d.size < 4611686018427387904) (w : World) (hH : HoldsK Epair.enc 2 w g 0 d) (hblk : g < w.heap.size)
    (hBs : w.cell? ⟨Bs, 0, none⟩ = some (.slice (some ⟨g, 0, none⟩) d.size c)) (hB1 : Bs < w.heap.size) (hB2 : Bs ≠ g) :
    Calls Tryz.prog 38 #[.iface 25 (.slice (some ⟨g, 0, none⟩) d.size c), .func (.func 39) #[] #[.pointer (some ⟨Bs, 0, none⟩)]] w fun e w' =>
      e = .returned (.tuple #[]) ∧ ∃ d' n os, PermIn 0 d.size d d' ∧ SortedIn ltFrom 0 d.size d' ∧ w' = grow (putRowK Epair.enc 2 (Sort.ahead w n) g 0 d') os := by
  have hless : LessReadsK Tryz.prog 39 #[.pointer (some ⟨Bs, 0, none⟩)] Epair.enc 2 ltFrom g 0 d.size w := by
    intro m os dk hs i j hi hj
    have e : sortWorldK Epair.enc 2 w g 0 m dk os = putRowK Epair.enc 2 (grow (Sort.ahead w m) os) g 0 dk := by
      unfold sortWorldK; rw [putRowK_grow _ _ (Sort.ahead w m) _ g 0 _ hblk]
    have hHg : HoldsK Epair.enc 2 (grow (Sort.ahead w m) os) g 0 d := holdsK_grow _ _ _ _ g 0 d hblk (holdsK_ahead _ _ _ _ _ _ _ hH)
    refine less_any g 0 c Bs d.size _ (fun t => dk[t]!.1) ?_ (fun t ht => ?_) i j hi hj (by omega)
    · rw [e, cell?_putRowK_other _ _ _ g 0 dk _ (by exact hB2), cell?_grow _ _ _ (by exact hB1)]; exact hBs
    · rw [e]; exact ((holdsK_putRowK _ _ _ g 0 d dk hHg hs).cell (i := t) (c := 0) (by omega) (by omega)).1
  exact Any.sort_Slice_cells_sorted Tryz.laysGg6 25 51 svT svE (by kernel_rfl) (by kernel_rfl) (by kernel_rfl) (by kernel_rfl) 25 (fun _ => by kernel_rfl) Epair.enc 2 (fun _ => rfl) (by kernel_rfl) (fun _ => by kernel_rfl)
    (fun x v hv => Epair.one x v hv) ltFrom swo_ltFrom 39 _
    (enters_of Tryz.func39 (by kernel_rfl) rfl) g 0 c d h2 hsz 115 (by rw [svK _ h2]; kernel_rfl) false
    (fun args W => run_callFunc_extern Tryz.func115 (by kernel_rfl) (by kernel_rfl) (by kernel_rfl) (e := Extern.ReflectliteSwapper.swap false) (by kernel_rfl) args W) w hless hH hblk

theorem sort_tiny (p : Option Addr) (n c : Nat) (h1 : n ≤ 1) (Bs : Nat) (w : World) :
    Calls Tryz.prog 38 #[.iface 25 (.slice p n c), .func (.func 39) #[] #[.pointer (some ⟨Bs, 0, none⟩)]] w fun e w' => e = .returned (.tuple #[]) ∧ ∃ os, w' = grow w os := by
  have h01 : n = 0 ∨ n = 1 := by omega
  rcases h01 with rfl | rfl
  · exact Any.sort_Slice_tiny Tryz.laysGg6 25 51 svT svE (by kernel_rfl) (by kernel_rfl) (by kernel_rfl) (by kernel_rfl) 25 (fun _ => by kernel_rfl) p 0 c (by omega) 107 (by rw [svK0]; kernel_rfl) _ _ _ w
  · exact Any.sort_Slice_tiny Tryz.laysGg6 25 51 svT svE (by kernel_rfl) (by kernel_rfl) (by kernel_rfl) (by kernel_rfl) 25 (fun _ => by kernel_rfl) p 1 c (by omega) 108 (by rw [svK1]; kernel_rfl) _ _ _ w

/-- The sort's end: a permutation that rises, in the same row; below the row's base the world stands. -/
def SortEnd (base : Nat) (v : Value) (L : List Rg) (w : World) (e : Ending) (w' : World) : Prop :=
  e = .returned (.tuple #[]) ∧ ∃ L' : List Rg, L'.Perm L ∧ L'.Pairwise (fun a b => a.1 ≤ b.1) ∧ OwnB Epair 51 base w' v L' ∧ Below base w w'

theorem sort_any (base Bs : Nat) (v : Value) (L : List Rg) (w : World) (hown : OwnB Epair 51 base w v L) (hlen : L.length < 4611686018427387904) (hBs : w.cell? ⟨Bs, 0, none⟩ = some v) (hB : Bs < base) :
    Calls Tryz.prog 38 #[.iface 25 v, .func (.func 39) #[] #[.pointer (some ⟨Bs, 0, none⟩)]] w (SortEnd base v L w) := by
  obtain ⟨A, c, rfl, hc1, hc2⟩ := hown.form
  by_cases h1 : L.length ≤ 1
  · refine (sort_tiny A L.length c h1 Bs w).mono ?_
    rintro e w' ⟨rfl, os, rfl⟩
    have hb : Below w.heap.size w (grow w os) := ⟨rfl, rfl, rfl, by simp [grow], fun k hk => by simp only [grow]; rw [Array.getElem?_append_left hk]⟩
    refine ⟨rfl, L, List.Perm.refl _, ?_, hown.below hb, hb.mono hown.2⟩
    match L, h1 with
    | [], _ => exact List.Pairwise.nil
    | [r], _ => exact List.pairwise_singleton _ _
  · have hrow := hown.1
    rcases hrow.2 with ⟨h', _⟩ | ⟨g, cap, cur, h', hbg, hg, hnc, hm, hs, ht⟩
    · injection h' with _ h2 _; omega
    · injection h' with e1 _ e3
      subst e1; subst e3
      have hgl := (Array.getElem?_eq_some_iff.1 hg).1
      have hH : HoldsK Epair.enc 2 w g 0 L.toArray := by
        intro j hj
        have hj' : j < L.length * 2 := by simpa using hj
        have hx := hrow.cellAt j hj'
        refine ⟨?_, by rw [Nat.zero_add]; exact hrow.frozenAt j⟩
        rw [Nat.zero_add, hx]
        have hfl : (flatK Epair.enc 2 L.toArray).toList = L.flatMap Epair.enc := flatK_list Epair L.toArray
        rw [← hfl, getElem!_pos _ j hj, Array.getElem?_toList, Array.getElem?_eq_getElem hj]
        rfl
      have hs := sort_cells g c Bs L.toArray (by simp; omega) (by simpa using hlen) w hH hgl (by simpa using hBs) (by have := hown.2; omega) (by omega)
      rw [List.size_toArray] at hs
      refine hs.mono ?_
      rintro e w' ⟨rfl, d', n, os, hp, hso, rfl⟩
      obtain ⟨hp1, _, hp3⟩ := hp
      have hp1' : d'.toList.length = L.length := by rw [Array.length_toList]; simpa using hp1
      obtain ⟨o1, o2, o3⟩ := own_sorted (os := os) (n := n) hown hp1'
      rw [Array.toArray_toList] at o1 o2 o3
      have hperm : d'.toList.Perm L := by
        have h3 := hp3
        have hz : L.length = d'.size := by simpa using hp1'.symm
        have e1 : d'.extract 0 L.length = d' := by rw [hz]; simp
        have e2 : L.toArray.extract 0 L.length = L.toArray := by simp
        rw [e1, e2] at h3
        exact h3
      refine ⟨rfl, d'.toList, hperm, ?_, o1, ?_⟩
      · rw [List.pairwise_iff_getElem]
        intro i j hi hj hij
        have := hso i j (Nat.zero_le _) hij (by omega)
        rw [getElem!_pos d' j (by simpa using hj), getElem!_pos d' i (by simpa using hi)] at this
        simp only [ltFrom, decide_eq_false_iff_not] at this
        simp only [Array.getElem_toList]
        omega
      · exact ⟨rfl, rfl, rfl, o3, fun k hk => o2 k (by have := hown.2; omega) (by omega)⟩

end Go.Proofs.YtblkejnckbeieaaGreatDoor

namespace Go.Proofs.YtblkejnckbeieaaGreatDoor
open Go.RowKit SetPure

/-- A box: one block that holds one value. -/
def BoxAt (w : World) (B : Nat) (v : Value) : Prop := ∃ t, w.heap[B]? = some (.cells #[v] t (0, 0))
section
variable {w w' : World} {B : Nat} {v : Value}
theorem BoxAt.cell (h : BoxAt w B v) : w.cell? ⟨B, 0, none⟩ = some v := by
  obtain ⟨t, h⟩ := h
  rw [cell_of_row w B 0 _ t (0, 0) h]; rfl
theorem BoxAt.frozen (h : BoxAt w B v) : w.frozen? ⟨B, 0, none⟩ = false := by
  obtain ⟨t, h⟩ := h
  exact frozen_of_row w B 0 _ t h
theorem BoxAt.block (h : BoxAt w B v) (e : w'.heap[B]? = w.heap[B]?) : BoxAt w' B v := by
  obtain ⟨t, h⟩ := h
  exact ⟨t, e.trans h⟩
theorem BoxAt.store (h : BoxAt w B v) (u : Value) : BoxAt (w.setCell ⟨B, 0, none⟩ u) B u := by
  obtain ⟨t, h⟩ := h
  exact ⟨t, by rw [heap_setCell_same w B 0 _ t u h]; rfl⟩
theorem BoxAt.lt (h : BoxAt w B v) : B < w.heap.size := by
  obtain ⟨t, h⟩ := h
  exact (Array.getElem?_eq_some_iff.1 h).1
theorem BoxAt.alloc (h : BoxAt w B v) (o : Obj) : BoxAt (w.alloc o) B v := h.block (Below.heap_alloc w o B h.lt)
theorem BoxAt.new (w : World) (v : Value) (t : TypeId) : BoxAt (w.alloc (.cells #[v] t)) w.heap.size v := ⟨t, heap_alloc_new w _⟩
end

theorem kept_step {l : List Rg} {k : Nat} {x y p q : Int} (hk : k < l.length) (hr : l.getD k (0, 0) = (x, y)) (hc : clip (x, y) = (p, q)) :
    kept (l.take (k + 1)) = kept (l.take k) ++ (if p ≤ q then [(p, q)] else []) := by
  have e : l.take (k + 1) = l.take k ++ [(x, y)] := by
    rw [List.take_add_one, List.getElem?_eq_getElem hk]
    rw [List.getD_eq_getElem?_getD, List.getElem?_eq_getElem hk] at hr
    have hr' : l[k] = (x, y) := by simpa using hr
    rw [hr']; rfl
  rw [e]
  simp only [kept, List.map_append, List.map_cons, List.map_nil, List.filter_append, hc]
  congr 1
  by_cases h : p ≤ q <;> simp [h]
theorem kept_len (l : List Rg) : (kept l).length ≤ l.length := by
  have := List.length_filter_le (fun r : Rg => decide (r.1 ≤ r.2)) (l.map clip)
  simpa [kept] using this

theorem push_len (out : List Rg) (r : Rg) : (push out r).length ≤ out.length + 1 := by
  rcases List.eq_nil_or_concat out with rfl | ⟨s, q, rfl⟩
  · simp [push]
  · rw [List.concat_eq_append, push_snoc]; split <;> simp
theorem push_bound {out : List Rg} {r : Rg} (ho : ∀ q ∈ out, 0 ≤ q.2 ∧ q.2 ≤ 1114111) (hr : 0 ≤ r.2 ∧ r.2 ≤ 1114111) : ∀ q ∈ push out r, 0 ≤ q.2 ∧ q.2 ≤ 1114111 := by
  rcases List.eq_nil_or_concat out with rfl | ⟨s, q, rfl⟩
  · intro p hp; simp [push] at hp; subst hp; exact hr
  · rw [List.concat_eq_append] at *
    rw [push_snoc]
    have hq := ho q (by simp)
    split
    · intro p hp
      rcases List.mem_append.1 hp with hp | hp
      · exact ho p (by simp [hp])
      · simp at hp; subst hp; simp only; omega
    · intro p hp
      rcases List.mem_append.1 hp with hp | hp
      · exact ho p hp
      · simp at hp; subst hp; exact hr
/-- The merge of the first k. -/
def merged (L : List Rg) (k : Nat) : List Rg := (L.take k).foldl push []
theorem merged_step {L : List Rg} {k : Nat} {r : Rg} (hk : k < L.length) (hr : L.getD k (0, 0) = r) : merged L (k + 1) = push (merged L k) r := by
  have e : L.take (k + 1) = L.take k ++ [r] := by
    rw [List.take_add_one, List.getElem?_eq_getElem hk]
    rw [List.getD_eq_getElem?_getD, List.getElem?_eq_getElem hk] at hr
    have hr' : L[k] = r := by simpa using hr
    rw [hr']; rfl
  simp only [merged, e, List.foldl_append, List.foldl_cons, List.foldl_nil]
theorem merged_ok {L : List Rg} (hL : ∀ r ∈ L, 0 ≤ r.1 ∧ r.1 ≤ r.2 ∧ r.2 ≤ 1114111) (k : Nat) (hk : k ≤ L.length) : (merged L k).length ≤ k ∧ ∀ q ∈ merged L k, 0 ≤ q.2 ∧ q.2 ≤ 1114111 := by
  induction k with
  | zero => exact ⟨by simp [merged], fun q hq => by simp [merged] at hq⟩
  | succ k ih =>
    obtain ⟨i1, i2⟩ := ih (by omega)
    rw [merged_step (by omega) rfl]
    have hm : L.getD k (0, 0) ∈ L := by rw [List.getD_eq_getElem?_getD, List.getElem?_eq_getElem (show k < L.length by omega)]; exact List.getElem_mem _
    have := hL _ hm
    exact ⟨Nat.le_trans (push_len _ _) (by omega), push_bound i2 ⟨by omega, by omega⟩⟩

/-- The row's last range, its end stored anew. -/
theorem own_last {e : TypeId} {w0 w : World} {g c : Nat} {S : List Rg} {q : Rg} (h : Own Epair e w0 w (.slice (some ⟨g, 0, none⟩) (S ++ [q]).length c) (S ++ [q])) :
    w.cell? ⟨g, S.length * 2 + 1, none⟩ = some (.int .i64 q.2) ∧ w.frozen? ⟨g, S.length * 2 + 1, none⟩ = false ∧ w0.heap.size ≤ g ∧ g < w.heap.size ∧
      ∀ u : Int, Own Epair e w0 (w.setCell ⟨g, S.length * 2 + 1, none⟩ (.int .i64 u)) (.slice (some ⟨g, 0, none⟩) (S ++ [q]).length c) (S ++ [(q.1, u)]) := by
  have hf : (S ++ [q]).flatMap Epair.enc = S.flatMap Epair.enc ++ [.int .i64 q.1, .int .i64 q.2] := by simp [Epair]
  have hfl : (S.flatMap Epair.enc).length = S.length * 2 := Epair.flat_len S
  have hlt := h.1.lt g (by simp [Value.ownBlock])
  refine ⟨?_, h.1.frozenAt _, hlt.1, hlt.2, fun u => ?_⟩
  · rw [h.1.cellAt _ (by simp [Epair]; omega), hf, List.getElem?_append_right (by omega), hfl, show S.length * 2 + 1 - S.length * 2 = 1 by omega]; rfl
  · obtain ⟨h1, h2⟩ := h.1.stored (S.length * 2 + 1) (.int .i64 u)
    refine ⟨?_, h.2.grown h2 h.2.size (fun k hk => by injection hk with hk; omega)⟩
    rw [hf, List.set_append_right _ _ (by omega), hfl, show S.length * 2 + 1 - S.length * 2 = 1 by omega] at h1
    have hf2 : (S ++ [(q.1, u)]).flatMap Epair.enc = S.flatMap Epair.enc ++ [.int .i64 q.1, .int .i64 u] := by simp [Epair]
    have hl2 : (S ++ [(q.1, u)]).length = (S ++ [q]).length := by simp
    rw [hf2, hl2]
    exact h1

theorem own_row {e : TypeId} {w0 w : World} {v : Value} {S : List Rg} {q : Rg} (h : Own Epair e w0 w v (S ++ [q])) : ∃ g c, v = .slice (some ⟨g, 0, none⟩) (S ++ [q]).length c := by
  rcases h.1.2 with ⟨_, h0⟩ | ⟨g, cap, cur, rfl, _⟩
  · simp at h0
  · exact ⟨g, cap, rfl⟩

theorem below_set {B : Nat} {a w : World} (h : Below B a w) (u : Value) {p : Addr} (hp : B ≤ p.block) : Below B a (w.setCell p u) :=
  ⟨h.os, h.tape, h.output, by simpa using h.size, fun k hk => (heap_setCell_other w p k u (by omega)).trans (h.block k hk)⟩

/-- Of's end. -/
def OfEnd (l : List Rg) (w : World) (e : Ending) (w' : World) : Prop :=
  ∃ s : List Rg, Canon s ∧ (∀ x, InS s x ↔ InS l x ∧ 0 ≤ x ∧ x ≤ 1114111) ∧ RetTy Epair 51 w s e w'

set_option maxHeartbeats 3200000 in
set_option maxRecDepth 100000 in
theorem of_any (A : Option Addr) (c B : Nat) (l : List Rg) (w : World) (hl : l.length ≤ 8796093022208) (hA : SeqAt Epair w B A l) (hB : B ≤ w.heap.size) :
    Calls Tryz.prog 16 #[.slice A l.length c] w (OfEnd l w) := by
  have HA := Lib.hid hA
  clear hA
  go_enter Tryz.func16, Tryz.ntmps16
  go_wp2
  go_loopw [12] (fun i wr => ∃ (k : Nat) (v : Value), k ≤ l.length ∧ i = .int .i64 k ∧ BoxAt wr w.heap.size v ∧ OwnB Epair 51 (w.heap.size + 1) wr v (kept (l.take k)) ∧ Below w.heap.size w wr)
    (fun i _ => l.length + 1 - (intOf i).toNat)
  case atStart => exact ⟨0, _, by omega, rfl, BoxAt.new w _ _, OwnB.nil_ (by simp), (Below.refl _ w).alloc (Nat.le_refl _) _⟩
  case round =>
    obtain ⟨k, v, hk, rfl, hbox, hown, hbw⟩ := hrel
    have hz := hown.2
    have hkl := kept_len (l.take k)
    rw [List.length_take] at hkl
    by_cases hlt : k < l.length
    · obtain ⟨b, off, rfl, hb, hc⟩ := (HA.out.below (hbw.mono hB)).pairs_ (by omega)
      obtain ⟨h0, h1⟩ := hc k hlt
      clear hc
      obtain ⟨⟨x, y⟩, hr⟩ : ∃ r, l.getD k (0, 0) = r := ⟨_, rfl⟩
      rw [hr] at h0 h1
      simp only at h0 h1
      have HS := Lib.hid (kept_step (p := max x 0) (q := min y 1114111) hlt hr rfl)
      clear hr
      obtain ⟨A1, c1, rfl, hc1, hc2⟩ := hown.form
      have hbc := hbox.cell
      have hbf := hbox.frozen
      have hB0 := hbox.lt
      have hbca := (hbox.alloc (.cells #[Value.int IntKind.i64 (max x 0), Value.int IntKind.i64 (min y 1114111)] 51)).cell
      by_cases hcl : max x 0 ≤ min y 1114111
      · go_wp2_with (at_builtin; (refine wpList_append_seqB _ rfl (.tmp 28) (.tmp 30) 25 rfl 16 elRanges rfl ((hown.alloc _).alloc _) 1 rfl (SeqAt.new_at (E := Epair) (wr.alloc _) [(max x 0, min y 1114111)] 51 (wr.heap.size + 1) (by simp)) rfl (by simp only [maxLen]; omega) (by omega) ?_); intro v1 w1 hown1 hgr; have hbox1 := ((hbox.alloc _).alloc _).block (hgr.block w.heap.size (by simp; omega) (fun e => by have := (hown.lt _ e.symm).1; omega)); have hb1c := hbox1.cell; have hb1f := hbox1.frozen; obtain ⟨A2, c2, rfl, hc3, hc4⟩ := hown1.form)
        have hbw1 := below_set ((((hbw.alloc (by omega) _).alloc (by simp; omega) _).grown hgr (by simp; omega) (fun j hj => by have := (hown.lt j hj).1; omega))) (Value.slice A2 (kept (l.take k) ++ [(max x 0, min y 1114111)]).length c2) (p := ⟨w.heap.size, 0, none⟩) (Nat.le_refl _)
        go_roundw
        case rel => exact ⟨k + 1, Value.slice A2 (kept (l.take k) ++ [(max x 0, min y 1114111)]).length c2, by omega, by go_num, by simpa using hbox1.store (Value.slice A2 (kept (l.take k) ++ [(max x 0, min y 1114111)]).length c2), by rw [HS.out, if_pos hcl]; simpa using hown1.setBelow (a := ⟨w.heap.size, 0, none⟩) (by simp) (Value.slice A2 (kept (l.take k) ++ [(max x 0, min y 1114111)]).length c2), by simpa using hbw1⟩
        case measure => simp [intOf]; omega
      · go_wp2
        go_roundw
        case rel => exact ⟨k + 1, _, by omega, by go_num, hbox.alloc _, by rw [HS.out, if_neg hcl, List.append_nil]; exact hown.alloc _, hbw.alloc (by omega) _⟩
        case measure => simp [intOf]; omega
    · obtain rfl : k = l.length := by omega
      rw [List.take_length] at hown hkl
      obtain ⟨L, hL⟩ : ∃ L, kept l = L := ⟨_, rfl⟩
      rw [hL] at hown hkl
      obtain ⟨A1, c1, rfl, hc1, hc2⟩ := hown.form
      have hbc := hbox.cell
      have hBl := hbox.lt
      have HSO := Lib.hid (sort_any (w.heap.size + 1) w.heap.size _ L wr hown (by omega) hbc (by omega))
      go_wp2_with (go_at_call 38; refine HSO.out.mono ?_; rintro e ws ⟨rfl, L', hperm, hsorted, hown2, hbw2⟩; have HP := Lib.hid hperm; have HQ := Lib.hid hsorted; clear hperm hsorted; have hbc2 := (hbox.block (hbw2.block w.heap.size (by omega))).cell)
      have hn : L'.length = L.length := HP.out.length_eq
      have hkL : ∀ r ∈ L', 0 ≤ r.1 ∧ r.1 ≤ r.2 ∧ r.2 ≤ 1114111 := fun r hr => kept_ok l r (by rw [hL]; exact HP.out.mem_iff.1 hr)
      have HSeq : Hid (SeqAt Epair ws ws.heap.size A1 L') := Lib.hid (by rw [← hn] at hown2; exact OwnB.seq hown2)
      have HOK := Lib.hid (fun k hk => merged_ok hkL k hk)
      have HKL := Lib.hid hkL
      have hres : Hid (∀ wx v, Own Epair 51 ws wx v (merged L' L'.length) → OfEnd l w (.returned v) wx) := Lib.hid (by
        intro wx v ho
        obtain ⟨m1, m2⟩ := mergeL_spec hkL HQ.out
        have em : merged L' L'.length = mergeL L' := by simp [merged, mergeL]
        rw [em] at ho
        refine ⟨mergeL L', m1, fun x => ?_, v, rfl, ho.isSeq, (hbw.trans (hbw2.mono (Nat.le_succ _))).trans (ho.2.mono ?_), TyOf.own ho⟩
        · rw [m2, InS_perm HP.out, ← hL, kept_in]
        · have := hbw2.size; omega)
      clear hkL hL hown hown2 hbw hbw2 hbox hbc hbc2 HSO
      generalize hN : L.length = N at *
      go_loopw [6, 39] (fun v i wr => ∃ k, k ≤ N ∧ i = .int .i64 k ∧ Own Epair 51 ws wr v (merged L' k))
        (fun _ i _ => N + 1 - (intOf i).toNat)
      case atStart => exact ⟨0, by omega, rfl, Own.nil_ _⟩
      case round =>
        obtain ⟨k, hk, rfl, hown⟩ := hrel
        have hz := hown.size
        obtain ⟨hml, hmb⟩ := HOK.out k (by omega)
        by_cases hlt : k < N
        · obtain ⟨b, off, rfl, hb, hc⟩ := (HSeq.out.below hown.2).pairs_ (by omega)
          obtain ⟨h0, h1⟩ := hc k (by omega)
          clear hc
          obtain ⟨⟨x, y⟩, hr⟩ : ∃ r, L'.getD k (0, 0) = r := ⟨_, rfl⟩
          rw [hr] at h0 h1
          simp only at h0 h1
          have hq := HKL.out _ (mem_at' (by omega) hr)
          simp only at hq
          obtain ⟨q1, q2, q3⟩ := hq
          have HS := Lib.hid (merged_step (L := L') (by omega) hr)
          clear hr
          obtain ⟨M, hM⟩ : ∃ M, merged L' k = M := ⟨_, rfl⟩
          rw [hM] at hown hml hmb HS
          clear hM
          have hki : (k : Int) < (N : Int) := by omega
          rcases List.eq_nil_or_concat M with rfl | ⟨S, q, rfl⟩
          · obtain ⟨A2, c2, rfl, hc3, hc4⟩ := OwnB.form ⟨hown.1, hown.size⟩
            go_wp2
            go_quiet (fail)
            go_wp2_with (at_builtin; (refine wpList_append_seq _ rfl (.tmp 73) (.tmp 75) 26 rfl 16 elSet rfl (((hown.alloc _).below (below_drewN (Below.refl _ _) nq)).alloc _) 1 rfl (SeqAt.new_at (E := Epair) ((wr.alloc _).drewN nq) [(x, y)] 51 (wr.heap.size + 1) (by simp)) rfl (by simp only [maxLen]; omega) (by omega) ?_); intro v1 w1 hown1 hg1)
            go_roundw
            case rel => exact ⟨k + 1, by omega, by go_num, by rw [HS.out]; exact hown1⟩
            case measure => simp [intOf]; omega
          · rw [List.concat_eq_append] at *
            rw [push_snoc] at HS
            obtain ⟨g, c2, rfl⟩ := own_row hown
            obtain ⟨l1, l2, l3, l4, l5⟩ := own_last hown
            obtain ⟨qb1, qb2⟩ := hmb q (by simp)
            clear hmb
            have hSl : (S ++ [q]).length = S.length + 1 := by simp
            rw [hSl] at hml hown
            clear l5
            have s1 : IntKind.i64.wrap (((S.length : Int) + 1) - 1) = (S.length : Int) := by rw [show ((S.length : Int) + 1) - 1 = (S.length : Int) by omega]; exact IntWalk.i64_in _ (by omega)
            by_cases hle : x ≤ q.2 + 1
            · go_wp2
              go_quiet (fail)
              go_upto_region 16 with (fail)
              have hownq := (hown.alloc (.cells #[Value.int IntKind.i64 x, Value.int IntKind.i64 y] 51)).below (below_drewN (Below.refl _ _) nq)
              have c3 : ((wr.alloc (.cells #[Value.int IntKind.i64 x, Value.int IntKind.i64 y] 51)).drewN nq).cell? ⟨wr.heap.size, 1, none⟩ = some (.int .i64 y) := by go_simp
              obtain ⟨wq, hwq⟩ : ∃ wq, (wr.alloc (.cells #[Value.int IntKind.i64 x, Value.int IntKind.i64 y] 51)).drewN nq = wq := ⟨_, rfl⟩
              rw [hwq] at hownq c3
              rw [hwq]
              rw [← hSl] at hownq
              obtain ⟨k1, k2, k3, k4, k5⟩ := own_last hownq
              rw [hSl] at hownq
              simp only [hSl] at k5
              have HL := Lib.hid k5
              clear k5
              clear hwq l1 l2 l4
              go_region
              have hlast := (HL.out (max q.2 y)).drew
              clear HL
              go_wp2
              go_roundw
              case rel => exact ⟨k + 1, by omega, by go_num, by rw [HS.out, if_pos hle]; exact hlast⟩
              case measure => simp [intOf]; omega
            · go_wp2
              go_quiet (fail)
              go_wp2_with (at_builtin; (refine wpList_append_seq _ rfl (.tmp 73) (.tmp 75) 26 rfl 16 elSet rfl (((hown.alloc _).below (below_drewN (Below.refl _ _) nq)).alloc _) 1 rfl (SeqAt.new_at (E := Epair) ((wr.alloc _).drewN nq) [(x, y)] 51 (wr.heap.size + 1) (by simp)) rfl (by simp only [maxLen]; omega) (by omega) ?_); intro v1 w1 hown1 hg1)
              go_roundw
              case rel => exact ⟨k + 1, by omega, by go_num, by rw [HS.out, if_neg (by omega)]; exact hown1⟩
              case measure => simp [intOf]; omega
        · obtain rfl : k = N := by omega
          go_wp2
          go_ret
          exact hres.out _ _ (by rw [hn]; exact hown)

end Go.Proofs.YtblkejnckbeieaaGreatDoor

namespace Go.Proofs.YtblkejnckbeieaaGreatDoor
open Go.RowKit

/-- A call's end: it hands back a row of its own that reads as l. -/
def RetOwn {α : Type} (E : Enc α) (e : TypeId) (w : World) (l : List α) (end_ : Ending) (w' : World) : Prop := ∃ v, end_ = .returned v ∧ Own E e w w' v l

section
variable {P : Program} (w : World) {α : Type} {E : Enc α} {w0 : World} {e : TypeId} {v : Value} {l l' : List α} {B : Nat} {A : Option Addr} {c : Nat}
theorem run_append_seq_at (t ty : TypeId) (bytes : Nat) (he : ElemOf P t e E.k bytes) (hown : Own E e w0 w v l) (hr : SeqAt E w B A l')
    (h63 : l.length + l'.length ≤ maxLen) (hbytes : (l.length + l'.length) * bytes ≤ 140737488355328) :
    ∃ v' w', (Builtin.append_ #[t, t] ty #[v, .slice A l'.length c]).run P w = .ok v' w' ∧ Own E e w0 w' v' (l ++ l') ∧ w.grownBy w' v.ownBlock ∧ (v'.ownBlock = v.ownBlock ∨ v'.ownBlock = some w.heap.size) := by
  obtain ⟨i, z, ht, hi, hz, hsize, hby, hzs⟩ := he
  have hb := hown.2
  have hlen : (l ++ l').length = l.length + l'.length := List.length_append
  rcases A with _ | ad
  · have hm : l' = [] := by
      rcases Nat.eq_zero_or_pos l'.length with h0 | h0
      · exact List.eq_nil_of_length_eq_zero h0
      · obtain ⟨_, _, h, _⟩ := hr h0
        cases h
    subst hm
    exact ⟨v, w, run_append_none w _ t ty e i E.k ht hi v _ _ hown.1 c, by simpa using hown, World.grownBy.refl w _, .inl rfl⟩
  · have hcells : ∀ j u, (l'.flatMap E.enc)[j]? = some u → w.cell? (ad.add j) = some u := by
      intro j u hu
      have hj : j < l'.length * E.k := by rw [← E.flat_len]; exact (List.getElem?_eq_some_iff.1 hu).1
      obtain ⟨b, off, h, _, hc⟩ := hr (Nat.pos_of_ne_zero fun h => by rw [h] at hj; omega)
      injection h with h
      subst h
      rw [add_off, hc j hj, List.getD_eq_getElem?_getD, hu]; rfl
    obtain ⟨v', w', hrun, h2, h3, _, h4⟩ := run_append_own_at (P := P) w w0.heap.size t ty e i z E.k bytes ht hi hz hsize hby hzs E.pos v l.length _ hown.1 ad l'.length c (l'.flatMap E.enc) (E.flat_len l') hcells (E.flat_one l') h63 hbytes hb.size
    refine ⟨v', w', hrun, ⟨?_, hb.grown h3 hb.size (fun k hk => (hown.1.lt k hk).1)⟩, h3, h4⟩
    rw [hlen, List.flatMap_append]
    exact h2
theorem wpList_append_seq_at {ops : Array Oper} {rest : List Oper} {o : Oper} {a : Act} {Q : Exit → Act → World → Prop} (hgd : o.guard = none) (s x : Operand) (t : TypeId)
    (ho : o.op = .call { callee := .builtin .append, args := #[s, x], argTypes := #[t, t] }) (bytes : Nat) (he : ElemOf P t e E.k bytes)
    (hs : a.eval s = v) (hown : Own E e w0 w v l) (m : Nat) (hx : a.eval x = .slice A m c) (hr : SeqAt E w B A l') (hm : l'.length = m)
    (h63 : l.length + m ≤ maxLen) (hbytes : (l.length + m) * bytes ≤ 140737488355328)
    (h : ∀ v' w', Own E e w0 w' v' (l ++ l') → w.grownBy w' v.ownBlock → (v'.ownBlock = v.ownBlock ∨ v'.ownBlock = some w.heap.size) → wpList P ops Q rest (a.put o.dst v') w') : wpList P ops Q (o :: rest) a w :=
  wpList_plain hgd fun _ hK => by
    subst hm
    obtain ⟨v', w', hrun, h2, h3, h4⟩ := run_append_seq_at (P := P) w t o.type bytes he hown hr (c := c) h63 hbytes
    unfold Oper.wp execOp
    simp only [ho, resolve, invoke, builtin, Sem.run_bind, Sem.run_pure, Result.andThen_ok, List.map_toArray, List.map_cons, List.map_nil, hs, hx, hrun]
    exact hK _ _ (h v' w' h2 h3 h4)
end

/-- Since the world w0, in which a row of one's own was v0, only that row and new blocks have turned; the row is now v. -/
def Grown (v0 : Value) (w0 w : World) (v : Value) : Prop := w0.grownBy w v0.ownBlock ∧ (v.ownBlock = v0.ownBlock ∨ ∃ k, v.ownBlock = some k ∧ w0.heap.size ≤ k)
section
variable {v0 v v' : Value} {w0 w w' : World}
theorem Grown.refl (v : Value) (w : World) : Grown v w w v := ⟨World.grownBy.refl w _, .inl rfl⟩
theorem Grown.below (h : Grown v0 w0 w v) (hb : Below w.heap.size w w') : Grown v0 w0 w' v :=
  ⟨⟨hb.os.trans h.1.os, hb.tape.trans h.1.tape, hb.output.trans h.1.output, Nat.le_trans h.1.size hb.size, fun k hk hn => (hb.block k (Nat.lt_of_lt_of_le hk h.1.size)).trans (h.1.block k hk hn)⟩, h.2⟩
theorem Grown.alloc (h : Grown v0 w0 w v) (o : Obj) : Grown v0 w0 (w.alloc o) v := h.below ((Below.refl _ w).alloc (Nat.le_refl _) o)
theorem Grown.drewN (h : Grown v0 w0 w v) (n : Nat) : Grown v0 w0 (w.drewN n) v := h.below (below_drewN (Below.refl _ w) n)
theorem Grown.append (h : Grown v0 w0 w v) (hg : w.grownBy w' v.ownBlock) (ha : v'.ownBlock = v.ownBlock ∨ v'.ownBlock = some w.heap.size) : Grown v0 w0 w' v' := by
  refine ⟨⟨hg.os.trans h.1.os, hg.tape.trans h.1.tape, hg.output.trans h.1.output, Nat.le_trans h.1.size hg.size, fun k hk hn => ?_⟩, ?_⟩
  · refine (hg.block k (Nat.lt_of_lt_of_le hk h.1.size) ?_).trans (h.1.block k hk hn)
    rcases h.2 with e | ⟨j, e, hj⟩
    · rw [e]; exact hn
    · rw [e]; intro e'; injection e' with e'; omega
  · rcases ha with e | e
    · rw [e]; exact h.2
    · exact .inr ⟨_, e, h.1.size⟩
/-- A row within a longer walk: what has grown since w0 goes on growing. -/
theorem Grown.trans {v1 : Value} {w1 : World} (h : Grown v0 w0 w1 v1) (k : Grown v1 w1 w v) : Grown v0 w0 w v := by
  refine ⟨⟨k.1.os.trans h.1.os, k.1.tape.trans h.1.tape, k.1.output.trans h.1.output, Nat.le_trans h.1.size k.1.size, fun b hb hn => ?_⟩, ?_⟩
  · refine (k.1.block b (Nat.lt_of_lt_of_le hb h.1.size) ?_).trans (h.1.block b hb hn)
    rcases h.2 with e | ⟨j, e, hj⟩
    · rw [e]; exact hn
    · rw [e]; intro e'; injection e' with e'; omega
  · rcases k.2 with e | ⟨j, e, hj⟩
    · rw [e]; exact h.2
    · exact .inr ⟨j, e, Nat.le_trans h.1.size hj⟩
theorem Grown.block (h : Grown v0 w0 w v) {b : Nat} (hb : b < w0.heap.size) (hn : some b ≠ v0.ownBlock) : w.heap[b]? = w0.heap[b]? := h.1.block b hb hn
theorem Grown.cell (h : Grown v0 w0 w v) {b o : Nat} (hb : b < w0.heap.size) (hn : some b ≠ v0.ownBlock) : w.cell? ⟨b, o, none⟩ = w0.cell? ⟨b, o, none⟩ := World.cell?_of_block (h.block hb hn)
theorem Grown.size (h : Grown v0 w0 w v) : w0.heap.size ≤ w.heap.size := h.1.size
theorem Grown.ne (h : Grown v0 w0 w v) {b : Nat} (hb : b < w0.heap.size) (hn : some b ≠ v0.ownBlock) : some b ≠ v.ownBlock := by
  rcases h.2 with e | ⟨j, e, hj⟩
  · rw [e]; exact hn
  · rw [e]; intro e'; injection e' with e'; omega
end
/-- A row of a later part of the call is one of the call's own. -/
theorem Own.earlier {α : Type} {E : Enc α} {e : TypeId} {w0 w1 w : World} {v : Value} {l : List α} (hb : Below w0.heap.size w0 w1) (h : Own E e w1 w v l) : Own E e w0 w v l := by
  refine ⟨⟨h.1.1, ?_⟩, hb.trans (h.2.mono hb.size)⟩
  rcases h.1.2 with h' | ⟨g, cap, cur, h1, h2, h3⟩
  · exact .inl h'
  · exact .inr ⟨g, cap, cur, h1, Nat.le_trans hb.size h2, h3⟩
/-- A row that a later call made lies beside a row that was there. -/
theorem own_apart {α β : Type} {E : Enc α} {F : Enc β} {e f : TypeId} {w0 w w' : World} {v u : Value} {l : List α} {m : List β} (h : Own E e w0 w v l) (k : Own F f w w' u m) {b : Nat} (hb : u.ownBlock = some b) : some b ≠ v.ownBlock := by
  intro e'
  have h1 := (h.1.lt b e'.symm).2
  have h2 := (k.1.lt b hb).1
  omega
theorem own_later {α β : Type} {E : Enc α} {F : Enc β} {e f : TypeId} {w0 w w1 w' : World} {v u : Value} {l : List α} {m : List β} (h : Own E e w0 w v l) (hz : w.heap.size ≤ w1.heap.size) (k : Own F f w1 w' u m) {b : Nat} (hb : u.ownBlock = some b) : some b ≠ v.ownBlock := by
  intro e'
  have h1 := (h.1.lt b e'.symm).2
  have h2 := (k.1.lt b hb).1
  omega

end Go.Proofs.YtblkejnckbeieaaGreatDoor

namespace Go.Proofs.YtblkejnckbeieaaGreatDoor
open Go.RowKit SetPure

theorem andF_step {n i j : Nat} {s t : List Rg} {a b : Rg} (hi : i < s.length) (hj : j < t.length) (ha : s.getD i (0, 0) = a) (hb : t.getD j (0, 0) = b) :
    andF (n + 1) (s.drop i) (t.drop j) = (if max a.1 b.1 ≤ min a.2 b.2 then [(max a.1 b.1, min a.2 b.2)] else []) ++ (if a.2 < b.2 then andF n (s.drop (i + 1)) (t.drop j) else andF n (s.drop i) (t.drop (j + 1))) := by
  rw [drop_next' hi ha, drop_next' hj hb]; rfl

theorem max_if (x y : Int) : max x y = if x < y then y else x := by
  split <;> omega
theorem min_if (x y : Int) : min x y = if y < x then y else x := by
  split <;> omega

set_option maxHeartbeats 1600000 in
theorem and_any (A A' : Option Addr) (c c' B : Nat) (l m : List Rg) (w : World) (hcan : Canon l) (hcan' : Canon m) (hA : SeqAt Epair w B A l) (hA' : SeqAt Epair w B A' m) (hB : B ≤ w.heap.size) :
    Calls Tryz.prog 54 #[.slice A l.length c, .slice A' m.length c'] w (RetOwn Epair 51 w (andL l m)) := by
  have hok := Canon.ok hcan (by omega)
  have hok' := Canon.ok hcan' (by omega)
  have hlen := hcan.len
  have hlen' := hcan'.len
  have HA := Lib.hid hA
  have HO := Lib.hid hok
  have HA' := Lib.hid hA'
  have HO' := Lib.hid hok'
  clear hA hcan hok hA' hcan' hok'
  go_enter Tryz.func54, Tryz.ntmps54
  go_wp2
  go_loopw [5, 6, 7] (fun v si sk wr => ∃ (i k : Nat) (O : List Rg), i ≤ l.length ∧ k ≤ m.length ∧ si = .int .i64 i ∧ sk = .int .i64 k ∧ O.length ≤ i + k ∧ Own Epair 51 w wr v O ∧ Hid (andL l m = O ++ andF (l.length + m.length - (i + k)) (l.drop i) (m.drop k)))
    (fun _ si sk _ => l.length + m.length + 1 - ((intOf si).toNat + (intOf sk).toNat))
  case atStart => exact ⟨0, 0, [], by omega, by omega, rfl, rfl, by simp, Own.nil_ _, rfl⟩
  case round =>
    obtain ⟨i, k, O, hi, hk, rfl, rfl, hOl, hown, hrest⟩ := hrel
    have hz := hown.size
    by_cases hlt : i < l.length
    · by_cases hlk : k < m.length
      · obtain ⟨b, off, rfl, hb, hc⟩ := (HA.out.below (hown.2.mono hB)).pairs_ (by omega)
        obtain ⟨b', off', rfl, hb', hc'⟩ := (HA'.out.below (hown.2.mono hB)).pairs_ (by omega)
        obtain ⟨h0, h1⟩ := hc i hlt
        obtain ⟨h0', h1'⟩ := hc' k hlk
        clear hc hc'
        obtain ⟨⟨x, y⟩, hr⟩ : ∃ r, l.getD i (0, 0) = r := ⟨_, rfl⟩
        obtain ⟨⟨x', y'⟩, hr'⟩ : ∃ r, m.getD k (0, 0) = r := ⟨_, rfl⟩
        rw [hr] at h0 h1
        rw [hr'] at h0' h1'
        have hq := HO.out _ (mem_at' hlt hr)
        have hq' := HO'.out _ (mem_at' hlk hr')
        have HS := Lib.hid (andF_step (n := l.length + m.length - (i + k) - 1) hlt hlk hr hr')
        rw [show l.length + m.length - (i + k) - 1 + 1 = l.length + m.length - (i + k) by omega] at HS
        clear hr hr'
        simp only at h0 h1 hq h0' h1' hq'
        obtain ⟨q1, q2, q3⟩ := hq
        obtain ⟨q1', q2', q3'⟩ := hq'
        have hki : (i : Int) < (l.length : Int) := by omega
        have hkk : (k : Int) < (m.length : Int) := by omega
        go_upto_region 4 with (fail)
        go_cut [8] (fun s8 wx => ∃ g : Nat, s8 = .pointer (some ⟨g, 0, none⟩) ∧ wr.heap.size ≤ g ∧ g < wx.heap.size ∧ wx.cell? ⟨g, 0, none⟩ = some (.int .i64 (max x x')) ∧ wx.cell? ⟨g, 1, none⟩ = some (.int .i64 (min y y')) ∧ Below wr.heap.size wr wx)
        case first =>
          go_region_held3 (fun w' => w'.cell? ⟨b, off + i * 2, none⟩ = some (.int .i64 x) ∧ w'.cell? ⟨b, off + i * 2 + 1, none⟩ = some (.int .i64 y) ∧ w'.cell? ⟨b', off' + k * 2, none⟩ = some (.int .i64 x') ∧ w'.cell? ⟨b', off' + k * 2 + 1, none⟩ = some (.int .i64 y')) (go_keep) (first | fail)
          all_goals
            go_wp2
            all_goals
              go_meet
              exact ⟨wr.heap.size, rfl, Nat.le_refl _, by simp, by first | (rw [max_if]; go_simp; done) | (go_simp; omega), by first | (rw [min_if]; go_simp; done) | (go_simp; omega), ((Below.refl _ wr).alloc (Nat.le_refl _) _).drew⟩
        case rest =>
          obtain ⟨g, rfl, hg1, hg2, c0, c1, hbx⟩ := hcut
          have hown2 := hown.below hbx
          have hz2 := hbx.size
          have HE1 := Lib.hid ((hown2.2.cell (p := ⟨b, off + i * 2 + 1, none⟩) (by simp only; omega)).symm.trans ((hbx.cell (p := ⟨b, off + i * 2 + 1, none⟩) (by simp only; omega)).trans h1))
          have HE2 := Lib.hid ((hown2.2.cell (p := ⟨b', off' + k * 2 + 1, none⟩) (by simp only; omega)).symm.trans ((hbx.cell (p := ⟨b', off' + k * 2 + 1, none⟩) (by simp only; omega)).trans h1'))
          have e1 := (hbx.cell (p := ⟨b, off + i * 2 + 1, none⟩) (by simp only; omega)).trans h1
          have e2 := (hbx.cell (p := ⟨b', off' + k * 2 + 1, none⟩) (by simp only; omega)).trans h1'
          clear h0 h1 h0' h1'
          obtain ⟨mx, hmx⟩ : ∃ mx, max x x' = mx := ⟨_, rfl⟩
          obtain ⟨mn, hmn⟩ : ∃ mn, min y y' = mn := ⟨_, rfl⟩
          rw [hmx] at c0
          rw [hmn] at c1
          simp only [hmx, hmn] at HS
          have bm1 : 0 ≤ mx := by omega
          have bm2 : mx ≤ 1114111 := by omega
          have bm3 : 0 ≤ mn := by omega
          have bm4 : mn ≤ 1114111 := by omega
          clear hmx hmn
          by_cases hle : mx ≤ mn
          · go_wp2_with (at_builtin; (refine wpList_append_seq _ rfl (.tmp 47) (.tmp 49) 26 rfl 16 elSet rfl (hown2.alloc _) 1 rfl (SeqAt.new (E := Epair) wc [(mx, mn)] 51) rfl (by simp only [maxLen]; omega) (by omega) ?_); intro v1 w1 hown1 hgr; have f1 := (hown1.2.cell (p := ⟨b, off + i * 2 + 1, none⟩) (by simp only; omega)).trans HE1.out; have f2 := (hown1.2.cell (p := ⟨b', off' + k * 2 + 1, none⟩) (by simp only; omega)).trans HE2.out)
            by_cases hlt2 : y < y'
            · go_quiet (fail)
              go_wp2
              go_roundw
              case rel => exact ⟨i + 1, k, O ++ [(mx, mn)], by omega, by omega, by go_num, rfl, by simp; omega, hown1.below (below_drewN (Below.refl _ _) _), Lib.hid (by rw [hrest.out, HS.out, if_pos hle, if_pos (show y < y' from hlt2), show l.length + m.length - (i + k) - 1 = l.length + m.length - (i + 1 + k) by omega]; simp)⟩
              case measure => simp [intOf]; omega
            · go_quiet (fail)
              go_wp2
              go_roundw
              case rel => exact ⟨i, k + 1, O ++ [(mx, mn)], by omega, by omega, rfl, by go_num, by simp; omega, hown1.below (below_drewN (Below.refl _ _) _), Lib.hid (by rw [hrest.out, HS.out, if_pos hle, if_neg (show ¬ y < y' from hlt2), show l.length + m.length - (i + k) - 1 = l.length + m.length - (i + (k + 1)) by omega]; simp)⟩
              case measure => simp [intOf]; omega
          · go_wp2
            by_cases hlt2 : y < y'
            · go_quiet (fail)
              go_wp2
              go_roundw
              case rel => exact ⟨i + 1, k, O, by omega, by omega, by go_num, rfl, by omega, hown2.below (below_drewN (Below.refl _ _) _), Lib.hid (by rw [hrest.out, HS.out, if_neg (show ¬ mx ≤ mn by omega), if_pos (show y < y' from hlt2), show l.length + m.length - (i + k) - 1 = l.length + m.length - (i + 1 + k) by omega]; simp)⟩
              case measure => simp [intOf]; omega
            · go_quiet (fail)
              go_wp2
              go_roundw
              case rel => exact ⟨i, k + 1, O, by omega, by omega, rfl, by go_num, by omega, hown2.below (below_drewN (Below.refl _ _) _), Lib.hid (by rw [hrest.out, HS.out, if_neg (show ¬ mx ≤ mn by omega), if_neg (show ¬ y < y' from hlt2), show l.length + m.length - (i + k) - 1 = l.length + m.length - (i + (k + 1)) by omega]; simp)⟩
              case measure => simp [intOf]; omega
      · obtain rfl : k = m.length := by omega
        go_wp2
        go_ret
        rw [hrest.out, show m.drop m.length = [] by simp, andF_nil', List.append_nil]
        exact ⟨_, rfl, hown⟩
    · obtain rfl : i = l.length := by omega
      go_wp2
      go_ret
      rw [hrest.out, show l.drop l.length = [] by simp, andF_nil, List.append_nil]
      exact ⟨_, rfl, hown⟩

end Go.Proofs.YtblkejnckbeieaaGreatDoor

namespace Go.Proofs.YtblkejnckbeieaaGreatDoor
open Go.RowKit SetPure

/-- A set's value. -/
structure IsSet (w : World) (v : Value) (s : List Rg) : Prop where
  seq : IsSeq Epair w v s
  canon : Canon s
  ty : TyOf w v 51
theorem IsSet.below {w w' : World} {v : Value} {s : List Rg} (h : IsSet w v s) (hb : Below w.heap.size w w') : IsSet w' v s := ⟨h.seq.below hb, h.canon, h.ty.below hb⟩

/-- A call's end that hands back a set with such numbers. -/
def SetEnd (p : Int → Prop) (w : World) (e : Ending) (w' : World) : Prop :=
  ∃ v s, e = .returned v ∧ IsSet w' v s ∧ (∀ x, InS s x ↔ p x) ∧ Below w.heap.size w w'

theorem set_not {w : World} {v : Value} {s : List Rg} (h : IsSet w v s) : Calls Tryz.prog 57 #[v] w (SetEnd (fun x => 0 ≤ x ∧ x ≤ 1114111 ∧ ¬ InS s x) w) := by
  obtain ⟨⟨A, c, rfl, hc1, hc2, hA⟩, hcan⟩ := h
  refine (not_any A c _ s w hcan hA (Nat.le_refl _)).mono ?_
  rintro e w' ⟨v, rfl, hv, hb, ht⟩
  obtain ⟨n1, n2⟩ := notL_spec hcan (Int.le_refl 0)
  exact ⟨v, _, rfl, ⟨hv, n1, ht⟩, n2, hb⟩
theorem set_and_own {w : World} {v u : Value} {s t : List Rg} (h : IsSet w v s) (k : IsSet w u t) : Calls Tryz.prog 54 #[v, u] w (RetOwn Epair 51 w (andL s t)) := by
  obtain ⟨⟨A, c, rfl, hc1, hc2, hA⟩, hcan⟩ := h
  obtain ⟨⟨A', c', rfl, hc1', hc2', hA'⟩, hcan'⟩ := k
  exact and_any A A' c c' _ s t w hcan hcan' hA hA' (Nat.le_refl _)
theorem set_and {w : World} {v u : Value} {s t : List Rg} (h : IsSet w v s) (k : IsSet w u t) : Calls Tryz.prog 54 #[v, u] w (SetEnd (fun x => InS s x ∧ InS t x) w) := by
  refine (set_and_own h k).mono ?_
  rintro e w' ⟨v, rfl, ho⟩
  obtain ⟨n1, n2⟩ := andL_spec h.canon k.canon
  exact ⟨v, _, rfl, ⟨ho.isSeq, n1, TyOf.own ho⟩, n2, ho.2⟩
theorem set_of {w : World} {v : Value} {l : List Rg} (h : IsSeq Epair w v l) (hl : l.length ≤ 8796093022208) : Calls Tryz.prog 16 #[v] w (SetEnd (fun x => InS l x ∧ 0 ≤ x ∧ x ≤ 1114111) w) := by
  obtain ⟨A, c, rfl, hc1, hc2, hA⟩ := h
  refine (of_any A c _ l w hl hA (Nat.le_refl _)).mono ?_
  rintro e w' ⟨r, hr1, hr2, v, rfl, hv, hb, ht⟩
  exact ⟨v, r, rfl, ⟨hv, hr1, ht⟩, hr2, hb⟩

set_option maxHeartbeats 400000 in
theorem set_less {w : World} {v u : Value} {s t : List Rg} (h : IsSet w v s) (k : IsSet w u t) : Calls Tryz.prog 27 #[v, u] w (SetEnd (fun x => InS s x ∧ ¬ InS t x) w) := by
  have HN := Lib.hid (set_not k)
  go_enter Tryz.func27, Tryz.ntmps27
  go_wp2_with (first
    | (go_at_call 57; refine HN.out.mono ?_; rintro e w1 ⟨v1, n, rfl, hn, hx, hb1⟩; have HX := Lib.hid hx; clear hx; have HA := Lib.hid (set_and (h.below hb1) hn))
    | (go_at_call 54; refine HA.out.mono ?_; rintro e w2 ⟨v2, m, rfl, hm, hy, hb2⟩; have HY := Lib.hid hy; clear hy))
  go_ret
  refine ⟨v2, m, rfl, hm, fun x => ?_, hb1.trans (hb2.mono hb1.size)⟩
  rw [HY.out, HX.out]
  constructor
  · rintro ⟨a, _, _, b⟩; exact ⟨a, b⟩
  · rintro ⟨a, b⟩; exact ⟨a, (CanonFrom.lo h.canon a).1, (CanonFrom.lo h.canon a).2, b⟩

end Go.Proofs.YtblkejnckbeieaaGreatDoor

namespace Go.Proofs.YtblkejnckbeieaaGreatDoor
open Go.RowKit SetPure

def inR (z : Int) : Bool := decide (0 ≤ z) && decide (z ≤ 1114111)
theorem inR_iff (z : Int) : inR z = true ↔ 0 ≤ z ∧ z ≤ 1114111 := by simp [inR]
/-- How many numbers pass the test. -/
def cntF (f : Int → Bool) : Nat := cnt f 0 1114112

/-- The value is a set that holds just the numbers that pass the test. -/
def SetF (w : World) (v : Value) (f : Int → Bool) : Prop := ∃ s, IsSet w v s ∧ ∀ z, inB s z = f z
theorem SetF.below {w w' : World} {v : Value} {f : Int → Bool} (h : SetF w v f) (hb : Below w.heap.size w w') : SetF w' v f := by
  obtain ⟨s, h1, h2⟩ := h
  exact ⟨s, h1.below hb, h2⟩
theorem SetF.inR {w : World} {v : Value} {f : Int → Bool} (h : SetF w v f) {z : Int} (hz : f z = true) : inR z = true := by
  obtain ⟨s, h1, h2⟩ := h
  rw [← h2, inB_iff] at hz
  rw [inR_iff]
  exact CanonFrom.lo h1.canon hz
theorem SetF.congr {w : World} {v : Value} {f g : Int → Bool} (h : SetF w v f) (e : ∀ z, f z = g z) : SetF w v g := by
  obtain ⟨s, h1, h2⟩ := h
  exact ⟨s, h1, fun z => (h2 z).trans (e z)⟩
theorem SetF.of_end {w' : World} {v : Value} {s : List Rg} {p : Int → Prop} {f : Int → Bool} (h : IsSet w' v s) (hp : ∀ x, InS s x ↔ p x) (hf : ∀ x, f x = true ↔ p x) : SetF w' v f :=
  ⟨s, h, fun z => by rw [Bool.eq_iff_iff, inB_iff, hp, hf]⟩

/-- What a walk holds: the world it began in stands, and so many sets. -/
def Hold (W w : World) (L : List (Value × (Int → Bool))) : Prop := Below W.heap.size W w ∧ ∀ p ∈ L, SetF w p.1 p.2
section
variable {W w w' : World} {L : List (Value × (Int → Bool))} {v u : Value} {f g : Int → Bool}
theorem Hold.get (h : Hold W w L) (hv : (v, f) ∈ L) : SetF w v f := h.2 _ hv
theorem Hold.start (W : World) : Hold W W [] := ⟨Below.refl _ _, fun p hp => by cases hp⟩
theorem Hold.go (h : Hold W w L) (hb : Below w.heap.size w w') : Hold W w' L := ⟨h.1.trans (hb.mono h.1.size), fun p hp => (h.2 p hp).below hb⟩
theorem Hold.add (h : Hold W w L) (hb : Below w.heap.size w w') (hv : SetF w' v f) : Hold W w' ((v, f) :: L) :=
  ⟨(h.go hb).1, fun p hp => by
    rcases List.mem_cons.1 hp with rfl | hp
    · exact hv
    · exact (h.go hb).2 p hp⟩
theorem Hold.alloc (h : Hold W w L) (o : Obj) : Hold W (w.alloc o) L := h.go ((Below.refl _ w).alloc (Nat.le_refl _) o)
theorem Hold.drewN (h : Hold W w L) (n : Nat) : Hold W (w.drewN n) L := h.go (below_drewN (Below.refl _ w) n)

theorem hold_not (h : Hold W w L) (hv : (v, f) ∈ L) : Calls Tryz.prog 57 #[v] w fun e w' => ∃ x, e = .returned x ∧ Hold W w' ((x, fun z => inR z && !f z) :: L) := by
  obtain ⟨s, h1, h2⟩ := h.get hv
  refine (set_not h1).mono ?_
  rintro e w' ⟨x, o, rfl, ho, hp, hb⟩
  exact ⟨x, rfl, h.add hb (SetF.of_end ho hp fun z => by rw [← h2]; simp [inR, inB_false, and_assoc])⟩
theorem hold_and (h : Hold W w L) (hv : (v, f) ∈ L) (hu : (u, g) ∈ L) : Calls Tryz.prog 54 #[v, u] w fun e w' => ∃ x, e = .returned x ∧ Hold W w' ((x, fun z => f z && g z) :: L) := by
  obtain ⟨s, h1, h2⟩ := h.get hv
  obtain ⟨t, k1, k2⟩ := h.get hu
  refine (set_and h1 k1).mono ?_
  rintro e w' ⟨x, o, rfl, ho, hp, hb⟩
  exact ⟨x, rfl, h.add hb (SetF.of_end ho hp fun z => by rw [← h2, ← k2]; simp [inB_iff])⟩
theorem hold_less (h : Hold W w L) (hv : (v, f) ∈ L) (hu : (u, g) ∈ L) : Calls Tryz.prog 27 #[v, u] w fun e w' => ∃ x, e = .returned x ∧ Hold W w' ((x, fun z => f z && !g z) :: L) := by
  obtain ⟨s, h1, h2⟩ := h.get hv
  obtain ⟨t, k1, k2⟩ := h.get hu
  refine (set_less h1 k1).mono ?_
  rintro e w' ⟨x, o, rfl, ho, hp, hb⟩
  exact ⟨x, rfl, h.add hb (SetF.of_end ho hp fun z => by rw [← h2, ← k2]; simp [inB_iff, inB_false])⟩
theorem hold_of (h : Hold W w L) {l : List Rg} (hl : IsSeq Epair w v l) (hn : l.length ≤ 8796093022208) : Calls Tryz.prog 16 #[v] w fun e w' => ∃ x, e = .returned x ∧ Hold W w' ((x, fun z => inB l z && inR z) :: L) := by
  refine (set_of hl hn).mono ?_
  rintro e w' ⟨x, o, rfl, ho, hp, hb⟩
  exact ⟨x, rfl, h.add hb (SetF.of_end ho hp fun z => by simp [inB_iff, inR])⟩
end

theorem cntF_le (f : Int → Bool) : cntF f ≤ 1114112 := by
  have h := cnt_le (f := f) (g := fun _ => true) (lo := 0) (n := 1114112) (fun _ _ => rfl)
  rw [cnt_all (f := fun _ => true) (fun _ _ _ => rfl)] at h
  exact h
theorem cntF_congr {f g : Int → Bool} (h : ∀ z, inR z = true → f z = g z) : cntF f = cntF g := cnt_congr fun x h1 h2 => h x ((inR_iff x).2 ⟨h1, by omega⟩)
theorem cntF_none {f : Int → Bool} (h : ∀ z, inR z = true → f z = false) : cntF f = 0 := cnt_none fun x h1 h2 => h x ((inR_iff x).2 ⟨h1, by omega⟩)
theorem cntF_all {f : Int → Bool} (h : ∀ z, inR z = true → f z = true) : cntF f = 1114112 := cnt_all fun x h1 h2 => h x ((inR_iff x).2 ⟨h1, by omega⟩)
theorem cntF_both (f g : Int → Bool) : cntF (fun x => f x || g x) + cntF (fun x => f x && g x) = cntF f + cntF g := cnt_both f g 0 1114112
theorem cntF_not (f : Int → Bool) : cntF f + cntF (fun z => inR z && !f z) = 1114112 := by
  have h := cntF_both f (fun z => inR z && !f z)
  rw [cntF_all (f := fun x => f x || (inR x && !f x)) (fun z hz => by rw [hz]; cases f z <;> rfl), cntF_none (f := fun x => f x && (inR x && !f x)) (fun z hz => by rw [hz]; cases f z <;> rfl)] at h
  omega

end Go.Proofs.YtblkejnckbeieaaGreatDoor

namespace Go.Proofs.YtblkejnckbeieaaGreatDoor
open Go.RowKit SetPure

@[go_sem ↓] theorem eql_set_nil (a : Option Addr) (l c : Nat) (w : World) : (binOp .eql 26 (.slice a l c) (.slice none 0 0)).run Tryz.prog w = .ok (.bool a.isNone) w :=
  run_eql_slice_nil w _ _ a l c Tryz.underlying26

set_option maxHeartbeats 400000 in
set_option maxRecDepth 100000 in
theorem clone_any (A : Option Addr) (c : Nat) (l : List Rg) (w : World) (hl : l.length ≤ 8796093022208) (hA : SeqAt Epair w w.heap.size A l) :
    Calls Tryz.prog 52 #[.slice A l.length c] w fun e w' => ∃ v, e = .returned v ∧ Own Epair 51 w w' v l := by
  rcases A with _ | ad
  · have h0 : l = [] := by
      rcases Nat.eq_zero_or_pos l.length with h0 | h0
      · exact List.eq_nil_of_length_eq_zero h0
      · obtain ⟨_, _, h, _⟩ := hA h0
        cases h
    subst h0
    go_enter Tryz.func52, Tryz.ntmps52
    go_wp2
    go_ret
    exact ⟨_, rfl, Own.nil_ _⟩
  · have HA := Lib.hid hA
    clear hA
    have how : Own (α := Rg) Epair 51 w (w.alloc (.cells #[] 51)) (.slice (some ⟨w.heap.size, 0, none⟩) 0 0) [] :=
      ⟨World.ownsRow_lit w #[] 0 (Nat.le_refl _) (by simp [maxLen]) (by simp), (Below.refl _ w).alloc (Nat.le_refl _) _⟩
    go_enter Tryz.func52, Tryz.ntmps52
    go_wp2_with (at_builtin; (refine wpList_append_seq _ rfl (.tmp 5) (.tmp 6) 26 rfl 16 elSet rfl how l.length rfl (HA.out.alloc (Nat.le_refl _) _) rfl (by simp only [maxLen, List.length_nil]; omega) (by simp only [List.length_nil]; omega) ?_); intro v1 w1 hown1 hg1)
    go_ret
    exact ⟨_, rfl, hown1⟩

set_option maxHeartbeats 400000 in
set_option maxRecDepth 100000 in
theorem or_any (s t : List Rg) (v u : Value) (w : World) (hs : IsSeq Epair w v s) (ht : IsSeq Epair w u t) (hsl : s.length ≤ 1000000000000) (htl : t.length ≤ 1000000000000) :
    Calls Tryz.prog 173 #[v, u] w (OfEnd (s ++ t) w) := by
  obtain ⟨A, c, rfl, hc1, hc2, hA⟩ := hs
  obtain ⟨A', c', rfl, hc1', hc2', hA'⟩ := ht
  have HC := Lib.hid (clone_any A c s w (by omega) hA)
  have HA' := Lib.hid hA'
  clear hA hA'
  go_enter Tryz.func173, Tryz.ntmps173
  go_wp2_with (first
    | (go_at_call 52; refine HC.out.mono ?_; rintro e w1 ⟨v1, rfl, hown1⟩; have hb1 := hown1.2)
    | (at_builtin; (refine wpList_append_seq _ rfl (.tmp 6) (.tmp 7) 26 rfl 16 elSet rfl hown1 t.length rfl (HA'.out.below hb1) rfl (by simp only [maxLen]; omega) (by omega) ?_); intro v2 w2 hown2 hg2; have hz2 := hown2.2.size; obtain ⟨A2, c2, rfl, _, _, hA2⟩ := hown2.isSeq; have HO := Lib.hid (of_any A2 c2 w2.heap.size (s ++ t) w2 (by rw [List.length_append]; omega) hA2 (Nat.le_refl _)); simp only [List.length_append] at HO; clear hA2)
    | (go_at_call 16; refine HO.out.mono ?_; rintro e w3 ⟨r, hr1, hr2, v3, rfl, hr4, hr5, ht5⟩; have HR := Lib.hid hr2; have HR1 := Lib.hid hr1; clear hr1 hr2))
  go_ret
  exact ⟨r, HR1.out, HR.out, v3, rfl, hr4, hown2.2.trans (hr5.mono hz2), ht5⟩

theorem set_or {w : World} {v u : Value} {s t : List Rg} (h : IsSet w v s) (k : IsSet w u t) : Calls Tryz.prog 173 #[v, u] w (SetEnd (fun x => InS s x ∨ InS t x) w) := by
  refine (or_any s t v u w h.seq k.seq (by have := h.canon.len; omega) (by have := k.canon.len; omega)).mono ?_
  rintro e w' ⟨r, hr1, hr2, v, rfl, hv, hb, ht⟩
  refine ⟨v, r, rfl, ⟨hv, hr1, ht⟩, fun x => ?_, hb⟩
  rw [hr2, InS_append]
  constructor
  · exact fun h => h.1
  · intro hx
    refine ⟨hx, ?_⟩
    rcases hx with hx | hx
    · exact CanonFrom.lo h.canon hx
    · exact CanonFrom.lo k.canon hx

end Go.Proofs.YtblkejnckbeieaaGreatDoor

namespace Go.Proofs.YtblkejnckbeieaaGreatDoor
open Go.RowKit SetPure

section
variable {W w w' : World} {L : List (Value × (Int → Bool))} {v u : Value} {f g : Int → Bool}
theorem hold_or (h : Hold W w L) (hv : (v, f) ∈ L) (hu : (u, g) ∈ L) : Calls Tryz.prog 173 #[v, u] w fun e w' => ∃ x, e = .returned x ∧ Hold W w' ((x, fun z => f z || g z) :: L) := by
  obtain ⟨s, h1, h2⟩ := h.get hv
  obtain ⟨t, k1, k2⟩ := h.get hu
  refine (set_or h1 k1).mono ?_
  rintro e w' ⟨x, o, rfl, ho, hp, hb⟩
  exact ⟨x, rfl, h.add hb (SetF.of_end ho hp fun z => by rw [← h2, ← k2]; simp [inB_iff])⟩
end

end Go.Proofs.YtblkejnckbeieaaGreatDoor

namespace Go.Proofs.YtblkejnckbeieaaGreatDoor
open Go.RowKit SetPure

def classL : List (ByteArray × List Rg) := [
  (⟨#[76, 117]⟩, [(65, 90), (192, 214), (216, 222), (913, 929), (931, 937), (1040, 1071), (66560, 66599)]),
  (⟨#[76, 108]⟩, [(97, 122), (181, 181), (223, 246), (248, 255), (383, 383), (945, 969), (1072, 1103), (66600, 66639)]),
  (⟨#[76, 111]⟩, [(170, 170), (186, 186), (1488, 1514), (12353, 12438), (12449, 12538), (19968, 40959)]),
  (⟨#[78, 100]⟩, [(48, 57), (1632, 1641), (2406, 2415), (65296, 65305)]),
  (⟨#[80, 99]⟩, [(95, 95), (8255, 8256)]),
  (⟨#[90, 115]⟩, [(32, 32), (160, 160), (8192, 8202), (12288, 12288)]),
  (⟨#[80]⟩, [(33, 35), (37, 42), (44, 47), (58, 59), (63, 64), (91, 93), (95, 95), (123, 123), (125, 125), (161, 161), (167, 167), (171, 171), (182, 183), (187, 187), (191, 191), (8208, 8231), (8255, 8256), (12289, 12291)]),
  (⟨#[76, 97, 116, 105, 110]⟩, [(65, 90), (97, 122), (170, 170), (186, 186), (192, 214), (216, 246), (248, 591), (8490, 8491)]),
  (⟨#[71, 114, 101, 101, 107]⟩, [(913, 929), (931, 993)]),
  (⟨#[67, 121, 114, 105, 108, 108, 105, 99]⟩, [(1024, 1156)]),
  (⟨#[72, 101, 98, 114, 101, 119]⟩, [(1488, 1514)]),
  (⟨#[72, 105, 114, 97, 103, 97, 110, 97]⟩, [(12353, 12438)]),
  (⟨#[75, 97, 116, 97, 107, 97, 110, 97]⟩, [(12449, 12538)]),
  (⟨#[72, 97, 110]⟩, [(19968, 40959)]),
  (⟨#[68, 101, 115, 101, 114, 101, 116]⟩, [(66560, 66639)])]
def nameC (i : Nat) : ByteArray := (classL.getD i (⟨#[]⟩, [])).1
def rangesC (i : Nat) : List Rg := (classL.getD i (⟨#[]⟩, [])).2

/-- Blocks laid one behind the other. -/
def laid (w : World) (os : List Obj) : World := os.foldl World.alloc w
theorem laid_size (w : World) (os : List Obj) : (laid w os).heap.size = w.heap.size + os.length := by
  induction os generalizing w with
  | nil => rfl
  | cons o os ih => show (laid (w.alloc o) os).heap.size = _; rw [ih]; simp; omega
theorem laid_old (w : World) (os : List Obj) (k : Nat) (hk : k < w.heap.size) : (laid w os).heap[k]? = w.heap[k]? := by
  induction os generalizing w with
  | nil => rfl
  | cons o os ih => show (laid (w.alloc o) os).heap[k]? = _; rw [ih _ (by simp; omega), Below.heap_alloc w o k hk]
theorem laid_at (w : World) (os : List Obj) (i : Nat) (hi : i < os.length) : (laid w os).heap[w.heap.size + i]? = os[i]? := by
  induction os generalizing w i with
  | nil => simp at hi
  | cons o os ih =>
    cases i with
    | zero => show (laid (w.alloc o) os).heap[w.heap.size + 0]? = _; rw [laid_old _ _ _ (by simp), Nat.add_zero, heap_alloc_new]; rfl
    | succ i =>
      show (laid (w.alloc o) os).heap[w.heap.size + (i + 1)]? = _
      have := ih (w.alloc o) i (by simpa using hi)
      rw [show (w.alloc o).heap.size + i = w.heap.size + (i + 1) by simp; omega] at this
      rw [this]; rfl
theorem laid_below (w : World) (os : List Obj) : Below w.heap.size w (laid w os) := by
  refine ⟨?_, ?_, ?_, by rw [laid_size]; omega, fun k hk => laid_old w os k hk⟩
  all_goals
    induction os generalizing w with
    | nil => rfl
    | cons o os ih => exact ih (w.alloc o)

def classObj (r : List Rg) : Obj := .cells (r.flatMap Epair.enc).toArray 49
def tableC (g : Nat) : List Value := classL.zipIdx.flatMap fun p => [.string p.1.1, .slice (some ⟨g + p.2, 0, none⟩) p.1.2.length p.1.2.length]
def classObjs (g : Nat) : List Obj := (classL.map fun p => classObj p.2) ++ [.cells (tableC g).toArray 250]

/-- What 'classes' hands back: names and rows of ranges. -/
def RetClasses (w : World) (e : Ending) (w' : World) : Prop := ∃ g : Nat, e = .returned (.slice (some ⟨g, 0, none⟩) 15 15) ∧ Below w.heap.size w w' ∧ g < w'.heap.size ∧
  ∀ i, i < 15 → w'.cell? ⟨g, i * 2, none⟩ = some (.string (nameC i)) ∧ ∃ A, w'.cell? ⟨g, i * 2 + 1, none⟩ = some (.slice A (rangesC i).length (rangesC i).length) ∧ SeqAt Epair w' w'.heap.size A (rangesC i)

theorem table_at (g i : Nat) (hi : i < 15) : (tableC g)[i * 2]? = some (.string (nameC i)) ∧ (tableC g)[i * 2 + 1]? = some (.slice (some ⟨g + i, 0, none⟩) (rangesC i).length (rangesC i).length) := by
  match i, hi with
  | 0, _ | 1, _ | 2, _ | 3, _ | 4, _ | 5, _ | 6, _ | 7, _ | 8, _ | 9, _ | 10, _ | 11, _ | 12, _ | 13, _ | 14, _ => exact ⟨rfl, rfl⟩

theorem laid_classes (w : World) : RetClasses w (.returned (.slice (some ⟨w.heap.size + 15, 0, none⟩) 15 15)) (laid w (classObjs w.heap.size)) := by
  have hl15 : classL.length = 15 := rfl
  have hlen : (classObjs w.heap.size).length = 16 := by simp [classObjs, hl15]
  refine ⟨w.heap.size + 15, rfl, laid_below w _, by rw [laid_size, hlen]; omega, fun i hi => ?_⟩
  have h15 := laid_at w (classObjs w.heap.size) 15 (by rw [hlen]; omega)
  have hc : (classObjs w.heap.size)[15]? = some (.cells (tableC w.heap.size).toArray 250) := by
    unfold classObjs
    rw [List.getElem?_append_right (by simp [hl15]), List.length_map, hl15]; rfl
  rw [hc] at h15
  obtain ⟨t0, t1⟩ := table_at w.heap.size i hi
  refine ⟨?_, some ⟨w.heap.size + i, 0, none⟩, ?_, ?_⟩
  · rw [cell_of_row _ _ _ _ _ (0, 0) h15, List.getElem?_toArray, t0]
  · rw [cell_of_row _ _ _ _ _ (0, 0) h15, List.getElem?_toArray, t1]
  · have hi2 := laid_at w (classObjs w.heap.size) i (by rw [hlen]; omega)
    have hci : (classObjs w.heap.size)[i]? = some (classObj (rangesC i)) := by
      unfold classObjs rangesC
      rw [List.getElem?_append_left (by simp [hl15]; exact hi), List.getElem?_map, List.getD_eq_getElem?_getD, List.getElem?_eq_getElem (by rw [hl15]; exact hi)]
      rfl
    rw [hci] at hi2
    intro hn
    refine ⟨w.heap.size + i, 0, rfl, by rw [laid_size, hlen]; omega, fun j hj => ?_⟩
    rw [Nat.zero_add, cell_of_row _ _ _ _ _ (0, 0) hi2, List.getElem?_toArray, List.getD_eq_getElem?_getD, List.getElem?_eq_getElem (by rw [Epair.flat_len]; exact hj)]
    rfl

set_option maxHeartbeats 4000000 in
set_option maxRecDepth 100000 in
theorem classes_any (w : World) : Calls Tryz.prog 206 #[] w (RetClasses w) := by
  go_enter Tryz.func206, Tryz.ntmps206
  go_wp2
  go_ret
  exact laid_classes w

end Go.Proofs.YtblkejnckbeieaaGreatDoor

namespace Go.Proofs.YtblkejnckbeieaaGreatDoor
open Go.RowKit SetPure

set_option maxHeartbeats 1600000 in
set_option maxRecDepth 100000 in
theorem ucdOf_any (v : Value) (l : List Rg) (W w : World) (L : List (Value × (Int → Bool))) (hH : Hold W w L) (hv : IsSeq Epair w v l) (hl : l.length ≤ 1000000) :
    Calls Tryz.prog 207 #[v] w fun e w' => ∃ x, e = .returned x ∧ Hold W w' ((x, fun z => inB l z && inR z) :: L) := by
  obtain ⟨A, c, rfl, _, _, hA⟩ := hv
  have HA := Lib.hid hA
  clear hA
  go_enter Tryz.func207, Tryz.ntmps207
  go_wp2
  go_loopw [3, 8] (fun vb i wr => ∃ k : Nat, k ≤ l.length ∧ i = .int .i64 k ∧ Own Epair 51 w wr vb (l.take k))
    (fun _ i _ => l.length + 1 - (intOf i).toNat)
  case atStart => exact ⟨0, by omega, rfl, Own.nil_ _⟩
  case round =>
    obtain ⟨k, hk, rfl, hown⟩ := hrel
    have hz := hown.size
    by_cases hlt : k < l.length
    · obtain ⟨b, off, rfl, hb, hc⟩ := (HA.out.below hown.2).pairs_ (by omega)
      obtain ⟨h0, h1⟩ := hc k hlt
      clear hc
      obtain ⟨⟨x, y⟩, hr⟩ : ∃ r, l.getD k (0, 0) = r := ⟨_, rfl⟩
      rw [hr] at h0 h1
      simp only at h0 h1
      have HS := Lib.hid (take_next' hlt hr)
      clear hr
      have hlk : (l.take k).length = k := by rw [List.length_take]; omega
      go_wp2_with (at_builtin; (refine wpList_append_seq _ rfl (.tmp 12) (.tmp 18) 25 rfl 16 elRanges rfl ((hown.alloc _).alloc _) 1 rfl (SeqAt.new_at (E := Epair) (wr.alloc _) [(x, y)] 51 (wr.heap.size + 1) (by simp)) rfl (by simp only [maxLen]; omega) (by omega) ?_); intro v1 w1 ho1 hg1)
      go_roundw
      case rel => exact ⟨k + 1, by omega, by go_num, by rw [HS.out]; exact ho1⟩
      case measure => simp [intOf]; omega
    · obtain rfl : k = l.length := by omega
      rw [List.take_length] at hown
      have hab := hown.2
      have hH2 := hH.go hab
      have HO := Lib.hid (hold_of hH2 hown.isSeq (by omega))
      clear hown
      go_wp2_with (go_at_call 16; refine HO.out.mono ?_; rintro e w1 ⟨x, rfl, hx⟩)
      go_ret
      exact ⟨x, rfl, hx⟩

def blanksL : List Rg := [(9, 13), (32, 32), (133, 133), (160, 160), (8192, 8202), (8232, 8233), (12288, 12288)]

set_option maxHeartbeats 400000 in
theorem blanks_any (W w : World) (L : List (Value × (Int → Bool))) (hH : Hold W w L) :
    Calls Tryz.prog 198 #[] w fun e w' => ∃ x, e = .returned x ∧ Hold W w' ((x, fun z => inB blanksL z && inR z) :: L) := by
  have hseq : IsSeq Epair (w.alloc (.cells (blanksL.flatMap Epair.enc).toArray 49)) (.slice (some ⟨w.heap.size, 0, none⟩) blanksL.length 7) blanksL :=
    IsSeq.new w _ _ 7 (by decide) (by simp [maxLen])
  have HO := Lib.hid (ucdOf_any _ _ W _ L (hH.alloc _) hseq (by decide))
  clear hseq
  go_enter Tryz.func198, Tryz.ntmps198
  go_wp2_with (go_at_call 207; refine HO.out.mono ?_; rintro e w1 ⟨x, rfl, hx⟩)
  go_ret
  exact ⟨x, rfl, hx⟩

end Go.Proofs.YtblkejnckbeieaaGreatDoor
