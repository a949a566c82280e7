/- The walk of sets.Of: what is kept, sorted by the library, and merged. -/
import Derived.Test.YtpidgcjioocmhaaSortCall
import Derived.BigRegion
namespace Go.Proofs.Ytpidgcjioocmhaa
open Go.RowKit SetPure

/-- A box: one block that holds one value. -/
def BoxAt (w : World) (B : Nat) (v : Value) : Prop := ∃ t, w.heap[B]? = some (.cells #[v] t (0, 0))
section
variable {w w' : World} {B : Nat} {v : Value}
theorem BoxAt.cell (h : BoxAt w B v) : w.cell? ⟨B, 0, none⟩ = some v := by
  obtain ⟨t, h⟩ := h
  rw [cell_of_row w B 0 _ t (0, 0) h]; rfl
theorem BoxAt.frozen (h : BoxAt w B v) : w.frozen? ⟨B, 0, none⟩ = false := by
  obtain ⟨t, h⟩ := h
  exact frozen_of_row w B 0 _ t h
theorem BoxAt.block (h : BoxAt w B v) (e : w'.heap[B]? = w.heap[B]?) : BoxAt w' B v := by
  obtain ⟨t, h⟩ := h
  exact ⟨t, e.trans h⟩
theorem BoxAt.store (h : BoxAt w B v) (u : Value) : BoxAt (w.setCell ⟨B, 0, none⟩ u) B u := by
  obtain ⟨t, h⟩ := h
  exact ⟨t, by rw [heap_setCell_same w B 0 _ t u h]; rfl⟩
theorem BoxAt.lt (h : BoxAt w B v) : B < w.heap.size := by
  obtain ⟨t, h⟩ := h
  exact (Array.getElem?_eq_some_iff.1 h).1
theorem BoxAt.alloc (h : BoxAt w B v) (o : Obj) : BoxAt (w.alloc o) B v := h.block (Below.heap_alloc w o B h.lt)
theorem BoxAt.new (w : World) (v : Value) (t : TypeId) : BoxAt (w.alloc (.cells #[v] t)) w.heap.size v := ⟨t, heap_alloc_new w _⟩
end

theorem kept_step {l : List Rg} {k : Nat} {x y p q : Int} (hk : k < l.length) (hr : l.getD k (0, 0) = (x, y)) (hc : clip (x, y) = (p, q)) :
    kept (l.take (k + 1)) = kept (l.take k) ++ (if p ≤ q then [(p, q)] else []) := by
  have e : l.take (k + 1) = l.take k ++ [(x, y)] := by
    rw [List.take_add_one, List.getElem?_eq_getElem hk]
    rw [List.getD_eq_getElem?_getD, List.getElem?_eq_getElem hk] at hr
    have hr' : l[k] = (x, y) := by simpa using hr
    rw [hr']; rfl
  rw [e]
  simp only [kept, List.map_append, List.map_cons, List.map_nil, List.filter_append, hc]
  congr 1
  by_cases h : p ≤ q <;> simp [h]
theorem kept_len (l : List Rg) : (kept l).length ≤ l.length := by
  have := List.length_filter_le (fun r : Rg => decide (r.1 ≤ r.2)) (l.map clip)
  simpa [kept] using this

theorem push_len (out : List Rg) (r : Rg) : (push out r).length ≤ out.length + 1 := by
  rcases List.eq_nil_or_concat out with rfl | ⟨s, q, rfl⟩
  · simp [push]
  · rw [List.concat_eq_append, push_snoc]; split <;> simp
theorem push_bound {out : List Rg} {r : Rg} (ho : ∀ q ∈ out, 0 ≤ q.2 ∧ q.2 ≤ 1114111) (hr : 0 ≤ r.2 ∧ r.2 ≤ 1114111) : ∀ q ∈ push out r, 0 ≤ q.2 ∧ q.2 ≤ 1114111 := by
  rcases List.eq_nil_or_concat out with rfl | ⟨s, q, rfl⟩
  · intro p hp; simp [push] at hp; subst hp; exact hr
  · rw [List.concat_eq_append] at *
    rw [push_snoc]
    have hq := ho q (by simp)
    split
    · intro p hp
      rcases List.mem_append.1 hp with hp | hp
      · exact ho p (by simp [hp])
      · simp at hp; subst hp; simp only; omega
    · intro p hp
      rcases List.mem_append.1 hp with hp | hp
      · exact ho p hp
      · simp at hp; subst hp; exact hr
/-- The merge of the first k. -/
def merged (L : List Rg) (k : Nat) : List Rg := (L.take k).foldl push []
theorem merged_step {L : List Rg} {k : Nat} {r : Rg} (hk : k < L.length) (hr : L.getD k (0, 0) = r) : merged L (k + 1) = push (merged L k) r := by
  have e : L.take (k + 1) = L.take k ++ [r] := by
    rw [List.take_add_one, List.getElem?_eq_getElem hk]
    rw [List.getD_eq_getElem?_getD, List.getElem?_eq_getElem hk] at hr
    have hr' : L[k] = r := by simpa using hr
    rw [hr']; rfl
  simp only [merged, e, List.foldl_append, List.foldl_cons, List.foldl_nil]
theorem merged_ok {L : List Rg} (hL : ∀ r ∈ L, 0 ≤ r.1 ∧ r.1 ≤ r.2 ∧ r.2 ≤ 1114111) (k : Nat) (hk : k ≤ L.length) : (merged L k).length ≤ k ∧ ∀ q ∈ merged L k, 0 ≤ q.2 ∧ q.2 ≤ 1114111 := by
  induction k with
  | zero => exact ⟨by simp [merged], fun q hq => by simp [merged] at hq⟩
  | succ k ih =>
    obtain ⟨i1, i2⟩ := ih (by omega)
    rw [merged_step (by omega) rfl]
    have hm : L.getD k (0, 0) ∈ L := by rw [List.getD_eq_getElem?_getD, List.getElem?_eq_getElem (show k < L.length by omega)]; exact List.getElem_mem _
    have := hL _ hm
    exact ⟨Nat.le_trans (push_len _ _) (by omega), push_bound i2 ⟨by omega, by omega⟩⟩

/-- The row's last range, its end stored anew. -/
theorem own_last {e : TypeId} {w0 w : World} {g c : Nat} {S : List Rg} {q : Rg} (h : Own Epair e w0 w (.slice (some ⟨g, 0, none⟩) (S ++ [q]).length c) (S ++ [q])) :
    w.cell? ⟨g, S.length * 2 + 1, none⟩ = some (.int .i64 q.2) ∧ w.frozen? ⟨g, S.length * 2 + 1, none⟩ = false ∧ w0.heap.size ≤ g ∧ g < w.heap.size ∧
      ∀ u : Int, Own Epair e w0 (w.setCell ⟨g, S.length * 2 + 1, none⟩ (.int .i64 u)) (.slice (some ⟨g, 0, none⟩) (S ++ [q]).length c) (S ++ [(q.1, u)]) := by
  have hf : (S ++ [q]).flatMap Epair.enc = S.flatMap Epair.enc ++ [.int .i64 q.1, .int .i64 q.2] := by simp [Epair]
  have hfl : (S.flatMap Epair.enc).length = S.length * 2 := Epair.flat_len S
  have hlt := h.1.lt g (by simp [Value.ownBlock])
  refine ⟨?_, h.1.frozenAt _, hlt.1, hlt.2, fun u => ?_⟩
  · rw [h.1.cellAt _ (by simp [Epair]; omega), hf, List.getElem?_append_right (by omega), hfl, show S.length * 2 + 1 - S.length * 2 = 1 by omega]; rfl
  · obtain ⟨h1, h2⟩ := h.1.stored (S.length * 2 + 1) (.int .i64 u)
    refine ⟨?_, h.2.grown h2 h.2.size (fun k hk => by injection hk with hk; omega)⟩
    rw [hf, List.set_append_right _ _ (by omega), hfl, show S.length * 2 + 1 - S.length * 2 = 1 by omega] at h1
    have hf2 : (S ++ [(q.1, u)]).flatMap Epair.enc = S.flatMap Epair.enc ++ [.int .i64 q.1, .int .i64 u] := by simp [Epair]
    have hl2 : (S ++ [(q.1, u)]).length = (S ++ [q]).length := by simp
    rw [hf2, hl2]
    exact h1

theorem own_row {e : TypeId} {w0 w : World} {v : Value} {S : List Rg} {q : Rg} (h : Own Epair e w0 w v (S ++ [q])) : ∃ g c, v = .slice (some ⟨g, 0, none⟩) (S ++ [q]).length c := by
  rcases h.1.2 with ⟨_, h0⟩ | ⟨g, cap, cur, rfl, _⟩
  · simp at h0
  · exact ⟨g, cap, rfl⟩

theorem below_set {B : Nat} {a w : World} (h : Below B a w) (u : Value) {p : Addr} (hp : B ≤ p.block) : Below B a (w.setCell p u) :=
  ⟨h.os, h.tape, h.output, by simpa using h.size, fun k hk => (heap_setCell_other w p k u (by omega)).trans (h.block k hk)⟩

/-- Of's end. -/
def OfEnd (l : List Rg) (w : World) (e : Ending) (w' : World) : Prop :=
  ∃ s : List Rg, Canon s ∧ (∀ x, InS s x ↔ InS l x ∧ 0 ≤ x ∧ x ≤ 1114111) ∧ RetSeq Epair w s e w'

set_option maxHeartbeats 3200000 in
set_option maxRecDepth 100000 in
theorem of_any (A : Option Addr) (c B : Nat) (l : List Rg) (w : World) (hl : l.length ≤ 8796093022208) (hA : SeqAt Epair w B A l) (hB : B ≤ w.heap.size) :
    Calls Try.prog 13 #[.slice A l.length c] w (OfEnd l w) := by
  have HA := Lib.hid hA
  clear hA
  go_enter Try.func13, Try.ntmps13
  go_wp2
  go_loopw [12] (fun i wr => ∃ (k : Nat) (v : Value), k ≤ l.length ∧ i = .int .i64 k ∧ BoxAt wr w.heap.size v ∧ OwnB Epair 29 (w.heap.size + 1) wr v (kept (l.take k)) ∧ Below w.heap.size w wr)
    (fun i _ => l.length + 1 - (intOf i).toNat)
  case atStart => exact ⟨0, _, by omega, rfl, BoxAt.new w _ _, OwnB.nil_ (by simp), (Below.refl _ w).alloc (Nat.le_refl _) _⟩
  case round =>
    obtain ⟨k, v, hk, rfl, hbox, hown, hbw⟩ := hrel
    have hz := hown.2
    have hkl := kept_len (l.take k)
    rw [List.length_take] at hkl
    by_cases hlt : k < l.length
    · obtain ⟨b, off, rfl, hb, hc⟩ := (HA.out.below (hbw.mono hB)).pairs_ (by omega)
      obtain ⟨h0, h1⟩ := hc k hlt
      clear hc
      obtain ⟨⟨x, y⟩, hr⟩ : ∃ r, l.getD k (0, 0) = r := ⟨_, rfl⟩
      rw [hr] at h0 h1
      simp only at h0 h1
      have HS := Lib.hid (kept_step (p := max x 0) (q := min y 1114111) hlt hr rfl)
      clear hr
      obtain ⟨A1, c1, rfl, hc1, hc2⟩ := hown.form
      have hbc := hbox.cell
      have hbf := hbox.frozen
      have hB0 := hbox.lt
      have hbca := (hbox.alloc (.cells #[Value.int IntKind.i64 (max x 0), Value.int IntKind.i64 (min y 1114111)] 29)).cell
      by_cases hcl : max x 0 ≤ min y 1114111
      · go_wp2_with (at_builtin; (refine wpList_append_seqB _ rfl (.tmp 28) (.tmp 30) 27 rfl 16 elRanges rfl ((hown.alloc _).alloc _) 1 rfl (SeqAt.new_at (E := Epair) (wr.alloc _) [(max x 0, min y 1114111)] 29 (wr.heap.size + 1) (by simp)) rfl (by simp only [maxLen]; omega) (by omega) ?_); intro v1 w1 hown1 hgr; have hbox1 := ((hbox.alloc _).alloc _).block (hgr.block w.heap.size (by simp; omega) (fun e => by have := (hown.lt _ e.symm).1; omega)); have hb1c := hbox1.cell; have hb1f := hbox1.frozen; obtain ⟨A2, c2, rfl, hc3, hc4⟩ := hown1.form)
        have hbw1 := below_set ((((hbw.alloc (by omega) _).alloc (by simp; omega) _).grown hgr (by simp; omega) (fun j hj => by have := (hown.lt j hj).1; omega))) (Value.slice A2 (kept (l.take k) ++ [(max x 0, min y 1114111)]).length c2) (p := ⟨w.heap.size, 0, none⟩) (Nat.le_refl _)
        go_roundw
        case rel => exact ⟨k + 1, Value.slice A2 (kept (l.take k) ++ [(max x 0, min y 1114111)]).length c2, by omega, by go_num, by simpa using hbox1.store (Value.slice A2 (kept (l.take k) ++ [(max x 0, min y 1114111)]).length c2), by rw [HS.out, if_pos hcl]; simpa using hown1.setBelow (a := ⟨w.heap.size, 0, none⟩) (by simp) (Value.slice A2 (kept (l.take k) ++ [(max x 0, min y 1114111)]).length c2), by simpa using hbw1⟩
        case measure => simp [intOf]; omega
      · go_wp2
        go_roundw
        case rel => exact ⟨k + 1, _, by omega, by go_num, hbox.alloc _, by rw [HS.out, if_neg hcl, List.append_nil]; exact hown.alloc _, hbw.alloc (by omega) _⟩
        case measure => simp [intOf]; omega
    · obtain rfl : k = l.length := by omega
      rw [List.take_length] at hown hkl
      obtain ⟨L, hL⟩ : ∃ L, kept l = L := ⟨_, rfl⟩
      rw [hL] at hown hkl
      obtain ⟨A1, c1, rfl, hc1, hc2⟩ := hown.form
      have hbc := hbox.cell
      have hBl := hbox.lt
      have HSO := Lib.hid (sort_any (w.heap.size + 1) w.heap.size _ L wr hown (by omega) hbc (by omega))
      go_wp2_with (go_at_call 31; refine HSO.out.mono ?_; rintro e ws ⟨rfl, L', hperm, hsorted, hown2, hbw2⟩; have HP := Lib.hid hperm; have HQ := Lib.hid hsorted; clear hperm hsorted; have hbc2 := (hbox.block (hbw2.block w.heap.size (by omega))).cell)
      have hn : L'.length = L.length := HP.out.length_eq
      have hkL : ∀ r ∈ L', 0 ≤ r.1 ∧ r.1 ≤ r.2 ∧ r.2 ≤ 1114111 := fun r hr => kept_ok l r (by rw [hL]; exact HP.out.mem_iff.1 hr)
      have HSeq : Hid (SeqAt Epair ws ws.heap.size A1 L') := Lib.hid (by rw [← hn] at hown2; exact OwnB.seq hown2)
      have HOK := Lib.hid (fun k hk => merged_ok hkL k hk)
      have HKL := Lib.hid hkL
      have hres : Hid (∀ wx v, Own Epair 29 ws wx v (merged L' L'.length) → OfEnd l w (.returned v) wx) := Lib.hid (by
        intro wx v ho
        obtain ⟨m1, m2⟩ := mergeL_spec hkL HQ.out
        have em : merged L' L'.length = mergeL L' := by simp [merged, mergeL]
        rw [em] at ho
        refine ⟨mergeL L', m1, fun x => ?_, v, rfl, ho.isSeq, (hbw.trans (hbw2.mono (Nat.le_succ _))).trans (ho.2.mono ?_)⟩
        · rw [m2, InS_perm HP.out, ← hL, kept_in]
        · have := hbw2.size; omega)
      clear hkL hL hown hown2 hbw hbw2 hbox hbc hbc2 HSO
      generalize hN : L.length = N at *
      go_loopw [6, 39] (fun v i wr => ∃ k, k ≤ N ∧ i = .int .i64 k ∧ Own Epair 29 ws wr v (merged L' k))
        (fun _ i _ => N + 1 - (intOf i).toNat)
      case atStart => exact ⟨0, by omega, rfl, Own.nil_ _⟩
      case round =>
        obtain ⟨k, hk, rfl, hown⟩ := hrel
        have hz := hown.size
        obtain ⟨hml, hmb⟩ := HOK.out k (by omega)
        by_cases hlt : k < N
        · obtain ⟨b, off, rfl, hb, hc⟩ := (HSeq.out.below hown.2).pairs_ (by omega)
          obtain ⟨h0, h1⟩ := hc k (by omega)
          clear hc
          obtain ⟨⟨x, y⟩, hr⟩ : ∃ r, L'.getD k (0, 0) = r := ⟨_, rfl⟩
          rw [hr] at h0 h1
          simp only at h0 h1
          have hq := HKL.out _ (mem_at' (by omega) hr)
          simp only at hq
          obtain ⟨q1, q2, q3⟩ := hq
          have HS := Lib.hid (merged_step (L := L') (by omega) hr)
          clear hr
          obtain ⟨M, hM⟩ : ∃ M, merged L' k = M := ⟨_, rfl⟩
          rw [hM] at hown hml hmb HS
          clear hM
          have hki : (k : Int) < (N : Int) := by omega
          rcases List.eq_nil_or_concat M with rfl | ⟨S, q, rfl⟩
          · obtain ⟨A2, c2, rfl, hc3, hc4⟩ := OwnB.form ⟨hown.1, hown.size⟩
            go_wp2
            go_quiet (fail)
            go_wp2_with (at_builtin; (refine wpList_append_seq _ rfl (.tmp 73) (.tmp 75) 31 rfl 16 elSet rfl (((hown.alloc _).below (below_drewN (Below.refl _ _) nq)).alloc _) 1 rfl (SeqAt.new_at (E := Epair) ((wr.alloc _).drewN nq) [(x, y)] 29 (wr.heap.size + 1) (by simp)) rfl (by simp only [maxLen]; omega) (by omega) ?_); intro v1 w1 hown1 hg1)
            go_roundw
            case rel => exact ⟨k + 1, by omega, by go_num, by rw [HS.out]; exact hown1⟩
            case measure => simp [intOf]; omega
          · rw [List.concat_eq_append] at *
            rw [push_snoc] at HS
            obtain ⟨g, c2, rfl⟩ := own_row hown
            obtain ⟨l1, l2, l3, l4, l5⟩ := own_last hown
            obtain ⟨qb1, qb2⟩ := hmb q (by simp)
            clear hmb
            have hSl : (S ++ [q]).length = S.length + 1 := by simp
            rw [hSl] at hml hown
            clear l5
            have s1 : IntKind.i64.wrap (((S.length : Int) + 1) - 1) = (S.length : Int) := by rw [show ((S.length : Int) + 1) - 1 = (S.length : Int) by omega]; exact IntWalk.i64_in _ (by omega)
            by_cases hle : x ≤ q.2 + 1
            · go_wp2
              go_quiet (fail)
              go_upto_region 16 with (fail)
              have hownq := (hown.alloc (.cells #[Value.int IntKind.i64 x, Value.int IntKind.i64 y] 29)).below (below_drewN (Below.refl _ _) nq)
              have c3 : ((wr.alloc (.cells #[Value.int IntKind.i64 x, Value.int IntKind.i64 y] 29)).drewN nq).cell? ⟨wr.heap.size, 1, none⟩ = some (.int .i64 y) := by go_simp
              obtain ⟨wq, hwq⟩ : ∃ wq, (wr.alloc (.cells #[Value.int IntKind.i64 x, Value.int IntKind.i64 y] 29)).drewN nq = wq := ⟨_, rfl⟩
              rw [hwq] at hownq c3
              rw [hwq]
              rw [← hSl] at hownq
              obtain ⟨k1, k2, k3, k4, k5⟩ := own_last hownq
              rw [hSl] at hownq
              simp only [hSl] at k5
              have HL := Lib.hid k5
              clear k5
              clear hwq l1 l2 l4
              go_region
              have hlast := (HL.out (max q.2 y)).drew
              clear HL
              go_wp2
              go_roundw
              case rel => exact ⟨k + 1, by omega, by go_num, by rw [HS.out, if_pos hle]; exact hlast⟩
              case measure => simp [intOf]; omega
            · go_wp2
              go_quiet (fail)
              go_wp2_with (at_builtin; (refine wpList_append_seq _ rfl (.tmp 73) (.tmp 75) 31 rfl 16 elSet rfl (((hown.alloc _).below (below_drewN (Below.refl _ _) nq)).alloc _) 1 rfl (SeqAt.new_at (E := Epair) ((wr.alloc _).drewN nq) [(x, y)] 29 (wr.heap.size + 1) (by simp)) rfl (by simp only [maxLen]; omega) (by omega) ?_); intro v1 w1 hown1 hg1)
              go_roundw
              case rel => exact ⟨k + 1, by omega, by go_num, by rw [HS.out, if_neg (by omega)]; exact hown1⟩
              case measure => simp [intOf]; omega
        · obtain rfl : k = N := by omega
          go_wp2
          go_ret
          exact hres.out _ _ (by rw [hn]; exact hown)

end Go.Proofs.Ytpidgcjioocmhaa
