/- Chapter 13: Split of a set of one number, and the law's own 'speaks'. -/
import Derived.Test.YtemjgnpkhomofaaSplitHas
namespace Go.Proofs.Ytemjgnpkhomofaa
open Go.RowKit SetPure UtfPure

theorem lone {r : Int} {L : List Rg} (h1 : ∀ q ∈ L, q.1 ≤ q.2) (h2 : L.Pairwise fun p q => p.2 < q.1) (h3 : ∀ z, InS L z → z = r) : L = [] ∨ L = [(r, r)] := by
  match L, h1, h2, h3 with
  | [], _, _, _ => exact .inl rfl
  | [(a, b)], h1, _, h3 =>
    have hab := h1 (a, b) (List.mem_cons_self ..)
    simp only at hab
    have e1 : a = r := h3 a ⟨(a, b), List.mem_cons_self .., Int.le_refl _, hab⟩
    have e2 : b = r := h3 b ⟨(a, b), List.mem_cons_self .., hab, Int.le_refl _⟩
    subst e1; subst e2
    exact .inr rfl
  | (a, b) :: (c, d) :: L', h1, h2, h3 =>
    exfalso
    have hab := h1 (a, b) (List.mem_cons_self ..)
    have hcd := h1 (c, d) (List.mem_cons_of_mem _ (List.mem_cons_self ..))
    simp only at hab hcd
    have e2 : b = r := h3 b ⟨(a, b), List.mem_cons_self .., hab, Int.le_refl _⟩
    have e3 : c = r := h3 c ⟨(c, d), List.mem_cons_of_mem _ (List.mem_cons_self ..), Int.le_refl _, hcd⟩
    have := (List.pairwise_cons.1 h2).1 (c, d) (List.mem_cons_self ..)
    simp only at this
    omega
theorem one_split {r : Int} {o : List Rg} (hc : Canon o) (hp : ∀ z, InS o z ↔ InS [(r, r)] z ∧ 0 ≤ z ∧ z ≤ 1114111) : splitL o = if isScalar r then [(r, r)] else [] := by
  obtain ⟨s1, s2, s3⟩ := splitL_spec hc (Int.le_refl 0)
  have hin : ∀ z, InS [(r, r)] z ↔ z = r := fun z => by
    simp only [InS, List.mem_singleton, exists_eq_left]; omega
  have hl := lone (r := r) (fun q hq => (s1 q hq).1.le) s2 (fun z hz => (hin z).1 ((hp z).1 ((s3 z).1 hz).1).1)
  by_cases hs : isScalar r = true
  · rw [if_pos hs]
    refine hl.resolve_left fun hn => ?_
    have hb : 0 ≤ r ∧ r ≤ 1114111 := by
      simp only [isScalar, Bool.and_eq_true, decide_eq_true_eq] at hs
      exact hs.1
    have : InS (splitL o) r := (s3 r).2 ⟨(hp r).2 ⟨(hin r).2 rfl, hb⟩, hs⟩
    rw [hn] at this
    exact InS_nil r this
  · rw [if_neg hs]
    refine hl.resolve_right fun hn => ?_
    have : InS (splitL o) r := by rw [hn]; exact (hin r).2 rfl
    exact hs ((s3 r).1 this).2
theorem scalar_leaf {r : Int} (hs : isScalar r = true) : Leaf (r, r) := by
  have hc : Canon [(r, r)] := by
    simp only [isScalar, Bool.and_eq_true, decide_eq_true_eq] at hs
    simp [Canon, CanonFrom]; omega
  have hb : 0 ≤ r ∧ r ≤ 1114111 := by
    simp only [isScalar, Bool.and_eq_true, decide_eq_true_eq] at hs
    exact hs.1
  have := one_split (r := r) hc (fun z => by simp only [InS, List.mem_singleton, exists_eq_left]; omega)
  rw [if_pos hs] at this
  exact ((splitL_spec hc (Int.le_refl 0)).1 (r, r) (by rw [this]; exact List.mem_cons_self ..)).1
theorem fits_one {r : Int} (hs : isScalar r = true) (s : List Int) : fits (rowOf r r) s = decide (s = encU r) := by
  rw [Bool.eq_iff_iff, fits_leaf (scalar_leaf hs), decide_eq_true_eq]
  constructor
  · rintro ⟨z, h1, h2, rfl⟩
    rw [show z = r by simp only at h1 h2; omega]
  · rintro rfl
    exact ⟨r, Int.le_refl _, Int.le_refl _, rfl⟩

/-- The answer of Split is one row: of just one scalar. -/
def OneEnd (r : Int) (w0 : World) (e : Ending) (w : World) : Prop :=
  ∃ b off c g sc, e = .returned (.slice (some ⟨b, off, none⟩) 1 c) ∧ Below w0.heap.size w0 w ∧ b < w.heap.size ∧ w.cell? ⟨b, off, none⟩ = some (.slice (some ⟨g, 0, none⟩) (encU r).length sc) ∧ IsSeq Epair w (.slice (some ⟨g, 0, none⟩) (encU r).length sc) (rowOf r r)
theorem split_one {r : Int} {o : List Rg} {v : Value} {w : World} (hs : IsSet w v o) (ho : splitL o = [(r, r)]) : Calls Try.prog 9 #[v] w (OneEnd r w) := by
  refine (split_any v o w hs).mono ?_
  rintro e w' ⟨v', ss, rfl, hown, hrows, _⟩
  rw [ho] at hrows
  have hlen : ss.length = 1 := hrows.1
  obtain ⟨s, rfl⟩ : ∃ s, ss = [s] := by
    match ss, hlen with
    | [s], _ => exact ⟨s, rfl⟩
  have hrow := hrows.2 0 s (rowOf r r) rfl rfl
  have hseq := hrow.isSeq
  obtain ⟨g, cur, fr, h1, h2, _⟩ := hrow
  rw [rowOf_len rfl] at h2
  rw [h1, h2] at hseq
  have hbl := hown.2
  obtain ⟨A, c, hv, _, _, hA⟩ := hown.isSeq
  obtain ⟨b, off, rfl, hb, hc⟩ := hA.at_ (i := 0) (by simp)
  have h0 := hc 0 (by decide)
  refine ⟨b, off, c, g, s.2.2, by rw [hv]; rfl, hbl, hb, ?_, hseq⟩
  have h0' : w'.cell? ⟨b, off, none⟩ = some (.slice s.1 s.2.1 s.2.2) := h0
  rw [h0', h1, h2]
theorem split_none {o : List Rg} {v : Value} {w : World} (hs : IsSet w v o) (ho : splitL o = []) : Calls Try.prog 9 #[v] w fun e w' => ∃ A c, e = .returned (.slice A 0 c) ∧ Below w.heap.size w w' := by
  refine (split_any v o w hs).mono ?_
  rintro e w' ⟨v', ss, rfl, hown, hrows, _⟩
  rw [ho] at hrows
  have hlen : ss.length = 0 := hrows.1
  obtain rfl : ss = [] := List.eq_nil_of_length_eq_zero hlen
  have hbl := hown.2
  obtain ⟨A, c, hv, _, _, _⟩ := hown.isSeq
  exact ⟨A, c, by rw [hv]; rfl, hbl⟩

theorem fits65 : fits (rowOf 65 65) (intsOf ⟨#[65]⟩) = true ∧ fits (rowOf 65 65) (intsOf ⟨#[66]⟩) = false := ⟨rfl, rfl⟩

set_option maxHeartbeats 800000 in
theorem speaks_any (w : World) : Calls Try.prog 7 #[] w fun e w' => e = .returned (.bool true) ∧ Below w.heap.size w w' := by
  have hseq : IsSeq Epair (w.alloc (.cells (([(65, 65)] : List Rg).flatMap Epair.enc).toArray 39)) (.slice (some ⟨w.heap.size, 0, none⟩) ([(65, 65)] : List Rg).length 1) [(65, 65)] :=
    IsSeq.new w _ _ 1 (by decide) (by simp [maxLen])
  have HO := Lib.hid (set_of hseq (by decide))
  clear hseq
  have HW := Lib.hid (show Below w.heap.size w (w.alloc (.cells (([(65, 65)] : List Rg).flatMap Epair.enc).toArray 39)) from (Below.refl _ w).alloc (Nat.le_refl _) _)
  have HM1 : Hid True := trivial
  go_enter Try.func7, Try.ntmps7
  go_wp2_with (first
    | (go_at_call 15; refine HO.out.mono ?_; rintro e w1 ⟨x, o, rfl, hset, hp, hb⟩; have hsp := one_split hset.2 hp; have hsp : splitL o = [(65, 65)] := hsp)
    | (go_at_call 9; refine (split_one hset hsp).mono ?_; rintro e w2 ⟨bb, off, c, g, sc, rfl, hb2, hbb, hcell, hrow⟩; (have hz : (encU 65).length = 1 := rfl); rw [hz] at hcell hrow; have HR := Lib.hid hrow; clear hrow)
    | (go_at_call 16; clear HM1; refine (has_row _ _ _ _ HR.out (by decide) (by decide)).mono ?_; rintro e w3 ⟨rfl, hb3⟩; rw [fits65.1]; have hcell3 := (hb3.cell (p := ⟨bb, off, none⟩) hbb).trans hcell)
    | (go_at_call 16; refine (has_row _ _ _ _ (HR.out.below hb3) (by decide) (by decide)).mono ?_; rintro e w4 ⟨rfl, hb4⟩; rw [fits65.2]))
  go_ret
  have z0 := HW.out.size
  have z1 := Nat.le_trans z0 hb.size
  have z2 := Nat.le_trans z1 hb2.size
  have z3 := Nat.le_trans z2 hb3.size
  exact ⟨rfl, (((HW.out.trans (hb.mono z0)).trans (hb2.mono z1)).trans (hb3.mono z2)).trans (hb4.mono z3)⟩

end Go.Proofs.Ytemjgnpkhomofaa
