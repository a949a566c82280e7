/- The plain law of utfsplit: the pieces of a set, how many there are, which texts fit their rows, and their order. -/
import Derived.Test.YtemjgnpkhomofaaUtfPure
namespace Go.Proofs.Ytemjgnpkhomofaa
open SetPure
namespace UtfPure

theorem encU_inj {z z' : Int} (h0 : 0 ≤ z) (h0' : 0 ≤ z') (h : encU z = encU z') : z = z' := by
  unfold encU at h
  repeat' split at h
  all_goals
    simp only [List.cons.injEq, List.nil_eq, List.cons_ne_nil, reduceCtorEq, and_true, and_false] at h
    try omega

/-! ### Into how many rows a text fits -/
def countL (L : List Rg) (s : List Int) : Nat := (L.filter fun r => fits (rowOf r.1 r.2) s).length
theorem count_zero {L : List Rg} (hL : ∀ r ∈ L, Leaf r) {s : List Int} (h : ∀ z, InS L z → s ≠ encU z) : countL L s = 0 := by
  unfold countL
  rw [List.length_eq_zero_iff, List.filter_eq_nil_iff]
  intro r hr hf
  obtain ⟨z, h1, h2, e⟩ := (fits_leaf (hL r hr) s).1 hf
  exact h z ⟨r, hr, h1, h2⟩ e
theorem count_one {L : List Rg} (hL : ∀ r ∈ L, Leaf r) (hp : L.Pairwise fun p q => p.2 < q.1) {z : Int} (hz : InS L z) : countL L (encU z) = 1 := by
  induction L with
  | nil => exact absurd hz (InS_nil z)
  | cons r L ih =>
    obtain ⟨h1, h2⟩ := List.pairwise_cons.1 hp
    have hr := hL r (List.mem_cons_self ..)
    have hL' : ∀ q ∈ L, Leaf q := fun q hq => hL q (List.mem_cons_of_mem _ hq)
    have hlo := hr.lo
    by_cases hin : r.1 ≤ z ∧ z ≤ r.2
    · have hf : fits (rowOf r.1 r.2) (encU z) = true := (fits_leaf hr _).2 ⟨z, hin.1, hin.2, rfl⟩
      have h0 : countL L (encU z) = 0 := count_zero hL' fun z' hz' e => by
        obtain ⟨q, hq, h3, h4⟩ := hz'
        have := h1 q hq
        have := (hL' q hq).lo
        have := encU_inj (z := z) (z' := z') (by omega) (by omega) e
        omega
      unfold countL at h0 ⊢
      rw [List.filter_cons, if_pos hf, List.length_cons, h0]
    · have hz' : InS L z := by
        rcases (InS_cons r L z).1 hz with h | h
        · exact absurd h hin
        · exact h
      have hz0 : 0 ≤ z := by obtain ⟨q, hq, h3, _⟩ := hz'; have := (hL' q hq).lo; omega
      have hf : ¬ fits (rowOf r.1 r.2) (encU z) = true := fun hf => by
        obtain ⟨y, h3, h4, e⟩ := (fits_leaf hr _).1 hf
        have := encU_inj (z := z) (z' := y) hz0 (by omega) e
        omega
      have := ih hL' h2 hz'
      unfold countL at this ⊢
      rw [List.filter_cons, if_neg hf, this]

/-! ### The pieces of a set -/
def ends (k : Nat) : Rg := if k = 0 then (0, 127) else if k = 1 then (128, 2047) else if k = 2 then (2048, 55295) else if k = 3 then (55296, 57343) else if k = 4 then (57344, 65535) else (65536, 1114111)
def piecesK (a b : Int) : List Rg := if b < 128 then [(a, b)] else pieces a b
def partL (r : Rg) (k : Nat) : List Rg := if max r.1 (ends k).1 ≤ min r.2 (ends k).2 ∧ k ≠ 3 then piecesK (max r.1 (ends k).1) (min r.2 (ends k).2) else []
def splitR (r : Rg) : List Rg := partL r 0 ++ partL r 1 ++ partL r 2 ++ partL r 3 ++ partL r 4 ++ partL r 5
def splitL (s : List Rg) : List Rg := s.flatMap splitR

theorem klass_end {k : Nat} (hk : k < 6) {z : Int} (h1 : (ends k).1 ≤ z) (h2 : z ≤ (ends k).2) : klass z = if k = 0 then 1 else if k = 1 then 2 else if k = 2 then 3 else if k = 3 then 0 else if k = 4 then 4 else 5 := by
  obtain rfl | rfl | rfl | rfl | rfl | rfl : k = 0 ∨ k = 1 ∨ k = 2 ∨ k = 3 ∨ k = 4 ∨ k = 5 := by omega
  all_goals
    simp [ends] at h1 h2 ⊢
    unfold klass
    repeat' split
    all_goals omega
theorem partL_spec (r : Rg) (h0 : 0 ≤ r.1) (h1 : r.2 ≤ 1114111) {k : Nat} (hk : k < 6) :
    (∀ q ∈ partL r k, Leaf q ∧ max r.1 (ends k).1 ≤ q.1 ∧ q.2 ≤ min r.2 (ends k).2) ∧ (partL r k).Pairwise (fun p q => p.2 < q.1) ∧ ∀ z, InS (partL r k) z ↔ k ≠ 3 ∧ max r.1 (ends k).1 ≤ z ∧ z ≤ min r.2 (ends k).2 := by
  unfold partL
  by_cases hc : max r.1 (ends k).1 ≤ min r.2 (ends k).2 ∧ k ≠ 3
  · rw [if_pos hc]
    have ka := klass_end hk (z := max r.1 (ends k).1) (by omega) (by omega)
    have kb := klass_end hk (z := min r.2 (ends k).2) (by omega) (by omega)
    have k0 : klass (max r.1 (ends k).1) ≠ 0 := by
      rw [ka]
      have := hc.2
      obtain rfl | rfl | rfl | rfl | rfl | rfl : k = 0 ∨ k = 1 ∨ k = 2 ∨ k = 3 ∨ k = 4 ∨ k = 5 := by omega
      all_goals simp at *
    unfold piecesK
    by_cases h128 : min r.2 (ends k).2 < 128
    · rw [if_pos h128]
      refine ⟨fun q hq => ?_, List.pairwise_singleton _ _, fun z => ?_⟩
      · obtain rfl := List.mem_singleton.1 hq
        exact ⟨⟨by simp only; omega, hc.1, by simp only; omega, ka.trans kb.symm, k0, .inl h128⟩, Int.le_refl _, Int.le_refl _⟩
      · simp only [InS, List.mem_singleton, exists_eq_left]
        exact ⟨fun h => ⟨hc.2, h⟩, fun h => h.2⟩
    · rw [if_neg h128]
      obtain ⟨p1, p2, p3⟩ := pieces_spec (min r.2 (ends k).2 - max r.1 (ends k).1).toNat _ _ (Nat.le_refl _) (by omega) hc.1 (by omega) (ka.trans kb.symm) k0
      refine ⟨p1, p2, fun z => ?_⟩
      rw [p3]
      exact ⟨fun h => ⟨hc.2, h⟩, fun h => h.2⟩
  · rw [if_neg hc]
    refine ⟨fun q hq => absurd hq List.not_mem_nil, List.Pairwise.nil, fun z => ⟨fun h => absurd h (InS_nil z), fun h => ?_⟩⟩
    exfalso
    apply hc
    exact ⟨by omega, h.1⟩
/-- Two lists that rise, one behind the other. -/
theorem rise_append {l m : List Rg} {c : Int} (hl : l.Pairwise fun p q => p.2 < q.1) (hm : m.Pairwise fun p q => p.2 < q.1) (h1 : ∀ p ∈ l, p.2 < c) (h2 : ∀ q ∈ m, c ≤ q.1) : (l ++ m).Pairwise fun p q => p.2 < q.1 :=
  List.pairwise_append.2 ⟨hl, hm, fun p hp q hq => by have := h1 p hp; have := h2 q hq; omega⟩
theorem splitR_spec (r : Rg) (h0 : 0 ≤ r.1) (h1 : r.2 ≤ 1114111) :
    (∀ q ∈ splitR r, Leaf q ∧ r.1 ≤ q.1 ∧ q.2 ≤ r.2) ∧ (splitR r).Pairwise (fun p q => p.2 < q.1) ∧ ∀ z, InS (splitR r) z ↔ r.1 ≤ z ∧ z ≤ r.2 ∧ isScalar z = true := by
  have P := fun k (hk : k < 6) => partL_spec r h0 h1 hk
  obtain ⟨a0, b0, c0⟩ := P 0 (by omega)
  obtain ⟨a1, b1, c1⟩ := P 1 (by omega)
  obtain ⟨a2, b2, c2⟩ := P 2 (by omega)
  obtain ⟨a3, b3, c3⟩ := P 3 (by omega)
  obtain ⟨a4, b4, c4⟩ := P 4 (by omega)
  obtain ⟨a5, b5, c5⟩ := P 5 (by omega)
  clear P
  have e0 : ends 0 = (0, 127) := rfl
  have e1 : ends 1 = (128, 2047) := rfl
  have e2 : ends 2 = (2048, 55295) := rfl
  have e3 : ends 3 = (55296, 57343) := rfl
  have e4 : ends 4 = (57344, 65535) := rfl
  have e5 : ends 5 = (65536, 1114111) := rfl
  rw [e0] at a0 c0
  rw [e1] at a1 c1
  rw [e2] at a2 c2
  rw [e3] at a3 c3
  rw [e4] at a4 c4
  rw [e5] at a5 c5
  simp only at a0 c0 a1 c1 a2 c2 a3 c3 a4 c4 a5 c5
  unfold splitR
  refine ⟨fun q hq => ?_, ?_, fun z => ?_⟩
  · simp only [List.mem_append] at hq
    rcases hq with ((((hq | hq) | hq) | hq) | hq) | hq
    · obtain ⟨h, h', h''⟩ := a0 q hq; exact ⟨h, by omega, by omega⟩
    · obtain ⟨h, h', h''⟩ := a1 q hq; exact ⟨h, by omega, by omega⟩
    · obtain ⟨h, h', h''⟩ := a2 q hq; exact ⟨h, by omega, by omega⟩
    · obtain ⟨h, h', h''⟩ := a3 q hq; exact ⟨h, by omega, by omega⟩
    · obtain ⟨h, h', h''⟩ := a4 q hq; exact ⟨h, by omega, by omega⟩
    · obtain ⟨h, h', h''⟩ := a5 q hq; exact ⟨h, by omega, by omega⟩
  · have l0 : ∀ p ∈ partL r 0, p.2 < 128 := fun p hp => by have := (a0 p hp).2.2; omega
    have l1 : ∀ p ∈ partL r 0 ++ partL r 1, p.2 < 2048 := fun p hp => by
      rcases List.mem_append.1 hp with hp | hp
      · have := l0 p hp; omega
      · have := (a1 p hp).2.2; omega
    have l2 : ∀ p ∈ partL r 0 ++ partL r 1 ++ partL r 2, p.2 < 55296 := fun p hp => by
      rcases List.mem_append.1 hp with hp | hp
      · have := l1 p hp; omega
      · have := (a2 p hp).2.2; omega
    have l3 : ∀ p ∈ partL r 0 ++ partL r 1 ++ partL r 2 ++ partL r 3, p.2 < 57344 := fun p hp => by
      rcases List.mem_append.1 hp with hp | hp
      · have := l2 p hp; omega
      · have := (a3 p hp).2.2; omega
    have l4 : ∀ p ∈ partL r 0 ++ partL r 1 ++ partL r 2 ++ partL r 3 ++ partL r 4, p.2 < 65536 := fun p hp => by
      rcases List.mem_append.1 hp with hp | hp
      · have := l3 p hp; omega
      · have := (a4 p hp).2.2; omega
    refine rise_append (rise_append (rise_append (rise_append (rise_append b0 b1 l0 ?_) b2 l1 ?_) b3 l2 ?_) b4 l3 ?_) b5 l4 ?_
    · intro q hq; have := (a1 q hq).2.1; omega
    · intro q hq; have := (a2 q hq).2.1; omega
    · intro q hq; have := (a3 q hq).2.1; omega
    · intro q hq; have := (a4 q hq).2.1; omega
    · intro q hq; have := (a5 q hq).2.1; omega
  · simp only [InS_append, c0, c1, c2, c3, c4, c5, isScalar, Bool.and_eq_true, Bool.or_eq_true, decide_eq_true_eq]
    omega
theorem splitL_spec {lo : Int} {s : List Rg} (hc : CanonFrom lo s) (hlo : 0 ≤ lo) :
    (∀ q ∈ splitL s, Leaf q ∧ lo ≤ q.1) ∧ (splitL s).Pairwise (fun p q => p.2 < q.1) ∧ ∀ z, InS (splitL s) z ↔ InS s z ∧ isScalar z = true := by
  induction s generalizing lo with
  | nil => exact ⟨fun q hq => absurd hq List.not_mem_nil, List.Pairwise.nil, fun z => ⟨fun h => absurd h (InS_nil z), fun h => absurd h.1 (InS_nil z)⟩⟩
  | cons r s ih =>
    obtain ⟨h1, h2, h3, h4⟩ := hc
    obtain ⟨a1, a2, a3⟩ := splitR_spec r (by omega) h3
    obtain ⟨i1, i2, i3⟩ := ih h4 (by omega)
    have e : splitL (r :: s) = splitR r ++ splitL s := rfl
    rw [e]
    refine ⟨fun q hq => ?_, ?_, fun z => ?_⟩
    · rcases List.mem_append.1 hq with hq | hq
      · obtain ⟨x, y, _⟩ := a1 q hq; exact ⟨x, by omega⟩
      · obtain ⟨x, y⟩ := i1 q hq; exact ⟨x, by omega⟩
    · refine rise_append (c := r.2 + 1) a2 i2 (fun p hp => ?_) (fun q hq => ?_)
      · have := (a1 p hp).2.2; omega
      · have := (i1 q hq).2; omega
    · rw [InS_append, a3, i3, InS_cons]
      constructor
      · rintro (⟨x, y, w⟩ | ⟨x, w⟩)
        · exact ⟨.inl ⟨x, y⟩, w⟩
        · exact ⟨.inr x, w⟩
      · rintro ⟨⟨x, y⟩ | x, w⟩
        · exact .inl ⟨x, y, w⟩
        · exact .inr ⟨x, w⟩

end UtfPure
end Go.Proofs.Ytemjgnpkhomofaa
