/- The plain law of the document's Edges and Canon: the ranges of those numbers for which a test of two memberships holds are the one rising form. -/
import Derived.Test.YtapjkahpblbnmaaSetPure
namespace Go.Proofs.Ytapjkahpblbnmaa
open SetPure
namespace CanonPure

def stepA (last next : Int) (r : Rg) : Int := if r.1 > last ∧ r.1 < next then r.1 else next
def stepB (last next : Int) (r : Rg) : Int := if r.2 ≥ last ∧ r.2 < next - 1 then r.2 + 1 else next
def step1 (last next : Int) (r : Rg) : Int := stepB last (stepA last next r) r
def nextE (l : List Rg) (last : Int) : Int := l.foldl (step1 last) 1114112

theorem step1_spec {last next : Int} (r : Rg) (h : last < next) : last < step1 last next r ∧ step1 last next r ≤ next ∧ ¬ (last < r.1 ∧ r.1 < step1 last next r) ∧ ¬ (last ≤ r.2 ∧ r.2 < step1 last next r - 1) := by
  unfold step1 stepB stepA
  split <;> split <;> omega
theorem fold_le {last : Int} (l : List Rg) (next : Int) (h : last < next) : last < l.foldl (step1 last) next ∧ l.foldl (step1 last) next ≤ next ∧
    ∀ r ∈ l, ¬ (last < r.1 ∧ r.1 < l.foldl (step1 last) next) ∧ ¬ (last ≤ r.2 ∧ r.2 < l.foldl (step1 last) next - 1) := by
  induction l generalizing next with
  | nil => exact ⟨h, Int.le_refl _, fun r hr => by cases hr⟩
  | cons a l ih =>
    obtain ⟨h1, h2, h3, h4⟩ := step1_spec a h
    obtain ⟨i1, i2, i3⟩ := ih (step1 last next a) h1
    refine ⟨i1, Int.le_trans i2 h2, fun r hr => ?_⟩
    rcases List.mem_cons.1 hr with rfl | hr
    · simp only [List.foldl_cons] at *; omega
    · exact i3 r hr
theorem nextE_spec (l : List Rg) {last : Int} (h : last < 1114112) : last < nextE l last ∧ nextE l last ≤ 1114112 ∧ ∀ r ∈ l, ¬ (last < r.1 ∧ r.1 < nextE l last) ∧ ¬ (last ≤ r.2 ∧ r.2 < nextE l last - 1) := fold_le l _ h

/-- Between two edges nothing changes. -/
theorem still {l : List Rg} {last z : Int} (h : last < 1114112) (h1 : last ≤ z) (h2 : z < nextE l last) {m : List Rg} (hm : ∀ r ∈ m, r ∈ l) : inB m z = inB m last := by
  obtain ⟨_, _, hs⟩ := nextE_spec l h
  rw [Bool.eq_iff_iff, inB_iff, inB_iff]
  constructor
  · rintro ⟨r, hr, h3, h4⟩
    have := hs r (hm r hr)
    exact ⟨r, hr, by omega, by omega⟩
  · rintro ⟨r, hr, h3, h4⟩
    have := hs r (hm r hr)
    exact ⟨r, hr, by omega, by omega⟩

/-- The edges behind a number. -/
def edgesF (l : List Rg) : Nat → Int → List Int
  | 0, _ => []
  | n + 1, last => if nextE l last = 1114112 then [] else nextE l last :: edgesF l n (nextE l last)
def edgesL (l : List Rg) : List Int := 0 :: edgesF l 1114112 0
theorem edgesF_more (l : List Rg) (n : Nat) {last : Int} (h : last < 1114112) (hn : 1114112 - last ≤ n) : edgesF l n last = if nextE l last = 1114112 then [] else nextE l last :: edgesF l (n - 1) (nextE l last) := by
  cases n with
  | zero => omega
  | succ n => rfl

theorem edgesF_fuel (l : List Rg) : ∀ (m n : Nat) (last : Int), 1114112 - last ≤ m → 1114112 - last ≤ n → last < 1114112 → edgesF l m last = edgesF l n last
  | 0, _, last, h, _, h1 => by omega
  | m + 1, 0, last, _, h, h1 => by omega
  | m + 1, n + 1, last, hm, hn, h1 => by
    simp only [edgesF]
    obtain ⟨s1, s2, _⟩ := nextE_spec l h1
    by_cases he : nextE l last = 1114112
    · rw [if_pos he, if_pos he]
    · rw [if_neg he, if_neg he, edgesF_fuel l m n _ (by omega) (by omega) (by omega)]

/-- One range more, joined to the last one where it touches. -/
def put (out : List Rg) (x y : Int) : List Rg :=
  match out.getLast? with
  | some q => if q.2 = x - 1 then out.dropLast ++ [(q.1, y - 1)] else out ++ [(x, y - 1)]
  | none => [(x, y - 1)]
theorem put_nil (x y : Int) : put [] x y = [(x, y - 1)] := rfl
theorem put_snoc (s : List Rg) (q : Rg) (x y : Int) : put (s ++ [q]) x y = if q.2 = x - 1 then s ++ [(q.1, y - 1)] else s ++ [q] ++ [(x, y - 1)] := by
  simp [put]
def stepC (W : Int → Bool) (out : List Rg) (x y : Int) : List Rg := if W x then put out x y else out
/-- The ranges over edges. -/
def runC (W : Int → Bool) : List Rg → List Int → List Rg
  | out, x :: y :: e => runC W (stepC W out x y) (y :: e)
  | out, _ => out
def maskB (want : Nat → Bool) (a b : List Rg) (z : Int) : Bool := want ((if inB a z then 1 else 0) + (if inB b z then 2 else 0))
def canonL (want : Nat → Bool) (a b : List Rg) : List Rg := runC (maskB want a b) [] (edgesL (a ++ b) ++ [1114112])

/-- What is told up to a number. -/
def Upto (W : Int → Bool) (out : List Rg) (x : Int) : Prop := Canon out ∧ (∀ q ∈ out, q.2 < x) ∧ ∀ z, InS out z ↔ 0 ≤ z ∧ z < x ∧ W z = true
theorem stepC_spec {W : Int → Bool} {out : List Rg} {x y : Int} (h : Upto W out x) (h0 : 0 ≤ x) (hxy : x < y) (hy : y ≤ 1114112) (hw : ∀ z, x ≤ z → z < y → W z = W x) : Upto W (stepC W out x y) y := by
  obtain ⟨hc, hb, hi⟩ := h
  unfold stepC
  by_cases hx : W x = true
  · rw [if_pos hx]
    have hW : ∀ z, x ≤ z → z < y → W z = true := fun z h1 h2 => (hw z h1 h2).trans hx
    rcases List.eq_nil_or_concat out with rfl | ⟨s, q, rfl⟩
    · rw [put_nil]
      refine ⟨?_, ?_, fun z => ?_⟩
      · exact ⟨h0, by simp only; omega, by simp only; omega, trivial⟩
      · intro q hq
        obtain rfl := List.mem_singleton.1 hq
        simp only; omega
      · rw [InS_cons]
        have := hi z
        simp only [InS_nil, false_iff, or_false] at this ⊢
        constructor
        · rintro ⟨h1, h2⟩; exact ⟨by omega, by omega, hW z h1 (by omega)⟩
        · rintro ⟨h1, h2, h3⟩
          by_cases h4 : z < x
          · exact absurd ⟨h1, h4, h3⟩ this
          · omega
    · rw [List.concat_eq_append] at hc hb hi ⊢
      have hqb := hb q (by simp)
      obtain ⟨c1, c2, c3, c4, c5⟩ := CanonFrom.init hc
      rw [put_snoc]
      by_cases ht : q.2 = x - 1
      · rw [if_pos ht]
        refine ⟨CanonFrom.snoc c1 c2 (by simp only; omega) (by simp only; omega) c5, ?_, fun z => ?_⟩
        · intro p hp
          rcases List.mem_append.1 hp with hp | hp
          · have := hb p (List.mem_append_left _ hp); omega
          · obtain rfl := List.mem_singleton.1 hp
            simp only; omega
        · have := hi z
          rw [InS_append, InS_cons] at this ⊢
          simp only [InS_nil, or_false] at this ⊢
          constructor
          · rintro (h1 | ⟨h1, h2⟩)
            · have := this.1 (.inl h1); exact ⟨this.1, by omega, this.2.2⟩
            · by_cases h4 : z < x
              · have := this.1 (.inr ⟨h1, by omega⟩); exact ⟨this.1, by omega, this.2.2⟩
              · exact ⟨by omega, by omega, hW z (by omega) (by omega)⟩
          · rintro ⟨h1, h2, h3⟩
            by_cases h4 : z < x
            · rcases this.2 ⟨h1, h4, h3⟩ with h5 | ⟨h5, h6⟩
              · exact .inl h5
              · exact .inr ⟨h5, by omega⟩
            · exact .inr ⟨by omega, by omega⟩
      · rw [if_neg ht]
        have hq2 : q.2 + 2 ≤ x := by omega
        refine ⟨CanonFrom.snoc hc h0 (by simp only; omega) (by simp only; omega) ?_, ?_, fun z => ?_⟩
        · intro p hp
          rcases List.mem_append.1 hp with hp | hp
          · have := c5 p hp; simp only; omega
          · obtain rfl := List.mem_singleton.1 hp
            exact hq2
        · intro p hp
          rcases List.mem_append.1 hp with hp | hp
          · have := hb p hp; omega
          · obtain rfl := List.mem_singleton.1 hp
            simp only; omega
        · have := hi z
          rw [InS_append, this, InS_cons]
          simp only [InS_nil, or_false]
          constructor
          · rintro (⟨h1, h2, h3⟩ | ⟨h1, h2⟩)
            · exact ⟨h1, by omega, h3⟩
            · exact ⟨by omega, by omega, hW z (by omega) (by omega)⟩
          · rintro ⟨h1, h2, h3⟩
            by_cases h4 : z < x
            · exact .inl ⟨h1, h4, h3⟩
            · exact .inr ⟨by omega, by omega⟩
  · rw [if_neg hx]
    refine ⟨hc, fun q hq => by have := hb q hq; omega, fun z => ?_⟩
    rw [hi z]
    constructor
    · rintro ⟨h1, h2, h3⟩; exact ⟨h1, by omega, h3⟩
    · rintro ⟨h1, h2, h3⟩
      refine ⟨h1, ?_, h3⟩
      by_cases h4 : z < x
      · exact h4
      · rw [hw z (by omega) h2] at h3; exact absurd h3 hx

theorem maskB_still {want : Nat → Bool} {a b : List Rg} {last z : Int} (h : last < 1114112) (h1 : last ≤ z) (h2 : z < nextE (a ++ b) last) : maskB want a b z = maskB want a b last := by
  unfold maskB
  rw [still h h1 h2 (m := a) (fun r hr => List.mem_append_left _ hr), still h h1 h2 (m := b) (fun r hr => List.mem_append_right _ hr)]

theorem runC_spec {want : Nat → Bool} {a b : List Rg} (n : Nat) : ∀ (x : Int) (out : List Rg), 0 ≤ x → x < 1114112 → 1114112 - x ≤ n → Upto (maskB want a b) out x →
    Upto (maskB want a b) (runC (maskB want a b) out (x :: edgesF (a ++ b) n x ++ [1114112])) 1114112 := by
  induction n with
  | zero => intro x out h0 h1 h2; omega
  | succ n ih =>
    intro x out h0 h1 h2 hu
    obtain ⟨s1, s2, _⟩ := nextE_spec (a ++ b) h1
    simp only [edgesF]
    by_cases he : nextE (a ++ b) x = 1114112
    · rw [if_pos he]
      exact stepC_spec hu h0 h1 (Int.le_refl _) fun z z1 z2 => maskB_still h1 z1 (by rw [he]; exact z2)
    · rw [if_neg he]
      exact ih _ _ (by omega) (by omega) (by omega) (stepC_spec hu h0 s1 s2 fun z z1 z2 => maskB_still h1 z1 z2)
/-- Canon's ranges are the one form of what the test tells. -/
theorem canonL_spec (want : Nat → Bool) (a b : List Rg) : Canon (canonL want a b) ∧ ∀ z, InS (canonL want a b) z ↔ 0 ≤ z ∧ z < 1114112 ∧ maskB want a b z = true := by
  have h0 : Upto (maskB want a b) [] 0 := ⟨trivial, fun q hq => absurd hq (by simp), fun z => ⟨fun h => absurd h (InS_nil z), fun h => by omega⟩⟩
  have := runC_spec (want := want) (a := a) (b := b) 1114112 0 [] (Int.le_refl _) (by omega) (by omega) h0
  exact ⟨this.1, this.2.2⟩

/-! ### As the program goes -/
theorem edgesF_len (l : List Rg) : ∀ (n : Nat) (last : Int), (edgesF l n last).length ≤ n
  | 0, _ => by simp [edgesF]
  | n + 1, last => by
    simp only [edgesF]
    split
    · simp
    · rw [List.length_cons]; have := edgesF_len l n (nextE l last); omega
theorem edgesF_bd (l : List Rg) : ∀ (n : Nat) (last : Int), 0 ≤ last → last < 1114112 → ∀ x ∈ edgesF l n last, 0 ≤ x ∧ x < 1114112
  | 0, _, _, _, x, hx => by simp [edgesF] at hx
  | n + 1, last, h0, h1, x, hx => by
    simp only [edgesF] at hx
    obtain ⟨s1, s2, _⟩ := nextE_spec l h1
    split at hx
    · cases hx
    · rcases List.mem_cons.1 hx with rfl | hx
      · omega
      · exact edgesF_bd l n _ (by omega) (by omega) x hx
theorem runC_drop (W : Int → Bool) (out : List Rg) (e : List Int) (i : Nat) (hi : i + 1 < e.length) : runC W out (e.drop i) = runC W (stepC W out (e.getD i 0) (e.getD (i + 1) 0)) (e.drop (i + 1)) := by
  rw [List.drop_eq_getElem_cons (by omega), List.drop_eq_getElem_cons hi]
  simp only [List.getD_eq_getElem?_getD, List.getElem?_eq_getElem (show i < e.length by omega), List.getElem?_eq_getElem hi, Option.getD_some, runC]
theorem runC_end (W : Int → Bool) (out : List Rg) (e : List Int) (i : Nat) (hi : ¬ i + 1 < e.length) : runC W out (e.drop i) = out := by
  have : (e.drop i).length ≤ 1 := by rw [List.length_drop]; omega
  match h : e.drop i with
  | [] => rfl
  | [_] => rfl
  | _ :: _ :: _ => rw [h] at this; simp at this

end CanonPure
end Go.Proofs.Ytapjkahpblbnmaa
