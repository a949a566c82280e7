/- Sets of numbers told by ranges, in plain Lean: what is in them, the one form, and how many they hold. -/
namespace Go.Proofs.Ytpidgcjioocmhaa.SetPure

abbrev Rg := Int × Int

/-- A number is in some ranges. -/
def InS (s : List Rg) (x : Int) : Prop := ∃ r ∈ s, r.1 ≤ x ∧ x ≤ r.2
def inB (s : List Rg) (x : Int) : Bool := s.any fun r => decide (r.1 ≤ x) && decide (x ≤ r.2)
theorem inB_iff (s : List Rg) (x : Int) : inB s x = true ↔ InS s x := by
  simp [inB, InS]
theorem inB_false (s : List Rg) (x : Int) : inB s x = false ↔ ¬ InS s x := by
  rw [← inB_iff]; simp

/-- Ranges that rise from lo on, with a number between each two. -/
def CanonFrom : Int → List Rg → Prop
  | _, [] => True
  | lo, r :: s => lo ≤ r.1 ∧ r.1 ≤ r.2 ∧ r.2 ≤ 1114111 ∧ CanonFrom (r.2 + 2) s
def Canon (s : List Rg) : Prop := CanonFrom 0 s

theorem InS_nil (x : Int) : ¬ InS [] x := by simp [InS]
theorem InS_cons (r : Rg) (s : List Rg) (x : Int) : InS (r :: s) x ↔ (r.1 ≤ x ∧ x ≤ r.2) ∨ InS s x := by
  simp [InS]
theorem InS_append (s t : List Rg) (x : Int) : InS (s ++ t) x ↔ InS s x ∨ InS t x := by
  simp only [InS, List.mem_append]
  constructor
  · rintro ⟨r, h | h, hr⟩
    · exact .inl ⟨r, h, hr⟩
    · exact .inr ⟨r, h, hr⟩
  · rintro (⟨r, h, hr⟩ | ⟨r, h, hr⟩)
    · exact ⟨r, .inl h, hr⟩
    · exact ⟨r, .inr h, hr⟩

theorem CanonFrom.weaken {lo lo' : Int} {s : List Rg} (h : CanonFrom lo s) (hl : lo' ≤ lo) : CanonFrom lo' s := by
  cases s with
  | nil => trivial
  | cons r s => exact ⟨by have := h.1; omega, h.2⟩
theorem CanonFrom.lo {lo : Int} {s : List Rg} (h : CanonFrom lo s) {x : Int} (hx : InS s x) : lo ≤ x ∧ x ≤ 1114111 := by
  induction s generalizing lo with
  | nil => exact absurd hx (InS_nil x)
  | cons r s ih =>
    obtain ⟨h1, h2, h3, h4⟩ := h
    rcases (InS_cons r s x).1 hx with hr | hr
    · omega
    · have := ih h4 hr
      omega
/-- The form is one: two sets in it that hold the same are the same. -/
theorem CanonFrom.unique {a b : Int} {s t : List Rg} (hs : CanonFrom a s) (ht : CanonFrom b t) (h : ∀ x, InS s x ↔ InS t x) : s = t := by
  induction s generalizing a b t with
  | nil =>
    cases t with
    | nil => rfl
    | cons q t => exact absurd ((h q.1).2 ((InS_cons q t q.1).2 (.inl ⟨by omega, ht.2.1⟩))) (InS_nil _)
  | cons r s ih =>
    cases t with
    | nil => exact absurd ((h r.1).1 ((InS_cons r s r.1).2 (.inl ⟨by omega, hs.2.1⟩))) (InS_nil _)
    | cons q t =>
      obtain ⟨hs1, hs2, hs3, hs4⟩ := hs
      obtain ⟨ht1, ht2, ht3, ht4⟩ := ht
      have low : ∀ {r q : Rg} {s t : List Rg}, r.1 ≤ r.2 → CanonFrom (q.2 + 2) t → q.1 ≤ q.2 → (∀ x, InS (r :: s) x → InS (q :: t) x) → q.1 ≤ r.1 := by
        intro r q s t hr hq hq1 hx
        rcases (InS_cons q t r.1).1 (hx r.1 ((InS_cons r s r.1).2 (.inl ⟨by omega, hr⟩))) with h | h
        · exact h.1
        · have := hq.lo h; omega
      have e1 : r.1 = q.1 := by
        have h1 := low hs2 ht4 ht2 (fun x hx => (h x).1 hx)
        have h2 := low ht2 hs4 hs2 (fun x hx => (h x).2 hx)
        omega
      have high : ∀ {r q : Rg} {s t : List Rg}, r.1 = q.1 → q.1 ≤ q.2 → CanonFrom (q.2 + 2) t → (∀ x, InS (r :: s) x → InS (q :: t) x) → r.2 ≤ q.2 := by
        intro r q s t he hq hc hx
        rcases Int.lt_or_le q.2 r.2 with hlt | hle
        · rcases (InS_cons q t (q.2 + 1)).1 (hx (q.2 + 1) ((InS_cons r s (q.2 + 1)).2 (.inl ⟨by omega, by omega⟩))) with h | h
          · omega
          · have := hc.lo h; omega
        · exact hle
      have e2 : r.2 = q.2 := by
        have h1 := high e1 ht2 ht4 (fun x hx => (h x).1 hx)
        have h2 := high e1.symm hs2 hs4 (fun x hx => (h x).2 hx)
        omega
      have e : r = q := Prod.ext e1 e2
      subst e
      refine congrArg _ (ih hs4 ht4 fun x => ?_)
      constructor
      · intro hx
        have hlo := hs4.lo hx
        rcases (InS_cons r t x).1 ((h x).1 ((InS_cons r s x).2 (.inr hx))) with h | h
        · omega
        · exact h
      · intro hx
        have hlo := ht4.lo hx
        rcases (InS_cons r s x).1 ((h x).2 ((InS_cons r t x).2 (.inr hx))) with h | h
        · omega
        · exact h
theorem Canon.unique {s t : List Rg} (hs : Canon s) (ht : Canon t) (h : ∀ x, InS s x ↔ InS t x) : s = t := CanonFrom.unique hs ht h

theorem CanonFrom.len {lo : Int} {s : List Rg} (h : CanonFrom lo s) (hl : lo ≤ 1114113) : 2 * (s.length : Int) ≤ 1114113 - lo := by
  induction s generalizing lo with
  | nil => simp; omega
  | cons r s ih =>
    obtain ⟨h1, h2, h3, h4⟩ := h
    have := ih h4 (by omega)
    simp only [List.length_cons]
    omega
theorem Canon.len {s : List Rg} (h : Canon s) : s.length ≤ 557056 := by
  have := CanonFrom.len h (by omega)
  omega

/-- Appending a range behind what is there. -/
theorem CanonFrom.snoc {lo : Int} {s : List Rg} {r : Rg} (h : CanonFrom lo s) (h0 : lo ≤ r.1) (h1 : r.1 ≤ r.2) (h2 : r.2 ≤ 1114111) (h3 : ∀ q ∈ s, q.2 + 2 ≤ r.1) : CanonFrom lo (s ++ [r]) := by
  induction s generalizing lo with
  | nil => exact ⟨h0, h1, h2, trivial⟩
  | cons q s ih => exact ⟨h.1, h.2.1, h.2.2.1, ih h.2.2.2 (h3 q (List.mem_cons_self ..)) (fun p hp => h3 p (List.mem_cons_of_mem _ hp))⟩
theorem CanonFrom.init {lo : Int} {s : List Rg} {r : Rg} (h : CanonFrom lo (s ++ [r])) : CanonFrom lo s ∧ lo ≤ r.1 ∧ r.1 ≤ r.2 ∧ r.2 ≤ 1114111 ∧ ∀ q ∈ s, q.2 + 2 ≤ r.1 := by
  induction s generalizing lo with
  | nil => exact ⟨trivial, h.1, h.2.1, h.2.2.1, fun q hq => by cases hq⟩
  | cons q s ih =>
    obtain ⟨h1, h2, h3, h4⟩ := h
    obtain ⟨i1, i2, i3, i4, i5⟩ := ih h4
    refine ⟨⟨h1, h2, h3, i1⟩, by omega, i3, i4, fun p hp => ?_⟩
    rcases List.mem_cons.1 hp with rfl | hp
    · exact i2
    · exact i5 p hp

/-! ### How many -/
/-- How many numbers from lo on, of n, are in it. -/
def cnt (f : Int → Bool) (lo : Int) : Nat → Nat
  | 0 => 0
  | n + 1 => cnt f lo n + if f (lo + n) then 1 else 0
theorem cnt_add (f : Int → Bool) (lo : Int) (m n : Nat) : cnt f lo (m + n) = cnt f lo m + cnt f (lo + m) n := by
  induction n with
  | zero => rfl
  | succ n ih =>
    rw [← Nat.add_assoc]
    simp only [cnt]
    rw [ih, show lo + ((m + n : Nat) : Int) = lo + m + n by omega]
    omega
theorem cnt_congr {f g : Int → Bool} {lo : Int} {n : Nat} (h : ∀ x, lo ≤ x → x < lo + n → f x = g x) : cnt f lo n = cnt g lo n := by
  induction n with
  | zero => rfl
  | succ n ih =>
    simp only [cnt]
    rw [ih (fun x h1 h2 => h x h1 (by omega)), h (lo + n) (by omega) (by omega)]
theorem cnt_none {f : Int → Bool} {lo : Int} {n : Nat} (h : ∀ x, lo ≤ x → x < lo + n → f x = false) : cnt f lo n = 0 := by
  induction n with
  | zero => rfl
  | succ n ih =>
    simp only [cnt]
    rw [ih (fun x h1 h2 => h x h1 (by omega)), h (lo + n) (by omega) (by omega)]
    rfl
theorem cnt_all {f : Int → Bool} {lo : Int} {n : Nat} (h : ∀ x, lo ≤ x → x < lo + n → f x = true) : cnt f lo n = n := by
  induction n with
  | zero => rfl
  | succ n ih =>
    simp only [cnt]
    rw [ih (fun x h1 h2 => h x h1 (by omega)), h (lo + n) (by omega) (by omega)]
    rfl
theorem cnt_le {f g : Int → Bool} {lo : Int} {n : Nat} (h : ∀ x, f x = true → g x = true) : cnt f lo n ≤ cnt g lo n := by
  induction n with
  | zero => exact Nat.le_refl _
  | succ n ih =>
    simp only [cnt]
    have := h (lo + n)
    cases hf : f (lo + n) with
    | false => simp; omega
    | true => simp [this hf]; omega
/-- Both together. -/
theorem cnt_both (f g : Int → Bool) (lo : Int) (n : Nat) : cnt (fun x => f x || g x) lo n + cnt (fun x => f x && g x) lo n = cnt f lo n + cnt g lo n := by
  induction n with
  | zero => rfl
  | succ n ih =>
    simp only [cnt]
    rcases Bool.eq_false_or_eq_true (f (lo + n)) with hf | hf <;> rcases Bool.eq_false_or_eq_true (g (lo + n)) with hg | hg <;> simp [hf, hg] <;> omega

def sizeL : List Rg → Int
  | [] => 0
  | r :: s => (r.2 - r.1 + 1) + sizeL s
theorem sizeL_append (s t : List Rg) : sizeL (s ++ t) = sizeL s + sizeL t := by
  induction s with
  | nil => simp [sizeL]
  | cons r s ih => simp only [List.cons_append, sizeL, ih]; omega
theorem CanonFrom.size {lo : Int} {s : List Rg} (h : CanonFrom lo s) : ∀ n : Nat, lo + n = 1114112 → sizeL s = cnt (inB s) lo n := by
  induction s generalizing lo with
  | nil => intro n _; rw [cnt_none (f := inB []) (fun x _ _ => rfl)]; rfl
  | cons r s ih =>
    intro n hn
    obtain ⟨h1, h2, h3, h4⟩ := h
    obtain ⟨a, ha⟩ : ∃ a : Nat, lo + a = r.1 := ⟨(r.1 - lo).toNat, by omega⟩
    obtain ⟨b, hb⟩ : ∃ b : Nat, r.1 + b = r.2 + 1 := ⟨(r.2 + 1 - r.1).toNat, by omega⟩
    obtain ⟨c, hc⟩ : ∃ c : Nat, r.2 + 1 + c = 1114112 := ⟨(1114111 - r.2).toNat, by omega⟩
    have hnabc : n = a + (b + c) := by omega
    rw [hnabc, cnt_add, cnt_add, ha, hb]
    have e1 : cnt (inB (r :: s)) lo a = 0 := cnt_none fun x hx1 hx2 => by
      rw [inB_false, InS_cons]
      rintro (h | h)
      · omega
      · have := h4.lo h; omega
    have e2 : cnt (inB (r :: s)) r.1 b = b := cnt_all fun x hx1 hx2 => by
      rw [inB_iff, InS_cons]
      exact .inl ⟨hx1, by omega⟩
    have e3 : cnt (inB (r :: s)) (r.2 + 1) c = sizeL s := by
      cases c with
      | zero =>
        have : s = [] := by
          cases s with
          | nil => rfl
          | cons q s => have := h4.1; have := h4.2.1; have := h4.2.2.1; omega
        subst this; rfl
      | succ c =>
        have hw := ih h4 c (by omega)
        rw [hw, show c + 1 = 1 + c by omega, cnt_add]
        have z : cnt (inB (r :: s)) (r.2 + 1) 1 = 0 := cnt_none fun x hx1 hx2 => by
          rw [inB_false, InS_cons]
          rintro (h | h)
          · omega
          · have := h4.lo h; omega
        rw [z, Nat.zero_add, show r.2 + 1 + ((1 : Nat) : Int) = r.2 + 2 by omega]
        refine congrArg _ (cnt_congr fun x hx1 hx2 => ?_)
        simp only [inB, List.any_cons]
        have : (decide (r.1 ≤ x) && decide (x ≤ r.2)) = false := by simp; omega
        rw [this, Bool.false_or]
    rw [e1, e2]
    simp only [sizeL]
    omega
theorem Canon.size {s : List Rg} (h : Canon s) : sizeL s = cnt (inB s) 0 1114112 := CanonFrom.size h 1114112 (by omega)

/-! ### Of: the merge of ranges that rise by their beginnings -/
def clip (r : Rg) : Rg := (max r.1 0, min r.2 1114111)
/-- One range more behind a merged list. -/
def push (out : List Rg) (r : Rg) : List Rg :=
  match out.getLast? with
  | none => [r]
  | some q => if r.1 ≤ q.2 + 1 then out.dropLast ++ [(q.1, max q.2 r.2)] else out ++ [r]
def mergeL (l : List Rg) : List Rg := l.foldl push []

theorem push_snoc (s : List Rg) (q r : Rg) : push (s ++ [q]) r = if r.1 ≤ q.2 + 1 then s ++ [(q.1, max q.2 r.2)] else s ++ [q] ++ [r] := by
  simp [push]

theorem push_spec {out : List Rg} {r : Rg} (hc : Canon out) (hlast : ∀ q ∈ out.getLast?, q.1 ≤ r.1) (h0 : 0 ≤ r.1) (h1 : r.1 ≤ r.2) (h2 : r.2 ≤ 1114111) :
    Canon (push out r) ∧ (∀ x, InS (push out r) x ↔ InS out x ∨ (r.1 ≤ x ∧ x ≤ r.2)) ∧ (∀ q ∈ (push out r).getLast?, q.1 ≤ r.1) := by
  rcases List.eq_nil_or_concat out with rfl | ⟨s, q, rfl⟩
  · refine ⟨⟨h0, h1, h2, trivial⟩, fun x => ?_, fun q hq => ?_⟩
    · rw [show push [] r = [r] from rfl, InS_cons]
      constructor
      · rintro (h | h)
        · exact .inr h
        · exact absurd h (InS_nil x)
      · rintro (h | h)
        · exact absurd h (InS_nil x)
        · exact .inl h
    · simp [push] at hq; subst hq; omega
  · rw [List.concat_eq_append] at *
    have hq : q.1 ≤ r.1 := hlast q (by simp)
    obtain ⟨i1, i2, i3, i4, i5⟩ := CanonFrom.init hc
    rw [push_snoc]
    by_cases h : r.1 ≤ q.2 + 1
    · rw [if_pos h]
      refine ⟨CanonFrom.snoc i1 i2 (by simp only; omega) (by simp only; omega) i5, fun x => ?_, fun p hp => ?_⟩
      · rw [InS_append, InS_append, InS_cons, InS_cons]
        simp only
        constructor
        · rintro (h | h | h)
          · exact .inl (.inl h)
          · rcases Int.lt_or_le q.2 x with hx | hx
            · exact .inr ⟨by omega, by omega⟩
            · exact .inl (.inr (.inl ⟨h.1, hx⟩))
          · exact absurd h (InS_nil x)
        · rintro ((h | h | h) | h)
          · exact .inl h
          · exact .inr (.inl ⟨h.1, by omega⟩)
          · exact absurd h (InS_nil x)
          · exact .inr (.inl ⟨by omega, by omega⟩)
      · simp at hp; subst hp; exact hq
    · rw [if_neg h]
      refine ⟨CanonFrom.snoc hc h0 h1 h2 (fun p hp => ?_), fun x => ?_, fun p hp => ?_⟩
      · rcases List.mem_append.1 hp with hp | hp
        · have := i5 p hp; omega
        · simp at hp; subst hp; omega
      · rw [InS_append (s ++ [q]), InS_cons]
        constructor
        · rintro (h | h | h)
          · exact .inl h
          · exact .inr h
          · exact absurd h (InS_nil x)
        · rintro (h | h)
          · exact .inl h
          · exact .inr (.inl h)
      · simp at hp; subst hp; omega

theorem fold_spec (l : List Rg) (out : List Rg) (hc : Canon out) (hl : ∀ r ∈ l, 0 ≤ r.1 ∧ r.1 ≤ r.2 ∧ r.2 ≤ 1114111) (hs : l.Pairwise fun a b => a.1 ≤ b.1) (hf : ∀ q ∈ out.getLast?, ∀ r ∈ l, q.1 ≤ r.1) :
    Canon (l.foldl push out) ∧ ∀ x, InS (l.foldl push out) x ↔ InS out x ∨ InS l x := by
  induction l generalizing out with
  | nil => exact ⟨hc, fun x => by simp [InS_nil]⟩
  | cons r l ih =>
    obtain ⟨h0, h1, h2⟩ := hl r (List.mem_cons_self ..)
    obtain ⟨p1, p2, p3⟩ := push_spec hc (fun q hq => hf q hq r (List.mem_cons_self ..)) h0 h1 h2
    rw [List.pairwise_cons] at hs
    obtain ⟨j1, j2⟩ := ih (push out r) p1 (fun q hq => hl q (List.mem_cons_of_mem _ hq)) hs.2 (fun q hq t ht => by have := p3 q hq; have := hs.1 t ht; omega)
    refine ⟨j1, fun x => ?_⟩
    rw [List.foldl_cons, j2, p2, InS_cons]
    constructor
    · rintro ((h | h) | h)
      · exact .inl h
      · exact .inr (.inl h)
      · exact .inr (.inr h)
    · rintro (h | h | h)
      · exact .inl (.inl h)
      · exact .inl (.inr h)
      · exact .inr h
theorem mergeL_spec {l : List Rg} (hl : ∀ r ∈ l, 0 ≤ r.1 ∧ r.1 ≤ r.2 ∧ r.2 ≤ 1114111) (hs : l.Pairwise fun a b => a.1 ≤ b.1) : Canon (mergeL l) ∧ ∀ x, InS (mergeL l) x ↔ InS l x := by
  obtain ⟨h1, h2⟩ := fold_spec l [] trivial hl hs (fun q hq => by simp at hq)
  exact ⟨h1, fun x => (h2 x).trans ⟨fun h => h.resolve_left (InS_nil x), .inr⟩⟩

/-- What 'Of' keeps of its ranges. -/
def kept (l : List Rg) : List Rg := (l.map clip).filter fun r => decide (r.1 ≤ r.2)
theorem kept_ok (l : List Rg) : ∀ r ∈ kept l, 0 ≤ r.1 ∧ r.1 ≤ r.2 ∧ r.2 ≤ 1114111 := by
  intro r hr
  simp only [kept, List.mem_filter, List.mem_map, decide_eq_true_eq] at hr
  obtain ⟨⟨q, _, rfl⟩, h⟩ := hr
  refine ⟨?_, h, ?_⟩
  · simp only [clip]; omega
  · simp only [clip]; omega
theorem kept_in (l : List Rg) (x : Int) : InS (kept l) x ↔ InS l x ∧ 0 ≤ x ∧ x ≤ 1114111 := by
  simp only [InS, kept, List.mem_filter, List.mem_map, decide_eq_true_eq]
  constructor
  · rintro ⟨r, ⟨⟨q, hq, rfl⟩, h⟩, h1, h2⟩
    simp only [clip] at h1 h2
    exact ⟨⟨q, hq, by omega, by omega⟩, by omega, by omega⟩
  · rintro ⟨⟨q, hq, h1, h2⟩, h3, h4⟩
    exact ⟨clip q, ⟨⟨q, hq, rfl⟩, by simp only [clip]; omega⟩, by simp only [clip]; omega, by simp only [clip]; omega⟩
theorem InS_perm {s t : List Rg} (h : s.Perm t) (x : Int) : InS s x ↔ InS t x := by
  simp only [InS, h.mem_iff]

/-! ### Not -/
def notL : Int → List Rg → List Rg
  | next, [] => if next ≤ 1114111 then [(next, 1114111)] else []
  | next, r :: s => if next < r.1 then (next, r.1 - 1) :: notL (r.2 + 1) s else notL (r.2 + 1) s
theorem notL_spec {lo next : Int} {s : List Rg} (h : CanonFrom lo s) (h1 : next ≤ lo) : CanonFrom next (notL next s) ∧ ∀ x, InS (notL next s) x ↔ next ≤ x ∧ x ≤ 1114111 ∧ ¬ InS s x := by
  induction s generalizing lo next with
  | nil =>
    simp only [notL]
    split
    · refine ⟨⟨by simp, by simp only; omega, by simp, trivial⟩, fun x => ?_⟩
      rw [InS_cons]
      constructor
      · rintro (h | h)
        · exact ⟨h.1, h.2, InS_nil x⟩
        · exact absurd h (InS_nil x)
      · rintro ⟨a, b, _⟩
        exact .inl ⟨a, b⟩
    · refine ⟨trivial, fun x => ⟨fun h => absurd h (InS_nil x), fun h => by omega⟩⟩
  | cons r s ih =>
    obtain ⟨c1, c2, c3, c4⟩ := h
    obtain ⟨i1, i2⟩ := ih (next := r.2 + 1) c4 (by omega)
    simp only [notL]
    split
    · refine ⟨⟨by simp, by simp only; omega, by simp only; omega, i1.weaken (by simp only; omega)⟩, fun x => ?_⟩
      rw [InS_cons, i2, InS_cons]
      simp only
      constructor
      · rintro (h | h)
        · refine ⟨h.1, by omega, ?_⟩
          rintro (h' | h')
          · omega
          · have := c4.lo h'; omega
        · refine ⟨by omega, h.2.1, ?_⟩
          rintro (h' | h')
          · omega
          · exact h.2.2 h'
      · rintro ⟨a, b, c⟩
        rcases Int.lt_or_le x r.1 with hx | hx
        · exact .inl ⟨a, by omega⟩
        · refine .inr ⟨?_, b, fun h => c (.inr h)⟩
          rcases Int.lt_or_le r.2 x with hx2 | hx2
          · omega
          · exact absurd (.inl ⟨hx, hx2⟩) c
    · refine ⟨i1.weaken (by omega), fun x => ?_⟩
      rw [i2, InS_cons]
      constructor
      · rintro ⟨a, b, c⟩
        refine ⟨by omega, b, ?_⟩
        rintro (h' | h')
        · omega
        · exact c h'
      · rintro ⟨a, b, c⟩
        refine ⟨?_, b, fun h => c (.inr h)⟩
        rcases Int.lt_or_le r.2 x with hx2 | hx2
        · omega
        · exact absurd (.inl ⟨by omega, hx2⟩) c

/-! ### And -/
def andF : Nat → List Rg → List Rg → List Rg
  | n + 1, a :: s, b :: t => (if max a.1 b.1 ≤ min a.2 b.2 then [(max a.1 b.1, min a.2 b.2)] else []) ++ (if a.2 < b.2 then andF n s (b :: t) else andF n (a :: s) t)
  | _, _, _ => []
theorem andF_nil (n : Nat) (t : List Rg) : andF n [] t = [] := by cases n <;> rfl
theorem andF_nil' (n : Nat) (s : List Rg) : andF n s [] = [] := by cases n <;> cases s <;> rfl
theorem andF_spec (n : Nat) {la lb : Int} {s t : List Rg} (hs : CanonFrom la s) (ht : CanonFrom lb t) (hn : s.length + t.length ≤ n) :
    CanonFrom (max la lb) (andF n s t) ∧ ∀ x, InS (andF n s t) x ↔ InS s x ∧ InS t x := by
  induction n generalizing la lb s t with
  | zero =>
    have : s = [] := List.eq_nil_of_length_eq_zero (by omega)
    subst this
    exact ⟨trivial, fun x => ⟨fun h => absurd h (InS_nil x), fun h => h.1⟩⟩
  | succ n ih =>
    cases s with
    | nil => exact ⟨trivial, fun x => ⟨fun h => absurd h (InS_nil x), fun h => h.1⟩⟩
    | cons a s =>
      cases t with
      | nil => exact ⟨trivial, fun x => ⟨fun h => absurd h (InS_nil x), fun h => h.2⟩⟩
      | cons b t =>
        obtain ⟨a1, a2, a3, a4⟩ := hs
        obtain ⟨b1, b2, b3, b4⟩ := ht
        simp only [List.length_cons] at hn
        simp only [andF]
        by_cases hlt : a.2 < b.2
        · rw [if_pos hlt]
          obtain ⟨i1, i2⟩ := ih (s := s) (t := b :: t) a4 ⟨b1, b2, b3, b4⟩ (by simp only [List.length_cons]; omega)
          have hin : ∀ x, InS (a :: s) x ∧ InS (b :: t) x ↔ (max a.1 b.1 ≤ x ∧ x ≤ min a.2 b.2) ∨ (InS s x ∧ InS (b :: t) x) := by
            intro x
            rw [InS_cons a]
            constructor
            · rintro ⟨h | h, h'⟩
              · rcases (InS_cons b t x).1 h' with h'' | h''
                · exact .inl (by omega)
                · have := b4.lo h''; omega
              · exact .inr ⟨h, h'⟩
            · rintro (h | h)
              · exact ⟨.inl (by omega), (InS_cons b t x).2 (.inl (by omega))⟩
              · exact ⟨.inr h.1, h.2⟩
          by_cases hr : max a.1 b.1 ≤ min a.2 b.2
          · rw [if_pos hr]
            refine ⟨⟨by simp only; omega, hr, by simp only; omega, i1.weaken (by simp only; omega)⟩, fun x => ?_⟩
            rw [InS_append, InS_cons, i2, hin]
            constructor
            · rintro ((h | h) | h)
              · exact .inl h
              · exact absurd h (InS_nil x)
              · exact .inr h
            · rintro (h | h)
              · exact .inl (.inl h)
              · exact .inr h
          · rw [if_neg hr]
            refine ⟨i1.weaken (by omega), fun x => ?_⟩
            rw [List.nil_append, i2, hin]
            exact ⟨.inr, fun h => h.resolve_left (by omega)⟩
        · rw [if_neg hlt]
          obtain ⟨i1, i2⟩ := ih (s := a :: s) (t := t) ⟨a1, a2, a3, a4⟩ b4 (by simp only [List.length_cons]; omega)
          have hin : ∀ x, InS (a :: s) x ∧ InS (b :: t) x ↔ (max a.1 b.1 ≤ x ∧ x ≤ min a.2 b.2) ∨ (InS (a :: s) x ∧ InS t x) := by
            intro x
            rw [InS_cons b]
            constructor
            · rintro ⟨h', h | h⟩
              · rcases (InS_cons a s x).1 h' with h'' | h''
                · exact .inl (by omega)
                · have := a4.lo h''; omega
              · exact .inr ⟨h', h⟩
            · rintro (h | h)
              · exact ⟨(InS_cons a s x).2 (.inl (by omega)), .inl (by omega)⟩
              · exact ⟨h.1, .inr h.2⟩
          by_cases hr : max a.1 b.1 ≤ min a.2 b.2
          · rw [if_pos hr]
            refine ⟨⟨by simp only; omega, hr, by simp only; omega, i1.weaken (by simp only; omega)⟩, fun x => ?_⟩
            rw [InS_append, InS_cons, i2, hin]
            constructor
            · rintro ((h | h) | h)
              · exact .inl h
              · exact absurd h (InS_nil x)
              · exact .inr h
            · rintro (h | h)
              · exact .inl (.inl h)
              · exact .inr h
          · rw [if_neg hr]
            refine ⟨i1.weaken (by omega), fun x => ?_⟩
            rw [List.nil_append, i2, hin]
            exact ⟨.inr, fun h => h.resolve_left (by omega)⟩
def andL (s t : List Rg) : List Rg := andF (s.length + t.length) s t
theorem andL_spec {s t : List Rg} (hs : Canon s) (ht : Canon t) : Canon (andL s t) ∧ ∀ x, InS (andL s t) x ↔ InS s x ∧ InS t x := by
  have := andF_spec (s.length + t.length) hs ht (Nat.le_refl _)
  exact ⟨this.1.weaken (by omega), this.2⟩

end Go.Proofs.Ytpidgcjioocmhaa.SetPure
