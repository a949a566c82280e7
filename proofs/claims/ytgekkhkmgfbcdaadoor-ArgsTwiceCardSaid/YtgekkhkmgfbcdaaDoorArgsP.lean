/- Chapter 25: packed texts, in plain Lean: numerals, one text ahead, all texts. -/
import Derived.Lib.AtoiAll
import Derived.Lib.ItoaMem
import Derived.Lib.IndexBytes
import Derived.Lib.IndexLaws
namespace Go.Proofs.YtgekkhkmgfbcdaaDoor.ArgsP
open Go.Lib

def isDig (c : UInt8) : Bool := decide (48 ≤ c.toNat) && decide (c.toNat ≤ 57)
theorem isDig_iff {c : UInt8} : isDig c = true ↔ 48 ≤ c.toNat ∧ c.toNat ≤ 57 := by simp [isDig]
/-- The number that digits spell, behind a number. -/
def dvalF (a : Nat) (l : List UInt8) : Nat := l.foldl (fun a c => 10 * a + (c.toNat - 48)) a
def dval (l : List UInt8) : Nat := dvalF 0 l
theorem dvalF_snoc (a : Nat) (l : List UInt8) (c : UInt8) : dvalF a (l ++ [c]) = 10 * dvalF a l + (c.toNat - 48) := by simp [dvalF]
theorem dval_snoc (l : List UInt8) (c : UInt8) : dval (l ++ [c]) = 10 * dval l + (c.toNat - 48) := dvalF_snoc 0 l c
theorem dvalF_cons (a : Nat) (c : UInt8) (l : List UInt8) : dvalF a (c :: l) = dvalF (10 * a + (c.toNat - 48)) l := by unfold dvalF; rw [List.foldl_cons]
theorem dvalF_ge (l : List UInt8) : ∀ a, a ≤ dvalF a l := by
  induction l with
  | nil => intro a; exact Nat.le_refl _
  | cons c l ih => intro a; rw [dvalF_cons]; have := ih (10 * a + (c.toNat - 48)); omega
theorem dvalF_lt (l : List UInt8) (h : ∀ c ∈ l, isDig c = true) : ∀ a, dvalF a l < (a + 1) * 10 ^ l.length := by
  induction l with
  | nil => intro a; simp [dvalF]
  | cons c l ih =>
    intro a
    rw [dvalF_cons]
    have h1 := ih (fun x hx => h x (List.mem_cons_of_mem _ hx)) (10 * a + (c.toNat - 48))
    have h2 := (isDig_iff.1 (h c List.mem_cons_self))
    rw [List.length_cons, Nat.pow_succ]
    have h3 : (10 * a + (c.toNat - 48) + 1) * 10 ^ l.length ≤ (10 * (a + 1)) * 10 ^ l.length := Nat.mul_le_mul_right _ (by omega)
    have h4 : (a + 1) * (10 ^ l.length * 10) = (10 * (a + 1)) * 10 ^ l.length := by rw [Nat.mul_comm (10 ^ l.length) 10, ← Nat.mul_assoc, Nat.mul_comm (a + 1) 10]
    omega
theorem dval_lt {l : List UInt8} (h : ∀ c ∈ l, isDig c = true) : dval l < 10 ^ l.length := by
  have := dvalF_lt l h 0
  simpa [dval] using this
theorem dval_pos {l : List UInt8} {c : UInt8} (h : l.head? = some c) (hc : 48 < c.toNat) : 1 ≤ dval l := by
  cases l with
  | nil => simp at h
  | cons x l =>
    simp at h; subst h
    show 1 ≤ dvalF 0 (x :: l)
    rw [dvalF_cons]
    have := dvalF_ge l (10 * 0 + (x.toNat - 48))
    have h48 : 1 ≤ 10 * 0 + (x.toNat - 48) := by omega
    exact Nat.le_trans h48 this

theorem u8_of {c : UInt8} (h : 48 ≤ c.toNat) : UInt8.ofNat (48 + (c.toNat - 48)) = c := by
  rw [show 48 + (c.toNat - 48) = c.toNat by omega]; exact UInt8.ofNat_toNat

/-- Digits without a nought ahead are the numeral of their number. -/
theorem dec_of_digits : ∀ (n : Nat) (d : List UInt8), d.length = n → d ≠ [] → (∀ c ∈ d, isDig c = true) → (d.head? = some 48 → d.length = 1) → decDigits (dval d) = d := by
  intro n
  induction n with
  | zero => intro d hn h0; exact absurd (List.eq_nil_of_length_eq_zero hn) h0
  | succ n ih =>
    intro d hn h0 hd hz
    obtain ⟨i, c, rfl⟩ : ∃ i c, d = i ++ [c] := ⟨d.dropLast, d.getLast h0, (List.dropLast_concat_getLast h0).symm⟩
    have hc := isDig_iff.1 (hd c (by simp))
    rw [dval_snoc]
    by_cases hi : i = []
    · subst hi
      rw [show dval [] = 0 from rfl, decDigits, dif_pos (by omega), Nat.mul_zero, Nat.zero_add, u8_of hc.1]; rfl
    · have hl : i.length = n := by simpa using hn
      have hdi : ∀ x ∈ i, isDig x = true := fun x hx => hd x (List.mem_append_left _ hx)
      obtain ⟨x, hx⟩ : ∃ x, i.head? = some x := by cases i with | nil => exact absurd rfl hi | cons x i => exact ⟨x, rfl⟩
      have hh : (i ++ [c]).head? = some x := by rw [List.head?_append, hx]; rfl
      have hx48 : 48 < x.toNat := by
        have h1 := (isDig_iff.1 (hdi x (List.mem_of_mem_head? hx))).1
        rcases Nat.lt_or_ge 48 x.toNat with h | h
        · exact h
        · have hx0 : x = 48 := UInt8.toNat_inj.1 (by show x.toNat = 48; omega)
          rw [hh, hx0] at hz
          have := hz rfl
          simp at this
          exact absurd this hi
      have hp := dval_pos hx hx48
      rw [decDigits, dif_neg (by omega), show (10 * dval i + (c.toNat - 48)) / 10 = dval i by omega, show (10 * dval i + (c.toNat - 48)) % 10 = c.toNat - 48 by omega, u8_of hc.1]
      rw [ih i hl hi hdi (fun h => by rw [hx] at h; injection h with h; subst h; simp at hx48)]

theorem dec_props : ∀ (u : Nat), (∀ c ∈ decDigits u, isDig c = true) ∧ dval (decDigits u) = u ∧ decDigits u ≠ [] ∧ ((decDigits u).head? = some 48 → u = 0) := by
  intro u
  induction u using Nat.strongRecOn with
  | ind u ih =>
    rw [decDigits]
    have hof : ∀ m, m < 10 → (UInt8.ofNat (48 + m)).toNat = 48 + m := fun m hm => by rw [UInt8.toNat_ofNat_of_lt' (by show _ < 256; omega)]
    split
    · rename_i h
      refine ⟨fun c hc => ?_, ?_, by simp, fun he => ?_⟩
      · obtain rfl := List.mem_singleton.1 hc; rw [isDig_iff, hof u h]; omega
      · show 10 * 0 + _ = u; rw [hof u h]; omega
      · have := congrArg UInt8.toNat (Option.some.inj (show some (UInt8.ofNat (48 + u)) = some 48 from he)); rw [hof u h] at this; have h48 : (48 : UInt8).toNat = 48 := rfl; omega
    · rename_i h
      obtain ⟨h1, h2, h3, h4⟩ := ih (u / 10) (by omega)
      refine ⟨fun c hc => ?_, ?_, by simp, fun he => ?_⟩
      · rcases List.mem_append.1 hc with hc | hc
        · exact h1 c hc
        · obtain rfl := List.mem_singleton.1 hc; rw [isDig_iff, hof (u % 10) (by omega)]; omega
      · rw [dval_snoc, h2, hof (u % 10) (by omega)]; omega
      · obtain ⟨x, hx⟩ : ∃ x, (decDigits (u / 10)).head? = some x := by
          cases hl : decDigits (u / 10) with
          | nil => exact absurd hl h3
          | cons x i => exact ⟨x, rfl⟩
        rw [List.head?_append, hx] at he
        have := h4 (by rw [hx]; exact he)
        omega
theorem dec_len_le {u k : Nat} (hk : 1 ≤ k) (h : u < 10 ^ k) : (decDigits u).length ≤ k := by
  induction k generalizing u with
  | zero => omega
  | succ k ih =>
    rw [decDigits]
    split
    · simp
    · rename_i h10
      by_cases hk0 : k = 0
      · subst hk0; simp at h; omega
      · have := ih (by omega) (show u / 10 < 10 ^ k by rw [Nat.pow_succ] at h; omega)
        simpa using this
theorem dec_len_pos (u : Nat) : 1 ≤ (decDigits u).length := by
  have := (dec_props u).2.2.1
  cases h : decDigits u with
  | nil => exact absurd h this
  | cons a l => simp
/-- A numeral of so many digits, if it is no '0', is at least that power. -/
theorem dec_ge {u k : Nat} (h : k < (decDigits u).length) (hk : 1 ≤ k) : 10 ^ k ≤ u := by
  rcases Nat.lt_or_ge u (10 ^ k) with h' | h'
  · have := dec_len_le hk h'; omega
  · exact h'

/-- Atoi of digits, few enough. -/
theorem parse_digits (d : List UInt8) (h : ∀ c ∈ d, isDig c = true) : ∀ a, (a + 1) * 10 ^ d.length ≤ 1000000000000000000 → parseUint10 a d = .ok (dvalF a d) := by
  induction d with
  | nil => intro a _; rfl
  | cons c d ih =>
    intro a ha
    have hc := isDig_iff.1 (h c List.mem_cons_self)
    rw [List.length_cons, Nat.pow_succ] at ha
    have hp : 1 ≤ 10 ^ d.length := Nat.pos_of_ne_zero (by simp)
    have h3 : (10 * a + (c.toNat - 48) + 1) * 10 ^ d.length ≤ (10 * (a + 1)) * 10 ^ d.length := Nat.mul_le_mul_right _ (by omega)
    have h4 : (a + 1) * (10 ^ d.length * 10) = (10 * (a + 1)) * 10 ^ d.length := by rw [Nat.mul_comm (10 ^ d.length) 10, ← Nat.mul_assoc, Nat.mul_comm (a + 1) 10]
    have h5 : (10 * (a + 1)) * 1 ≤ (10 * (a + 1)) * 10 ^ d.length := Nat.mul_le_mul_left _ hp
    unfold parseUint10
    rw [if_pos hc, if_neg (by omega), if_neg (by omega), Nat.mul_comm a 10]
    exact ih (fun x hx => h x (List.mem_cons_of_mem _ hx)) _ (by omega)

theorem atoi_dec {u : Nat} (h : u < 1000000000000000000) : atoiAll (decDigits u) = .ok (u : Int) := by
  obtain ⟨h1, h2, h3, _⟩ := dec_props u
  have hl : (decDigits u).length ≤ 18 := dec_len_le (by omega) (by omega)
  have hp := parse_digits (decDigits u) h1 0 (by
    have : 10 ^ (decDigits u).length ≤ 10 ^ 18 := Nat.pow_le_pow_right (by omega) hl
    omega)
  rw [show dvalF 0 (decDigits u) = u from h2] at hp
  cases hd : decDigits u with
  | nil => exact absurd hd h3
  | cons c r =>
    have hc := isDig_iff.1 (h1 c (by rw [hd]; exact List.mem_cons_self))
    rw [hd] at hp
    unfold atoiAll
    simp only
    rw [if_neg (by omega)]
    unfold parseMag
    rw [if_neg (by simp), hp]
    simp only
    rw [if_neg (by omega), if_neg (by omega), if_neg (by omega)]
theorem atoi_neg {u : Nat} (h : u < 1000000000000000000) : atoiAll (45 :: decDigits u) = .ok (-(u : Int)) := by
  obtain ⟨h1, h2, h3, _⟩ := dec_props u
  have hl : (decDigits u).length ≤ 18 := dec_len_le (by omega) (by omega)
  have hp := parse_digits (decDigits u) h1 0 (by
    have : 10 ^ (decDigits u).length ≤ 10 ^ 18 := Nat.pow_le_pow_right (by omega) hl
    omega)
  rw [show dvalF 0 (decDigits u) = u from h2] at hp
  have h45 : (45 : UInt8).toNat = 45 := rfl
  unfold atoiAll
  simp only [h45]
  rw [if_pos (Or.inr trivial)]
  unfold parseMag
  rw [if_neg h3, hp]
  simp only
  rw [if_neg (by simp), if_neg (by omega), if_pos trivial]

/-- How many of the first m bytes are digits, from the first on. -/
def digs : Nat → List UInt8 → Nat
  | 0, _ => 0
  | _ + 1, [] => 0
  | m + 1, c :: l => if isDig c then digs m l + 1 else 0
theorem digs_le (m : Nat) (l : List UInt8) : digs m l ≤ m ∧ digs m l ≤ l.length := by
  induction m generalizing l with
  | zero => simp [digs]
  | succ m ih =>
    cases l with
    | nil => simp [digs]
    | cons c l => simp only [digs]; have := ih l; split <;> simp <;> omega
theorem digs_all (m : Nat) (l : List UInt8) : ∀ c ∈ l.take (digs m l), isDig c = true := by
  induction m generalizing l with
  | zero => simp [digs]
  | succ m ih =>
    cases l with
    | nil => simp [digs]
    | cons c l =>
      simp only [digs]
      split
      · rename_i h
        intro x hx
        rw [List.take_succ_cons] at hx
        rcases List.mem_cons.1 hx with rfl | hx
        · exact h
        · exact ih l x hx
      · simp
/-- It is so many, if these are digits and the next one is none, or there are enough. -/
theorem digs_eq (m : Nat) (l : List UInt8) (k : Nat) (hk : k ≤ m) (hl : k ≤ l.length) (h : ∀ c ∈ l.take k, isDig c = true) (hn : k = m ∨ ∀ c, l[k]? = some c → isDig c = false) : digs m l = k := by
  induction m generalizing l k with
  | zero => simp [digs]; omega
  | succ m ih =>
    cases l with
    | nil => simp at hl; subst hl; rfl
    | cons c l =>
      cases k with
      | zero =>
        rcases hn with h' | h'
        · omega
        · simp only [digs]; rw [h' c rfl]; rfl
      | succ k =>
        simp only [digs]
        rw [h c (by simp), if_pos rfl]
        congr 1
        refine ih l k (by omega) (by simpa using hl) (fun x hx => h x (by rw [List.take_succ_cons]; exact List.mem_cons_of_mem _ hx)) ?_
        rcases hn with h' | h'
        · left; omega
        · right; intro x hx; exact h' x (by simpa using hx)

/-- The text ahead: how many digits its length has, and its length. -/
def oneL (s : List UInt8) : Option (Nat × Nat) :=
  let k := digs 7 s
  let n := dval (s.take k)
  if k = 0 ∨ (s.head? = some 48 ∧ 1 < k) ∨ s[k]? ≠ some 58 ∨ s.length ≤ n + k + 1 ∨ s[k + 1 + n]? ≠ some 44 then none else some (k, n)

theorem oneL_some {s : List UInt8} {k n : Nat} (h : oneL s = some (k, n)) : 1 ≤ k ∧ k ≤ 7 ∧ n + k + 2 ≤ s.length ∧ k = digs 7 s ∧ n = dval (s.take k) ∧ s[k]? = some 58 ∧ s[k + 1 + n]? = some 44 ∧ (s.head? = some 48 → k = 1) := by
  unfold oneL at h
  simp only at h
  split at h
  · cases h
  · rename_i hc
    injection h with h
    injection h with h1 h2
    subst h1
    have hl := digs_le 7 s
    rw [h2] at hc
    refine ⟨by omega, by omega, by omega, rfl, h2.symm, Classical.not_not.1 fun h => hc (Or.inr (Or.inr (Or.inl h))), Classical.not_not.1 fun h => hc (Or.inr (Or.inr (Or.inr (Or.inr h)))), fun h => ?_⟩
    rcases Nat.lt_or_ge 1 (digs 7 s) with h' | h'
    · exact absurd (Or.inr (Or.inl ⟨h, h'⟩)) hc
    · omega

/-- The numeral of the length, its point, and what stands there: the way of the program. -/
def AheadA (s d : List UInt8) (n : Nat) : Prop := d = decDigits n ∧ d.length ≤ 7 ∧ s.take d.length = d ∧ s[d.length]? = some 58 ∧ n + d.length + 2 ≤ s.length ∧ s[d.length + 1 + n]? = some 44
theorem oneL_of_ahead {s d : List UInt8} {n : Nat} (h : AheadA s d n) : oneL s = some (d.length, n) := by
  obtain ⟨rfl, h7, ht, h58, hl, h44⟩ := h
  obtain ⟨h1, h2, h3, h4⟩ := dec_props n
  have hk : digs 7 s = (decDigits n).length := by
    refine digs_eq 7 s _ h7 (by omega) (by rw [ht]; exact h1) (Or.inr fun c hc => ?_)
    rw [h58] at hc; injection hc with hc; subst hc; rfl
  have hpos := dec_len_pos n
  unfold oneL
  simp only
  rw [hk, ht, h2, if_neg]
  rintro (h | ⟨h, h'⟩ | h | h | h)
  · omega
  · have : (decDigits n).head? = some 48 := by
      rw [← ht]
      cases s with
      | nil => simp at h
      | cons x s => rw [show (decDigits n).length = (decDigits n).length - 1 + 1 by omega, List.take_succ_cons]; simpa using h
    have := h4 this
    subst this
    simp [decDigits] at h'
  · exact h h58
  · omega
  · exact h h44
theorem ahead_of_oneL {s : List UInt8} {k n : Nat} (h : oneL s = some (k, n)) : AheadA s (s.take k) n ∧ (s.take k).length = k := by
  obtain ⟨h1, h2, h3, h4, h5, h6, h7, h8⟩ := oneL_some h
  have hlen : (s.take k).length = k := by rw [List.length_take]; omega
  have hd : decDigits n = s.take k := by
    rw [h5]
    refine dec_of_digits k (s.take k) hlen (fun e => by rw [e] at hlen; simp at hlen; omega) (by rw [h4]; exact digs_all 7 s) (fun hh => ?_)
    rw [hlen]
    refine h8 ?_
    cases s with
    | nil => simp at h3
    | cons x s => rw [show k = k - 1 + 1 by omega, List.take_succ_cons] at hh; simpa using hh
  refine ⟨⟨hd.symm, by omega, by rw [hlen], by rw [hlen]; exact h6, by rw [hlen]; omega, by rw [hlen]; exact h7⟩, hlen⟩

/-- All texts of a text, from a place on. -/
def unp (s : List UInt8) (i : Nat) : Except Nat (List (List UInt8)) :=
  if h : i < s.length then
    match oneL (s.drop i) with
    | none => .error i
    | some (k, n) => (unp s (i + k + 2 + n)).map (((s.drop (i + k + 1)).take n) :: ·)
  else .ok []
termination_by s.length - i
decreasing_by omega

theorem unp_end {s : List UInt8} {i : Nat} (h : s.length ≤ i) : unp s i = .ok [] := by rw [unp, dif_neg (by omega)]
theorem unp_bad {s : List UInt8} {i : Nat} (h : i < s.length) (ho : oneL (s.drop i) = none) : unp s i = .error i := by rw [unp, dif_pos h, ho]
theorem unp_good {s : List UInt8} {i k n : Nat} (h : i < s.length) (ho : oneL (s.drop i) = some (k, n)) : unp s i = (unp s (i + k + 2 + n)).map (((s.drop (i + k + 1)).take n) :: ·) := by
  rw [unp, dif_pos h, ho]

/-- Texts packed; a text that is too long ends it. -/
def packOne (s : List UInt8) : List UInt8 := decDigits s.length ++ (58 :: (s ++ [44]))
def packL : List (List UInt8) → List UInt8
  | [] => []
  | s :: l => if s.length ≤ 9999999 then packOne s ++ packL l else []
def fit (l : List (List UInt8)) : List (List UInt8) := l.takeWhile fun s => decide (s.length ≤ 9999999)

theorem one_packed (p s r : List UInt8) (hs : s.length ≤ 9999999) : oneL ((p ++ packOne s ++ r).drop p.length) = some ((decDigits s.length).length, s.length) := by
  rw [List.append_assoc, List.drop_left]
  refine oneL_of_ahead ⟨rfl, dec_len_le (by omega) (by omega), ?_, ?_, ?_, ?_⟩
  · unfold packOne; rw [List.append_assoc, List.take_left]
  · unfold packOne; rw [List.append_assoc, List.getElem?_append_right (Nat.le_refl _), Nat.sub_self]; rfl
  · unfold packOne; simp; omega
  · unfold packOne
    rw [List.append_assoc, List.getElem?_append_right (by omega), show (decDigits s.length).length + 1 + s.length - (decDigits s.length).length = s.length + 1 by omega]
    simp
theorem unp_pack (l : List (List UInt8)) : ∀ (p : List UInt8), unp (p ++ packL l) p.length = .ok (fit l) := by
  induction l with
  | nil => intro p; rw [unp_end (by simp [packL])]; rfl
  | cons s l ih =>
    intro p
    unfold packL fit
    by_cases hs : s.length ≤ 9999999
    · rw [if_pos hs, List.takeWhile_cons_of_pos (by simpa using hs), ← List.append_assoc]
      have h1 := one_packed p s (packL l) hs
      have hlen : (packOne s).length = (decDigits s.length).length + 2 + s.length := by unfold packOne; simp; omega
      rw [unp_good (by simp [hlen]; omega) h1]
      have h2 := ih (p ++ packOne s)
      rw [List.length_append, hlen, show p.length + ((decDigits s.length).length + 2 + s.length) = p.length + (decDigits s.length).length + 2 + s.length by omega] at h2
      rw [h2]
      show Except.ok (_ :: fit l) = _
      congr 2
      rw [List.append_assoc, show p.length + (decDigits s.length).length + 1 = p.length + ((decDigits s.length).length + 1) by omega, ← List.drop_drop, List.drop_left]
      unfold packOne
      rw [List.append_assoc, ← List.drop_drop, List.drop_left]
      simp
    · rw [if_neg hs, List.takeWhile_cons_of_neg (by simpa using hs)]
      rw [unp_end (by simp)]
theorem unp_packed (l : List (List UInt8)) : unp (packL l) 0 = .ok (fit l) := unp_pack l []

end Go.Proofs.YtgekkhkmgfbcdaaDoor.ArgsP
