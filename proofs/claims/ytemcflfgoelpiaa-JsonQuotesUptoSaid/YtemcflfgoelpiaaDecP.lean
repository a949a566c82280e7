/- UTF-8, read: the scalar at the front of some bytes, in plain Lean. -/
import Derived.Test.YtemcflfgoelpiaaRows
namespace Go.Proofs.Ytemcflfgoelpiaa.DecP

/-- Behind the first byte: so many bytes are wanted, k are read, v is what they tell; the next must lie between lo and hi. -/
def go : Nat → Nat → Int → Int → Int → List UInt8 → Int × Nat
  | 0, k, v, _, _, _ => (v, k)
  | _ + 1, k, _, _, _, [] => (-1, k)
  | m + 1, k, v, lo, hi, x :: t => if (x.toNat : Int) < lo ∨ hi < (x.toNat : Int) then (-1, k) else go m (k + 1) (64 * v + ((x.toNat : Int) - 128)) 128 191 t
def more (b : Int) : Nat := if b < 224 then 1 else if b < 240 then 2 else 3
def bits (b : Int) : Int := if b < 224 then b - 192 else if b < 240 then b - 224 else b - 240
def least (b : Int) : Int := if b = 224 then 160 else if b = 240 then 144 else 128
def most (b : Int) : Int := if b = 237 then 159 else if b = 244 then 143 else 191
/-- The scalar at the front (-1: none), and how many bytes. -/
def one : List UInt8 → Int × Nat
  | [] => (-1, 1)
  | c :: t => if (c.toNat : Int) < 128 then ((c.toNat : Int), 1) else if (c.toNat : Int) < 194 ∨ 244 < (c.toNat : Int) then (-1, 1) else go (more c.toNat) 1 (bits c.toNat) (least c.toNat) (most c.toNat) t

theorem go_cons (m k : Nat) (v lo hi : Int) (x : UInt8) (t : List UInt8) : go (m + 1) k v lo hi (x :: t) = if (x.toNat : Int) < lo ∨ hi < (x.toNat : Int) then (-1, k) else go m (k + 1) (64 * v + ((x.toNat : Int) - 128)) 128 191 t := rfl
theorem one_cons (c : UInt8) (t : List UInt8) : one (c :: t) = if (c.toNat : Int) < 128 then ((c.toNat : Int), 1) else if (c.toNat : Int) < 194 ∨ 244 < (c.toNat : Int) then (-1, 1) else go (more c.toNat) 1 (bits c.toNat) (least c.toNat) (most c.toNat) t := rfl
theorem go_pos (m : Nat) : ∀ (k : Nat) (v lo hi : Int) (t : List UInt8), 1 ≤ k → 1 ≤ (go m k v lo hi t).2 ∧ (go m k v lo hi t).2 ≤ k + t.length := by
  induction m with
  | zero => intro k v lo hi t hk; exact ⟨hk, Nat.le_add_right _ _⟩
  | succ m ih =>
    intro k v lo hi t hk
    cases t with
    | nil => exact ⟨hk, by simp [go]⟩
    | cons x t =>
      rw [go_cons]
      split
      · exact ⟨hk, Nat.le_add_right _ _⟩
      · have := ih (k + 1) (64 * v + ((x.toNat : Int) - 128)) 128 191 t (by omega)
        exact ⟨this.1, by rw [List.length_cons]; omega⟩
theorem one_pos (s : List UInt8) (h : s ≠ []) : 1 ≤ (one s).2 ∧ (one s).2 ≤ s.length := by
  cases s with
  | nil => exact absurd rfl h
  | cons c t =>
    rw [one_cons]
    split
    · exact ⟨Nat.le_refl _, by rw [List.length_cons]; exact Nat.le_add_left _ _⟩
    · split
      · exact ⟨Nat.le_refl _, by rw [List.length_cons]; exact Nat.le_add_left _ _⟩
      · have := go_pos (more c.toNat) 1 (bits c.toNat) (least c.toNat) (most c.toNat) t (Nat.le_refl _)
        exact ⟨this.1, by rw [List.length_cons]; omega⟩
/-- A scalar that is read lies in its bounds. -/
theorem go_bound (m : Nat) : ∀ (k : Nat) (v lo hi : Int) (t : List UInt8), 0 ≤ v → 128 ≤ lo → hi ≤ 191 → (go m k v lo hi t).1 = -1 ∨ (0 ≤ (go m k v lo hi t).1 ∧ (go m k v lo hi t).1 < (v + 1) * 64 ^ m) := by
  induction m with
  | zero => intro k v lo hi t hv _ _; exact Or.inr ⟨hv, by show v < _; omega⟩
  | succ m ih =>
    intro k v lo hi t hv hl hh
    cases t with
    | nil => exact Or.inl rfl
    | cons x t =>
      rw [go_cons]
      split
      · exact Or.inl rfl
      · rename_i hc
        have h1 : 128 ≤ (x.toNat : Int) ∧ (x.toNat : Int) ≤ 191 := by omega
        rcases ih (k + 1) (64 * v + ((x.toNat : Int) - 128)) 128 191 t (by omega) (by decide) (by decide) with h | ⟨h, h'⟩
        · exact Or.inl h
        · refine Or.inr ⟨h, Int.lt_of_lt_of_le h' ?_⟩
          have : 64 * v + ((x.toNat : Int) - 128) + 1 ≤ (v + 1) * 64 := by omega
          have h64 : (0 : Int) ≤ 64 ^ m := Int.pow_nonneg (by decide)
          have := Int.mul_le_mul_of_nonneg_right this h64
          rw [Int.mul_assoc] at this
          rw [Int.pow_succ, Int.mul_comm (64 ^ m) 64]
          exact this

/-- All scalars of some bytes: the number (-1: a bad one), and how many bytes. -/
def all (s : List UInt8) : List (Int × Nat) :=
  if h : s = [] then [] else one s :: all (s.drop (one s).2)
termination_by s.length
decreasing_by
  have := one_pos s h
  rw [List.length_drop]
  omega
theorem all_nil : all [] = [] := by rw [all]; simp
theorem all_cons {s : List UInt8} (h : s ≠ []) : all s = one s :: all (s.drop (one s).2) := by rw [all, dif_neg h]
/-- What stands for a bad one. -/
def rune (p : Int × Nat) : Int := if p.1 < 0 then 65533 else p.1
def runes (s : List UInt8) : List Int := (all s).map rune
theorem runes_nil : runes [] = [] := by unfold runes; rw [all_nil]; rfl
theorem runes_cons {s : List UInt8} (h : s ≠ []) : runes s = rune (one s) :: runes (s.drop (one s).2) := by unfold runes; rw [all_cons h]; rfl
/-- The place of the first bad one. -/
def badAt (s : List UInt8) (i : Nat) : Option Nat :=
  if h : s = [] then none else if (one s).1 < 0 then some i else badAt (s.drop (one s).2) (i + (one s).2)
termination_by s.length
decreasing_by
  have := one_pos s h
  rw [List.length_drop]
  omega
theorem badAt_nil (i : Nat) : badAt [] i = none := by rw [badAt]; simp
theorem badAt_bad {s : List UInt8} {i : Nat} (h : s ≠ []) (hb : (one s).1 < 0) : badAt s i = some i := by rw [badAt, dif_neg h, if_pos hb]
theorem badAt_good {s : List UInt8} {i : Nat} (h : s ≠ []) (hb : ¬ (one s).1 < 0) : badAt s i = badAt (s.drop (one s).2) (i + (one s).2) := by rw [badAt, dif_neg h, if_neg hb]

/-- Where the scalars begin. -/
def places (s : List UInt8) (i : Nat) : List Int :=
  if h : s = [] then [] else (i : Int) :: places (s.drop (one s).2) (i + (one s).2)
termination_by s.length
decreasing_by
  have := one_pos s h
  rw [List.length_drop]
  omega
theorem places_nil (i : Nat) : places [] i = [] := by rw [places]; simp
theorem places_cons {s : List UInt8} {i : Nat} (h : s ≠ []) : places s i = (i : Int) :: places (s.drop (one s).2) (i + (one s).2) := by rw [places, dif_neg h]

theorem one_ascii {c : UInt8} (t : List UInt8) (h : c.toNat < 128) : one (c :: t) = ((c.toNat : Int), 1) := by
  rw [one_cons, if_pos (by omega)]

end Go.Proofs.Ytemcflfgoelpiaa.DecP
