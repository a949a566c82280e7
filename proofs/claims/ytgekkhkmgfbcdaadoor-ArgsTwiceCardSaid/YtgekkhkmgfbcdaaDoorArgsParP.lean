/- Chapter 25: what Parse computes: keys and values, one pair behind the other; where the values lie in memory. -/
import Derived.Test.YtgekkhkmgfbcdaaDoorArgsSet
namespace Go.Proofs.YtgekkhkmgfbcdaaDoor
open Go.Shelf Go.RowKit

theorem keyN_inj {i j : Nat} (hi : i < 18) (hj : j < 18) (h : keyN i = keyN j) : i = j := by
  have hd : ∀ a b : Fin 18, (keyN a.val).data.toList = (keyN b.val).data.toList → a = b := by decide +kernel
  have := hd ⟨i, hi⟩ ⟨j, hj⟩ (by rw [h])
  exact congrArg Fin.val this
/-- A key's number. -/
def keyOf (k : ByteArray) : Option Nat := (List.range 18).find? fun j => (keyN j).toList == k.toList
theorem keyOf_some {k : ByteArray} {j : Nat} : keyOf k = some j ↔ j < 18 ∧ keyN j = k := by
  constructor
  · intro h
    have h1 := List.mem_of_find?_eq_some h
    have h2 := List.find?_some h
    exact ⟨List.mem_range.1 h1, key_same.1 h2⟩
  · rintro ⟨hj, rfl⟩
    cases h : keyOf (keyN j) with
    | none =>
      have := List.find?_eq_none.1 h j (List.mem_range.2 hj)
      simp at this
    | some i =>
      have h1 := List.mem_of_find?_eq_some h
      have h2 := List.find?_some h
      rw [keyN_inj (List.mem_range.1 h1) hj (key_same.1 h2)]
/-- A key's value of a text. -/
def setR (j : Nat) (x : ByteArray) : Option Value :=
  if j < 5 then (ArgsP.numL x.data.toList).map fun n => .int .i64 n
  else if j < 15 then (if (x.toList == [121, 101, 115]) = true then some (.bool true) else if (x.toList == [110, 111]) = true then some (.bool false) else none)
  else some (.string x)
/-- The pairs from the i-th text on, R the keys that are left. -/
def prs : List ByteArray → Nat → List Nat → List Value → Except Nat (List Value)
  | [], _, _, vs => .ok vs
  | [_], i, _, _ => .error i
  | k :: x :: l, i, R, vs =>
    match keyOf k with
    | none => .error i
    | some j => if j ∈ R then (match setR j x with | none => .error i | some v => prs l (i + 2) (R.erase j) (vs.set j v)) else .error i
def vs0 : List Value := List.replicate 5 (.int .i64 0) ++ List.replicate 10 (.bool false) ++ List.replicate 3 (.string ⟨#[]⟩)

/-- The keys that are left: each once. -/
def Left (R : List Nat) : Prop := R.Nodup ∧ (∀ j ∈ R, j < 18) ∧ R.length ≤ 18
theorem Left.start : Left (List.range 18) := ⟨List.nodup_range, fun _ h => List.mem_range.1 h, by simp⟩
theorem Left.erase {R : List Nat} (h : Left R) (j : Nat) : Left (R.erase j) := ⟨h.1.erase j, fun i hi => h.2.1 i (List.mem_of_mem_erase hi), Nat.le_trans (List.length_erase_le) h.2.2⟩
theorem Left.len {R : List Nat} (h : Left R) : R.length ≤ 18 := h.2.2
theorem erase_at {R : List Nat} (h : R.Nodup) {p : Nat} (hp : p < R.length) : R.eraseIdx p = R.erase (R.getD p 0) := by
  induction R generalizing p with
  | nil => simp at hp
  | cons a R ih =>
    rw [List.nodup_cons] at h
    cases p with
    | zero => simp
    | succ p =>
      have hp' : p < R.length := by simpa using hp
      have e : (a :: R).getD (p + 1) 0 = R.getD p 0 := by simp
      have hm : R.getD p 0 ∈ R := by rw [List.getD_eq_getElem?_getD, List.getElem?_eq_getElem hp']; exact List.getElem_mem hp'
      rw [e, List.eraseIdx_cons_succ, ih h.2 hp', List.erase_cons_tail (by rw [beq_iff_eq]; intro e2; rw [e2] at h; exact h.1 hm)]

theorem idx_none {R : List Nat} {k : ByteArray} (h : ∀ p, p < R.length → keyN (R.getD p 0) ≠ k) : ∀ j, keyOf k = some j → j ∉ R := by
  intro j hj hm
  obtain ⟨p, hp, he⟩ := List.getElem_of_mem hm
  refine h p hp ?_
  rw [List.getD_eq_getElem?_getD, List.getElem?_eq_getElem hp]
  show keyN R[p] = k
  rw [he]
  exact (keyOf_some.1 hj).2
theorem idx_some {R : List Nat} (hR : Left R) {k : ByteArray} {p : Nat} (hp : p < R.length) (h : keyN (R.getD p 0) = k) : keyOf k = some (R.getD p 0) ∧ R.getD p 0 ∈ R ∧ R.getD p 0 < 18 := by
  have hm : R.getD p 0 ∈ R := by rw [List.getD_eq_getElem?_getD, List.getElem?_eq_getElem hp]; exact List.getElem_mem hp
  exact ⟨keyOf_some.2 ⟨hR.2.1 _ hm, h⟩, hm, hR.2.1 _ hm⟩

theorem prs_none {l : List ByteArray} {k : ByteArray} {i : Nat} {R : List Nat} {vs : List Value} (h : ∀ j, keyOf k = some j → j ∉ R) : prs (k :: l) i R vs = .error i := by
  cases l with
  | nil => rfl
  | cons x l =>
    unfold prs
    cases hk : keyOf k with
    | none => rfl
    | some j => simp only; rw [if_neg (h j hk)]
theorem prs_last {k : ByteArray} {i : Nat} {R : List Nat} {vs : List Value} : prs [k] i R vs = .error i := rfl
theorem prs_bad {l : List ByteArray} {k x : ByteArray} {i j : Nat} {R : List Nat} {vs : List Value} (hk : keyOf k = some j) (hj : j ∈ R) (hs : setR j x = none) : prs (k :: x :: l) i R vs = .error i := by
  unfold prs
  rw [hk]; simp only; rw [if_pos hj, hs]
theorem prs_good {l : List ByteArray} {k x : ByteArray} {i j : Nat} {R : List Nat} {vs : List Value} {v : Value} (hk : keyOf k = some j) (hj : j ∈ R) (hs : setR j x = some v) : prs (k :: x :: l) i R vs = prs l (i + 2) (R.erase j) (vs.set j v) := by
  rw [prs, hk]; simp only; rw [if_pos hj, hs]

/-- The key whose value lies at a place of the options. -/
def permN : List Nat := [0, 1, 2, 3, 5, 6, 7, 8, 9, 10, 11, 12, 13, 14, 4, 15, 16]
def optC (vs : List Value) : List Value := permN.map fun j => vs.getD j undef
theorem optC_set {vs : List Value} (hl : vs.length = 18) {j : Nat} (hj : j < 17) (v : Value) : (optC vs).set (offN j) v = optC (vs.set j v) := by
  refine List.ext_getElem (by simp [optC]) (fun t h1 h2 => ?_)
  have ht : t < 17 := by simpa [optC, permN] using h2
  have hp : t < permN.length := ht
  have key : ∀ (a b : Fin 17), (offN a.val = b.val ↔ permN.getD b.val 0 = a.val) := by decide
  have hk := key ⟨j, hj⟩ ⟨t, ht⟩
  simp only at hk
  have hpt : permN.getD t 0 = permN[t] := by rw [List.getD_eq_getElem?_getD, List.getElem?_eq_getElem hp]; rfl
  rw [hpt] at hk
  rw [List.getElem_set]
  simp only [optC, List.getElem_map, List.getD_eq_getElem?_getD]
  by_cases he : offN j = t
  · rw [if_pos he, hk.1 he, List.getElem?_set_self (by omega)]; rfl
  · rw [if_neg he, List.getElem?_set_ne (fun e => he (hk.2 e.symm))]

end Go.Proofs.YtgekkhkmgfbcdaaDoor
