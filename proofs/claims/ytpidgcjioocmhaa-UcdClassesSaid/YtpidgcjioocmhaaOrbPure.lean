/- The reference's and the program's orbits as plain functions, and that they are one. -/
namespace Go.Proofs.Ytpidgcjioocmhaa.OrbPure

/-- 'in': is a number in ranges that are told by both ends, one behind the other? -/
def inL : List Int → Int → Bool
  | a :: b :: l, r => (decide (a ≤ r) && decide (r ≤ b)) || inL l r
  | _, _ => false

theorem inL_drop (l : List Int) (k : Nat) (r : Int) (hk : k + 1 < l.length) : inL (l.drop k) r = ((decide (l.getD k 0 ≤ r) && decide (r ≤ l.getD (k + 1) 0)) || inL (l.drop (k + 2)) r) := by
  rw [List.drop_eq_getElem_cons (by omega), List.drop_eq_getElem_cons (by omega)]
  simp only [inL, List.getD_eq_getElem?_getD, List.getElem?_eq_getElem (show k < l.length by omega), List.getElem?_eq_getElem hk, Option.getD_some]
theorem inL_end (l : List Int) (k : Nat) (r : Int) (hk : l.length ≤ k + 1) : inL (l.drop k) r = false := by
  have : (l.drop k).length ≤ 1 := by rw [List.length_drop]; omega
  match h : l.drop k with
  | [] => rfl
  | [_] => rfl
  | _ :: _ :: _ => rw [h] at this; simp at this
theorem inL_hit {l : List Int} {k : Nat} {r x y : Int} (h : inL l r = inL (l.drop k) r) (hd : inL (l.drop k) r = ((decide (x ≤ r) && decide (r ≤ y)) || inL (l.drop (k + 2)) r)) (h1 : x ≤ r) (h2 : r ≤ y) : inL l r = true := by
  rw [h, hd]; simp [h1, h2]
theorem inL_miss {l : List Int} {k : Nat} {r x y : Int} (h : inL l r = inL (l.drop k) r) (hd : inL (l.drop k) r = ((decide (x ≤ r) && decide (r ≤ y)) || inL (l.drop (k + 2)) r)) (h1 : ¬ (x ≤ r ∧ r ≤ y)) : inL l r = inL (l.drop (k + 2)) r := by
  rw [h, hd]
  have : (decide (x ≤ r) && decide (r ≤ y)) = false := by
    rw [← Bool.not_eq_true, Bool.and_eq_true, decide_eq_true_iff, decide_eq_true_iff]; exact h1
  rw [this, Bool.false_or]

def ringsL : List (List Int) := [[75, 107, 8490], [83, 115, 383], [197, 229, 8491], [181, 924, 956], [931, 962, 963]]
def ringAt (i k : Nat) : Int := (ringsL.getD i []).getD k 0
def preR (a : Int) (i k : Nat) : Bool := (List.range k).any fun t => ringAt i t == a
theorem preR_succ (a : Int) (i k : Nat) : preR a i (k + 1) = (preR a i k || (ringAt i k == a)) := by
  simp [preR, List.range_succ, List.any_append]
def rest (a b : Int) (i : Nat) : Bool := (List.range i).any fun t => preR a t 3 && preR b t 3
theorem rest_succ (a b : Int) (i : Nat) : rest a b (i + 1) = (rest a b i || (preR a i 3 && preR b i 3)) := by
  simp [rest, List.range_succ, List.any_append]
def caps : List Int := [65, 90, 192, 214, 216, 222, 913, 929, 931, 937, 1040, 1071]
def oneU (a b : Int) : Bool := (a == b) || ((b - a == 32) && inL caps a) || ((b - a == 40) && decide (66560 ≤ a) && decide (a ≤ 66599)) || rest a b 5
def oneB (a b : Int) : Bool := oneU (min a b) (max a b)

theorem oneU_1 {x y : Int} (h : (x == y) = true) : oneU x y = true := by unfold oneU; rw [h]; simp
theorem oneU_2 {x y : Int} (h : ((y - x == 32) && inL caps x) = true) : oneU x y = true := by unfold oneU; rw [h]; simp
theorem oneU_3 {x y : Int} (h : ((y - x == 40) && decide (66560 ≤ x) && decide (x ≤ 66599)) = true) : oneU x y = true := by unfold oneU; rw [h]; simp
theorem oneU_4 {x y : Int} (h1 : (x == y) = false) (h2 : ((y - x == 32) && inL caps x) = false) (h3 : ((y - x == 40) && decide (66560 ≤ x) && decide (x ≤ 66599)) = false) : oneU x y = rest x y 5 := by
  unfold oneU; rw [h1, h2, h3]; simp

theorem rest_hit {x y : Int} {i j : Nat} (hi : i < 5) (hj : 3 ≤ (j : Int)) (hj' : j ≤ 3) (h1 : preR x i j = true) (h2 : preR y i j = true) : rest x y 5 = true := by
  obtain rfl : j = 3 := by omega
  unfold rest
  rw [List.any_eq_true]
  exact ⟨i, List.mem_range.2 hi, by rw [h1, h2]; rfl⟩
theorem rest_miss {x y : Int} {i j : Nat} (hj : 3 ≤ (j : Int)) (hj' : j ≤ 3) (h : rest x y i = false) (h1 : (preR x i j && preR y i j) = false) : rest x y (i + 1) = false := by
  obtain rfl : j = 3 := by omega
  rw [rest_succ, h, h1]; rfl
theorem rest_end {x y : Int} {i : Nat} (hi : 5 ≤ (i : Int)) (hi' : i ≤ 5) (h : rest x y i = false) : rest x y 5 = false := by
  obtain rfl : i = 5 := by omega
  exact h

/-- 'add': a number into a rising list, once. -/
def addL : List Int → Int → List Int
  | [], n => [n]
  | a :: l, n => if a < n then a :: addL l n else if a = n then n :: l else n :: a :: l

theorem getD_at {l : List Int} {k : Nat} {x : Int} (hk : k < l.length) (hx : l.getD k 0 = x) : l[k] = x := by
  rw [← hx, List.getD_eq_getElem?_getD, List.getElem?_eq_getElem hk]; rfl
theorem take_next {l : List Int} {k : Nat} {x : Int} (hk : k < l.length) (hx : l.getD k 0 = x) : l.take (k + 1) = l.take k ++ [x] := by
  rw [List.take_add_one, List.getElem?_eq_getElem hk, getD_at hk hx]; rfl
theorem drop_next {l : List Int} {k : Nat} {x : Int} (hk : k < l.length) (hx : l.getD k 0 = x) : l.drop k = x :: l.drop (k + 1) := by
  rw [List.drop_eq_getElem_cons hk, getD_at hk hx]
theorem addL_lt {l : List Int} {k : Nat} {n x : Int} (hk : k < l.length) (h : addL l n = l.take k ++ addL (l.drop k) n) (hd : l.getD k 0 = x) (hx : x < n) : addL l n = l.take (k + 1) ++ addL (l.drop (k + 1)) n := by
  have e : addL (x :: l.drop (k + 1)) n = x :: addL (l.drop (k + 1)) n := by simp [addL, hx]
  rw [h, drop_next hk hd, e, take_next hk hd, List.append_assoc]
  rfl
theorem addL_eq {l : List Int} {k : Nat} {n x : Int} (hk : k < l.length) (h : addL l n = l.take k ++ addL (l.drop k) n) (hd : l.getD k 0 = x) (hx : x = n) : addL l n = l.take k ++ [n] ++ l.drop (k + 1) := by
  rw [h, drop_next hk hd]
  simp [addL, hx]
theorem addL_gt {l : List Int} {k : Nat} {n x : Int} (hk : k < l.length) (h : addL l n = l.take k ++ addL (l.drop k) n) (hd : l.getD k 0 = x) (hx : n < x) : addL l n = l.take k ++ [n] ++ l.drop k := by
  have h1 : ¬ x < n := by omega
  have h2 : ¬ x = n := by omega
  rw [h, drop_next hk hd]
  simp [addL, h1, h2]
theorem addL_end {l : List Int} {k : Nat} {n : Int} (hk : l.length ≤ k) (h : addL l n = l.take k ++ addL (l.drop k) n) : addL l n = l.take k ++ [n] ++ l.drop k := by
  rw [h, List.drop_eq_nil_of_le hk]
  simp [addL]

def triesL (r : Int) : List Int := [r - 40, r - 32, r, r + 32, r + 40, 75, 107, 8490, 83, 115, 383, 197, 229, 8491, 181, 924, 956, 931, 962, 963]
def hit (r t u : Int) : Bool := (t == r) || (decide (0 ≤ u) && oneB r u && oneB u t)
/-- After k rounds of the inner loop. -/
def inner (r t : Int) (out : List Int) (k : Nat) : List Int := ((triesL r).take k).foldl (fun out u => if hit r t u then addL out t else out) out
def outer (r : Int) (i : Nat) : List Int := ((triesL r).take i).foldl (fun out t => inner r t out 20) []
def refOrb (r : Int) : List Int := outer r 20

theorem addL_len (l : List Int) (n : Int) : (addL l n).length ≤ l.length + 1 := by
  induction l with
  | nil => simp [addL]
  | cons a l ih =>
    simp only [addL]
    split
    · simpa using ih
    · split <;> simp
theorem inner_succ {r t u : Int} {out l : List Int} {k : Nat} (hk : k < 20) (hu : (triesL r).getD k 0 = u) (h : inner r t out k = l) : inner r t out (k + 1) = if hit r t u then addL l t else l := by
  unfold inner at *
  rw [take_next (l := triesL r) hk hu, List.foldl_append, h]
  rfl
theorem outer_succ {r t : Int} {l l' : List Int} {i : Nat} (hi : i < 20) (ht : (triesL r).getD i 0 = t) (h : outer r i = l) (h' : inner r t l 20 = l') : outer r (i + 1) = l' := by
  unfold outer at *
  rw [take_next (l := triesL r) hi ht, List.foldl_append, h]
  exact h'

theorem tries_bd {r : Int} (h0 : 0 ≤ r) (h1 : r ≤ 1114111) {i : Nat} (hi : i < 20) : -40 ≤ (triesL r).getD i 0 ∧ (triesL r).getD i 0 ≤ 1114151 := by
  have h : ∀ x ∈ triesL r, -40 ≤ x ∧ x ≤ 1114151 := by
    intro x hx
    simp only [triesL, List.mem_cons, List.not_mem_nil, or_false] at hx
    omega
  have hl : i < (triesL r).length := hi
  rw [List.getD_eq_getElem?_getD, List.getElem?_eq_getElem hl]
  exact h _ (List.getElem_mem hl)

def shiftsL : List (Int × Int × Int) := [(65, 90, 32), (192, 214, 32), (216, 222, 32), (913, 929, 32), (931, 937, 32), (1040, 1071, 32), (66560, 66599, 40)]
def ringFind : List (List Int) → Int → Option (List Int)
  | [], _ => none
  | l :: ls, r => if r ∈ l then some l else ringFind ls r
def shiftFind : List (Int × Int × Int) → Int → List Int
  | [], r => [r]
  | (a, b, d) :: ls, r => if a ≤ r ∧ r ≤ b then [r, r + d] else if a ≤ r - d ∧ r - d ≤ b then [r - d, r] else shiftFind ls r
def progOrb (r : Int) : List Int := (ringFind ringsL r).getD (shiftFind shiftsL r)

theorem ringFind_at {i : Nat} {r : Int} (hi : i < 5) : ringFind (ringsL.drop i) r = if r ∈ ringsL.getD i [] then some (ringsL.getD i []) else ringFind (ringsL.drop (i + 1)) r := by
  rw [List.drop_eq_getElem_cons (l := ringsL) hi, List.getD_eq_getElem?_getD, List.getElem?_eq_getElem (l := ringsL) hi]
  rfl
theorem shiftFind_at {i : Nat} {r a b d : Int} (hi : i < 7) (h : shiftsL.getD i (0, 0, 0) = (a, b, d)) : shiftFind (shiftsL.drop i) r = if a ≤ r ∧ r ≤ b then [r, r + d] else if a ≤ r - d ∧ r - d ≤ b then [r - d, r] else shiftFind (shiftsL.drop (i + 1)) r := by
  rw [List.getD_eq_getElem?_getD, List.getElem?_eq_getElem (l := shiftsL) hi, Option.getD_some] at h
  rw [List.drop_eq_getElem_cons (l := shiftsL) hi, h]
  rfl

theorem shifts_at {i : Nat} (hi : i < 7) : ∃ a b d : Int, shiftsL[i]'hi = (a, b, d) ∧ shiftsL.getD i (0, 0, 0) = (a, b, d) ∧ 0 ≤ a ∧ a ≤ 100000 ∧ 0 ≤ b ∧ b ≤ 100000 ∧ 0 ≤ d ∧ d ≤ 100 := by
  have h : ∀ x ∈ shiftsL, 0 ≤ x.1 ∧ x.1 ≤ 100000 ∧ 0 ≤ x.2.1 ∧ x.2.1 ≤ 100000 ∧ 0 ≤ x.2.2 ∧ x.2.2 ≤ 100 := by decide
  refine ⟨_, _, _, rfl, ?_, h _ (List.getElem_mem hi)⟩
  rw [List.getD_eq_getElem?_getD, List.getElem?_eq_getElem (l := shiftsL) hi]
  rfl

end Go.Proofs.Ytpidgcjioocmhaa.OrbPure
