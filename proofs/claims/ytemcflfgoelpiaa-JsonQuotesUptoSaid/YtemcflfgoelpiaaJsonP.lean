/- JSON in plain Lean: what the program's parser reads, over the bytes that are left. -/
import Derived.Test.YtemcflfgoelpiaaDecP
namespace Go.Proofs.Ytemcflfgoelpiaa.JsonP

/-- A value: its kind, its text, its keys, its kids. -/
inductive J where
  | mk (kind : Nat) (text : List UInt8) (keys : List (List UInt8)) (kids : List J)
/-- A reading's end: a value and the bytes behind it, or what is wrong. -/
inductive Res where
  | ok (j : J) (t : List UInt8)
  | bad (c : Nat)

def isBl (c : UInt8) : Bool := c = 32 ∨ c = 9 ∨ c = 10 ∨ c = 13
def blanks (l : List UInt8) : List UInt8 := l.dropWhile isBl
def want : List UInt8 → List UInt8 → Option (List UInt8)
  | [], l => some l
  | _ :: _, [] => none
  | x :: w, y :: l => if y = x then want w l else none
def isDg (c : UInt8) : Bool := 48 ≤ c ∧ c ≤ 57
def run : List UInt8 → Option (List UInt8)
  | [] => none
  | c :: t => if isDg c then some (t.dropWhile isDg) else none
/-- Behind the first byte, if it is such a one. -/
def has (p : UInt8 → Bool) : List UInt8 → Option (List UInt8)
  | [] => none
  | c :: t => if p c then some t else none
def opt (p : UInt8 → Bool) (l : List UInt8) : List UInt8 := (has p l).getD l
def isE (c : UInt8) : Bool := c = 101 ∨ c = 69
def isPm (c : UInt8) : Bool := c = 43 ∨ c = 45
def isMinus (c : UInt8) : Bool := c = 45
def isNought (c : UInt8) : Bool := c = 48
def isDot (c : UInt8) : Bool := c = 46
/-- A number's three parts. -/
def whole (l : List UInt8) : Option (List UInt8) := match has isNought l with
  | some t => some t
  | none => run l
def frac (l : List UInt8) : Option (List UInt8) := match has isDot l with
  | some t => run t
  | none => some l
def expo (l : List UInt8) : Option (List UInt8) := match has isE l with
  | some t => run (opt isPm t)
  | none => some l
/-- What is left behind a number. -/
def number (l : List UInt8) : Option (List UInt8) := (whole (opt isMinus l)).bind fun a => (frac a).bind expo

def hexd (c : UInt8) : Option Nat :=
  if 48 ≤ c ∧ c ≤ 57 then some (c.toNat - 48) else if 97 ≤ c ∧ c ≤ 102 then some (c.toNat - 87) else if 65 ≤ c ∧ c ≤ 70 then some (c.toNat - 55) else none
/-- So many digits more, behind the number n. -/
def hex : Nat → Nat → List UInt8 → Option (Nat × List UInt8)
  | 0, n, l => some (n, l)
  | _ + 1, _, [] => none
  | k + 1, n, c :: t => match hexd c with
    | some d => hex k (16 * n + d) t
    | none => none
/-- Behind the first of two units: the other one, if it is written here. -/
def second (a : Nat) (l : List UInt8) : Option (Nat × List UInt8) := match l with
  | 92 :: 117 :: t => match hex 4 0 t with
    | none => none
    | some (b, u) => if 56320 ≤ b ∧ b ≤ 57343 then some (65536 + (a - 55296) * 1024 + (b - 56320), u) else some (65533, l)
  | _ => some (65533, l)
def unit (l : List UInt8) : Option (Nat × List UInt8) := match hex 4 0 l with
  | none => none
  | some (a, t) => if a < 55296 ∨ 57343 < a then some (a, t) else if a < 56320 then second a t else some (65533, t)

/-- The bytes of a scalar. -/
def encB (r : Nat) : List UInt8 :=
  if r < 128 then [UInt8.ofNat r] else if r < 2048 then [UInt8.ofNat (192 + r / 64), UInt8.ofNat (128 + r % 64)]
  else if r < 65536 then [UInt8.ofNat (224 + r / 4096), UInt8.ofNat (128 + r / 64 % 64), UInt8.ofNat (128 + r % 64)]
  else [UInt8.ofNat (240 + r / 262144), UInt8.ofNat (128 + r / 4096 % 64), UInt8.ofNat (128 + r / 64 % 64), UInt8.ofNat (128 + r % 64)]
def short (c : UInt8) : Option UInt8 :=
  if c = 98 then some 8 else if c = 116 then some 9 else if c = 110 then some 10 else if c = 102 then some 12 else if c = 114 then some 13 else none
/-- Behind a stroke: the bytes that it tells, and what is left. -/
def esc : List UInt8 → Option (List UInt8 × List UInt8)
  | [] => none
  | c :: t => match short c with
    | some d => some ([d], t)
    | none => if c = 34 ∨ c = 92 ∨ c = 47 then some ([c], t) else if c = 117 then (unit t).map fun p => (encB p.1, p.2) else none
/-- Behind the first quote, with so many steps at most: the bytes that are told, and what is left. -/
def body : Nat → List UInt8 → List UInt8 → Option (List UInt8 × List UInt8)
  | 0, _, _ => none
  | _ + 1, _, [] => none
  | n + 1, out, c :: t =>
    if c < 32 then none else if c = 34 then some (out, t) else if c = 92 then (match esc t with
      | some (b, u) => body n (out ++ b) u
      | none => none) else body n (out ++ [c]) t
def text (l : List UInt8) : Option (List UInt8 × List UInt8) := (want [34] l).bind fun t => body (t.length + 1) [] t

def leaf (k : Nat) (l : Option (List UInt8)) : Res := match l with
  | some t => .ok (.mk k [] [] []) t
  | none => .bad 20
def isEnd (ob : Bool) (c : UInt8) : Bool := c = if ob then 125 else 93
/-- The key ahead of a kid, and what is left behind its colon. -/
def key (ob : Bool) (ks : List (List UInt8)) (l : List UInt8) : Option (List (List UInt8) × List UInt8) :=
  if ob then (text l).bind fun p => (want [58] (blanks p.2)).map fun t => (ks ++ [p.1], t) else some (ks, l)
mutual
/-- A value, with so many brackets around it (n: more than twice the bytes that are left). -/
def value : Nat → Nat → List UInt8 → Res
  | 0, _, _ => .bad 0
  | n + 1, deep, l => match blanks l with
    | [] => .bad 20
    | c :: t =>
      if c = 110 then leaf 0 (want [110, 117, 108, 108] (c :: t))
      else if c = 102 then leaf 1 (want [102, 97, 108, 115, 101] (c :: t))
      else if c = 116 then leaf 2 (want [116, 114, 117, 101] (c :: t))
      else if c = 34 then (match text (c :: t) with
        | some (s, u) => .ok (.mk 4 s [] []) u
        | none => .bad 20)
      else if c = 45 ∨ isDg c then (match number (c :: t) with
        | some u => .ok (.mk 3 ((c :: t).take ((c :: t).length - u.length)) [] []) u
        | none => .bad 20)
      else if c = 91 ∨ c = 123 then (if 32 ≤ deep then .bad 21 else match has (isEnd (c = 123)) (blanks t) with
        | some u => .ok (.mk (if c = 123 then 6 else 5) [] [] []) u
        | none => items n (c = 123) (deep + 1) [] [] t)
      else .bad 20
/-- The kids that are left, of a list or an object. -/
def items : Nat → Bool → Nat → List (List UInt8) → List J → List UInt8 → Res
  | 0, _, _, _, _, _ => .bad 0
  | n + 1, ob, deep, ks, js, l => match key ob ks (blanks l) with
    | none => .bad 20
    | some (ks', l1) => match value n deep l1 with
      | .bad c => .bad c
      | .ok j l2 => match has (isEnd ob) (blanks l2) with
        | some u => .ok (.mk (if ob then 6 else 5) [] ks' (js ++ [j])) u
        | none => match want [44] (blanks l2) with
          | none => .bad 20
          | some l3 => items n ob deep ks' (js ++ [j]) l3
end
/-- The value of a text, if it is one: all of it. -/
def parse (s : List UInt8) : Res := match value (2 * s.length + 2) 0 s with
  | .bad c => .bad c
  | .ok j t => if blanks t = [] then .ok j [] else .bad 20

theorem dw_len (p : UInt8 → Bool) (l : List UInt8) : (l.dropWhile p).length ≤ l.length := by
  induction l with
  | nil => exact Nat.le_refl _
  | cons c t ih =>
    rw [List.dropWhile_cons]
    split
    · exact Nat.le_succ_of_le ih
    · exact Nat.le_refl _
theorem blanks_len (l : List UInt8) : (blanks l).length ≤ l.length := dw_len _ _
theorem run_len {l u : List UInt8} (h : run l = some u) : u.length < l.length := by
  cases l with
  | nil => cases h
  | cons c t =>
    replace h : (if isDg c then some (t.dropWhile isDg) else none) = some u := h
    split at h
    · injection h with h; subst h; exact Nat.lt_succ_of_le (dw_len _ _)
    · cases h
theorem has_len {p : UInt8 → Bool} {l u : List UInt8} (h : has p l = some u) : u.length < l.length := by
  cases l with
  | nil => cases h
  | cons c t =>
    replace h : (if p c then some t else none) = some u := h
    split at h
    · injection h with h; subst h; exact Nat.lt_succ_self _
    · cases h
theorem opt_len (p : UInt8 → Bool) (l : List UInt8) : (opt p l).length ≤ l.length := by
  unfold opt
  cases h : has p l with
  | none => exact Nat.le_refl _
  | some t => exact Nat.le_of_lt (has_len h)
theorem whole_len {l u : List UInt8} (h : whole l = some u) : u.length < l.length := by
  unfold whole at h
  split at h
  · rename_i hh; injection h with h; subst h; exact has_len hh
  · exact run_len h
theorem frac_len {l u : List UInt8} (h : frac l = some u) : u.length ≤ l.length := by
  unfold frac at h
  split at h
  · rename_i hh; exact Nat.le_of_lt (Nat.lt_trans (run_len h) (has_len hh))
  · injection h with h; subst h; exact Nat.le_refl _
theorem expo_len {l u : List UInt8} (h : expo l = some u) : u.length ≤ l.length := by
  unfold expo at h
  split at h
  · rename_i t hh
    have := opt_len isPm t
    have := run_len h
    have := has_len hh
    omega
  · injection h with h; subst h; exact Nat.le_refl _
theorem number_len {l u : List UInt8} (h : number l = some u) : u.length < l.length := by
  unfold number at h
  cases h1 : whole (opt isMinus l) with
  | none => rw [h1] at h; cases h
  | some a =>
    rw [h1] at h
    replace h : (frac a).bind expo = some u := h
    cases h2 : frac a with
    | none => rw [h2] at h; cases h
    | some c =>
      rw [h2] at h
      replace h : expo c = some u := h
      have := whole_len h1
      have := opt_len isMinus l
      have := frac_len h2
      have := expo_len h
      omega

end Go.Proofs.Ytemcflfgoelpiaa.JsonP
