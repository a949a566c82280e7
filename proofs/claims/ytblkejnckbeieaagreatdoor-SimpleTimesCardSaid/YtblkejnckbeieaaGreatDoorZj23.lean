/- JSON in plain Lean: what the program's parser reads, over the bytes that are left.
  Laws of the plain parser: what it leaves is shorter.
  UTF-8, read and written, in plain Lean: what is read are scalars; what is written is read.
  Chapter 10: the walk of the parser's Parse, where the text is refused ahead of the parser. -/
import Derived.Test.YtblkejnckbeieaaGreatDoorZj20
import Derived.Test.YtblkejnckbeieaaGreatDoorZj22
import Derived.Test.YtblkejnckbeieaaGreatDoorZj10
namespace Go.Proofs.YtblkejnckbeieaaGreatDoor.JsonP

/-- A value: its kind, its text, its keys, its kids. -/
inductive J where
  | mk (kind : Nat) (text : List UInt8) (keys : List (List UInt8)) (kids : List J)
/-- A reading's end: a value and the bytes behind it, or what is wrong. -/
inductive Res where
  | ok (j : J) (t : List UInt8)
  | bad (c : Nat)

def isBl (c : UInt8) : Bool := c = 32 ∨ c = 9 ∨ c = 10 ∨ c = 13
def blanks (l : List UInt8) : List UInt8 := l.dropWhile isBl
def want : List UInt8 → List UInt8 → Option (List UInt8)
  | [], l => some l
  | _ :: _, [] => none
  | x :: w, y :: l => if y = x then want w l else none
def isDg (c : UInt8) : Bool := 48 ≤ c ∧ c ≤ 57
def run : List UInt8 → Option (List UInt8)
  | [] => none
  | c :: t => if isDg c then some (t.dropWhile isDg) else none
/-- Behind the first byte, if it is such a one. -/
def has (p : UInt8 → Bool) : List UInt8 → Option (List UInt8)
  | [] => none
  | c :: t => if p c then some t else none
def opt (p : UInt8 → Bool) (l : List UInt8) : List UInt8 := (has p l).getD l
def isE (c : UInt8) : Bool := c = 101 ∨ c = 69
def isPm (c : UInt8) : Bool := c = 43 ∨ c = 45
def isMinus (c : UInt8) : Bool := c = 45
def isNought (c : UInt8) : Bool := c = 48
def isDot (c : UInt8) : Bool := c = 46
/-- A number's three parts. -/
def whole (l : List UInt8) : Option (List UInt8) := match has isNought l with
  | some t => some t
  | none => run l
def frac (l : List UInt8) : Option (List UInt8) := match has isDot l with
  | some t => run t
  | none => some l
def expo (l : List UInt8) : Option (List UInt8) := match has isE l with
  | some t => run (opt isPm t)
  | none => some l
/-- What is left behind a number. -/
def number (l : List UInt8) : Option (List UInt8) := (whole (opt isMinus l)).bind fun a => (frac a).bind expo

def hexd (c : UInt8) : Option Nat :=
  if 48 ≤ c ∧ c ≤ 57 then some (c.toNat - 48) else if 97 ≤ c ∧ c ≤ 102 then some (c.toNat - 87) else if 65 ≤ c ∧ c ≤ 70 then some (c.toNat - 55) else none
/-- So many digits more, behind the number n. -/
def hex : Nat → Nat → List UInt8 → Option (Nat × List UInt8)
  | 0, n, l => some (n, l)
  | _ + 1, _, [] => none
  | k + 1, n, c :: t => match hexd c with
    | some d => hex k (16 * n + d) t
    | none => none
/-- Behind the first of two units: the other one, if it is written here. -/
def second (a : Nat) (l : List UInt8) : Option (Nat × List UInt8) := match l with
  | 92 :: 117 :: t => match hex 4 0 t with
    | none => none
    | some (b, u) => if 56320 ≤ b ∧ b ≤ 57343 then some (65536 + (a - 55296) * 1024 + (b - 56320), u) else some (65533, l)
  | _ => some (65533, l)
def unit (l : List UInt8) : Option (Nat × List UInt8) := match hex 4 0 l with
  | none => none
  | some (a, t) => if a < 55296 ∨ 57343 < a then some (a, t) else if a < 56320 then second a t else some (65533, t)

/-- The bytes of a scalar. -/
def encB (r : Nat) : List UInt8 :=
  if r < 128 then [UInt8.ofNat r] else if r < 2048 then [UInt8.ofNat (192 + r / 64), UInt8.ofNat (128 + r % 64)]
  else if r < 65536 then [UInt8.ofNat (224 + r / 4096), UInt8.ofNat (128 + r / 64 % 64), UInt8.ofNat (128 + r % 64)]
  else [UInt8.ofNat (240 + r / 262144), UInt8.ofNat (128 + r / 4096 % 64), UInt8.ofNat (128 + r / 64 % 64), UInt8.ofNat (128 + r % 64)]
def short (c : UInt8) : Option UInt8 :=
  if c = 98 then some 8 else if c = 116 then some 9 else if c = 110 then some 10 else if c = 102 then some 12 else if c = 114 then some 13 else none
/-- Behind a stroke: the bytes that it tells, and what is left. -/
def esc : List UInt8 → Option (List UInt8 × List UInt8)
  | [] => none
  | c :: t => match short c with
    | some d => some ([d], t)
    | none => if c = 34 ∨ c = 92 ∨ c = 47 then some ([c], t) else if c = 117 then (unit t).map fun p => (encB p.1, p.2) else none
/-- Behind the first quote, with so many steps at most: the bytes that are told, and what is left. -/
def body : Nat → List UInt8 → List UInt8 → Option (List UInt8 × List UInt8)
  | 0, _, _ => none
  | _ + 1, _, [] => none
  | n + 1, out, c :: t =>
    if c < 32 then none else if c = 34 then some (out, t) else if c = 92 then (match esc t with
      | some (b, u) => body n (out ++ b) u
      | none => none) else body n (out ++ [c]) t
def text (l : List UInt8) : Option (List UInt8 × List UInt8) := (want [34] l).bind fun t => body (t.length + 1) [] t

def leaf (k : Nat) (l : Option (List UInt8)) : Res := match l with
  | some t => .ok (.mk k [] [] []) t
  | none => .bad 20
def isEnd (ob : Bool) (c : UInt8) : Bool := c = if ob then 125 else 93
/-- The key ahead of a kid, and what is left behind its colon. -/
def key (ob : Bool) (ks : List (List UInt8)) (l : List UInt8) : Option (List (List UInt8) × List UInt8) :=
  if ob then (text l).bind fun p => (want [58] (blanks p.2)).map fun t => (ks ++ [p.1], t) else some (ks, l)
mutual
/-- A value, with so many brackets around it (n: more than twice the bytes that are left). -/
def value : Nat → Nat → List UInt8 → Res
  | 0, _, _ => .bad 0
  | n + 1, deep, l => match blanks l with
    | [] => .bad 20
    | c :: t =>
      if c = 110 then leaf 0 (want [110, 117, 108, 108] (c :: t))
      else if c = 102 then leaf 1 (want [102, 97, 108, 115, 101] (c :: t))
      else if c = 116 then leaf 2 (want [116, 114, 117, 101] (c :: t))
      else if c = 34 then (match text (c :: t) with
        | some (s, u) => .ok (.mk 4 s [] []) u
        | none => .bad 20)
      else if c = 45 ∨ isDg c then (match number (c :: t) with
        | some u => .ok (.mk 3 ((c :: t).take ((c :: t).length - u.length)) [] []) u
        | none => .bad 20)
      else if c = 91 ∨ c = 123 then (if 32 ≤ deep then .bad 21 else match has (isEnd (c = 123)) (blanks t) with
        | some u => .ok (.mk (if c = 123 then 6 else 5) [] [] []) u
        | none => items n (c = 123) (deep + 1) [] [] t)
      else .bad 20
/-- The kids that are left, of a list or an object. -/
def items : Nat → Bool → Nat → List (List UInt8) → List J → List UInt8 → Res
  | 0, _, _, _, _, _ => .bad 0
  | n + 1, ob, deep, ks, js, l => match key ob ks (blanks l) with
    | none => .bad 20
    | some (ks', l1) => match value n deep l1 with
      | .bad c => .bad c
      | .ok j l2 => match has (isEnd ob) (blanks l2) with
        | some u => .ok (.mk (if ob then 6 else 5) [] ks' (js ++ [j])) u
        | none => match want [44] (blanks l2) with
          | none => .bad 20
          | some l3 => items n ob deep ks' (js ++ [j]) l3
end
/-- The value of a text, if it is one: all of it. -/
def parse (s : List UInt8) : Res := match value (2 * s.length + 2) 0 s with
  | .bad c => .bad c
  | .ok j t => if blanks t = [] then .ok j [] else .bad 20

theorem dw_len (p : UInt8 → Bool) (l : List UInt8) : (l.dropWhile p).length ≤ l.length := by
  induction l with
  | nil => exact Nat.le_refl _
  | cons c t ih =>
    rw [List.dropWhile_cons]
    split
    · exact Nat.le_succ_of_le ih
    · exact Nat.le_refl _
theorem blanks_len (l : List UInt8) : (blanks l).length ≤ l.length := dw_len _ _
theorem run_len {l u : List UInt8} (h : run l = some u) : u.length < l.length := by
  cases l with
  | nil => cases h
  | cons c t =>
    replace h : (if isDg c then some (t.dropWhile isDg) else none) = some u := h
    split at h
    · injection h with h; subst h; exact Nat.lt_succ_of_le (dw_len _ _)
    · cases h
theorem has_len {p : UInt8 → Bool} {l u : List UInt8} (h : has p l = some u) : u.length < l.length := by
  cases l with
  | nil => cases h
  | cons c t =>
    replace h : (if p c then some t else none) = some u := h
    split at h
    · injection h with h; subst h; exact Nat.lt_succ_self _
    · cases h
theorem opt_len (p : UInt8 → Bool) (l : List UInt8) : (opt p l).length ≤ l.length := by
  unfold opt
  cases h : has p l with
  | none => exact Nat.le_refl _
  | some t => exact Nat.le_of_lt (has_len h)
theorem whole_len {l u : List UInt8} (h : whole l = some u) : u.length < l.length := by
  unfold whole at h
  split at h
  · rename_i hh; injection h with h; subst h; exact has_len hh
  · exact run_len h
theorem frac_len {l u : List UInt8} (h : frac l = some u) : u.length ≤ l.length := by
  unfold frac at h
  split at h
  · rename_i hh; exact Nat.le_of_lt (Nat.lt_trans (run_len h) (has_len hh))
  · injection h with h; subst h; exact Nat.le_refl _
theorem expo_len {l u : List UInt8} (h : expo l = some u) : u.length ≤ l.length := by
  unfold expo at h
  split at h
  · rename_i t hh
    have := opt_len isPm t
    have := run_len h
    have := has_len hh
    omega
  · injection h with h; subst h; exact Nat.le_refl _
theorem number_len {l u : List UInt8} (h : number l = some u) : u.length < l.length := by
  unfold number at h
  cases h1 : whole (opt isMinus l) with
  | none => rw [h1] at h; cases h
  | some a =>
    rw [h1] at h
    replace h : (frac a).bind expo = some u := h
    cases h2 : frac a with
    | none => rw [h2] at h; cases h
    | some c =>
      rw [h2] at h
      replace h : expo c = some u := h
      have := whole_len h1
      have := opt_len isMinus l
      have := frac_len h2
      have := expo_len h
      omega

end Go.Proofs.YtblkejnckbeieaaGreatDoor.JsonP

namespace Go.Proofs.YtblkejnckbeieaaGreatDoor.JsonP

theorem want_len {w l u : List UInt8} (h : want w l = some u) : u.length + w.length = l.length := by
  induction w generalizing l with
  | nil => injection h with h; subst h; rfl
  | cons x w ih =>
    cases l with
    | nil => cases h
    | cons y l =>
      replace h : (if y = x then want w l else none) = some u := h
      split at h
      · have := ih h; rw [List.length_cons, List.length_cons]; omega
      · cases h
theorem hex_len {k n : Nat} {t u : List UInt8} {a : Nat} (h : hex k n t = some (a, u)) : u.length + k = t.length := by
  induction k generalizing n t with
  | zero => injection h with h; injection h with _ h; subst h; rfl
  | succ k ih =>
    cases t with
    | nil => cases h
    | cons c t =>
      replace h : (match hexd c with | some d => hex k (16 * n + d) t | none => none) = some (a, u) := h
      cases hd1 : hexd c with
      | none => rw [hd1] at h; cases h
      | some d => rw [hd1] at h; have := ih h; rw [List.length_cons]; omega
theorem unit_len {l u : List UInt8} {a : Nat} (h : unit l = some (a, u)) : u.length + 4 ≤ l.length := by
  unfold unit at h
  split at h
  · cases h
  · rename_i x t hx
    have hb := hex_len hx
    split at h
    · injection h with h; injection h with _ h; subst h; omega
    · split at h
      · unfold second at h
        split at h
        · rename_i t2
          split at h
          · cases h
          · rename_i d v hd
            have hb2 := hex_len hd
            simp only [List.length_cons] at hb
            split at h
            · injection h with h; injection h with _ h; subst h; omega
            · injection h with h; injection h with _ h; subst h; simp only [List.length_cons]; omega
        · injection h with h; injection h with _ h; subst h; omega
      · injection h with h; injection h with _ h; subst h; omega
theorem esc_len {l b u : List UInt8} (h : esc l = some (b, u)) : u.length < l.length := by
  cases l with
  | nil => cases h
  | cons c t =>
    unfold esc at h
    split at h
    · cases h
    · rename_i c' t' hcons
      injection hcons with h1 h2
      subst h1; subst h2
      split at h
      · injection h with h; injection h with _ h; subst h; exact Nat.lt_succ_self _
      · split at h
        · injection h with h; injection h with _ h; subst h; exact Nat.lt_succ_self _
        · split at h
          · cases hu : unit t with
            | none => rw [hu] at h; cases h
            | some p =>
              rw [hu] at h
              replace h : some (encB p.1, p.2) = some (b, u) := h
              injection h with h; injection h with _ h; subst h
              have := unit_len (a := p.1) (u := p.2) hu
              rw [List.length_cons]; omega
          · cases h
theorem body_len {n : Nat} {out l r u : List UInt8} (h : body n out l = some (r, u)) : u.length < l.length := by
  induction n generalizing out l with
  | zero => cases h
  | succ n ih =>
    cases l with
    | nil => cases h
    | cons c t =>
      replace h : (if c < 32 then none else if c = 34 then some (out, t) else if c = 92 then (match esc t with
        | some (b, u) => body n (out ++ b) u
        | none => none) else body n (out ++ [c]) t) = some (r, u) := h
      split at h
      · cases h
      · split at h
        · injection h with h; injection h with _ h; subst h; exact Nat.lt_succ_self _
        · split at h
          · cases he : esc t with
            | none => rw [he] at h; cases h
            | some p =>
              obtain ⟨b, v⟩ := p
              rw [he] at h
              have := ih h
              have := esc_len he
              rw [List.length_cons]; omega
          · have := ih h; rw [List.length_cons]; omega
theorem text_len {l s u : List UInt8} (h : text l = some (s, u)) : u.length + 1 < l.length := by
  unfold text at h
  cases hw : want [34] l with
  | none => rw [hw] at h; cases h
  | some t =>
    rw [hw] at h
    have h1 := want_len hw
    have h2 := body_len (n := t.length + 1) (out := []) h
    simp only [List.length_cons, List.length_nil] at h1
    omega
theorem key_len {ob : Bool} {ks ks' : List (List UInt8)} {l u : List UInt8} (h : key ob ks l = some (ks', u)) : u.length ≤ l.length := by
  unfold key at h
  split at h
  · cases ht : text l with
    | none => rw [ht] at h; cases h
    | some p =>
      rw [ht] at h
      replace h : (want [58] (blanks p.2)).map (fun t => (ks ++ [p.1], t)) = some (ks', u) := h
      cases hw : want [58] (blanks p.2) with
      | none => rw [hw] at h; cases h
      | some v =>
        rw [hw] at h
        replace h : some (ks ++ [p.1], v) = some (ks', u) := h
        injection h with h; injection h with _ h; subst h
        have := text_len (s := p.1) (u := p.2) ht
        have := want_len hw
        have := blanks_len p.2
        simp only [List.length_cons, List.length_nil] at *
        omega
  · injection h with h; injection h with _ h; subst h; exact Nat.le_refl _
theorem leaf_len {k : Nat} {o : Option (List UInt8)} {j : J} {u : List UInt8} (h : leaf k o = .ok j u) : o = some u := by
  cases o with
  | none => cases h
  | some t => unfold leaf at h; injection h with _ h; rw [h]
theorem value_items_len (n : Nat) : (∀ deep l j u, value n deep l = .ok j u → u.length < l.length) ∧ (∀ ob deep ks js l j u, items n ob deep ks js l = .ok j u → u.length < l.length) := by
  induction n with
  | zero => exact ⟨fun _ _ _ _ h => by simp [value] at h, fun _ _ _ _ _ _ _ h => by simp [items] at h⟩
  | succ n ih =>
    refine ⟨fun deep l j u h => ?_, fun ob deep ks js l j u h => ?_⟩
    · unfold value at h
      have hb := blanks_len l
      split at h
      · cases h
      · rename_i c t hbl
        rw [hbl] at hb
        have go : u.length < (c :: t).length := by
          split at h
          · have := want_len (leaf_len h); simp only [List.length_cons, List.length_nil] at *; omega
          · split at h
            · have := want_len (leaf_len h); simp only [List.length_cons, List.length_nil] at *; omega
            · split at h
              · have := want_len (leaf_len h); simp only [List.length_cons, List.length_nil] at *; omega
              · split at h
                · split at h
                  · rename_i s v ht
                    injection h with _ h; subst h
                    have := text_len ht; omega
                  · cases h
                · split at h
                  · split at h
                    · rename_i v ht
                      injection h with _ h; subst h
                      exact number_len ht
                    · cases h
                  · split at h
                    · split at h
                      · cases h
                      · split at h
                        · rename_i v hh
                          injection h with _ h; subst h
                          have := has_len hh
                          have := blanks_len t
                          rw [List.length_cons]; omega
                        · have := ih.2 _ _ _ _ _ _ _ h
                          rw [List.length_cons]; omega
                    · cases h
        omega
    · unfold items at h
      have hb := blanks_len l
      split at h
      · cases h
      · rename_i ks' l1 hk
        have h1 := key_len hk
        split at h
        · cases h
        · rename_i j2 l2 hv
          have h2 := ih.1 _ _ _ _ hv
          have h3 := blanks_len l2
          split at h
          · rename_i v hh
            injection h with _ h; subst h
            have := has_len hh
            omega
          · split at h
            · cases h
            · rename_i l3 hw
              have h4 := want_len hw
              have := ih.2 _ _ _ _ _ _ _ h
              simp only [List.length_cons, List.length_nil] at h4
              omega
theorem value_len {n deep : Nat} {l u : List UInt8} {j : J} (h : value n deep l = .ok j u) : u.length < l.length := (value_items_len n).1 _ _ _ _ h

end Go.Proofs.YtblkejnckbeieaaGreatDoor.JsonP

namespace Go.Proofs.YtblkejnckbeieaaGreatDoor.DecP
open JsonP (encB)

def Scalar (r : Int) : Prop := 0 ≤ r ∧ r ≤ 1114111 ∧ (r < 55296 ∨ 57343 < r)
theorem go0 (k : Nat) (v lo hi : Int) (t : List UInt8) : go 0 k v lo hi t = (v, k) := rfl
theorem go_step {m k : Nat} {v lo hi : Int} {t : List UInt8} (h : 0 ≤ (go (m + 1) k v lo hi t).1) : ∃ x u, t = x :: u ∧ lo ≤ (x.toNat : Int) ∧ (x.toNat : Int) ≤ hi ∧ go (m + 1) k v lo hi t = go m (k + 1) (64 * v + ((x.toNat : Int) - 128)) 128 191 u := by
  cases t with
  | nil => exact absurd h (by show ¬ (0 : Int) ≤ -1; decide)
  | cons x u =>
    rw [go_cons] at h ⊢
    split at h
    · exact absurd h (by show ¬ (0 : Int) ≤ -1; decide)
    · rename_i hc
      exact ⟨x, u, rfl, by omega, by omega, by rw [if_neg hc]⟩
theorem one_scalar {s : List UInt8} (h : 0 ≤ (one s).1) : Scalar (one s).1 := by
  cases s with
  | nil => exact absurd h (by show ¬ (0 : Int) ≤ -1; decide)
  | cons c t =>
    rw [one_cons] at h ⊢
    obtain ⟨b, hb⟩ : ∃ b : Int, (c.toNat : Int) = b := ⟨_, rfl⟩
    rw [hb] at h ⊢
    have hb0 : 0 ≤ b := by omega
    split at h
    · rename_i h1; rw [if_pos h1]; exact ⟨by show 0 ≤ b; omega, by show b ≤ _; omega, .inl (by show b < _; omega)⟩
    · rename_i h1
      rw [if_neg h1]
      split at h
      · exact absurd h (by show ¬ (0 : Int) ≤ -1; decide)
      · rename_i h2
        rw [if_neg h2]
        by_cases c1 : b < 224
        · have hm : more b = 1 := by unfold more; rw [if_pos c1]
          have hv : bits b = b - 192 := by unfold bits; rw [if_pos c1]
          rw [hm, hv] at h ⊢
          have hlo : 128 ≤ least b := by unfold least; repeat' split <;> omega
          have hhi : most b ≤ 191 := by unfold most; repeat' split <;> omega
          obtain ⟨x, u, rfl, h3, h4, h5⟩ := go_step h
          rw [h5, go0]
          unfold Scalar
          simp only
          omega
        · by_cases c2 : b < 240
          · have hm : more b = 2 := by unfold more; rw [if_neg c1, if_pos c2]
            have hv : bits b = b - 224 := by unfold bits; rw [if_neg c1, if_pos c2]
            rw [hm, hv] at h ⊢
            obtain ⟨x, u, rfl, h3, h4, h5⟩ := go_step h
            rw [h5] at h ⊢
            obtain ⟨y, u2, rfl, h6, h7, h8⟩ := go_step h
            rw [h8, go0]
            unfold Scalar
            simp only
            have hlo : 128 ≤ least b ∧ (b = 224 → least b = 160) := by unfold least; constructor <;> (repeat' split) <;> omega
            have hhi : most b ≤ 191 ∧ (b = 237 → most b = 159) := by unfold most; constructor <;> (repeat' split) <;> omega
            omega
          · have hm : more b = 3 := by unfold more; rw [if_neg c1, if_neg c2]
            have hv : bits b = b - 240 := by unfold bits; rw [if_neg c1, if_neg c2]
            rw [hm, hv] at h ⊢
            obtain ⟨x, u, rfl, h3, h4, h5⟩ := go_step h
            rw [h5] at h ⊢
            obtain ⟨y, u2, rfl, h6, h7, h8⟩ := go_step h
            rw [h8] at h ⊢
            obtain ⟨z, u3, rfl, h9, h10, h11⟩ := go_step h
            rw [h11, go0]
            unfold Scalar
            simp only
            have hlo : 128 ≤ least b ∧ (b = 240 → least b = 144) := by unfold least; constructor <;> (repeat' split) <;> omega
            have hhi : most b ≤ 191 ∧ (b = 244 → most b = 143) := by unfold most; constructor <;> (repeat' split) <;> omega
            omega
theorem rune_scalar (s : List UInt8) : Scalar (rune (one s)) := by
  unfold rune
  split
  · exact ⟨by decide, by decide, by decide⟩
  · exact one_scalar (by omega)
theorem runes_scalar (s : List UInt8) : ∀ r ∈ runes s, Scalar r := by
  intro r hr
  unfold runes at hr
  rw [List.mem_map] at hr
  obtain ⟨p, hp, rfl⟩ := hr
  have key : ∀ n, ∀ s : List UInt8, s.length ≤ n → ∀ p ∈ all s, Scalar (rune p) := by
    intro n
    induction n with
    | zero =>
      intro s hs p hp
      have : s = [] := List.eq_nil_of_length_eq_zero (by omega)
      subst this
      rw [all_nil] at hp; cases hp
    | succ n ih =>
      intro s hs p hp
      by_cases he : s = []
      · subst he; rw [all_nil] at hp; cases hp
      · rw [all_cons he] at hp
        rcases List.mem_cons.1 hp with rfl | hp
        · exact rune_scalar s
        · have := one_pos s he
          exact ih _ (by rw [List.length_drop]; omega) p hp
  exact key _ s (Nat.le_refl _) p hp

theorem runes_len (s : List UInt8) : (runes s).length ≤ s.length := by
  have key : ∀ n, ∀ s : List UInt8, s.length ≤ n → (runes s).length ≤ s.length := by
    intro n
    induction n with
    | zero =>
      intro s hs
      have : s = [] := List.eq_nil_of_length_eq_zero (by omega)
      subst this
      rw [runes_nil]; exact Nat.le_refl _
    | succ n ih =>
      intro s hs
      by_cases he : s = []
      · subst he; rw [runes_nil]; exact Nat.le_refl _
      · have h1 := one_pos s he
        have h2 := ih (s.drop (one s).2) (by rw [List.length_drop]; omega)
        rw [List.length_drop] at h2
        rw [runes_cons he, List.length_cons]
        omega
  exact key _ s (Nat.le_refl _)
theorem u8 {n : Nat} (h : n < 256) : ((UInt8.ofNat n).toNat : Int) = n := by rw [UInt8.toNat_ofNat_of_lt' (by simpa [UInt8.size] using h)]
/-- What is written is read. -/
theorem one_enc (r : Nat) (hr : Scalar r) (t : List UInt8) : one (encB r ++ t) = ((r : Int), (encB r).length) := by
  unfold Scalar at hr
  unfold JsonP.encB
  by_cases c1 : r < 128
  · rw [if_pos c1]
    show one (UInt8.ofNat r :: t) = _
    rw [one_cons, u8 (by omega), if_pos (by omega)]
    rfl
  · rw [if_neg c1]
    by_cases c2 : r < 2048
    · rw [if_pos c2]
      show one (UInt8.ofNat _ :: UInt8.ofNat _ :: t) = _
      rw [one_cons, u8 (show 192 + r / 64 < 256 by omega), if_neg (by omega), if_neg (by omega)]
      have hm : more ((192 + r / 64 : Nat) : Int) = 1 := by unfold more; rw [if_pos (by omega)]
      have hv : bits ((192 + r / 64 : Nat) : Int) = (r / 64 : Nat) := by unfold bits; rw [if_pos (by omega)]; omega
      have hlo : least ((192 + r / 64 : Nat) : Int) = 128 := by unfold least; rw [if_neg (by omega), if_neg (by omega)]
      have hhi : most ((192 + r / 64 : Nat) : Int) = 191 := by unfold most; rw [if_neg (by omega), if_neg (by omega)]
      rw [hm, hv, hlo, hhi, go_cons, u8 (show 128 + r % 64 < 256 by omega), if_neg (by omega), go0]
      simp only [List.length_cons, List.length_nil, Prod.mk.injEq, and_true]
      omega
    · rw [if_neg c2]
      by_cases c3 : r < 65536
      · rw [if_pos c3]
        show one (UInt8.ofNat _ :: UInt8.ofNat _ :: UInt8.ofNat _ :: t) = _
        rw [one_cons, u8 (show 224 + r / 4096 < 256 by omega), if_neg (by omega), if_neg (by omega)]
        have hm : more ((224 + r / 4096 : Nat) : Int) = 2 := by unfold more; rw [if_neg (by omega), if_pos (by omega)]
        have hv : bits ((224 + r / 4096 : Nat) : Int) = (r / 4096 : Nat) := by unfold bits; rw [if_neg (by omega), if_pos (by omega)]; omega
        have hlo : least ((224 + r / 4096 : Nat) : Int) ≤ ((128 + r / 64 % 64 : Nat) : Int) := by unfold least; repeat' split <;> omega
        have hhi : ((128 + r / 64 % 64 : Nat) : Int) ≤ most ((224 + r / 4096 : Nat) : Int) := by unfold most; repeat' split <;> omega
        rw [hm, hv, go_cons, u8 (show 128 + r / 64 % 64 < 256 by omega), if_neg (by omega), go_cons, u8 (show 128 + r % 64 < 256 by omega), if_neg (by omega), go0]
        simp only [List.length_cons, List.length_nil, Prod.mk.injEq, and_true]
        omega
      · rw [if_neg c3]
        show one (UInt8.ofNat _ :: UInt8.ofNat _ :: UInt8.ofNat _ :: UInt8.ofNat _ :: t) = _
        rw [one_cons, u8 (show 240 + r / 262144 < 256 by omega), if_neg (by omega), if_neg (by omega)]
        have hm : more ((240 + r / 262144 : Nat) : Int) = 3 := by unfold more; rw [if_neg (by omega), if_neg (by omega)]
        have hv : bits ((240 + r / 262144 : Nat) : Int) = (r / 262144 : Nat) := by unfold bits; rw [if_neg (by omega), if_neg (by omega)]; omega
        have hlo : least ((240 + r / 262144 : Nat) : Int) ≤ ((128 + r / 4096 % 64 : Nat) : Int) := by unfold least; repeat' split <;> omega
        have hhi : ((128 + r / 4096 % 64 : Nat) : Int) ≤ most ((240 + r / 262144 : Nat) : Int) := by unfold most; repeat' split <;> omega
        rw [hm, hv, go_cons, u8 (show 128 + r / 4096 % 64 < 256 by omega), if_neg (by omega), go_cons, u8 (show 128 + r / 64 % 64 < 256 by omega), if_neg (by omega), go_cons, u8 (show 128 + r % 64 < 256 by omega), if_neg (by omega), go0]
        simp only [List.length_cons, List.length_nil, Prod.mk.injEq, and_true]
        omega
theorem encB_pos (r : Nat) : 0 < (encB r).length := by unfold JsonP.encB; repeat' (split <;> try simp)
theorem encB_ne (r : Nat) (t : List UInt8) : encB r ++ t ≠ [] := by
  intro h
  have := congrArg List.length h
  rw [List.length_append] at this
  have := encB_pos r
  rw [List.length_nil] at *
  omega
def encs (rs : List Int) : List UInt8 := rs.flatMap fun r => encB r.toNat
theorem runes_one {r : Int} (hr : Scalar r) (t : List UInt8) : runes (encB r.toNat ++ t) = r :: runes t := by
  obtain ⟨n, rfl⟩ : ∃ n : Nat, r = n := ⟨r.toNat, by have := hr.1; omega⟩
  rw [Int.toNat_natCast, runes_cons (encB_ne n t), one_enc n hr t, List.drop_left]
  show rune _ :: _ = _
  rw [show rune ((n : Int), (encB n).length) = n by unfold rune; rw [if_neg (by simp only; omega)]]
theorem runes_encs (rs : List Int) (h : ∀ r ∈ rs, Scalar r) (t : List UInt8) : runes (encs rs ++ t) = rs ++ runes t := by
  induction rs with
  | nil => rfl
  | cons r rs ih =>
    show runes ((encB r.toNat ++ encs rs) ++ t) = _
    rw [List.append_assoc, runes_one (h r List.mem_cons_self), ih (fun x hx => h x (List.mem_cons_of_mem _ hx))]
    rfl
theorem badAt_one {r : Int} (hr : Scalar r) (t : List UInt8) (i : Nat) : badAt (encB r.toNat ++ t) i = badAt t (i + (encB r.toNat).length) := by
  obtain ⟨n, rfl⟩ : ∃ n : Nat, r = n := ⟨r.toNat, by have := hr.1; omega⟩
  rw [Int.toNat_natCast]
  have ho := one_enc n hr t
  rw [badAt_good (encB_ne n t) (by rw [ho]; simp only; omega), ho, List.drop_left]
theorem badAt_shift (s : List UInt8) (i j : Nat) : badAt s i = none → badAt s j = none := by
  have key : ∀ n, ∀ s : List UInt8, s.length ≤ n → ∀ i j, badAt s i = none → badAt s j = none := by
    intro n
    induction n with
    | zero =>
      intro s hs i j h
      have : s = [] := List.eq_nil_of_length_eq_zero (by omega)
      subst this
      exact badAt_nil j
    | succ n ih =>
      intro s hs i j h
      by_cases he : s = []
      · subst he; exact badAt_nil j
      · by_cases hb : (one s).1 < 0
        · rw [badAt_bad he hb] at h; cases h
        · rw [badAt_good he hb] at h ⊢
          have := one_pos s he
          exact ih _ (by rw [List.length_drop]; omega) _ _ h
  exact key _ s (Nat.le_refl _) i j
theorem badAt_ascii {c : UInt8} (t : List UInt8) (i : Nat) (h : c.toNat < 128) : badAt (c :: t) i = badAt t (i + 1) := by
  have ho := one_ascii t h
  rw [badAt_good (List.cons_ne_nil _ _) (by rw [ho]; simp only; omega), ho]
  rfl
theorem runes_ascii {c : UInt8} (t : List UInt8) (h : c.toNat < 128) : runes (c :: t) = (c.toNat : Int) :: runes t := by
  rw [runes_cons (List.cons_ne_nil _ _), one_ascii t h]
  show rune _ :: _ = _
  rw [show rune ((c.toNat : Int), 1) = c.toNat by unfold rune; rw [if_neg (by simp only; omega)]]
  rfl

end Go.Proofs.YtblkejnckbeieaaGreatDoor.DecP

namespace Go.Proofs.YtblkejnckbeieaaGreatDoor
open Go.RowKit

/-- What Parse tells of a text: what is wrong, and where; or a tree and the groups' names. -/
inductive PRes where
  | bad (code at_ : Int)
  | ok (nd : SynP.Nd) (names : List (List UInt8))
/-- The text's bytes behind a mark. -/
def patB (d : ByteArray) : List UInt8 := d.data.toList.drop (markN d)
def patRs (d : ByteArray) : List Int := DecP.runes (patB d)
def patPl (d : ByteArray) : List Int := DecP.places (patB d) (markN d) ++ [(d.size : Int)]
def resR (d : ByteArray) : SynP.R (Option SynP.Nd × SynP.St) → PRes
  | .bad c k => .bad c ((patPl d).getD k 0)
  | .ok (some nd, s) => .ok nd s.names
  | .ok (none, _) => .bad 0 0
def parseT (d : ByteArray) (f : SynP.Fl) : PRes :=
  if 1024 < d.size then .bad 2 0
  else match DecP.badAt (patB d) (markN d) with
    | some p => .bad 17 p
    | none => resR d (SynP.parse (patRs d) clsT perlT f)
def PatEnd (w : World) : PRes → Ending → World → Prop
  | .ok nd ns, e, w' => Below w.heap.size w w' ∧ ∃ (r : RawN) (A : Option Addr) (c : Nat), e = .returned (.tuple #[.agg (r.cells ++ [Value.slice A ns.length c]).toArray, .agg #[.int .i64 0, .int .i64 0]]) ∧ Lies w' (fun k => w.heap.size ≤ k) nd r ∧ SeqAt Estr w' w'.heap.size A (ns.map str) ∧ ns.length ≤ c ∧ c ≤ maxLen
  | .bad c p, e, w' => Below w.heap.size w w' ∧ e = .returned (.tuple #[.agg zeroP, .agg #[.int .i64 c, .int .i64 p]])

theorem decode_pat (d : ByteArray) (w : World) (hd : d.size ≤ 1024) : Calls Tryz.prog 29 #[.string d, .int .i64 1, .bool true] w fun e w' => Below w.heap.size w w' ∧
    match DecP.badAt (patB d) (markN d) with
    | some p => e = .returned (.tuple #[.agg #[.int .i64 0, .slice none 0 0, .slice none 0 0, .int .i64 0], .agg #[.int .i64 17, .int .i64 p]])
    | none => ∃ Ar cr Ap cp bad, e = .returned (.tuple #[.agg #[.int .i64 1, .slice Ar (patRs d).length cr, .slice Ap (patPl d).length cp, .int .i64 bad], .agg #[.int .i64 0, .int .i64 0]]) ∧ SeqAt Eint w' w'.heap.size Ar (patRs d) ∧ SeqAt Eint w' w'.heap.size Ap (patPl d) ∧ (∀ k, (Value.slice Ar (patRs d).length cr).ownBlock = some k → w.heap.size ≤ k) ∧ (∀ k, (Value.slice Ap (patPl d).length cp).ownBlock = some k → w.heap.size ≤ k) := by
  refine (decode_all d true w (by omega)).mono fun e w' h => ?_
  unfold DecEndK badS at h
  simp only [if_true] at h
  refine ⟨h.1, ?_⟩
  have h2 := h.2
  unfold patB
  cases hb : DecP.badAt (List.drop (markN d) d.data.toList) (markN d) with
  | some p => rw [hb] at h2; exact h2
  | none =>
    rw [hb] at h2
    obtain ⟨Ar, nr, cr, Ap, np, cp, bad, rfl, h3, h4⟩ := h2
    have o3 : OwnB Eint 3 w.heap.size w' (.slice Ar nr cr) (patRs d) := ⟨h3.1, h3.2.size⟩
    have o4 : OwnB Eint 3 w.heap.size w' (.slice Ap np cp) (patPl d) := ⟨h4.1, h4.2.size⟩
    obtain ⟨A1, c1, e1, _, _⟩ := o3.form
    obtain ⟨A2, c2, e2, _, _⟩ := o4.form
    injection e1 with a1 a2 a3
    injection e2 with b1 b2 b3
    subst a1; subst a2; subst a3; subst b1; subst b2; subst b3
    exact ⟨Ar, cr, Ap, cp, bad, rfl, o3.seq, o4.seq, fun k hk => (o3.lt k hk).1, fun k hk => (o4.lt k hk).1⟩

/-- What Parse holds: its flags' box, its two results' blocks. -/
structure ParS (w wr : World) (N : Nat) (v t : Array Value) (f : SynP.Fl) : Prop where
  hN : w.heap.size = N
  bel : Below N w wr
  flg : wr.heap[N]? = some (.cells (flA f) 39)
  val : wr.heap[N + 1]? = some (.cells v 32)
  flt : wr.heap[N + 1 + 1]? = some (.cells t 35)
section
variable {w wr wx : World} {N : Nat} {v t : Array Value} {f : SynP.Fl}
theorem ParS.start (hN : w.heap.size = N) : ParS w (((w.alloc (.cells (flA f) 39)).alloc (.cells zeroP 32)).alloc (.cells #[.int .i64 0, .int .i64 0] 35)) N zeroP #[.int .i64 0, .int .i64 0] f := by
  subst hN
  refine ⟨rfl, (((Below.refl _ w).alloc (Nat.le_refl _) _).alloc (by simp) _).alloc (by simp; omega) _, ?_, ?_, ?_⟩
  · exact (Below.heap_alloc _ _ _ (by simp; omega)).trans ((Below.heap_alloc _ _ _ (by simp)).trans (heap_alloc_new w _))
  · have := heap_alloc_new (w.alloc (.cells (flA f) 39)) (.cells zeroP 32)
    rw [World.size_alloc] at this
    exact (Below.heap_alloc _ _ _ (by simp)).trans this
  · have := heap_alloc_new ((w.alloc (.cells (flA f) 39)).alloc (.cells zeroP 32)) (.cells #[.int .i64 0, .int .i64 0] 35)
    rw [World.size_alloc, World.size_alloc] at this
    exact this
theorem ParS.lt (h : ParS w wr N v t f) : N + 1 + 1 < wr.heap.size := (Array.getElem?_eq_some_iff.1 h.flt).1
theorem ParS.below (h : ParS w wr N v t f) (k : Below wr.heap.size wr wx) : ParS w wx N v t f := by
  have := h.lt
  exact ⟨h.hN, h.bel.trans (k.mono (by omega)), (k.block N (by omega)).trans h.flg, (k.block (N + 1) (by omega)).trans h.val, (k.block (N + 1 + 1) (by omega)).trans h.flt⟩
/-- A step that turns nothing below a bound behind the blocks. -/
theorem ParS.on {B : Nat} (h : ParS w wr N v t f) (k : Below B wr wx) (hB : N + 1 + 1 < B) : ParS w wx N v t f :=
  ⟨h.hN, h.bel.trans (k.mono (by omega)), (k.block N (by omega)).trans h.flg, (k.block (N + 1) (by omega)).trans h.val, (k.block (N + 1 + 1) (by omega)).trans h.flt⟩
theorem ParS.setT (h : ParS w wr N v t f) (o : Nat) (u : Value) : ParS w (wr.setCell ⟨N + 1 + 1, o, none⟩ u) N v (t.setIfInBounds o u) f := by
  refine ⟨h.hN, h.bel.setCell (p := ⟨N + 1 + 1, o, none⟩) (by show N ≤ N + 1 + 1; omega) _, (Below.heap_setCell _ ⟨N + 1 + 1, o, none⟩ _ _ (by show ¬ N = N + 1 + 1; omega)).trans h.flg, (Below.heap_setCell _ ⟨N + 1 + 1, o, none⟩ _ _ (by show ¬ N + 1 = N + 1 + 1; omega)).trans h.val, ?_⟩
  simp only [World.setCell, Array.getElem?_modify, if_true, h.flt, Option.map_some]
  rfl
theorem ParS.setV (h : ParS w wr N v t f) (o : Nat) (u : Value) : ParS w (wr.setCell ⟨N + 1, o, none⟩ u) N (v.setIfInBounds o u) t f := by
  refine ⟨h.hN, h.bel.setCell (p := ⟨N + 1, o, none⟩) (by show N ≤ N + 1; omega) _, (Below.heap_setCell _ ⟨N + 1, o, none⟩ _ _ (by show ¬ N = N + 1; omega)).trans h.flg, ?_, (Below.heap_setCell _ ⟨N + 1, o, none⟩ _ _ (by show ¬ N + 1 + 1 = N + 1; omega)).trans h.flt⟩
  simp only [World.setCell, Array.getElem?_modify, if_true, h.val, Option.map_some]
  rfl
end

set_option maxRecDepth 100000 in
set_option maxHeartbeats 1600000 in
theorem parse_long (d : ByteArray) (f : SynP.Fl) (w : World) (hs : 1024 < d.size) :
    Calls Tryz.prog 11 #[.string d, .agg #[.bool f.fold, .bool f.lines, .bool f.dot, .bool f.lazy]] w fun e w' => PatEnd w (.bad 2 0) e w' := by
  have hss : (1024 : Int) < (d.size : Int) := by omega
  go_enter_defers Tryz.func11, Tryz.ntmps11
  go_wp2
  refine Exists.intro (.tuple #[.agg zeroP, .agg #[.int .i64 2, .int .i64 0]]) (And.intro ?_ ⟨(((Below.refl _ w).alloc (Nat.le_refl _) _).alloc (by simp) _).alloc (by simp; omega) _, rfl⟩)
  simp [results, Tryz.results11, go_sem]

set_option maxRecDepth 100000 in
set_option maxHeartbeats 3200000 in
theorem parse_bad17 (d : ByteArray) (f : SynP.Fl) (w : World) (hs : d.size ≤ 1024) (i : Nat) (hp : DecP.badAt (patB d) (markN d) = some i) :
    Calls Tryz.prog 11 #[.string d, .agg #[.bool f.fold, .bool f.lines, .bool f.dot, .bool f.lazy]] w fun e w' => PatEnd w (.bad 17 i) e w' := by
  have hss : ¬ (1024 : Int) < (d.size : Int) := by omega
  have HC : Hid (∀ W, Calls Tryz.prog 29 #[.string d, .int .i64 1, .bool true] W fun e w' => e = .returned (.tuple #[.agg #[.int .i64 0, .slice none 0 0, .slice none 0 0, .int .i64 0], .agg #[.int .i64 17, .int .i64 i]]) ∧ Below W.heap.size W w') := Lib.hid fun W => by
    refine (decode_pat d W hs).mono fun e w' h => ?_
    rw [hp] at h
    exact ⟨h.2, h.1⟩
  clear hp
  obtain ⟨N, hN⟩ : ∃ N, w.heap.size = N := ⟨_, rfl⟩
  have HNe := Lib.hid hN
  have HS0 := Lib.hid (ParS.start (f := f) hN)
  clear hN
  go_enter_defers Tryz.func11, Tryz.ntmps11
  go_upto_region 3 with fail
  rw [HNe.out]
  simp only [zeroP, flA] at HS0
  generalize ((w.alloc (.cells #[.bool f.fold, .bool f.lines, .bool f.dot, .bool f.lazy] 39)).alloc (.cells #[.int .i64 0, .slice none 0 0, .bool false, .int .i64 0, .int .i64 0, .bool false, .int .i64 0, .string ⟨#[]⟩, .slice none 0 0, .slice none 0 0] 32)).alloc (.cells #[.int .i64 0, .int .i64 0] 35) = W0 at HS0 ⊢
  go_upto_region 5 with (go_at_call 29; refine (HC.out _).mono ?_; rintro e w3 ⟨rfl, hb3⟩; have h3 := (HS0.out.below hb3).below ((Below.refl _ w3).alloc (Nat.le_refl _) (.cells #[.int .i64 0, .slice none 0 0, .slice none 0 0, .int .i64 0] 69)); have hcT := fun o => Lib.cell_of_heap h3.flt o; have hzT := fun o => Lib.frozen_of_heap h3.flt o; have H3 := Lib.hid h3; clear h3 hb3)
  have h4 : ParS w _ N #[.int .i64 0, .slice none 0 0, .bool false, .int .i64 0, .int .i64 0, .bool false, .int .i64 0, .string ⟨#[]⟩, .slice none 0 0, .slice none 0 0] #[.int .i64 17, .int .i64 i] f := (H3.out.setT 0 (.int .i64 17)).setT 1 (.int .i64 i)
  generalize ((w3.alloc (.cells #[.int .i64 0, .slice none 0 0, .slice none 0 0, .int .i64 0] 69)).setCell ⟨N + 1 + 1, 0, none⟩ (.int .i64 17)).setCell ⟨N + 1 + 1, 1, none⟩ (.int .i64 i) = W4 at h4 ⊢
  clear hcT hzT H3 HS0
  have hcV := fun o => Lib.cell_of_heap h4.val o
  have hzV := fun o => Lib.frozen_of_heap h4.val o
  have hcT := fun o => Lib.cell_of_heap h4.flt o
  have hzT := fun o => Lib.frozen_of_heap h4.flt o
  have hVT1 : ¬ N + 1 = N + 1 + 1 := by omega
  have hVT2 : ¬ N + 1 + 1 = N + 1 := by omega
  have H4 := Lib.hid h4
  clear h4
  go_region
  all_goals
    go_wp2
    refine Exists.intro (.tuple #[.agg #[.int .i64 0, .slice none 0 0, .bool false, .int .i64 0, .int .i64 0, .bool false, .int .i64 0, .string ⟨#[]⟩, .slice none 0 0, .slice none 0 0], .agg #[.int .i64 17, .int .i64 i]]) (And.intro ?_ ⟨?_, rfl⟩)
    · simp [results, Tryz.results11, go_sem, hcV, hcT]
    · rw [HNe.out]
      repeat (first | (with_reducible refine Below.setCell ?_ (by first | exact Nat.le_refl _ | exact Nat.le_succ _ | exact Nat.le_add_right N 2) _) | (with_reducible refine Below.drew ?_) | (with_reducible exact H4.out.bel))

end Go.Proofs.YtblkejnckbeieaaGreatDoor
