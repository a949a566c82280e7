/- Texts in a row, in plain Lean: a list of them reads as a list of what they read as. -/
import Derived.Test.YtemcflfgoelpiaaJsonLocP
import Derived.Test.YtemcflfgoelpiaaDecQ
namespace Go.Proofs.Ytemcflfgoelpiaa.DecP

theorem go_app (t : List UInt8) (m : Nat) : ∀ (k : Nat) (v lo hi : Int) (u : List UInt8), 0 ≤ (go m k v lo hi u).1 → go m k v lo hi (u ++ t) = go m k v lo hi u := by
  induction m with
  | zero => intro k v lo hi u _; rfl
  | succ m ih =>
    intro k v lo hi u h
    obtain ⟨x, u', rfl, h1, h2, h3⟩ := go_step h
    rw [h3] at h
    rw [h3, List.cons_append, go_cons, if_neg (by omega)]
    exact ih _ _ _ _ _ h
theorem one_app {s : List UInt8} (t : List UInt8) (hs : s ≠ []) (h : ¬ (one s).1 < 0) : one (s ++ t) = one s := by
  cases s with
  | nil => exact absurd rfl hs
  | cons c u =>
    rw [List.cons_append, one_cons]
    rw [one_cons] at h ⊢
    split
    · rfl
    · rename_i h1
      rw [if_neg h1] at h
      split
      · rfl
      · rename_i h2
        rw [if_neg h2] at h
        exact go_app t _ _ _ _ _ u (by omega)
theorem badAt_app (t : List UInt8) (ht : ∀ j, badAt t j = none) (n : Nat) : ∀ (s : List UInt8) (i : Nat), s.length ≤ n → badAt s i = none → badAt (s ++ t) i = none := by
  induction n with
  | zero =>
    intro s i hn _
    obtain rfl : s = [] := List.eq_nil_of_length_eq_zero (by omega)
    exact ht i
  | succ n ih =>
    intro s i hn h
    by_cases hs : s = []
    · subst hs; exact ht i
    · by_cases hb : (one s).1 < 0
      · rw [badAt_bad hs hb] at h; cases h
      · have hp := one_pos s hs
        rw [badAt_good hs hb] at h
        have he := one_app t hs hb
        rw [badAt_good (by simp [hs]) (by rw [he]; exact hb), he, List.drop_append_of_le_length hp.2]
        exact ih _ _ (by rw [List.length_drop]; omega) h
theorem badAt_x {s : List UInt8} (h : badAt (120 :: s) 0 = none) (j : Nat) : badAt s j = none := by
  rw [badAt_ascii _ _ (by decide)] at h
  exact badAt_shift _ _ _ h

end Go.Proofs.Ytemcflfgoelpiaa.DecP
namespace Go.Proofs.Ytemcflfgoelpiaa.JsonP

def pre (f : Bool) : List UInt8 := if f then [32, 10] else []
/-- What stands between the brackets. -/
def soFar (f : Bool) : List (List UInt8) → List UInt8
  | [] => []
  | l :: ls => pre f ++ l ++ ls.flatMap fun l => 44 :: (pre f ++ l)
theorem soFar_snoc (f : Bool) (ls : List (List UInt8)) (l : List UInt8) : soFar f (ls ++ [l]) = (if ls = [] then [] else soFar f ls ++ [44]) ++ pre f ++ l := by
  cases ls with
  | nil => simp [soFar]
  | cons a ls => simp [soFar]
/-- Behind the first. -/
def tl (f : Bool) (ls : List (List UInt8)) : List UInt8 := (ls.flatMap fun l => 44 :: (pre f ++ l)) ++ [93]
theorem tl_sep (f : Bool) (ls : List (List UInt8)) : Sep (tl f ls) := by
  cases ls with
  | nil => exact ⟨93, [], rfl, .inr rfl⟩
  | cons l ls => exact ⟨44, _, rfl, .inl rfl⟩
theorem tl_cons (f : Bool) (l : List UInt8) (ls : List (List UInt8)) : tl f (l :: ls) = 44 :: (pre f ++ l ++ tl f ls) := by simp [tl]
theorem blanks_pre (f : Bool) (l : List UInt8) : blanks (pre f ++ l) = blanks l := by cases f <;> rfl
theorem blanks_twice (l : List UInt8) : blanks (blanks l) = blanks l := by
  unfold blanks
  induction l with
  | nil => rfl
  | cons c t ih =>
    rw [List.dropWhile_cons]
    split
    · exact ih
    · rename_i hc; rw [List.dropWhile_cons, if_neg hc]
theorem value_blanks (n deep : Nat) (l : List UInt8) : value n deep (blanks l) = value n deep l := by
  cases n with
  | zero => unfold value; rfl
  | succ n => rw [value_succ, value_succ, blanks_twice]
theorem parse_value {l : List UInt8} {j : J} {u : List UInt8} (h : parse l = .ok j u) : ∃ v, value (2 * l.length + 2) 0 l = .ok j v ∧ blanks v = [] := by
  unfold parse at h
  cases hv : value (2 * l.length + 2) 0 l with
  | bad c => rw [hv] at h; cases h
  | ok j2 v =>
    rw [hv] at h
    simp only at h
    split at h
    · rename_i hb; injection h with h1 h2; subst h1; exact ⟨v, rfl, hb⟩
    · cases h
/-- These texts read as these values. -/
def Reads : List (List UInt8) → List J → Prop
  | [], [] => True
  | l :: ls, j :: js => parse l = .ok j [] ∧ Reads ls js
  | _, _ => False
theorem Reads.snoc {ls : List (List UInt8)} {js : List J} (h : Reads ls js) {l : List UInt8} {j : J} (k : parse l = .ok j []) : Reads (ls ++ [l]) (js ++ [j]) := by
  induction ls generalizing js with
  | nil => cases js with
    | nil => exact ⟨k, trivial⟩
    | cons _ _ => cases h
  | cons a ls ih => cases js with
    | nil => cases h
    | cons b js => exact ⟨h.1, ih h.2⟩
theorem items_step (f : Bool) (m : Nat) (acc : List J) (l t : List UInt8) : items (m + 1) false 1 [] acc (pre f ++ l ++ t) = match value m 1 (l ++ t) with
      | .bad c => Res.bad c
      | .ok j l2 => match has (isEnd false) (blanks l2) with
        | some u => .ok (.mk 5 [] [] (acc ++ [j])) u
        | none => match want [44] (blanks l2) with
          | none => .bad 20
          | some l3 => items m false 1 [] (acc ++ [j]) l3 := by
  rw [items_succ', List.append_assoc, blanks_pre, ← value_blanks m 1 (l ++ t)]
  rfl
theorem items_list (f : Bool) (ls : List (List UInt8)) : ∀ (l : List UInt8) (j : J) (js acc : List J) (m : Nat), Reads (l :: ls) (j :: js) → (∀ x ∈ l :: ls, 2 * x.length + 3 + (l :: ls).length ≤ m) →
    items m false 1 [] acc (pre f ++ l ++ tl f ls) = .ok (.mk 5 [] [] (acc ++ j :: js)) [] ∨ items m false 1 [] acc (pre f ++ l ++ tl f ls) = .bad 21 := by
  induction ls with
  | nil =>
    intro l j js acc m h hm
    obtain ⟨hp, h2⟩ := h
    obtain rfl : js = [] := by cases js with
      | nil => rfl
      | cons _ _ => cases h2
    obtain ⟨v, hv, hb⟩ := parse_value hp
    have hml := hm l (by simp)
    simp only [List.length_cons, List.length_nil] at hml
    obtain ⟨m, rfl⟩ : ∃ m', m = m' + 1 := ⟨m - 1, by omega⟩
    rw [items_step]
    rcases (value_items_loc (tl_sep f []) _).1 m 0 l j v (by omega) hv with e | e
    · rw [e]
      left
      simp only
      rw [(tl_sep f []).blanks, hb]
      rfl
    · rw [e]; exact .inr rfl
  | cons l' ls ih =>
    intro l j js acc m h hm
    obtain ⟨hp, h2⟩ := h
    obtain ⟨j', js', rfl⟩ : ∃ j' js', js = j' :: js' := by cases js with
      | nil => cases h2
      | cons a b => exact ⟨a, b, rfl⟩
    obtain ⟨v, hv, hb⟩ := parse_value hp
    have hml := hm l (by simp)
    simp only [List.length_cons] at hml
    obtain ⟨m, rfl⟩ : ∃ m', m = m' + 1 := ⟨m - 1, by omega⟩
    rw [items_step]
    rcases (value_items_loc (tl_sep f (l' :: ls)) _).1 m 0 l j v (by omega) hv with e | e
    · rw [e]
      simp only
      rw [(tl_sep f (l' :: ls)).blanks, hb, List.nil_append, tl_cons]
      have hh : has (isEnd false) (44 :: (pre f ++ l' ++ tl f ls)) = none := rfl
      have hw : want [44] (44 :: (pre f ++ l' ++ tl f ls)) = some (pre f ++ l' ++ tl f ls) := rfl
      rw [hh, hw]
      simp only
      have := ih l' j' js' (acc ++ [j]) m h2 (fun x hx => by
        have := hm x (by simp only [List.mem_cons] at hx ⊢; exact .inr hx)
        simp only [List.length_cons] at this ⊢
        omega)
      rw [List.append_assoc acc [j]] at this
      exact this
    · rw [e]; exact .inr rfl
theorem list_parse (f : Bool) (ls : List (List UInt8)) (js : List J) (h : Reads ls js) : parse (91 :: (soFar f ls ++ [93])) = .ok (.mk 5 [] [] js) [] ∨ parse (91 :: (soFar f ls ++ [93])) = .bad 21 := by
  cases ls with
  | nil =>
    obtain rfl : js = [] := by cases js with
      | nil => rfl
      | cons _ _ => cases h
    left
    unfold parse
    rw [value_succ]
    rfl
  | cons l ls =>
    obtain ⟨j, js, rfl⟩ : ∃ j' js', js = j' :: js' := by cases js with
      | nil => cases h
      | cons a b => exact ⟨a, b, rfl⟩
    have hs : soFar f (l :: ls) ++ [93] = pre f ++ l ++ tl f ls := by simp [soFar, tl]
    rw [hs]
    obtain ⟨v, hv, hb⟩ := parse_value h.1
    have hne : has (isEnd false) (blanks (pre f ++ l ++ tl f ls)) = none := by
      rw [List.append_assoc, blanks_pre, (tl_sep f ls).blanks]
      rw [value_succ] at hv
      cases hbl : blanks l with
      | nil => rw [hbl] at hv; cases hv
      | cons c s =>
        rw [hbl] at hv
        have h93 : c ≠ 93 := by rintro rfl; exact absurd hv (by show (Res.bad 20 = Res.ok j v) → False; intro e; cases e)
        show (if isEnd false c then _ else none) = none
        rw [if_neg (by simpa [isEnd] using h93)]
    have hval : value (2 * (91 :: (pre f ++ l ++ tl f ls)).length + 2) 0 (91 :: (pre f ++ l ++ tl f ls)) = items (2 * (91 :: (pre f ++ l ++ tl f ls)).length + 1) false 1 [] [] (pre f ++ l ++ tl f ls) := by
      rw [value_succ]
      show (match has (isEnd false) (blanks (pre f ++ l ++ tl f ls)) with
        | some u => Res.ok (.mk 5 [] [] []) u
        | none => items _ false 1 [] [] (pre f ++ l ++ tl f ls)) = _
      rw [hne]
    have hlen : ∀ x ∈ ls, x.length + ls.length ≤ (ls.flatMap fun l => 44 :: (pre f ++ l)).length := by
      have key : ∀ ls : List (List UInt8), ls.length ≤ (ls.flatMap fun l => 44 :: (pre f ++ l)).length ∧ ∀ x ∈ ls, x.length + ls.length ≤ (ls.flatMap fun l => 44 :: (pre f ++ l)).length := by
        intro ls
        induction ls with
        | nil => exact ⟨Nat.le_refl _, fun x hx => by cases hx⟩
        | cons a ls ih =>
          rw [List.flatMap_cons, List.length_append, List.length_cons, List.length_cons, List.length_append]
          refine ⟨by have := ih.1; omega, fun x hx => ?_⟩
          rcases List.mem_cons.1 hx with rfl | hx
          · have := ih.1; omega
          · have := ih.2 x hx; omega
      exact (key ls).2
    have hll : ls.length ≤ (ls.flatMap fun l => 44 :: (pre f ++ l)).length := by
      clear hlen hval hne hs h hv
      induction ls with
      | nil => exact Nat.le_refl _
      | cons a ls ih => rw [List.flatMap_cons, List.length_append, List.length_cons, List.length_cons]; omega
    have hi := items_list f ls l j js [] (2 * (91 :: (pre f ++ l ++ tl f ls)).length + 1) h (fun x hx => by
      simp only [tl, List.length_cons, List.length_append, List.length_nil]
      rcases List.mem_cons.1 hx with rfl | hx
      · omega
      · have := hlen x hx; omega)
    rcases hi with e | e
    · left
      unfold parse
      rw [hval, e]
      rfl
    · right
      unfold parse
      rw [hval, e]
theorem leaf_code {k c : Nat} {o : Option (List UInt8)} (h : leaf k o = .bad c) : c ≠ 0 := by
  cases o with
  | none => unfold leaf at h; injection h with h; omega
  | some t => cases h
theorem value_items_code (n : Nat) : (∀ deep l c, 2 * l.length + 2 ≤ n → value n deep l = .bad c → c ≠ 0) ∧ (∀ ob deep ks js l c, 2 * l.length + 3 ≤ n → items n ob deep ks js l = .bad c → c ≠ 0) := by
  induction n with
  | zero => exact ⟨fun _ _ _ h => by omega, fun _ _ _ _ _ _ h => by omega⟩
  | succ n ih =>
    refine ⟨fun deep l c hn k => ?_, fun ob deep ks js l c hn k => ?_⟩
    · rw [value_succ] at k
      have hb := blanks_len l
      cases hbl : blanks l with
      | nil => rw [hbl] at k; injection k with k; omega
      | cons d s =>
        rw [hbl] at k hb
        rw [List.length_cons] at hb
        replace k : valueC n deep d s = .bad c := k
        unfold valueC at k
        split at k
        · exact leaf_code k
        split at k
        · exact leaf_code k
        split at k
        · exact leaf_code k
        split at k
        · split at k
          · cases k
          · injection k with k; omega
        split at k
        · split at k
          · cases k
          · injection k with k; omega
        split at k
        · split at k
          · injection k with k; omega
          split at k
          · cases k
          · exact ih.2 _ _ _ _ _ _ (by omega) k
        · injection k with k; omega
    · rw [items_succ'] at k
      have hb := blanks_len l
      split at k
      · injection k with k; omega
      · rename_i ks' l1 hk
        have h1 := key_len hk
        split at k
        · rename_i c' hv
          injection k with k; subst k
          exact ih.1 _ _ _ (by omega) hv
        · rename_i j2 l2 hv
          have h2 := value_len hv
          have h3 := blanks_len l2
          split at k
          · cases k
          · split at k
            · injection k with k; omega
            · rename_i l3 hw
              have h4 := want_len hw
              simp only [List.length_cons, List.length_nil] at h4
              exact ih.2 _ _ _ _ _ _ (by omega) k
theorem parse_code {l : List UInt8} {c : Nat} (h : parse l = .bad c) : c ≠ 0 := by
  unfold parse at h
  split at h
  · rename_i c' hv
    injection h with h; subst h
    exact (value_items_code _).1 _ _ _ (Nat.le_refl _) hv
  · split at h
    · cases h
    · injection h with h; omega
theorem list_bad (f : Bool) (ls : List (List UInt8)) (h : ∀ l ∈ ls, ∀ i, DecP.badAt l i = none) : DecP.badAt (120 :: 91 :: (soFar f ls ++ [93])) 0 = none := by
  have h93 : ∀ i, DecP.badAt [93] i = none := fun i => by rw [DecP.badAt_ascii _ _ (by decide)]; exact DecP.badAt_nil _
  have hpre : ∀ (t : List UInt8), (∀ i, DecP.badAt t i = none) → ∀ i, DecP.badAt (pre f ++ t) i = none := by
    intro t ht i
    cases f with
    | false => exact ht i
    | true =>
      show DecP.badAt (32 :: 10 :: t) i = none
      rw [DecP.badAt_ascii _ _ (by decide), DecP.badAt_ascii _ _ (by decide)]
      exact ht _
  have hone : ∀ (l t : List UInt8), (∀ i, DecP.badAt l i = none) → (∀ i, DecP.badAt t i = none) → ∀ i, DecP.badAt (pre f ++ (l ++ t)) i = none := fun l t hl ht =>
    hpre _ fun i => DecP.badAt_app t ht l.length l i (Nat.le_refl _) (hl i)
  have htl : ∀ ls : List (List UInt8), (∀ l ∈ ls, ∀ i, DecP.badAt l i = none) → ∀ i, DecP.badAt (tl f ls) i = none := by
    intro ls
    induction ls with
    | nil => intro _; exact h93
    | cons l ls ih =>
      intro hh i
      rw [tl_cons, DecP.badAt_ascii _ _ (by decide), List.append_assoc]
      exact hone l _ (hh l (by simp)) (ih (fun x hx => hh x (by simp [hx]))) _
  rw [DecP.badAt_ascii _ _ (by decide), DecP.badAt_ascii _ _ (by decide)]
  cases ls with
  | nil => exact h93 _
  | cons l ls =>
    rw [show soFar f (l :: ls) ++ [93] = pre f ++ (l ++ tl f ls) by simp [soFar, tl]]
    exact hone l _ (h l (by simp)) (htl ls (fun x hx => h x (by simp [hx]))) _

end Go.Proofs.Ytemcflfgoelpiaa.JsonP
