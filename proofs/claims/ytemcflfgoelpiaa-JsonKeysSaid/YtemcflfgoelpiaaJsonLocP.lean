/- The plain parser reads a value alike ahead of a comma or a bracket. -/
import Derived.Test.YtemcflfgoelpiaaJsonNumsP
import Derived.Test.YtemcflfgoelpiaaJsonPL
namespace Go.Proofs.Ytemcflfgoelpiaa.JsonP

/-- What may stand behind a value: a comma or a bracket, and more. -/
def Sep (t : List UInt8) : Prop := ∃ c t', t = c :: t' ∧ (c = 44 ∨ c = 93)
theorem Sep.dw {t : List UInt8} (h : Sep t) {p : UInt8 → Bool} (h1 : p 44 = false) (h2 : p 93 = false) (l : List UInt8) : (l ++ t).dropWhile p = l.dropWhile p ++ t := by
  obtain ⟨c, t', rfl, hc⟩ := h
  have hp : p c = false := by rcases hc with rfl | rfl; exact h1; exact h2
  induction l with
  | nil => rw [List.nil_append, List.dropWhile_cons, if_neg (by rw [hp]; exact Bool.false_ne_true)]; rfl
  | cons a l ih =>
    rw [List.cons_append, List.dropWhile_cons, List.dropWhile_cons]
    split
    · exact ih
    · rfl
theorem Sep.blanks {t : List UInt8} (h : Sep t) (l : List UInt8) : blanks (l ++ t) = blanks l ++ t := h.dw (by decide) (by decide) l
theorem Sep.run {t l u : List UInt8} (h : Sep t) (k : run l = some u) : run (l ++ t) = some (u ++ t) := by
  cases l with
  | nil => cases k
  | cons c l =>
    replace k : (if isDg c then some (l.dropWhile isDg) else none) = some u := k
    show (if isDg c then some ((l ++ t).dropWhile isDg) else none) = some (u ++ t)
    split at k
    · rename_i hc
      injection k with k
      rw [if_pos hc, h.dw (by decide) (by decide), k]
    · cases k
theorem has_app {p : UInt8 → Bool} {l u : List UInt8} (t : List UInt8) (k : has p l = some u) : has p (l ++ t) = some (u ++ t) := by
  obtain ⟨c, hc, rfl⟩ := has_some k
  show (if p c then some (u ++ t) else none) = _
  rw [if_pos hc]
theorem Sep.has_none {t l : List UInt8} (h : Sep t) {p : UInt8 → Bool} (h1 : p 44 = false) (h2 : p 93 = false) (k : has p l = none) : has p (l ++ t) = none := by
  cases l with
  | nil =>
    obtain ⟨c, t', rfl, hc⟩ := h
    show (if p c then some t' else none) = none
    rw [if_neg (by rcases hc with rfl | rfl; rw [h1]; exact Bool.false_ne_true; rw [h2]; exact Bool.false_ne_true)]
  | cons c l =>
    replace k : (if p c then some l else none) = none := k
    show (if p c then some (l ++ t) else none) = none
    split at k
    · cases k
    · rename_i hc; rw [if_neg hc]
theorem has_none_cons {p : UInt8 → Bool} {l : List UInt8} (t : List UInt8) (hl : l ≠ []) (k : has p l = none) : has p (l ++ t) = none := by
  cases l with
  | nil => exact absurd rfl hl
  | cons c l =>
    replace k : (if p c then some l else none) = none := k
    show (if p c then some (l ++ t) else none) = none
    split at k
    · cases k
    · rename_i hc; rw [if_neg hc]
theorem Sep.opt {t : List UInt8} (h : Sep t) {p : UInt8 → Bool} (h1 : p 44 = false) (h2 : p 93 = false) (l : List UInt8) : opt p (l ++ t) = opt p l ++ t := by
  unfold JsonP.opt
  cases k : has p l with
  | none => rw [h.has_none h1 h2 k]; rfl
  | some u => rw [has_app t k]; rfl
theorem Sep.whole {t l u : List UInt8} (h : Sep t) (k : whole l = some u) : whole (l ++ t) = some (u ++ t) := by
  unfold JsonP.whole at k ⊢
  cases hh : has isNought l with
  | none => rw [hh] at k; rw [h.has_none (by decide) (by decide) hh]; exact h.run k
  | some v => rw [hh] at k; injection k with k; subst k; rw [has_app t hh]
theorem Sep.frac {t l u : List UInt8} (h : Sep t) (k : frac l = some u) : frac (l ++ t) = some (u ++ t) := by
  unfold JsonP.frac at k ⊢
  cases hh : has isDot l with
  | none => rw [hh] at k; injection k with k; subst k; rw [h.has_none (by decide) (by decide) hh]
  | some v => rw [hh] at k; rw [has_app t hh]; exact h.run k
theorem Sep.expo {t l u : List UInt8} (h : Sep t) (k : expo l = some u) : expo (l ++ t) = some (u ++ t) := by
  unfold JsonP.expo at k ⊢
  cases hh : has isE l with
  | none => rw [hh] at k; injection k with k; subst k; rw [h.has_none (by decide) (by decide) hh]
  | some v => rw [hh] at k; rw [has_app t hh]; simp only at k ⊢; rw [h.opt (by decide) (by decide)]; exact h.run k
theorem Sep.number {t l u : List UInt8} (h : Sep t) (k : number l = some u) : number (l ++ t) = some (u ++ t) := by
  obtain ⟨a, b, h1, h2, h3⟩ := number_parts k
  unfold JsonP.number
  rw [h.opt (by decide) (by decide), h.whole h1]
  show (JsonP.frac (a ++ t)).bind JsonP.expo = _
  rw [h.frac h2]
  exact h.expo h3
theorem want_app {w l u : List UInt8} (t : List UInt8) (k : want w l = some u) : want w (l ++ t) = some (u ++ t) := by
  induction w generalizing l with
  | nil => injection k with k; subst k; rfl
  | cons x w ih =>
    cases l with
    | nil => cases k
    | cons y l =>
      replace k : (if y = x then want w l else none) = some u := k
      show (if y = x then want w (l ++ t) else none) = _
      split at k
      · rename_i hc; rw [if_pos hc]; exact ih k
      · cases k
theorem hex_app {k n a : Nat} {l u : List UInt8} (t : List UInt8) (h : hex k n l = some (a, u)) : hex k n (l ++ t) = some (a, u ++ t) := by
  induction k generalizing n l with
  | zero => injection h with h; injection h with h1 h; subst h; subst h1; rfl
  | succ k ih =>
    cases l with
    | nil => cases h
    | cons c l =>
      replace h : (match hexd c with | some d => hex k (16 * n + d) l | none => none) = some (a, u) := h
      show (match hexd c with | some d => hex k (16 * n + d) (l ++ t) | none => none) = _
      cases hd : hexd c with
      | none => rw [hd] at h; cases h
      | some d => rw [hd] at h; exact ih h
theorem second_at (a : Nat) (l : List UInt8) : second a (92 :: 117 :: l) = match hex 4 0 l with
      | none => none
      | some (b, u) => if 56320 ≤ b ∧ b ≤ 57343 then some (65536 + (a - 55296) * 1024 + (b - 56320), u) else some (65533, 92 :: 117 :: l) := by
  unfold second
  simp only
  cases hex 4 0 l <;> rfl
theorem second_else (a : Nat) {l : List UInt8} (h : ∀ t, l ≠ 92 :: 117 :: t) : second a l = some (65533, l) := by
  unfold second
  split
  · exact absurd rfl (h _)
  · rfl
theorem Sep.second {t l u : List UInt8} (h : Sep t) {a x : Nat} (k : second a l = some (x, u)) : second a (l ++ t) = some (x, u ++ t) := by
  by_cases hl : ∃ v, l = 92 :: 117 :: v
  · obtain ⟨v, rfl⟩ := hl
    rw [second_at] at k
    show JsonP.second a (92 :: 117 :: (v ++ t)) = _
    rw [second_at]
    cases hx : hex 4 0 v with
    | none => rw [hx] at k; cases k
    | some p =>
      obtain ⟨b, w⟩ := p
      rw [hx] at k
      rw [hex_app t hx]
      simp only at k ⊢
      split at k
      · rename_i hc; rw [if_pos hc]; obtain ⟨k1, k2⟩ := Prod.mk.inj (Option.some.inj k); rw [k1, ← k2]
      · rename_i hc; rw [if_neg hc]; obtain ⟨k1, k2⟩ := Prod.mk.inj (Option.some.inj k); rw [k1, ← k2]; rfl
  · rw [second_else a (fun v e => hl ⟨v, e⟩)] at k
    injection k with k; injection k with k1 k2
    subst k1; subst k2
    refine second_else a (fun v e => ?_)
    obtain ⟨c, t', rfl, hc⟩ := h
    match l, e with
    | [], e => rw [List.nil_append] at e; injection e with e _; subst e; revert hc; decide
    | [_], e => rw [List.singleton_append] at e; injection e with _ e; injection e with e _; subst e; revert hc; decide
    | x :: y :: l', e =>
      rw [List.cons_append, List.cons_append] at e
      injection e with e1 e; injection e with e2 e3
      subst e1; subst e2
      exact hl ⟨l', rfl⟩
theorem Sep.unit {t l u : List UInt8} (h : Sep t) {x : Nat} (k : unit l = some (x, u)) : unit (l ++ t) = some (x, u ++ t) := by
  unfold JsonP.unit at k ⊢
  cases hx : hex 4 0 l with
  | none => rw [hx] at k; cases k
  | some p =>
    obtain ⟨a, v⟩ := p
    rw [hx] at k
    rw [hex_app t hx]
    simp only at k ⊢
    split at k
    · rename_i hc; rw [if_pos hc]; injection k with k; injection k with k1 k2; subst k1; subst k2; rfl
    · rename_i hc
      rw [if_neg hc]
      split at k
      · rename_i hc2; rw [if_pos hc2]; exact h.second k
      · rename_i hc2; rw [if_neg hc2]; injection k with k; injection k with k1 k2; subst k1; subst k2; rfl
theorem esc_cons (c : UInt8) (t : List UInt8) : esc (c :: t) = match short c with
    | some d => some ([d], t)
    | none => if c = 34 ∨ c = 92 ∨ c = 47 then some ([c], t) else if c = 117 then (unit t).map fun p => (encB p.1, p.2) else none := rfl
theorem Sep.esc {t l u b : List UInt8} (h : Sep t) (k : esc l = some (b, u)) : esc (l ++ t) = some (b, u ++ t) := by
  cases l with
  | nil => cases k
  | cons c l =>
    rw [List.cons_append, esc_cons]
    rw [esc_cons] at k
    cases hs : short c with
    | some d => rw [hs] at k; injection k with k; injection k with k1 k2; subst k1; subst k2; rfl
    | none =>
      rw [hs] at k
      simp only at k ⊢
      split at k
      · rename_i hc; rw [if_pos hc]; injection k with k; injection k with k1 k2; subst k1; subst k2; rfl
      · rename_i hc
        rw [if_neg hc]
        split at k
        · rename_i hc2
          rw [if_pos hc2]
          cases hu : JsonP.unit l with
          | none => rw [hu] at k; cases k
          | some p =>
            rw [hu] at k
            replace k : some (encB p.1, p.2) = some (b, u) := k
            injection k with k; injection k with k1 k2; subst k1; subst k2
            rw [h.unit (x := p.1) (u := p.2) hu]
            rfl
        · cases k
theorem Sep.body {t : List UInt8} (h : Sep t) {n : Nat} : ∀ {out l r u : List UInt8} (m : Nat), n ≤ m → body n out l = some (r, u) → body m out (l ++ t) = some (r, u ++ t) := by
  induction n with
  | zero => intro out l r u m _ k; cases k
  | succ n ih =>
    intro out l r u m hm k
    obtain ⟨m, rfl⟩ : ∃ m', m = m' + 1 := ⟨m - 1, by omega⟩
    cases l with
    | nil => cases k
    | cons c l =>
      replace k : (if c < 32 then none else if c = 34 then some (out, l) else if c = 92 then (match JsonP.esc l with
        | some (b, u) => JsonP.body n (out ++ b) u
        | none => none) else JsonP.body n (out ++ [c]) l) = some (r, u) := k
      show (if c < 32 then none else if c = 34 then some (out, l ++ t) else if c = 92 then (match JsonP.esc (l ++ t) with
        | some (b, u) => JsonP.body m (out ++ b) u
        | none => none) else JsonP.body m (out ++ [c]) (l ++ t)) = some (r, u ++ t)
      split at k
      · cases k
      · rename_i h1
        rw [if_neg h1]
        split at k
        · rename_i h2; rw [if_pos h2]; injection k with k; injection k with k1 k2; subst k1; subst k2; rfl
        · rename_i h2
          rw [if_neg h2]
          split at k
          · rename_i h3
            rw [if_pos h3]
            cases he : JsonP.esc l with
            | none => rw [he] at k; cases k
            | some p =>
              obtain ⟨b, v⟩ := p
              rw [he] at k
              rw [h.esc he]
              exact ih m (by omega) k
          · rename_i h3
            rw [if_neg h3]
            exact ih m (by omega) k
theorem Sep.text {t l s u : List UInt8} (h : Sep t) (k : text l = some (s, u)) : text (l ++ t) = some (s, u ++ t) := by
  unfold JsonP.text at k ⊢
  cases hw : want [34] l with
  | none => rw [hw] at k; cases k
  | some v =>
    rw [hw] at k
    rw [want_app t hw]
    exact h.body _ (by rw [List.length_append]; omega) k
theorem Sep.key {t l u : List UInt8} (h : Sep t) {ob : Bool} {ks ks' : List (List UInt8)} (k : key ob ks l = some (ks', u)) : key ob ks (l ++ t) = some (ks', u ++ t) := by
  unfold JsonP.key at k ⊢
  split at k
  · cases ht : JsonP.text l with
    | none => rw [ht] at k; cases k
    | some p =>
      rw [ht] at k
      rw [if_pos (by assumption), h.text (s := p.1) (u := p.2) ht]
      replace k : (want [58] (JsonP.blanks p.2)).map (fun t => (ks ++ [p.1], t)) = some (ks', u) := k
      show (want [58] (JsonP.blanks (p.2 ++ t))).map (fun t => (ks ++ [p.1], t)) = _
      rw [h.blanks]
      cases hw : want [58] (JsonP.blanks p.2) with
      | none => rw [hw] at k; cases k
      | some v =>
        rw [hw] at k
        rw [want_app t hw]
        replace k : some (ks ++ [p.1], v) = some (ks', u) := k
        injection k with k; injection k with k1 k2; subst k1; subst k2
        rfl
  · rw [if_neg (by assumption)]
    injection k with k; injection k with k1 k2; subst k1; subst k2; rfl

def valueC (n deep : Nat) (c : UInt8) (t : List UInt8) : Res :=
      if c = 110 then leaf 0 (want [110, 117, 108, 108] (c :: t))
      else if c = 102 then leaf 1 (want [102, 97, 108, 115, 101] (c :: t))
      else if c = 116 then leaf 2 (want [116, 114, 117, 101] (c :: t))
      else if c = 34 then (match text (c :: t) with
        | some (s, u) => .ok (.mk 4 s [] []) u
        | none => .bad 20)
      else if c = 45 ∨ isDg c then (match number (c :: t) with
        | some u => .ok (.mk 3 ((c :: t).take ((c :: t).length - u.length)) [] []) u
        | none => .bad 20)
      else if c = 91 ∨ c = 123 then (if 32 ≤ deep then .bad 21 else match has (isEnd (c = 123)) (blanks t) with
        | some u => .ok (.mk (if c = 123 then 6 else 5) [] [] []) u
        | none => items n (c = 123) (deep + 1) [] [] t)
      else .bad 20
theorem value_succ (n deep : Nat) (l : List UInt8) : value (n + 1) deep l = match blanks l with
    | [] => .bad 20
    | c :: t => valueC n deep c t := by
  conv => lhs; unfold value
  rfl
theorem items_succ' (m : Nat) (ob : Bool) (deep : Nat) (ks : List (List UInt8)) (js : List J) (l : List UInt8) : items (m + 1) ob deep ks js l = match key ob ks (blanks l) with
    | none => .bad 20
    | some (ks', l1) => match value m deep l1 with
      | .bad c => .bad c
      | .ok j l2 => match has (isEnd ob) (blanks l2) with
        | some u => .ok (.mk (if ob then 6 else 5) [] ks' (js ++ [j])) u
        | none => match want [44] (blanks l2) with
          | none => .bad 20
          | some l3 => items m ob deep ks' (js ++ [j]) l3 := by
  conv => lhs; unfold items
  rfl
theorem value_blank {n deep : Nat} {l : List UInt8} (h : blanks l = []) (j : J) (u : List UInt8) : value n deep l ≠ .ok j u := by
  cases n with
  | zero => unfold value; intro e; cases e
  | succ n => rw [value_succ, h]; intro e; cases e
theorem items_ne {n : Nat} {ob : Bool} {deep : Nat} {ks : List (List UInt8)} {js : List J} {l u : List UInt8} {j : J} (h : items n ob deep ks js l = .ok j u) : blanks l ≠ [] := by
  intro hb
  cases n with
  | zero => unfold items at h; cases h
  | succ n =>
    rw [items_succ', hb] at h
    cases ob with
    | true => cases h
    | false =>
      replace h : (match value n deep [] with
        | .bad c => Res.bad c
        | .ok j l2 => match has (isEnd false) (blanks l2) with
          | some u => Res.ok (.mk 5 [] ks (js ++ [j])) u
          | none => match want [44] (blanks l2) with
            | none => .bad 20
            | some l3 => items n false deep ks (js ++ [j]) l3) = .ok j u := h
      cases hv : value n deep [] with
      | bad c => rw [hv] at h; cases h
      | ok j2 l2 => exact value_blank rfl _ _ hv
theorem Sep.leaf {t u : List UInt8} {w l : List UInt8} (k : Nat) {j : J} (h : leaf k (want w l) = .ok j u) : leaf k (want w (l ++ t)) = .ok j (u ++ t) := by
  have e := leaf_len h
  rw [e] at h
  rw [want_app t e]
  unfold JsonP.leaf at h ⊢
  injection h with h _
  rw [h]
theorem value_items_loc {t : List UInt8} (h : Sep t) (n : Nat) :
    (∀ m deep l j u, n ≤ m → value n deep l = .ok j u → value m (deep + 1) (l ++ t) = .ok j (u ++ t) ∨ value m (deep + 1) (l ++ t) = .bad 21) ∧
    (∀ m ob deep ks js l j u, n ≤ m → items n ob deep ks js l = .ok j u → items m ob (deep + 1) ks js (l ++ t) = .ok j (u ++ t) ∨ items m ob (deep + 1) ks js (l ++ t) = .bad 21) := by
  induction n with
  | zero => exact ⟨fun _ _ _ _ _ _ k => by simp [value] at k, fun _ _ _ _ _ _ _ _ _ k => by simp [items] at k⟩
  | succ n ih =>
    refine ⟨fun m deep l j u hm k => ?_, fun m ob deep ks js l j u hm k => ?_⟩
    · obtain ⟨m, rfl⟩ : ∃ m', m = m' + 1 := ⟨m - 1, by omega⟩
      rw [value_succ] at k
      rw [value_succ, h.blanks]
      cases hb : blanks l with
      | nil => rw [hb] at k; cases k
      | cons c s =>
        rw [hb] at k
        replace k : valueC n deep c s = .ok j u := k
        show valueC m (deep + 1) c (s ++ t) = _ ∨ valueC m (deep + 1) c (s ++ t) = _
        unfold valueC at k ⊢
        split at k
        · rename_i hc; rw [if_pos hc]; exact .inl (Sep.leaf 0 k)
        rename_i c1
        rw [if_neg c1]
        split at k
        · rename_i hc; rw [if_pos hc]; exact .inl (Sep.leaf 1 k)
        rename_i c2
        rw [if_neg c2]
        split at k
        · rename_i hc; rw [if_pos hc]; exact .inl (Sep.leaf 2 k)
        rename_i c3
        rw [if_neg c3]
        split at k
        · rename_i hc
          rw [if_pos hc]
          cases ht : JsonP.text (c :: s) with
          | none => rw [ht] at k; cases k
          | some p =>
            obtain ⟨x, v⟩ := p
            rw [ht] at k
            have := h.text ht
            rw [List.cons_append] at this
            rw [this]
            injection k with k1 k2; subst k1; subst k2
            exact .inl rfl
        rename_i c4
        rw [if_neg c4]
        split at k
        · rename_i hc
          rw [if_pos hc]
          cases ht : JsonP.number (c :: s) with
          | none => rw [ht] at k; cases k
          | some v =>
            rw [ht] at k
            have e := h.number ht
            have hl := number_len ht
            rw [List.cons_append] at e
            rw [e]
            injection k with k1 k2; subst k1; subst k2
            left
            simp only
            rw [← List.cons_append, List.length_append, List.length_append, show (c :: s).length + t.length - (v.length + t.length) = (c :: s).length - v.length by omega, List.take_append_of_le_length (by omega)]
        rename_i c5
        rw [if_neg c5]
        split at k
        · rename_i hc
          rw [if_pos hc]
          split at k
          · cases k
          rename_i hd
          by_cases hd2 : 32 ≤ deep + 1
          · rw [if_pos hd2]; exact .inr rfl
          rw [if_neg hd2, h.blanks]
          cases hh : has (isEnd (c = 123)) (JsonP.blanks s) with
          | some v =>
            rw [hh] at k
            rw [has_app t hh]
            injection k with k1 k2; subst k1; subst k2
            exact .inl rfl
          | none =>
            rw [hh] at k
            replace k : items n (c = 123) (deep + 1) [] [] s = .ok j u := k
            rw [has_none_cons t (items_ne k) hh]
            exact ih.2 m _ _ _ _ _ _ _ (by omega) k
        · cases k
    · obtain ⟨m, rfl⟩ : ∃ m', m = m' + 1 := ⟨m - 1, by omega⟩
      rw [items_succ'] at k
      rw [items_succ', h.blanks]
      cases hk : JsonP.key ob ks (JsonP.blanks l) with
      | none => rw [hk] at k; cases k
      | some p =>
        obtain ⟨ks', l1⟩ := p
        rw [hk] at k
        rw [h.key hk]
        simp only at k ⊢
        cases hv : value n deep l1 with
        | bad c => rw [hv] at k; cases k
        | ok j2 l2 =>
          rw [hv] at k
          simp only at k
          rcases ih.1 m deep l1 j2 l2 (by omega) hv with e | e
          · rw [e]
            simp only
            rw [h.blanks]
            cases hh : has (isEnd ob) (JsonP.blanks l2) with
            | some v =>
              rw [hh] at k
              rw [has_app t hh]
              injection k with k1 k2; subst k1; subst k2
              exact .inl rfl
            | none =>
              rw [hh] at k
              simp only at k
              cases hw : want [44] (JsonP.blanks l2) with
              | none => rw [hw] at k; cases k
              | some l3 =>
                rw [hw] at k
                simp only at k
                have hne : JsonP.blanks l2 ≠ [] := fun e => by rw [e] at hw; cases hw
                rw [has_none_cons t hne hh, want_app t hw]
                exact ih.2 m _ _ _ _ _ _ _ (by omega) k
          · rw [e]; exact .inr rfl

end Go.Proofs.Ytemcflfgoelpiaa.JsonP
