/- Laws of the plain parser: what it leaves is shorter. -/
import Derived.Test.YtemcflfgoelpiaaJsonP
namespace Go.Proofs.Ytemcflfgoelpiaa.JsonP

theorem want_len {w l u : List UInt8} (h : want w l = some u) : u.length + w.length = l.length := by
  induction w generalizing l with
  | nil => injection h with h; subst h; rfl
  | cons x w ih =>
    cases l with
    | nil => cases h
    | cons y l =>
      replace h : (if y = x then want w l else none) = some u := h
      split at h
      · have := ih h; rw [List.length_cons, List.length_cons]; omega
      · cases h
theorem hex_len {k n : Nat} {t u : List UInt8} {a : Nat} (h : hex k n t = some (a, u)) : u.length + k = t.length := by
  induction k generalizing n t with
  | zero => injection h with h; injection h with _ h; subst h; rfl
  | succ k ih =>
    cases t with
    | nil => cases h
    | cons c t =>
      replace h : (match hexd c with | some d => hex k (16 * n + d) t | none => none) = some (a, u) := h
      cases hd1 : hexd c with
      | none => rw [hd1] at h; cases h
      | some d => rw [hd1] at h; have := ih h; rw [List.length_cons]; omega
theorem unit_len {l u : List UInt8} {a : Nat} (h : unit l = some (a, u)) : u.length + 4 ≤ l.length := by
  unfold unit at h
  split at h
  · cases h
  · rename_i x t hx
    have hb := hex_len hx
    split at h
    · injection h with h; injection h with _ h; subst h; omega
    · split at h
      · unfold second at h
        split at h
        · rename_i t2
          split at h
          · cases h
          · rename_i d v hd
            have hb2 := hex_len hd
            simp only [List.length_cons] at hb
            split at h
            · injection h with h; injection h with _ h; subst h; omega
            · injection h with h; injection h with _ h; subst h; simp only [List.length_cons]; omega
        · injection h with h; injection h with _ h; subst h; omega
      · injection h with h; injection h with _ h; subst h; omega
theorem esc_len {l b u : List UInt8} (h : esc l = some (b, u)) : u.length < l.length := by
  cases l with
  | nil => cases h
  | cons c t =>
    unfold esc at h
    split at h
    · cases h
    · rename_i c' t' hcons
      injection hcons with h1 h2
      subst h1; subst h2
      split at h
      · injection h with h; injection h with _ h; subst h; exact Nat.lt_succ_self _
      · split at h
        · injection h with h; injection h with _ h; subst h; exact Nat.lt_succ_self _
        · split at h
          · cases hu : unit t with
            | none => rw [hu] at h; cases h
            | some p =>
              rw [hu] at h
              replace h : some (encB p.1, p.2) = some (b, u) := h
              injection h with h; injection h with _ h; subst h
              have := unit_len (a := p.1) (u := p.2) hu
              rw [List.length_cons]; omega
          · cases h
theorem body_len {n : Nat} {out l r u : List UInt8} (h : body n out l = some (r, u)) : u.length < l.length := by
  induction n generalizing out l with
  | zero => cases h
  | succ n ih =>
    cases l with
    | nil => cases h
    | cons c t =>
      replace h : (if c < 32 then none else if c = 34 then some (out, t) else if c = 92 then (match esc t with
        | some (b, u) => body n (out ++ b) u
        | none => none) else body n (out ++ [c]) t) = some (r, u) := h
      split at h
      · cases h
      · split at h
        · injection h with h; injection h with _ h; subst h; exact Nat.lt_succ_self _
        · split at h
          · cases he : esc t with
            | none => rw [he] at h; cases h
            | some p =>
              obtain ⟨b, v⟩ := p
              rw [he] at h
              have := ih h
              have := esc_len he
              rw [List.length_cons]; omega
          · have := ih h; rw [List.length_cons]; omega
theorem text_len {l s u : List UInt8} (h : text l = some (s, u)) : u.length + 1 < l.length := by
  unfold text at h
  cases hw : want [34] l with
  | none => rw [hw] at h; cases h
  | some t =>
    rw [hw] at h
    have h1 := want_len hw
    have h2 := body_len (n := t.length + 1) (out := []) h
    simp only [List.length_cons, List.length_nil] at h1
    omega
theorem key_len {ob : Bool} {ks ks' : List (List UInt8)} {l u : List UInt8} (h : key ob ks l = some (ks', u)) : u.length ≤ l.length := by
  unfold key at h
  split at h
  · cases ht : text l with
    | none => rw [ht] at h; cases h
    | some p =>
      rw [ht] at h
      replace h : (want [58] (blanks p.2)).map (fun t => (ks ++ [p.1], t)) = some (ks', u) := h
      cases hw : want [58] (blanks p.2) with
      | none => rw [hw] at h; cases h
      | some v =>
        rw [hw] at h
        replace h : some (ks ++ [p.1], v) = some (ks', u) := h
        injection h with h; injection h with _ h; subst h
        have := text_len (s := p.1) (u := p.2) ht
        have := want_len hw
        have := blanks_len p.2
        simp only [List.length_cons, List.length_nil] at *
        omega
  · injection h with h; injection h with _ h; subst h; exact Nat.le_refl _
theorem leaf_len {k : Nat} {o : Option (List UInt8)} {j : J} {u : List UInt8} (h : leaf k o = .ok j u) : o = some u := by
  cases o with
  | none => cases h
  | some t => unfold leaf at h; injection h with _ h; rw [h]
theorem value_items_len (n : Nat) : (∀ deep l j u, value n deep l = .ok j u → u.length < l.length) ∧ (∀ ob deep ks js l j u, items n ob deep ks js l = .ok j u → u.length < l.length) := by
  induction n with
  | zero => exact ⟨fun _ _ _ _ h => by simp [value] at h, fun _ _ _ _ _ _ _ h => by simp [items] at h⟩
  | succ n ih =>
    refine ⟨fun deep l j u h => ?_, fun ob deep ks js l j u h => ?_⟩
    · unfold value at h
      have hb := blanks_len l
      split at h
      · cases h
      · rename_i c t hbl
        rw [hbl] at hb
        have go : u.length < (c :: t).length := by
          split at h
          · have := want_len (leaf_len h); simp only [List.length_cons, List.length_nil] at *; omega
          · split at h
            · have := want_len (leaf_len h); simp only [List.length_cons, List.length_nil] at *; omega
            · split at h
              · have := want_len (leaf_len h); simp only [List.length_cons, List.length_nil] at *; omega
              · split at h
                · split at h
                  · rename_i s v ht
                    injection h with _ h; subst h
                    have := text_len ht; omega
                  · cases h
                · split at h
                  · split at h
                    · rename_i v ht
                      injection h with _ h; subst h
                      exact number_len ht
                    · cases h
                  · split at h
                    · split at h
                      · cases h
                      · split at h
                        · rename_i v hh
                          injection h with _ h; subst h
                          have := has_len hh
                          have := blanks_len t
                          rw [List.length_cons]; omega
                        · have := ih.2 _ _ _ _ _ _ _ h
                          rw [List.length_cons]; omega
                    · cases h
        omega
    · unfold items at h
      have hb := blanks_len l
      split at h
      · cases h
      · rename_i ks' l1 hk
        have h1 := key_len hk
        split at h
        · cases h
        · rename_i j2 l2 hv
          have h2 := ih.1 _ _ _ _ hv
          have h3 := blanks_len l2
          split at h
          · rename_i v hh
            injection h with _ h; subst h
            have := has_len hh
            omega
          · split at h
            · cases h
            · rename_i l3 hw
              have h4 := want_len hw
              have := ih.2 _ _ _ _ _ _ _ h
              simp only [List.length_cons, List.length_nil] at h4
              omega
theorem value_len {n deep : Nat} {l u : List UInt8} {j : J} (h : value n deep l = .ok j u) : u.length < l.length := (value_items_len n).1 _ _ _ _ h

end Go.Proofs.Ytemcflfgoelpiaa.JsonP
