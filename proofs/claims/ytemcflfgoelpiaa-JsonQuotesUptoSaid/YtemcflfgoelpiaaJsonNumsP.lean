/- Numbers in plain Lean: what stands in a text of numbers' characters that reads. -/
import Derived.Test.YtemcflfgoelpiaaJsonPL
import Derived.Test.YtemcflfgoelpiaaDecQ
namespace Go.Proofs.Ytemcflfgoelpiaa.JsonP

def isNum (c : UInt8) : Bool := isDg c ∨ c = 45 ∨ c = 43 ∨ c = 46 ∨ c = 101 ∨ c = 69
/-- Just ahead of u there is a digit. -/
def Dg (x u : List UInt8) : Prop := ∃ q c, isDg c = true ∧ x = q ++ c :: u
theorem Dg.trans {x y u : List UInt8} (h : Dg x y) (k : Dg y u) : Dg x u := by
  obtain ⟨q, c, _, rfl⟩ := h
  obtain ⟨q2, c2, h2, rfl⟩ := k
  exact ⟨q ++ c :: q2, c2, h2, by simp⟩
theorem Dg.cons {x u : List UInt8} (a : UInt8) (h : Dg x u) : Dg (a :: x) u := by
  obtain ⟨q, c, h1, rfl⟩ := h
  exact ⟨a :: q, c, h1, rfl⟩
theorem dg_drop (t : List UInt8) : ∀ c, isDg c = true → Dg (c :: t) (t.dropWhile isDg) := by
  induction t with
  | nil => exact fun c hc => ⟨[], c, hc, rfl⟩
  | cons a t ih =>
    intro c hc
    rw [List.dropWhile_cons]
    by_cases ha : isDg a = true
    · rw [if_pos ha]; exact (ih a ha).cons c
    · rw [if_neg ha]; exact ⟨[], c, hc, rfl⟩
theorem run_dg {l u : List UInt8} (h : run l = some u) : Dg l u := by
  cases l with
  | nil => cases h
  | cons c t =>
    replace h : (if isDg c then some (t.dropWhile isDg) else none) = some u := h
    split at h
    · rename_i hc; injection h with h; subst h; exact dg_drop t c hc
    · cases h
theorem has_some {p : UInt8 → Bool} {l u : List UInt8} (h : has p l = some u) : ∃ c, p c = true ∧ l = c :: u := by
  cases l with
  | nil => cases h
  | cons c t =>
    replace h : (if p c then some t else none) = some u := h
    split at h
    · rename_i hc; injection h with h; subst h; exact ⟨c, hc, rfl⟩
    · cases h
theorem opt_cases (p : UInt8 → Bool) (l : List UInt8) : opt p l = l ∨ ∃ c, p c = true ∧ l = c :: opt p l := by
  unfold opt
  cases h : has p l with
  | none => exact .inl rfl
  | some t => exact .inr (has_some h)
theorem dg_opt {p : UInt8 → Bool} {l u : List UInt8} (h : Dg (opt p l) u) : Dg l u := by
  rcases opt_cases p l with e | ⟨c, _, e⟩
  · rwa [e] at h
  · rw [e]; exact h.cons c
theorem whole_dg {l u : List UInt8} (h : whole l = some u) : Dg l u := by
  unfold whole at h
  split at h
  · rename_i t ht
    injection h with h
    subst h
    obtain ⟨c, hc, rfl⟩ := has_some ht
    exact ⟨[], c, by simp [isNought] at hc; subst hc; decide, rfl⟩
  · exact run_dg h
theorem frac_dg {l u : List UInt8} (h : frac l = some u) : l = u ∨ Dg l u := by
  unfold frac at h
  split at h
  · rename_i t ht
    obtain ⟨c, hc, rfl⟩ := has_some ht
    exact .inr ((run_dg h).cons c)
  · injection h with h; exact .inl h
theorem expo_dg {l u : List UInt8} (h : expo l = some u) : l = u ∨ Dg l u := by
  unfold expo at h
  split at h
  · rename_i t ht
    obtain ⟨c, hc, rfl⟩ := has_some ht
    exact .inr ((dg_opt (run_dg h)).cons c)
  · injection h with h; exact .inl h
theorem number_parts {l u : List UInt8} (h : number l = some u) : ∃ a b, whole (opt isMinus l) = some a ∧ frac a = some b ∧ expo b = some u := by
  unfold number at h
  cases h1 : whole (opt isMinus l) with
  | none => rw [h1] at h; cases h
  | some a =>
    rw [h1] at h
    replace h : (frac a).bind expo = some u := h
    cases h2 : frac a with
    | none => rw [h2] at h; cases h
    | some c =>
      rw [h2] at h
      exact ⟨a, c, rfl, h2, h⟩
theorem number_dg {l u : List UInt8} (h : number l = some u) : Dg l u := by
  obtain ⟨a, b, h1, h2, h3⟩ := number_parts h
  refine dg_opt (p := isMinus) ?_
  have k1 := whole_dg h1
  have k2 : Dg (opt isMinus l) b := by rcases frac_dg h2 with rfl | k; exact k1; exact k1.trans k
  rcases expo_dg h3 with rfl | k
  · exact k2
  · exact k2.trans k

/-- The head of a number's digits. -/
def HeadOk (d : List UInt8) : Prop := ∃ c t, d = c :: t ∧ isDg c = true ∧ (c = 48 → t = [] ∨ ∃ e t', t = e :: t' ∧ (e = 46 ∨ e = 101 ∨ e = 69))
theorem number_head {l : List UInt8} (h : number l = some []) : HeadOk (opt isMinus l) := by
  obtain ⟨a, b, h1, h2, h3⟩ := number_parts h
  unfold whole at h1
  split at h1
  · rename_i t ht
    injection h1 with h1
    subst h1
    obtain ⟨c, hc, e⟩ := has_some ht
    refine ⟨c, t, e, by simp [isNought] at hc; subst hc; decide, fun _ => ?_⟩
    unfold frac at h2
    split at h2
    · rename_i t2 ht2
      obtain ⟨e1, he1, e2⟩ := has_some ht2
      exact .inr ⟨e1, t2, e2, .inl (by simpa [isDot] using he1)⟩
    · injection h2 with h2
      subst h2
      unfold expo at h3
      split at h3
      · rename_i t2 ht2
        obtain ⟨e1, he1, e2⟩ := has_some ht2
        exact .inr ⟨e1, t2, e2, .inr (by simpa [isE] using he1)⟩
      · injection h3 with h3; exact .inl h3
  · rename_i hn
    cases hd : opt isMinus l with
    | nil => rw [hd] at h1; cases h1
    | cons c t =>
      rw [hd] at h1 hn
      replace h1 : (if isDg c then some (t.dropWhile isDg) else none) = some a := h1
      split at h1
      · rename_i hc
        refine ⟨c, t, rfl, hc, fun h48 => ?_⟩
        subst h48
        cases hn
      · cases h1

theorem num_bl {c : UInt8} (h : isNum c = true) : isBl c = false := by
  simp only [isNum, isDg, decide_eq_true_eq, Bool.decide_and, Bool.and_eq_true] at h
  simp only [isBl, decide_eq_false_iff_not, not_or]
  rcases h with ⟨h1, h2⟩ | rfl | rfl | rfl | rfl | rfl
  · have h1' : (48 : UInt8).toNat ≤ c.toNat := UInt8.le_iff_toNat_le.1 h1
    refine ⟨?_, ?_, ?_, ?_⟩ <;> (intro h; subst h; exact absurd h1' (by decide))
  all_goals decide
theorem num_blanks {l : List UInt8} (h : ∀ c ∈ l, isNum c = true) : blanks l = l := by
  cases l with
  | nil => rfl
  | cons c t =>
    unfold blanks
    rw [List.dropWhile_cons, if_neg (by rw [num_bl (h c (by simp))]; exact Bool.false_ne_true)]
theorem num_lt {c : UInt8} (h : isNum c = true) : c.toNat < 128 := by
  simp only [isNum, isDg, decide_eq_true_eq, Bool.decide_and, Bool.and_eq_true] at h
  rcases h with ⟨h1, h2⟩ | rfl | rfl | rfl | rfl | rfl
  · have := UInt8.le_iff_toNat_le.1 h2
    have h57 : (57 : UInt8).toNat = 57 := rfl
    omega
  all_goals decide
theorem num_good {l : List UInt8} (h : ∀ c ∈ l, isNum c = true) (i : Nat) : DecP.badAt l i = none := by
  induction l generalizing i with
  | nil => exact DecP.badAt_nil i
  | cons c t ih =>
    rw [DecP.badAt_ascii t i (num_lt (h c (by simp)))]
    exact ih (fun d hd => h d (by simp [hd])) (i + 1)
theorem num_x {l : List UInt8} (h : ∀ c ∈ l, isNum c = true) : DecP.badAt (120 :: l) 0 = none := by
  rw [DecP.badAt_ascii l 0 (by decide)]
  exact num_good h 1

theorem num_value (n : Nat) {l : List UInt8} (h : ∀ c ∈ l, isNum c = true) : (value (n + 1) 0 l = .bad 20) ∨ ∃ u, number l = some u ∧ value (n + 1) 0 l = .ok (.mk 3 (l.take (l.length - u.length)) [] []) u := by
  unfold value
  rw [num_blanks h]
  cases l with
  | nil => exact .inl rfl
  | cons c t =>
    have hc := h c (by simp)
    have e1 : ∀ d : UInt8, isNum d = false → ¬ c = d := fun d hd e => by rw [← e, hc] at hd; cases hd
    simp only [if_neg (e1 110 (by decide)), if_neg (e1 102 (by decide)), if_neg (e1 116 (by decide)), if_neg (e1 34 (by decide))]
    have e2 : ¬ (c = 91 ∨ c = 123) := by rintro (e | e); exact e1 91 (by decide) e; exact e1 123 (by decide) e
    simp only [if_neg e2]
    split
    · cases hn : number (c :: t) with
      | none => exact .inl rfl
      | some u => exact .inr ⟨u, rfl, rfl⟩
    · exact .inl rfl
theorem num_parse {l : List UInt8} (h : ∀ c ∈ l, isNum c = true) : parse l = .bad 20 ∨ (parse l = .ok (.mk 3 l [] []) [] ∧ Dg l [] ∧ HeadOk (opt isMinus l)) := by
  rcases num_value (2 * l.length + 1) h with hv | ⟨u, hn, hv⟩
  · left; unfold parse; rw [hv]
  · have hd := number_dg hn
    have hu : blanks u = u := num_blanks (fun c hc => h c (by obtain ⟨q, d, _, e⟩ := hd; rw [e]; simp [hc]))
    by_cases he : u = []
    · subst he
      right
      refine ⟨?_, hd, number_head hn⟩
      unfold parse
      rw [hv]
      simp [hu, List.take_length]
    · left
      unfold parse
      rw [hv]
      simp [hu, he]

end Go.Proofs.Ytemcflfgoelpiaa.JsonP
