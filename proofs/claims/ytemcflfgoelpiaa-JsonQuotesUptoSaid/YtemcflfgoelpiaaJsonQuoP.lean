/- Quoted text in plain Lean: it reads back. -/
import Derived.Test.YtemcflfgoelpiaaJsonQ
import Derived.Test.YtemcflfgoelpiaaJsonPL
namespace Go.Proofs.Ytemcflfgoelpiaa.JsonP

theorem body_succ (n : Nat) (out : List UInt8) (c : UInt8) (t : List UInt8) : body (n + 1) out (c :: t) = if c < 32 then none else if c = 34 then some (out, t) else if c = 92 then (match esc t with
      | some (b, u) => body n (out ++ b) u
      | none => none) else body n (out ++ [c]) t := rfl
theorem body_fuel (n : Nat) : ∀ (m : Nat) (out l : List UInt8), l.length < n → l.length < m → body n out l = body m out l := by
  induction n with
  | zero => intro m out l h; omega
  | succ n ih =>
    intro m out l h1 h2
    cases m with
    | zero => omega
    | succ m =>
      cases l with
      | nil => rfl
      | cons c t =>
        rw [List.length_cons] at h1 h2
        rw [body_succ, body_succ]
        cases he : esc t with
        | none => rw [ih m _ t (by omega) (by omega)]
        | some p =>
          obtain ⟨b, u⟩ := p
          have := esc_len he
          simp only
          rw [ih m _ t (by omega) (by omega), ih m _ u (by omega) (by omega)]
theorem body_high (bs : List UInt8) : ∀ (n : Nat) (out t : List UInt8), (∀ c ∈ bs, 32 ≤ c.toNat ∧ c ≠ 34 ∧ c ≠ 92) → (bs ++ t).length < n → body n out (bs ++ t) = body n (out ++ bs) t := by
  induction bs with
  | nil => intro n out t _ _; simp
  | cons c bs ih =>
    intro n out t h hn
    cases n with
    | zero => omega
    | succ n =>
      obtain ⟨h1, h2, h3⟩ := h c (by simp)
      rw [List.cons_append] at hn ⊢
      rw [List.length_cons] at hn
      rw [body_succ, if_neg (by rw [UInt8.lt_iff_toNat_lt]; show ¬ c.toNat < 32; omega), if_neg h2, if_neg h3, ih n _ t (fun d hd => h d (by simp [hd])) (by omega)]
      rw [List.length_append] at hn
      rw [List.append_assoc, List.singleton_append]
      exact body_fuel n (n + 1) _ t (by omega) (by omega)
theorem body_esc {n : Nat} {out q b t : List UInt8} (he : ∀ t, esc (q ++ t) = some (b, t)) (hn : (92 :: (q ++ t)).length < n) : body n out (92 :: (q ++ t)) = body n (out ++ b) t := by
  cases n with
  | zero => omega
  | succ n =>
    rw [List.length_cons, List.length_append] at hn
    rw [body_succ, if_neg (by decide), if_neg (by decide), if_pos rfl, he t]
    exact body_fuel n (n + 1) _ t (by omega) (by omega)
theorem esc_short {c d : UInt8} (h : short c = some d) (t : List UInt8) : esc ([c] ++ t) = some ([d], t) := by
  show (match short c with | some d => some ([d], t) | none => _) = _
  rw [h]
theorem esc_self {c : UInt8} (h : short c = none) (h2 : c = 34 ∨ c = 92 ∨ c = 47) (t : List UInt8) : esc ([c] ++ t) = some ([c], t) := by
  show (match short c with | some d => some ([d], t) | none => if c = 34 ∨ c = 92 ∨ c = 47 then some ([c], t) else _) = _
  rw [h]
  simp only [if_pos h2]
theorem esc_hex (k : Fin 32) (t : List UInt8) : esc ([117, 48, 48, hexB (k.val / 16), hexB (k.val % 16)] ++ t) = some (encB k.val, t) := by
  have h1 : ∀ k : Fin 32, hexd (hexB (k.val / 16)) = some (k.val / 16) ∧ hexd (hexB (k.val % 16)) = some (k.val % 16) := by decide
  obtain ⟨a, b⟩ := h1 k
  have h0 : hexd 48 = some 0 := by decide
  have hx : hex 4 0 (48 :: 48 :: hexB (k.val / 16) :: hexB (k.val % 16) :: t) = some (k.val, t) := by
    simp only [hex, h0, a, b]
    congr 2
    omega
  have e : ∀ u, esc (117 :: u) = (unit u).map fun p => (encB p.1, p.2) := fun u => by
    have h2 : short 117 = none := by decide
    simp [esc, h2]
  have hu : unit (48 :: 48 :: hexB (k.val / 16) :: hexB (k.val % 16) :: t) = some (k.val, t) := by
    unfold unit
    rw [hx]
    simp only
    rw [if_pos (by omega)]
  show esc (117 :: 48 :: 48 :: hexB (k.val / 16) :: hexB (k.val % 16) :: t) = _
  rw [e, hu]
  rfl
theorem encB_high {r : Nat} (h : 32 ≤ r) (h1 : r ≠ 34) (h2 : r ≠ 92) (h3 : r ≤ 1114111) : ∀ c ∈ encB r, 32 ≤ c.toNat ∧ c ≠ 34 ∧ c ≠ 92 := by
  have key : ∀ n : Nat, n < 256 → 32 ≤ n → n ≠ 34 → n ≠ 92 → 32 ≤ (UInt8.ofNat n).toNat ∧ UInt8.ofNat n ≠ 34 ∧ UInt8.ofNat n ≠ 92 := by
    intro n hn a b c
    have e : (UInt8.ofNat n).toNat = n := UInt8.toNat_ofNat_of_lt' (by simpa [UInt8.size] using hn)
    refine ⟨by omega, fun h => b ?_, fun h => c ?_⟩
    · rw [h] at e; exact e.symm
    · rw [h] at e; exact e.symm
  intro c hc
  unfold encB at hc
  split at hc
  · simp only [List.mem_singleton] at hc; subst hc; exact key r (by omega) h h1 h2
  · split at hc
    · simp only [List.mem_cons, List.not_mem_nil, or_false] at hc
      rcases hc with rfl | rfl <;> exact key _ (by omega) (by omega) (by omega) (by omega)
    · split at hc
      · simp only [List.mem_cons, List.not_mem_nil, or_false] at hc
        rcases hc with rfl | rfl | rfl <;> exact key _ (by omega) (by omega) (by omega) (by omega)
      · simp only [List.mem_cons, List.not_mem_nil, or_false] at hc
        rcases hc with rfl | rfl | rfl | rfl <;> exact key _ (by omega) (by omega) (by omega) (by omega)
theorem body_qone (r : Nat) (hr : r ≤ 1114111) (n : Nat) (out t : List UInt8) (hn : (qOne r ++ t).length < n) : body n out (qOne r ++ t) = body n (out ++ encB r) t := by
  by_cases h1 : r = 34
  · subst h1; exact body_esc (q := [34]) (esc_self (by decide) (by decide)) hn
  by_cases h2 : r = 92
  · subst h2; exact body_esc (q := [92]) (esc_self (by decide) (by decide)) hn
  by_cases h3 : r = 8
  · subst h3; exact body_esc (q := [98]) (esc_short (by decide)) hn
  by_cases h4 : r = 9
  · subst h4; exact body_esc (q := [116]) (esc_short (by decide)) hn
  by_cases h5 : r = 10
  · subst h5; exact body_esc (q := [110]) (esc_short (by decide)) hn
  by_cases h6 : r = 12
  · subst h6; exact body_esc (q := [102]) (esc_short (by decide)) hn
  by_cases h7 : r = 13
  · subst h7; exact body_esc (q := [114]) (esc_short (by decide)) hn
  by_cases h8 : r < 32
  · have hq : qOne r = 92 :: [117, 48, 48, hexB (r / 16), hexB (r % 16)] := by
      unfold qOne
      rw [if_neg (by omega), if_neg h3, if_neg h4, if_neg h5, if_neg h6, if_neg h7, if_pos h8]
    rw [hq] at hn ⊢
    exact body_esc (esc_hex ⟨r, h8⟩) hn
  · rw [qOne_plain (by omega) h1 h2] at hn ⊢
    exact body_high _ n out t (encB_high (by omega) h1 h2 hr) hn
theorem body_qall (rs : List Int) (h : ∀ r ∈ rs, DecP.Scalar r) : ∀ (n : Nat) (out t : List UInt8), (qAll rs ++ t).length < n → body n out (qAll rs ++ t) = body n (out ++ DecP.encs rs) t := by
  induction rs with
  | nil => intro n out t _; simp [qAll, DecP.encs]
  | cons r rs ih =>
    intro n out t hn
    rw [show qAll (r :: rs) = qOne r.toNat ++ qAll rs from rfl, List.append_assoc] at hn ⊢
    have hr := h r (by simp)
    rw [body_qone r.toNat (by have := hr.1; have := hr.2.1; omega) n out _ hn, ih (fun x hx => h x (by simp [hx])) n _ t (by rw [List.length_append] at hn; omega)]
    rw [show DecP.encs (r :: rs) = encB r.toNat ++ DecP.encs rs from rfl, List.append_assoc]
theorem text_quote (rs : List Int) (h : ∀ r ∈ rs, DecP.Scalar r) (t : List UInt8) : text (quote rs ++ t) = some (DecP.encs rs, t) := by
  unfold text quote
  rw [List.cons_append, List.append_assoc]
  show body ((qAll rs ++ ([34] ++ t)).length + 1) [] (qAll rs ++ ([34] ++ t)) = _
  rw [body_qall rs h _ _ _ (Nat.lt_succ_self _)]
  rfl
theorem parse_quote (rs : List Int) (h : ∀ r ∈ rs, DecP.Scalar r) : parse (quote rs) = .ok (.mk 4 (DecP.encs rs) [] []) [] := by
  have ht := text_quote rs h []
  rw [List.append_nil] at ht
  have hv : value (2 * (quote rs).length + 1 + 1) 0 (quote rs) = .ok (.mk 4 (DecP.encs rs) [] []) [] := by
    unfold value
    rw [show blanks (quote rs) = quote rs from rfl]
    unfold quote at ht ⊢
    simp only [if_neg (show ¬ (34 : UInt8) = 110 by decide), if_neg (show ¬ (34 : UInt8) = 102 by decide), if_neg (show ¬ (34 : UInt8) = 116 by decide), if_true, ht]
  unfold parse
  rw [hv]
  rfl
theorem bad_qone {r : Int} (hr : DecP.Scalar r) (t : List UInt8) (h : ∀ i, DecP.badAt t i = none) (i : Nat) : DecP.badAt (qOne r.toNat ++ t) i = none := by
  by_cases hp : 32 ≤ r.toNat ∧ r.toNat ≠ 34 ∧ r.toNat ≠ 92
  · rw [qOne_plain hp.1 hp.2.1 hp.2.2, DecP.badAt_one hr]
    exact h _
  · have hall : ∀ k : Fin 93, ¬ (32 ≤ k.val ∧ k.val ≠ 34 ∧ k.val ≠ 92) → ∀ c ∈ qOne k.val, c.toNat < 128 := by decide +kernel
    have ha := hall ⟨r.toNat, by omega⟩ hp
    revert ha
    generalize qOne r.toNat = q
    intro ha
    induction q generalizing i with
    | nil => exact h i
    | cons c q ih =>
      rw [List.cons_append, DecP.badAt_ascii _ _ (ha c (by simp))]
      exact ih (i + 1) (fun d hd => ha d (by simp [hd]))
theorem bad_qall (rs : List Int) (h : ∀ r ∈ rs, DecP.Scalar r) (t : List UInt8) (ht : ∀ i, DecP.badAt t i = none) : ∀ i, DecP.badAt (qAll rs ++ t) i = none := by
  induction rs with
  | nil => exact ht
  | cons r rs ih =>
    intro i
    rw [show qAll (r :: rs) = qOne r.toNat ++ qAll rs from rfl, List.append_assoc]
    exact bad_qone (h r (by simp)) _ (ih (fun x hx => h x (by simp [hx]))) i
theorem bad_quote (rs : List Int) (h : ∀ r ∈ rs, DecP.Scalar r) : DecP.badAt (120 :: quote rs) 0 = none := by
  rw [DecP.badAt_ascii _ _ (by decide)]
  unfold quote
  rw [DecP.badAt_ascii _ _ (by decide)]
  exact bad_qall rs h [34] (fun i => by rw [DecP.badAt_ascii _ _ (by decide)]; exact DecP.badAt_nil _) _

end Go.Proofs.Ytemcflfgoelpiaa.JsonP
