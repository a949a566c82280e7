/- UTF-8, read and written, in plain Lean: what is read are scalars; what is written is read. -/
import Derived.Test.YtemcflfgoelpiaaJsonPL
namespace Go.Proofs.Ytemcflfgoelpiaa.DecP
open JsonP (encB)

def Scalar (r : Int) : Prop := 0 ≤ r ∧ r ≤ 1114111 ∧ (r < 55296 ∨ 57343 < r)
theorem go0 (k : Nat) (v lo hi : Int) (t : List UInt8) : go 0 k v lo hi t = (v, k) := rfl
theorem go_step {m k : Nat} {v lo hi : Int} {t : List UInt8} (h : 0 ≤ (go (m + 1) k v lo hi t).1) : ∃ x u, t = x :: u ∧ lo ≤ (x.toNat : Int) ∧ (x.toNat : Int) ≤ hi ∧ go (m + 1) k v lo hi t = go m (k + 1) (64 * v + ((x.toNat : Int) - 128)) 128 191 u := by
  cases t with
  | nil => exact absurd h (by show ¬ (0 : Int) ≤ -1; decide)
  | cons x u =>
    rw [go_cons] at h ⊢
    split at h
    · exact absurd h (by show ¬ (0 : Int) ≤ -1; decide)
    · rename_i hc
      exact ⟨x, u, rfl, by omega, by omega, by rw [if_neg hc]⟩
theorem one_scalar {s : List UInt8} (h : 0 ≤ (one s).1) : Scalar (one s).1 := by
  cases s with
  | nil => exact absurd h (by show ¬ (0 : Int) ≤ -1; decide)
  | cons c t =>
    rw [one_cons] at h ⊢
    obtain ⟨b, hb⟩ : ∃ b : Int, (c.toNat : Int) = b := ⟨_, rfl⟩
    rw [hb] at h ⊢
    have hb0 : 0 ≤ b := by omega
    split at h
    · rename_i h1; rw [if_pos h1]; exact ⟨by show 0 ≤ b; omega, by show b ≤ _; omega, .inl (by show b < _; omega)⟩
    · rename_i h1
      rw [if_neg h1]
      split at h
      · exact absurd h (by show ¬ (0 : Int) ≤ -1; decide)
      · rename_i h2
        rw [if_neg h2]
        by_cases c1 : b < 224
        · have hm : more b = 1 := by unfold more; rw [if_pos c1]
          have hv : bits b = b - 192 := by unfold bits; rw [if_pos c1]
          rw [hm, hv] at h ⊢
          have hlo : 128 ≤ least b := by unfold least; repeat' split <;> omega
          have hhi : most b ≤ 191 := by unfold most; repeat' split <;> omega
          obtain ⟨x, u, rfl, h3, h4, h5⟩ := go_step h
          rw [h5, go0]
          unfold Scalar
          simp only
          omega
        · by_cases c2 : b < 240
          · have hm : more b = 2 := by unfold more; rw [if_neg c1, if_pos c2]
            have hv : bits b = b - 224 := by unfold bits; rw [if_neg c1, if_pos c2]
            rw [hm, hv] at h ⊢
            obtain ⟨x, u, rfl, h3, h4, h5⟩ := go_step h
            rw [h5] at h ⊢
            obtain ⟨y, u2, rfl, h6, h7, h8⟩ := go_step h
            rw [h8, go0]
            unfold Scalar
            simp only
            have hlo : 128 ≤ least b ∧ (b = 224 → least b = 160) := by unfold least; constructor <;> (repeat' split) <;> omega
            have hhi : most b ≤ 191 ∧ (b = 237 → most b = 159) := by unfold most; constructor <;> (repeat' split) <;> omega
            omega
          · have hm : more b = 3 := by unfold more; rw [if_neg c1, if_neg c2]
            have hv : bits b = b - 240 := by unfold bits; rw [if_neg c1, if_neg c2]
            rw [hm, hv] at h ⊢
            obtain ⟨x, u, rfl, h3, h4, h5⟩ := go_step h
            rw [h5] at h ⊢
            obtain ⟨y, u2, rfl, h6, h7, h8⟩ := go_step h
            rw [h8] at h ⊢
            obtain ⟨z, u3, rfl, h9, h10, h11⟩ := go_step h
            rw [h11, go0]
            unfold Scalar
            simp only
            have hlo : 128 ≤ least b ∧ (b = 240 → least b = 144) := by unfold least; constructor <;> (repeat' split) <;> omega
            have hhi : most b ≤ 191 ∧ (b = 244 → most b = 143) := by unfold most; constructor <;> (repeat' split) <;> omega
            omega
theorem rune_scalar (s : List UInt8) : Scalar (rune (one s)) := by
  unfold rune
  split
  · exact ⟨by decide, by decide, by decide⟩
  · exact one_scalar (by omega)
theorem runes_scalar (s : List UInt8) : ∀ r ∈ runes s, Scalar r := by
  intro r hr
  unfold runes at hr
  rw [List.mem_map] at hr
  obtain ⟨p, hp, rfl⟩ := hr
  have key : ∀ n, ∀ s : List UInt8, s.length ≤ n → ∀ p ∈ all s, Scalar (rune p) := by
    intro n
    induction n with
    | zero =>
      intro s hs p hp
      have : s = [] := List.eq_nil_of_length_eq_zero (by omega)
      subst this
      rw [all_nil] at hp; cases hp
    | succ n ih =>
      intro s hs p hp
      by_cases he : s = []
      · subst he; rw [all_nil] at hp; cases hp
      · rw [all_cons he] at hp
        rcases List.mem_cons.1 hp with rfl | hp
        · exact rune_scalar s
        · have := one_pos s he
          exact ih _ (by rw [List.length_drop]; omega) p hp
  exact key _ s (Nat.le_refl _) p hp

theorem runes_len (s : List UInt8) : (runes s).length ≤ s.length := by
  have key : ∀ n, ∀ s : List UInt8, s.length ≤ n → (runes s).length ≤ s.length := by
    intro n
    induction n with
    | zero =>
      intro s hs
      have : s = [] := List.eq_nil_of_length_eq_zero (by omega)
      subst this
      rw [runes_nil]; exact Nat.le_refl _
    | succ n ih =>
      intro s hs
      by_cases he : s = []
      · subst he; rw [runes_nil]; exact Nat.le_refl _
      · have h1 := one_pos s he
        have h2 := ih (s.drop (one s).2) (by rw [List.length_drop]; omega)
        rw [List.length_drop] at h2
        rw [runes_cons he, List.length_cons]
        omega
  exact key _ s (Nat.le_refl _)
theorem u8 {n : Nat} (h : n < 256) : ((UInt8.ofNat n).toNat : Int) = n := by rw [UInt8.toNat_ofNat_of_lt' (by simpa [UInt8.size] using h)]
/-- What is written is read. -/
theorem one_enc (r : Nat) (hr : Scalar r) (t : List UInt8) : one (encB r ++ t) = ((r : Int), (encB r).length) := by
  unfold Scalar at hr
  unfold JsonP.encB
  by_cases c1 : r < 128
  · rw [if_pos c1]
    show one (UInt8.ofNat r :: t) = _
    rw [one_cons, u8 (by omega), if_pos (by omega)]
    rfl
  · rw [if_neg c1]
    by_cases c2 : r < 2048
    · rw [if_pos c2]
      show one (UInt8.ofNat _ :: UInt8.ofNat _ :: t) = _
      rw [one_cons, u8 (show 192 + r / 64 < 256 by omega), if_neg (by omega), if_neg (by omega)]
      have hm : more ((192 + r / 64 : Nat) : Int) = 1 := by unfold more; rw [if_pos (by omega)]
      have hv : bits ((192 + r / 64 : Nat) : Int) = (r / 64 : Nat) := by unfold bits; rw [if_pos (by omega)]; omega
      have hlo : least ((192 + r / 64 : Nat) : Int) = 128 := by unfold least; rw [if_neg (by omega), if_neg (by omega)]
      have hhi : most ((192 + r / 64 : Nat) : Int) = 191 := by unfold most; rw [if_neg (by omega), if_neg (by omega)]
      rw [hm, hv, hlo, hhi, go_cons, u8 (show 128 + r % 64 < 256 by omega), if_neg (by omega), go0]
      simp only [List.length_cons, List.length_nil, Prod.mk.injEq, and_true]
      omega
    · rw [if_neg c2]
      by_cases c3 : r < 65536
      · rw [if_pos c3]
        show one (UInt8.ofNat _ :: UInt8.ofNat _ :: UInt8.ofNat _ :: t) = _
        rw [one_cons, u8 (show 224 + r / 4096 < 256 by omega), if_neg (by omega), if_neg (by omega)]
        have hm : more ((224 + r / 4096 : Nat) : Int) = 2 := by unfold more; rw [if_neg (by omega), if_pos (by omega)]
        have hv : bits ((224 + r / 4096 : Nat) : Int) = (r / 4096 : Nat) := by unfold bits; rw [if_neg (by omega), if_pos (by omega)]; omega
        have hlo : least ((224 + r / 4096 : Nat) : Int) ≤ ((128 + r / 64 % 64 : Nat) : Int) := by unfold least; repeat' split <;> omega
        have hhi : ((128 + r / 64 % 64 : Nat) : Int) ≤ most ((224 + r / 4096 : Nat) : Int) := by unfold most; repeat' split <;> omega
        rw [hm, hv, go_cons, u8 (show 128 + r / 64 % 64 < 256 by omega), if_neg (by omega), go_cons, u8 (show 128 + r % 64 < 256 by omega), if_neg (by omega), go0]
        simp only [List.length_cons, List.length_nil, Prod.mk.injEq, and_true]
        omega
      · rw [if_neg c3]
        show one (UInt8.ofNat _ :: UInt8.ofNat _ :: UInt8.ofNat _ :: UInt8.ofNat _ :: t) = _
        rw [one_cons, u8 (show 240 + r / 262144 < 256 by omega), if_neg (by omega), if_neg (by omega)]
        have hm : more ((240 + r / 262144 : Nat) : Int) = 3 := by unfold more; rw [if_neg (by omega), if_neg (by omega)]
        have hv : bits ((240 + r / 262144 : Nat) : Int) = (r / 262144 : Nat) := by unfold bits; rw [if_neg (by omega), if_neg (by omega)]; omega
        have hlo : least ((240 + r / 262144 : Nat) : Int) ≤ ((128 + r / 4096 % 64 : Nat) : Int) := by unfold least; repeat' split <;> omega
        have hhi : ((128 + r / 4096 % 64 : Nat) : Int) ≤ most ((240 + r / 262144 : Nat) : Int) := by unfold most; repeat' split <;> omega
        rw [hm, hv, go_cons, u8 (show 128 + r / 4096 % 64 < 256 by omega), if_neg (by omega), go_cons, u8 (show 128 + r / 64 % 64 < 256 by omega), if_neg (by omega), go_cons, u8 (show 128 + r % 64 < 256 by omega), if_neg (by omega), go0]
        simp only [List.length_cons, List.length_nil, Prod.mk.injEq, and_true]
        omega
theorem encB_pos (r : Nat) : 0 < (encB r).length := by unfold JsonP.encB; repeat' (split <;> try simp)
theorem encB_ne (r : Nat) (t : List UInt8) : encB r ++ t ≠ [] := by
  intro h
  have := congrArg List.length h
  rw [List.length_append] at this
  have := encB_pos r
  rw [List.length_nil] at *
  omega
def encs (rs : List Int) : List UInt8 := rs.flatMap fun r => encB r.toNat
theorem runes_one {r : Int} (hr : Scalar r) (t : List UInt8) : runes (encB r.toNat ++ t) = r :: runes t := by
  obtain ⟨n, rfl⟩ : ∃ n : Nat, r = n := ⟨r.toNat, by have := hr.1; omega⟩
  rw [Int.toNat_natCast, runes_cons (encB_ne n t), one_enc n hr t, List.drop_left]
  show rune _ :: _ = _
  rw [show rune ((n : Int), (encB n).length) = n by unfold rune; rw [if_neg (by simp only; omega)]]
theorem runes_encs (rs : List Int) (h : ∀ r ∈ rs, Scalar r) (t : List UInt8) : runes (encs rs ++ t) = rs ++ runes t := by
  induction rs with
  | nil => rfl
  | cons r rs ih =>
    show runes ((encB r.toNat ++ encs rs) ++ t) = _
    rw [List.append_assoc, runes_one (h r List.mem_cons_self), ih (fun x hx => h x (List.mem_cons_of_mem _ hx))]
    rfl
theorem badAt_one {r : Int} (hr : Scalar r) (t : List UInt8) (i : Nat) : badAt (encB r.toNat ++ t) i = badAt t (i + (encB r.toNat).length) := by
  obtain ⟨n, rfl⟩ : ∃ n : Nat, r = n := ⟨r.toNat, by have := hr.1; omega⟩
  rw [Int.toNat_natCast]
  have ho := one_enc n hr t
  rw [badAt_good (encB_ne n t) (by rw [ho]; simp only; omega), ho, List.drop_left]
theorem badAt_shift (s : List UInt8) (i j : Nat) : badAt s i = none → badAt s j = none := by
  have key : ∀ n, ∀ s : List UInt8, s.length ≤ n → ∀ i j, badAt s i = none → badAt s j = none := by
    intro n
    induction n with
    | zero =>
      intro s hs i j h
      have : s = [] := List.eq_nil_of_length_eq_zero (by omega)
      subst this
      exact badAt_nil j
    | succ n ih =>
      intro s hs i j h
      by_cases he : s = []
      · subst he; exact badAt_nil j
      · by_cases hb : (one s).1 < 0
        · rw [badAt_bad he hb] at h; cases h
        · rw [badAt_good he hb] at h ⊢
          have := one_pos s he
          exact ih _ (by rw [List.length_drop]; omega) _ _ h
  exact key _ s (Nat.le_refl _) i j
theorem badAt_ascii {c : UInt8} (t : List UInt8) (i : Nat) (h : c.toNat < 128) : badAt (c :: t) i = badAt t (i + 1) := by
  have ho := one_ascii t h
  rw [badAt_good (List.cons_ne_nil _ _) (by rw [ho]; simp only; omega), ho]
  rfl
theorem runes_ascii {c : UInt8} (t : List UInt8) (h : c.toNat < 128) : runes (c :: t) = (c.toNat : Int) :: runes t := by
  rw [runes_cons (List.cons_ne_nil _ _), one_ascii t h]
  show rune _ :: _ = _
  rw [show rune ((c.toNat : Int), 1) = c.toNat by unfold rune; rw [if_neg (by simp only; omega)]]
  rfl

end Go.Proofs.Ytemcflfgoelpiaa.DecP
