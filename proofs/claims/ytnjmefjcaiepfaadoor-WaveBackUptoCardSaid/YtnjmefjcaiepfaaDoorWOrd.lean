/- How words stand to each other; the angles lie above nought. -/
import Derived.Test.YtnjmefjcaiepfaaDoorWRoot
namespace Go.Proofs.YtnjmefjcaiepfaaDoor.WaveP

theorem compare_mul {a b c : Int} (hc : 0 < c) : compare (a * c) (b * c) = compare a b := by
  rcases Int.lt_trichotomy a b with h | h | h
  · rw [Int.compare_eq_lt.2 h, Int.compare_eq_lt.2 (Int.mul_lt_mul_of_pos_right h hc)]
  · subst h; rw [Int.compare_eq_eq.2 rfl, Int.compare_eq_eq.2 rfl]
  · rw [Int.compare_eq_gt.2 h, Int.compare_eq_gt.2 (Int.mul_lt_mul_of_pos_right h hc)]
theorem signed_sval {w p : Nat} (h : p ≤ pl (rg w)) : Ieee.signed (sg w) (mg (rg w)) (pl (rg w) - p) * ((2 ^ p : Nat) : Int) = sval w := by
  have e : un (rg w) = mg (rg w) * 2 ^ (pl (rg w) - p) * 2 ^ p := by unfold un; rw [Nat.mul_assoc, ← Nat.pow_add, Nat.sub_add_cancel h]
  unfold Ieee.signed sval
  rw [e, Nat.shiftLeft_eq]
  cases sg w
  · rw [cond_false, if_neg (by decide)]
    exact (Int.natCast_mul _ _).symm
  · rw [cond_true, if_pos rfl, Int.neg_mul]
    exact congrArg _ (Int.natCast_mul _ _).symm
theorem order_eq {x y : Nat} (hx : fin x = true) (hy : fin y = true) : fmt.order x y = some (compare (sval x) (sval y)) := by
  unfold Ieee.Format.order
  rw [read_fin hx, read_fin hy]
  unfold Ieee.Datum.order
  dsimp only
  obtain ⟨p, hp⟩ : ∃ p, min (pl (rg x)) (pl (rg y)) = p := ⟨_, rfl⟩
  have hb : min ((pl (rg x) : Int) - 1074) ((pl (rg y) : Int) - 1074) = (p : Int) - 1074 := by omega
  have e1 : ((pl (rg x) : Int) - 1074 - ((p : Int) - 1074)).toNat = pl (rg x) - p := by omega
  have e2 : ((pl (rg y) : Int) - 1074 - ((p : Int) - 1074)).toNat = pl (rg y) - p := by omega
  rw [hb, e1, e2, ← signed_sval (w := x) (p := p) (by omega), ← signed_sval (w := y) (p := p) (by omega), compare_mul (by exact_mod_cast Nat.two_pow_pos p)]
theorem order_lt {x y : Nat} (hx : fin x = true) (hy : fin y = true) (h : sval x < sval y) : fmt.order x y = some .lt := by rw [order_eq hx hy, Int.compare_eq_lt.2 h]
theorem order_gt {x y : Nat} (hx : fin x = true) (hy : fin y = true) (h : sval y < sval x) : fmt.order x y = some .gt := by rw [order_eq hx hy, Int.compare_eq_gt.2 h]
theorem order_same {x y : Nat} (hx : fin x = true) (hy : fin y = true) (h : sval x = sval y) : fmt.order x y = some .eq := by rw [order_eq hx hy, Int.compare_eq_eq.2 h]

/-- The sign turned. -/
def flipW (x : Nat) : Nat := wd (!sg x) (rg x)
theorem sval_flip {x : Nat} (h : fin x = true) : sval (flipW x) = -sval x := by
  obtain ⟨_, h2⟩ := fin_iff.1 h
  unfold sval flipW
  rw [sg_wd h2, rg_wd h2]
  cases sg x
  · rfl
  · show _ = - -_
    rw [Int.neg_neg]; rfl
theorem fin_flip {x : Nat} (h : fin x = true) : fin (flipW x) = true := fin_wd (fin_iff.1 h).2
theorem val_flip {x : Nat} (h : fin x = true) : val (flipW x) = -val x := by
  rw [sval_val, sval_val, sval_flip h]
  have : ((-sval x : Int) : Rat) = -(sval x : Rat) := by exact_mod_cast rfl
  rw [this]; grind

/-- An angle's word: above nought, at most 4. -/
def c1076 : Nat := 1076
def angleB (x : Nat) : Bool := fin x && (!sg x && (Nat.ble 1 (un (rg x)) && Nat.ble (un (rg x)) (2 ^ c1076)))
def chkA : Nat → Nat → Bool
  | 0, _ => true
  | n + 1, k => (match angle k 12 with | some x => angleB x | none => false) && chkA n (k + 1)
theorem chkA_ok : ∀ (n k : Nat), chkA n k = true → ∀ i, i < n → ∃ x, angle (k + i) 12 = some x ∧ angleB x = true := by
  intro n
  induction n with
  | zero => intro k _ i hi; omega
  | succ n ih =>
    intro k h i hi
    unfold chkA at h
    obtain ⟨h1, h2⟩ := and_t h
    rcases Nat.eq_zero_or_pos i with h0 | h0
    · subst h0
      rw [Nat.add_zero]
      cases ha : angle k 12 with
      | none => rw [ha] at h1; cases h1
      | some x => rw [ha] at h1; exact ⟨x, rfl, h1⟩
    · have h3 := ih (k + 1) h2 (i - 1) (by omega)
      rwa [show k + 1 + (i - 1) = k + i by omega] at h3
theorem chkL_ok : ∀ (n l k : Nat), chkL l k n = true → ∀ i, i < n → ∃ x, angle (k + i) l = some x ∧ angle ((k + i) * 2 ^ (12 - l)) 12 = some x := by
  intro n
  induction n with
  | zero => intro l k _ i hi; omega
  | succ n ih =>
    intro l k h i hi
    unfold chkL at h
    obtain ⟨h1, h2⟩ := and_t h
    rcases Nat.eq_zero_or_pos i with h0 | h0
    · subst h0
      rw [Nat.add_zero]
      cases ha : angle k l with
      | none => rw [ha] at h1; cases h1
      | some x =>
        cases hb : angle (k * 2 ^ (12 - l)) 12 with
        | none => rw [ha, hb] at h1; cases h1
        | some y =>
          rw [ha, hb] at h1
          have := Nat.eq_of_beq_eq_true h1
          subst this
          exact ⟨x, rfl, rfl⟩
    · have h3 := ih l (k + 1) h2 (i - 1) (by omega)
      rwa [show k + 1 + (i - 1) = k + i by omega] at h3

end Go.Proofs.YtnjmefjcaiepfaaDoor.WaveP
