/- The near root of one, and what the table's check says.
  How words stand to each other; the angles lie above nought.
  The parts of a sine and a cosine; numbers cut to whole ones. -/
import Derived.Test.YtblkejnckbeieaaGreatDoorZk29
namespace Go.Proofs.YtblkejnckbeieaaGreatDoor.WaveP
open CxW

theorem force_eq {α : Type} (x : Int) (k : Int → α) : force x k = k x := by cases x <;> (unfold force; exact strict_eq _ _)
/-- The root's powers, cut to 110 places. -/
def zst : Nat → Int × Int
  | 0 => (2 ^ 110, 0)
  | n + 1 => (((zst n).1 * zp - (zst n).2 * zq) / (zr : Int), ((zst n).1 * zq + (zst n).2 * zp) / (zr : Int))
theorem zst_succ (n : Nat) : zst (n + 1) = (((zst n).1 * zp - (zst n).2 * zq) / (zr : Int), ((zst n).1 * zq + (zst n).2 * zp) / (zr : Int)) := rfl
theorem zgo_eq : ∀ (n i : Nat) (k : Int → Int → Bool), zgo n (zst i).1 (zst i).2 k = k (zst (i + n)).1 (zst (i + n)).2 := by
  intro n
  induction n with
  | zero => intro i k; rfl
  | succ n ih =>
    intro i k
    unfold zgo
    rw [force_eq, force_eq]
    have := ih (i + 1) k
    rw [zst_succ] at this
    rw [this, show i + 1 + n = i + (n + 1) by omega]
/-- What the check says of a place. -/
def OkT (k : Nat) : Prop := ∃ x s c, angle k 12 = some x ∧ sincosP x = some (s, c) ∧ closeI c (zst k).1 = true ∧ closeI s (zst k).2 = true
theorem chkT_ok : ∀ (n k : Nat), chkT n k (zst k).1 (zst k).2 = true → ∀ i, i < n → OkT (k + i) := by
  intro n
  induction n with
  | zero => intro k _ i hi; omega
  | succ n ih =>
    intro k h i hi
    unfold chkT at h
    obtain ⟨h1, h2⟩ := and_t h
    rw [force_eq, force_eq] at h2
    rcases Nat.eq_zero_or_pos i with h0 | h0
    · subst h0
      rw [Nat.add_zero]
      cases ha : angle k 12 with
      | none => rw [ha] at h1; cases h1
      | some x =>
        rw [ha, Option.bind_some] at h1
        cases hs : sincosP x with
        | none => rw [hs] at h1; cases h1
        | some p =>
          obtain ⟨s, c⟩ := p
          rw [hs] at h1
          obtain ⟨h3, h4⟩ := and_t h1
          exact ⟨x, s, c, ha, hs, h3, h4⟩
    · have h3 := ih (k + 1) (by rw [zst_succ]; exact h2) (i - 1) (by omega)
      rwa [show k + 1 + (i - 1) = k + i by omega] at h3
theorem blk_ok {b n : Nat} (h : blk b n = true) : ∀ i, i < n → OkT (128 * b + 1 + i) := by
  unfold blk at h
  have e := zgo_eq (128 * b + 1) 0 fun P Q => chkT n (128 * b + 1) P Q
  rw [Nat.zero_add] at e
  have e0' : zgo (128 * b + 1) (2 ^ 110) 0 (fun P Q => chkT n (128 * b + 1) P Q) = zgo (128 * b + 1) (zst 0).1 (zst 0).2 fun P Q => chkT n (128 * b + 1) P Q := rfl
  rw [e0', e] at h
  exact chkT_ok n _ h

def zeta : CxW := ⟨(zp : Rat) / (zr : Rat), (zq : Rat) / (zr : Rat)⟩
theorem zr_pos : (0 : Rat) < (zr : Rat) := by exact_mod_cast (show 0 < zr by decide +kernel)
theorem zeta_norm : zeta.re * zeta.re + zeta.im * zeta.im = 1 := by
  have h1 : zp * zp + zq * zq = (zr : Int) * zr := by decide +kernel
  have h2 : (zp : Rat) * (zp : Rat) + (zq : Rat) * (zq : Rat) = (zr : Rat) * (zr : Rat) := by exact_mod_cast h1
  have h3 := Rat.ne_of_gt zr_pos
  show (zp : Rat) / (zr : Rat) * ((zp : Rat) / (zr : Rat)) + (zq : Rat) / (zr : Rat) * ((zq : Rat) / (zr : Rat)) = 1
  grind
theorem zeta_bd : Bd zeta 1 := ⟨by decide +kernel, by rw [zeta_norm]; decide +kernel⟩
theorem zeta_unit : zeta * conj zeta = one := by
  have h := zeta_norm
  apply CxW.ext'
  · show zeta.re * zeta.re - zeta.im * -zeta.im = 1
    grind
  · show zeta.re * -zeta.im + zeta.im * zeta.re = 0
    grind

/-- The cut powers. -/
def zA (k : Nat) : CxW := ⟨((zst k).1 : Rat) / ((2 ^ 110 : Nat) : Rat), ((zst k).2 : Rat) / ((2 ^ 110 : Nat) : Rat)⟩
theorem ediv_near (a : Int) (n : Nat) (hn : 0 < n) : ((a / (n : Int) : Int) : Rat) * (n : Rat) ≤ (a : Rat) ∧ (a : Rat) < ((a / (n : Int) : Int) : Rat) * (n : Rat) + (n : Rat) := by
  have h1 := Int.mul_ediv_add_emod a n
  have h2 := Int.emod_nonneg a (show (n : Int) ≠ 0 by omega)
  have h3 := Int.emod_lt_of_pos a (show (0 : Int) < (n : Int) by omega)
  have h4 : (a / (n : Int)) * (n : Int) ≤ a := by rw [Int.mul_comm]; omega
  have h5 : a < (a / (n : Int)) * (n : Int) + (n : Int) := by rw [Int.mul_comm]; omega
  exact ⟨by exact_mod_cast h4, by exact_mod_cast h5⟩

def w110 : Rat := ((2 ^ 110 : Nat) : Rat)
theorem w110_pos : 0 < w110 := pw_pos 110
theorem cut_part {a : Int} {x y : Rat} (hx : x = ((a / (zr : Int) : Int) : Rat) / w110) (hy : y * ((zr : Rat) * w110) = (a : Rat)) : -(1 / w110) ≤ x - y ∧ x - y ≤ 1 / w110 := by
  obtain ⟨h1, h2⟩ := ediv_near a zr (by decide +kernel)
  have hz := zr_pos
  have hw := w110_pos
  have hzw : 0 < (zr : Rat) * w110 := Rat.mul_pos hz hw
  have e1 : x * ((zr : Rat) * w110) = ((a / (zr : Int) : Int) : Rat) * (zr : Rat) := by
    rw [hx]
    have := Rat.ne_of_gt hw
    grind
  have e2 : (1 / w110) * ((zr : Rat) * w110) = (zr : Rat) := by
    have := Rat.ne_of_gt hw
    grind
  generalize ((a / (zr : Int) : Int) : Rat) = f at h1 h2 e1
  constructor
  · refine mul_le_cancel hzw ?_
    have : -(1 / w110) * ((zr : Rat) * w110) = -(zr : Rat) := by rw [← e2]; grind
    rw [this]
    grind
  · refine mul_le_cancel hzw ?_
    rw [e2]
    grind
theorem zA_step (k : Nat) : Bd (zA (k + 1) - zA k * zeta) (3 / 2 * (1 / w110)) := by
  have hz := Rat.ne_of_gt zr_pos
  have hw := Rat.ne_of_gt w110_pos
  have hp : 0 ≤ 1 / w110 := Rat.le_of_lt (inv_pos w110_pos)
  obtain ⟨P, hP⟩ : ∃ P, (zst k).1 = P := ⟨_, rfl⟩
  obtain ⟨Q, hQ⟩ : ∃ Q, (zst k).2 = Q := ⟨_, rfl⟩
  have k1 := cut_part (a := P * zp - Q * zq) (x := (zA (k + 1)).re) (y := (zA k * zeta).re) (by show ((zst (k + 1)).1 : Rat) / w110 = _; rw [zst_succ, hP, hQ]) (by
    show ((((zst k).1 : Rat) / w110) * ((zp : Rat) / (zr : Rat)) - (((zst k).2 : Rat) / w110) * ((zq : Rat) / (zr : Rat))) * ((zr : Rat) * w110) = _
    rw [hP, hQ]
    have : ((P * zp - Q * zq : Int) : Rat) = (P : Rat) * (zp : Rat) - (Q : Rat) * (zq : Rat) := by exact_mod_cast rfl
    rw [this]
    grind)
  have k2 := cut_part (a := P * zq + Q * zp) (x := (zA (k + 1)).im) (y := (zA k * zeta).im) (by show ((zst (k + 1)).2 : Rat) / w110 = _; rw [zst_succ, hP, hQ]) (by
    show ((((zst k).1 : Rat) / w110) * ((zq : Rat) / (zr : Rat)) + (((zst k).2 : Rat) / w110) * ((zp : Rat) / (zr : Rat))) * ((zr : Rat) * w110) = _
    rw [hP, hQ]
    have : ((P * zq + Q * zp : Int) : Rat) = (P : Rat) * (zq : Rat) + (Q : Rat) * (zp : Rat) := by exact_mod_cast rfl
    rw [this]
    grind)
  exact Bd.of_parts hp k1.1 k1.2 k2.1 k2.2
theorem zA_near (k : Nat) : Bd (zA k - pow zeta k) ((k : Rat) * (3 / 2 * (1 / w110))) := by
  induction k with
  | zero =>
    have : zA 0 - pow zeta 0 = CxW.zero := by
      apply CxW.ext'
      · show ((2 ^ 110 : Int) : Rat) / w110 - 1 = 0
        decide +kernel
      · show ((0 : Int) : Rat) / w110 - 0 = 0
        decide +kernel
    rw [this]
    exact Bd.zero_.mono (by simp)
  | succ k ih =>
    have e : zA (k + 1) - pow zeta (k + 1) = (zA (k + 1) - zA k * zeta) + (zA k - pow zeta k) * zeta := by
      rw [CxW.pow_succ]
      apply CxW.ext' <;> simp only [mul_re, mul_im, add_re, add_im, sub_re, sub_im] <;> grind
    rw [e]
    refine ((zA_step k).add (ih.mul zeta_bd)).mono ?_
    have : ((k + 1 : Nat) : Rat) = (k : Rat) + 1 := by simp
    rw [this]
    grind
theorem sval_val (w : Nat) : val w = (sval w : Rat) * e0 := by
  unfold val sval
  cases sg w
  · show 1 * _ * e0 = _
    rw [cond_false]
    have : (((un (rg w) : Nat) : Int) : Rat) = ((un (rg w) : Nat) : Rat) := by exact_mod_cast rfl
    rw [this, Rat.one_mul]
  · show -1 * _ * e0 = _
    rw [cond_true]
    have : ((-((un (rg w) : Nat) : Int) : Int) : Rat) = -((un (rg w) : Nat) : Rat) := by exact_mod_cast rfl
    rw [this]
    grind
theorem pw_add (a b c : Nat) (h : a + b = c) : ((2 ^ a : Nat) : Rat) * ((2 ^ b : Nat) : Rat) = ((2 ^ c : Nat) : Rat) := by
  subst h
  rw [Nat.pow_add]
  exact_mod_cast rfl
theorem close_near {w : Nat} {P : Int} (h : closeI w P = true) : -(1 / ((2 ^ 50 : Nat) : Rat)) ≤ val w - (P : Rat) / w110 ∧ val w - (P : Rat) / w110 ≤ 1 / ((2 ^ 50 : Nat) : Rat) := by
  have q1 : e0 * (((2 ^ c964 : Nat) : Rat) * w110) = 1 := by
    have : ((2 ^ c964 : Nat) : Rat) * w110 = ((2 ^ c74 : Nat) : Rat) := pw_add c964 110 c74 rfl
    rw [this]; exact e0_mul
  have q2 : e0 * (((2 ^ c1024 : Nat) : Rat) * ((2 ^ 50 : Nat) : Rat)) = 1 := by
    rw [pw_add c1024 50 c74 rfl]; exact e0_mul
  unfold closeI at h
  generalize (2 ^ c964 : Nat) = X at *
  generalize (2 ^ c1024 : Nat) = Y at *
  have h1 := Nat.le_of_ble_eq_true h
  have h2 : sval w - P * (X : Int) ≤ (Y : Int) := by omega
  have h3 : 0 ≤ sval w - P * (X : Int) + (Y : Int) := by omega
  have g2 : (sval w : Rat) - (P : Rat) * (X : Rat) ≤ (Y : Rat) := by exact_mod_cast h2
  have g3' : (0 : Rat) ≤ (sval w : Rat) - (P : Rat) * (X : Rat) + (Y : Rat) := by exact_mod_cast h3
  have g3 : -(Y : Rat) ≤ (sval w : Rat) - (P : Rat) * (X : Rat) := by grind
  have he := e0_pos
  have m2 := Rat.mul_le_mul_of_nonneg_right g2 (Rat.le_of_lt he)
  have m3 := Rat.mul_le_mul_of_nonneg_right g3 (Rat.le_of_lt he)
  rw [sval_val]
  have hw := Rat.ne_of_gt w110_pos
  have h50 := Rat.ne_of_gt (pw_pos 50)
  generalize ((2 ^ 50 : Nat) : Rat) = Z at *
  generalize w110 = W at *
  generalize (X : Rat) = x at *
  generalize (Y : Rat) = y at *
  have e1 : (P : Rat) * x * e0 = (P : Rat) / W := by grind
  have e2 : y * e0 = 1 / Z := by grind
  constructor <;> grind

/-- How near the table is. -/
def tw : Rat := 1 / 562949953421312
theorem ok_near {k : Nat} (hk : k < 2048) (h : OkT k) : ∃ x s c, angle k 12 = some x ∧ sincosP x = some (s, c) ∧ Bd (⟨val c, val s⟩ - pow zeta k) tw := by
  obtain ⟨x, s, c, h1, h2, h3, h4⟩ := h
  refine ⟨x, s, c, h1, h2, ?_⟩
  have a := close_near h3
  have b := close_near h4
  have e : (⟨val c, val s⟩ : CxW) - pow zeta k = (⟨val c, val s⟩ - zA k) + (zA k - pow zeta k) := by
    apply CxW.ext' <;> simp only [add_re, add_im, sub_re, sub_im] <;> grind
  rw [e]
  have b1 : Bd (⟨val c, val s⟩ - zA k) (3 / 2 * (1 / ((2 ^ 50 : Nat) : Rat))) := Bd.of_parts (Rat.le_of_lt (inv_pos (pw_pos 50))) a.1 a.2 b.1 b.2
  refine (b1.add (zA_near k)).mono ?_
  have hk' : (k : Rat) ≤ 2048 := by exact_mod_cast Nat.le_of_lt hk
  have hp : 0 ≤ 3 / 2 * (1 / w110) := by have := inv_pos w110_pos; grind
  have := Rat.mul_le_mul_of_nonneg_right hk' hp
  have c1 : 2048 * (3 / 2 * (1 / w110)) ≤ 1 / 9007199254740992 := by decide +kernel
  have c2 : 3 / 2 * (1 / ((2 ^ 50 : Nat) : Rat)) + 1 / 9007199254740992 ≤ tw := by decide +kernel
  grind

/-- The root's squares, over squares. -/
def sqs : Nat → Int → Int → Nat → (Int → Int → Nat → Bool) → Bool
  | 0, a, b, d, k => k a b d
  | n + 1, a, b, d, k => force (a * a - b * b) fun a' => force (2 * a * b) fun b' => strict (d * d) fun d' => sqs n a' b' d' k
theorem sqs_eq : ∀ (n : Nat) (a b : Int) (d : Nat) (k : Int → Int → Nat → Bool) (x : CxW), 0 < d → sqs n a b d k = true → x = ⟨(a : Rat) / (d : Rat), (b : Rat) / (d : Rat)⟩ →
    ∃ (a' b' : Int) (d' : Nat), 0 < d' ∧ k a' b' d' = true ∧ pow x (2 ^ n) = ⟨(a' : Rat) / (d' : Rat), (b' : Rat) / (d' : Rat)⟩ := by
  intro n
  induction n with
  | zero => intro a b d k x hd h hx; exact ⟨a, b, d, hd, h, by rw [Nat.pow_zero, CxW.pow_one]; exact hx⟩
  | succ n ih =>
    intro a b d k x hd h hx
    unfold sqs at h
    rw [force_eq, force_eq, strict_eq] at h
    have hdr : (d : Rat) ≠ 0 := Rat.ne_of_gt (by exact_mod_cast hd)
    obtain ⟨a', b', d', h1, h2, h3⟩ := ih _ _ _ k (x * x) (Nat.mul_pos hd hd) h (by
      rw [hx]
      have e1 : ((a * a - b * b : Int) : Rat) = (a : Rat) * (a : Rat) - (b : Rat) * (b : Rat) := by exact_mod_cast rfl
      have e2 : ((2 * a * b : Int) : Rat) = 2 * (a : Rat) * (b : Rat) := by exact_mod_cast rfl
      have e3 : ((d * d : Nat) : Rat) = (d : Rat) * (d : Rat) := by exact_mod_cast rfl
      apply CxW.ext'
      · show (a : Rat) / (d : Rat) * ((a : Rat) / (d : Rat)) - (b : Rat) / (d : Rat) * ((b : Rat) / (d : Rat)) = _
        rw [e1, e3]
        grind
      · show (a : Rat) / (d : Rat) * ((b : Rat) / (d : Rat)) + (b : Rat) / (d : Rat) * ((a : Rat) / (d : Rat)) = _
        rw [e2, e3]
        grind)
    refine ⟨a', b', d', h1, h2, ?_⟩
    rw [Nat.pow_succ, Nat.mul_comm, CxW.pow_mul, CxW.pow_succ, CxW.pow_one]
    exact h3
/-- Near -1. -/
def c180 : Nat := 180
def nearB (a b : Int) (d : Nat) : Bool := Nat.ble ((a + d) * (a + d) + b * b).natAbs (d * d / 2 ^ c180)
def half_ok : Bool := sqs 11 zp zq zr nearB
def tau : Rat := 1 / ((2 ^ 90 : Nat) : Rat)
theorem zeta_half (h : half_ok = true) : Bd (pow zeta 2048 + one) tau := by
  obtain ⟨a, b, d, hd, h1, h2⟩ := sqs_eq 11 zp zq zr nearB zeta (by decide +kernel) h rfl
  have e : (2 : Nat) ^ 11 = 2048 := by decide
  rw [e] at h2
  rw [h2]
  have ht : tau * tau * ((2 ^ c180 : Nat) : Rat) = 1 := by decide +kernel
  have hY := pw_pos c180
  unfold nearB at h1
  generalize (2 ^ c180 : Nat) = Y at *
  have h3 := Nat.le_of_ble_eq_true h1
  have h4 : ((a + d) * (a + d) + b * b).natAbs * Y ≤ d * d := Nat.le_trans (Nat.mul_le_mul_right Y h3) (Nat.div_mul_le_self _ _)
  have sq : ∀ x : Int, 0 ≤ x * x := fun x => by rw [← Int.natAbs_mul_self]; exact Int.natCast_nonneg _
  have h5 : (((a + d) * (a + d) + b * b).natAbs : Int) = (a + d) * (a + d) + b * b := Int.natAbs_of_nonneg (Int.add_nonneg (sq _) (sq _))
  have h6 : ((a + d) * (a + d) + b * b) * (Y : Int) ≤ ((d * d : Nat) : Int) := by rw [← h5]; exact_mod_cast h4
  have h7 : (((a : Rat) + (d : Rat)) * ((a : Rat) + (d : Rat)) + (b : Rat) * (b : Rat)) * (Y : Rat) ≤ (d : Rat) * (d : Rat) := by exact_mod_cast h6
  have hdr : (0 : Rat) < (d : Rat) := by exact_mod_cast hd
  refine ⟨by decide +kernel, ?_⟩
  show ((a : Rat) / (d : Rat) + 1) * ((a : Rat) / (d : Rat) + 1) + ((b : Rat) / (d : Rat) + 0) * ((b : Rat) / (d : Rat) + 0) ≤ _
  have hd2 := Rat.ne_of_gt hdr
  have e1 : (((a : Rat) / (d : Rat) + 1) * ((a : Rat) / (d : Rat) + 1) + ((b : Rat) / (d : Rat) + 0) * ((b : Rat) / (d : Rat) + 0)) * ((d : Rat) * (d : Rat)) = ((a : Rat) + (d : Rat)) * ((a : Rat) + (d : Rat)) + (b : Rat) * (b : Rat) := by grind
  refine mul_le_cancel (Rat.mul_pos hdr hdr) ?_
  rw [e1]
  refine mul_le_cancel hY ?_
  have e3 : tau * tau * ((d : Rat) * (d : Rat)) * (Y : Rat) = (d : Rat) * (d : Rat) := by
    have : tau * tau * ((d : Rat) * (d : Rat)) * (Y : Rat) = (tau * tau * (Y : Rat)) * ((d : Rat) * (d : Rat)) := by grind
    rw [this, ht, Rat.one_mul]
  rw [e3]
  exact h7
/-- The roots of all levels. -/
def Zr (l : Nat) : CxW := pow zeta (2 ^ (12 - l))
theorem Zr_roots (h : half_ok = true) : Roots Zr tau := by
  refine ⟨fun l hl => ?_, fun l _ => zeta_bd.pow _, fun l _ => ?_, by decide +kernel, by decide +kernel, zeta_half h⟩
  · have e : 2 ^ (12 - l) = 2 ^ (12 - (l + 1)) + 2 ^ (12 - (l + 1)) := by rw [show 12 - l = (12 - (l + 1)) + 1 by omega, Nat.pow_succ, Nat.mul_two]
    show pow zeta (2 ^ (12 - l)) = _
    rw [e, CxW.pow_add]
    rfl
  · unfold Zr
    rw [CxW.conj_pow, ← CxW.mul_pow, zeta_unit, CxW.one_pow]

end Go.Proofs.YtblkejnckbeieaaGreatDoor.WaveP

namespace Go.Proofs.YtblkejnckbeieaaGreatDoor.WaveP

theorem compare_mul {a b c : Int} (hc : 0 < c) : compare (a * c) (b * c) = compare a b := by
  rcases Int.lt_trichotomy a b with h | h | h
  · rw [Int.compare_eq_lt.2 h, Int.compare_eq_lt.2 (Int.mul_lt_mul_of_pos_right h hc)]
  · subst h; rw [Int.compare_eq_eq.2 rfl, Int.compare_eq_eq.2 rfl]
  · rw [Int.compare_eq_gt.2 h, Int.compare_eq_gt.2 (Int.mul_lt_mul_of_pos_right h hc)]
theorem signed_sval {w p : Nat} (h : p ≤ pl (rg w)) : Ieee.signed (sg w) (mg (rg w)) (pl (rg w) - p) * ((2 ^ p : Nat) : Int) = sval w := by
  have e : un (rg w) = mg (rg w) * 2 ^ (pl (rg w) - p) * 2 ^ p := by unfold un; rw [Nat.mul_assoc, ← Nat.pow_add, Nat.sub_add_cancel h]
  unfold Ieee.signed sval
  rw [e, Nat.shiftLeft_eq]
  cases sg w
  · rw [cond_false, if_neg (by decide)]
    exact (Int.natCast_mul _ _).symm
  · rw [cond_true, if_pos rfl, Int.neg_mul]
    exact congrArg _ (Int.natCast_mul _ _).symm
theorem order_eq {x y : Nat} (hx : fin x = true) (hy : fin y = true) : fmt.order x y = some (compare (sval x) (sval y)) := by
  unfold Ieee.Format.order
  rw [read_fin hx, read_fin hy]
  unfold Ieee.Datum.order
  dsimp only
  obtain ⟨p, hp⟩ : ∃ p, min (pl (rg x)) (pl (rg y)) = p := ⟨_, rfl⟩
  have hb : min ((pl (rg x) : Int) - 1074) ((pl (rg y) : Int) - 1074) = (p : Int) - 1074 := by omega
  have e1 : ((pl (rg x) : Int) - 1074 - ((p : Int) - 1074)).toNat = pl (rg x) - p := by omega
  have e2 : ((pl (rg y) : Int) - 1074 - ((p : Int) - 1074)).toNat = pl (rg y) - p := by omega
  rw [hb, e1, e2, ← signed_sval (w := x) (p := p) (by omega), ← signed_sval (w := y) (p := p) (by omega), compare_mul (by exact_mod_cast Nat.two_pow_pos p)]
theorem order_lt {x y : Nat} (hx : fin x = true) (hy : fin y = true) (h : sval x < sval y) : fmt.order x y = some .lt := by rw [order_eq hx hy, Int.compare_eq_lt.2 h]
theorem order_gt {x y : Nat} (hx : fin x = true) (hy : fin y = true) (h : sval y < sval x) : fmt.order x y = some .gt := by rw [order_eq hx hy, Int.compare_eq_gt.2 h]
theorem order_same {x y : Nat} (hx : fin x = true) (hy : fin y = true) (h : sval x = sval y) : fmt.order x y = some .eq := by rw [order_eq hx hy, Int.compare_eq_eq.2 h]

/-- The sign turned. -/
def flipW (x : Nat) : Nat := wd (!sg x) (rg x)
theorem sval_flip {x : Nat} (h : fin x = true) : sval (flipW x) = -sval x := by
  obtain ⟨_, h2⟩ := fin_iff.1 h
  unfold sval flipW
  rw [sg_wd h2, rg_wd h2]
  cases sg x
  · rfl
  · show _ = - -_
    rw [Int.neg_neg]; rfl
theorem fin_flip {x : Nat} (h : fin x = true) : fin (flipW x) = true := fin_wd (fin_iff.1 h).2
theorem val_flip {x : Nat} (h : fin x = true) : val (flipW x) = -val x := by
  rw [sval_val, sval_val, sval_flip h]
  have : ((-sval x : Int) : Rat) = -(sval x : Rat) := by exact_mod_cast rfl
  rw [this]; grind

/-- An angle's word: above nought, at most 4. -/
def c1076 : Nat := 1076
def angleB (x : Nat) : Bool := fin x && (!sg x && (Nat.ble 1 (un (rg x)) && Nat.ble (un (rg x)) (2 ^ c1076)))
def chkA : Nat → Nat → Bool
  | 0, _ => true
  | n + 1, k => (match angle k 12 with | some x => angleB x | none => false) && chkA n (k + 1)
theorem chkA_ok : ∀ (n k : Nat), chkA n k = true → ∀ i, i < n → ∃ x, angle (k + i) 12 = some x ∧ angleB x = true := by
  intro n
  induction n with
  | zero => intro k _ i hi; omega
  | succ n ih =>
    intro k h i hi
    unfold chkA at h
    obtain ⟨h1, h2⟩ := and_t h
    rcases Nat.eq_zero_or_pos i with h0 | h0
    · subst h0
      rw [Nat.add_zero]
      cases ha : angle k 12 with
      | none => rw [ha] at h1; cases h1
      | some x => rw [ha] at h1; exact ⟨x, rfl, h1⟩
    · have h3 := ih (k + 1) h2 (i - 1) (by omega)
      rwa [show k + 1 + (i - 1) = k + i by omega] at h3
theorem chkL_ok : ∀ (n l k : Nat), chkL l k n = true → ∀ i, i < n → ∃ x, angle (k + i) l = some x ∧ angle ((k + i) * 2 ^ (12 - l)) 12 = some x := by
  intro n
  induction n with
  | zero => intro l k _ i hi; omega
  | succ n ih =>
    intro l k h i hi
    unfold chkL at h
    obtain ⟨h1, h2⟩ := and_t h
    rcases Nat.eq_zero_or_pos i with h0 | h0
    · subst h0
      rw [Nat.add_zero]
      cases ha : angle k l with
      | none => rw [ha] at h1; cases h1
      | some x =>
        cases hb : angle (k * 2 ^ (12 - l)) 12 with
        | none => rw [ha, hb] at h1; cases h1
        | some y =>
          rw [ha, hb] at h1
          have := Nat.eq_of_beq_eq_true h1
          subst this
          exact ⟨x, rfl, rfl⟩
    · have h3 := ih l (k + 1) h2 (i - 1) (by omega)
      rwa [show k + 1 + (i - 1) = k + i by omega] at h3

end Go.Proofs.YtblkejnckbeieaaGreatDoor.WaveP

namespace Go.Proofs.YtblkejnckbeieaaGreatDoor.WaveP

/-- The numbers of a polynomial, one after the other. -/
theorem poly5 {z a0 c1 c2 c3 c4 c5 r : Nat} (h : poly z [c1, c2, c3, c4, c5] a0 = some r) : ∃ m1 a1 m2 a2 m3 a3 m4 a4 m5, mulO a0 z = some m1 ∧ addO m1 c1 = some a1 ∧ mulO a1 z = some m2 ∧ addO m2 c2 = some a2 ∧ mulO a2 z = some m3 ∧ addO m3 c3 = some a3 ∧ mulO a3 z = some m4 ∧ addO m4 c4 = some a4 ∧ mulO a4 z = some m5 ∧ addO m5 c5 = some r := by
  unfold poly at h
  obtain ⟨m1, h1, h⟩ := Option.bind_eq_some_iff.1 h
  obtain ⟨a1, g1, h⟩ := Option.bind_eq_some_iff.1 h
  unfold poly at h
  obtain ⟨m2, h2, h⟩ := Option.bind_eq_some_iff.1 h
  obtain ⟨a2, g2, h⟩ := Option.bind_eq_some_iff.1 h
  unfold poly at h
  obtain ⟨m3, h3, h⟩ := Option.bind_eq_some_iff.1 h
  obtain ⟨a3, g3, h⟩ := Option.bind_eq_some_iff.1 h
  unfold poly at h
  obtain ⟨m4, h4, h⟩ := Option.bind_eq_some_iff.1 h
  obtain ⟨a4, g4, h⟩ := Option.bind_eq_some_iff.1 h
  unfold poly at h
  obtain ⟨m5, h5, h⟩ := Option.bind_eq_some_iff.1 h
  obtain ⟨a5, g5, h⟩ := Option.bind_eq_some_iff.1 h
  unfold poly at h
  injection h with h
  subst h
  exact ⟨m1, a1, m2, a2, m3, a3, m4, a4, m5, h1, g1, h2, g2, h3, g3, h4, g4, h5, g5⟩
/-- What 'kern' works out. -/
structure Kern (z zz h h1 z4 pc mc c z3 ps ms s : Nat) : Prop where
  a : mulO z z = some zz
  b : mulO 4602678819172646912 zz = some h
  c' : subO 4607182418800017408 h = some h1
  d : mulO zz zz = some z4
  e : poly zz cosT 13666448263388469915 = some pc
  f : mulO z4 pc = some mc
  g : addO h1 mc = some c
  i : mulO z zz = some z3
  j : poly zz sinT 4460209587652500685 = some ps
  k : mulO z3 ps = some ms
  l : addO z ms = some s
theorem kern_parts {z s c : Nat} (h : kern z = some (s, c)) : ∃ zz h h1 z4 pc mc z3 ps ms, Kern z zz h h1 z4 pc mc c z3 ps ms s := by
  unfold kern at h
  obtain ⟨zz, a, h⟩ := Option.bind_eq_some_iff.1 h
  obtain ⟨hh, b, h⟩ := Option.bind_eq_some_iff.1 h
  obtain ⟨h1, c', h⟩ := Option.bind_eq_some_iff.1 h
  obtain ⟨z4, d, h⟩ := Option.bind_eq_some_iff.1 h
  obtain ⟨pc, e, h⟩ := Option.bind_eq_some_iff.1 h
  obtain ⟨mc, f, h⟩ := Option.bind_eq_some_iff.1 h
  obtain ⟨c0, g, h⟩ := Option.bind_eq_some_iff.1 h
  obtain ⟨z3, i, h⟩ := Option.bind_eq_some_iff.1 h
  obtain ⟨ps, j, h⟩ := Option.bind_eq_some_iff.1 h
  obtain ⟨ms, k, h⟩ := Option.bind_eq_some_iff.1 h
  obtain ⟨s0, l, h⟩ := Option.bind_eq_some_iff.1 h
  injection h with h
  injection h with e1 e2
  subst e1; subst e2
  exact ⟨_, _, _, _, _, _, _, _, _, a, b, c', d, e, f, g, i, j, k, l⟩
/-- What 'left' works out. -/
structure Left (x y a x1 b x2 c z : Nat) : Prop where
  a' : mulO y 4605249456957292544 = some a
  b' : subO x a = some x1
  c' : mulO y 4495793288086814720 = some b
  d : subO x1 b = some x2
  e : mulO y 4388835458085048688 = some c
  f : subO x2 c = some z
theorem left_parts {x y j j' z : Nat} (h : left x y j = some (j', z)) : j' = j ∧ ∃ a x1 b x2 c, Left x y a x1 b x2 c z := by
  unfold left at h
  obtain ⟨a, h1, h⟩ := Option.bind_eq_some_iff.1 h
  obtain ⟨x1, h2, h⟩ := Option.bind_eq_some_iff.1 h
  obtain ⟨b, h3, h⟩ := Option.bind_eq_some_iff.1 h
  obtain ⟨x2, h4, h⟩ := Option.bind_eq_some_iff.1 h
  obtain ⟨c, h5, h⟩ := Option.bind_eq_some_iff.1 h
  obtain ⟨z0, h6, h⟩ := Option.bind_eq_some_iff.1 h
  injection h with h
  injection h with e1 e2
  subst e1; subst e2
  exact ⟨rfl, _, _, _, _, _, h1, h2, h3, h4, h5, h6⟩
theorem reduce_parts {x j z : Nat} (h : reduce x = some (j, z)) : ∃ m, mulO x 4608412980311869571 = some m ∧
    ((truncN m % 2 = 1 ∧ j = truncN m + 1 ∧ ∃ y, addO (natW (truncN m)) 4607182418800017408 = some y ∧ ∃ a x1 b x2 c, Left x y a x1 b x2 c z) ∨ (truncN m % 2 = 0 ∧ j = truncN m ∧ ∃ a x1 b x2 c, Left x (natW (truncN m)) a x1 b x2 c z)) := by
  unfold reduce at h
  obtain ⟨m, h1, h⟩ := Option.bind_eq_some_iff.1 h
  rw [strict_eq] at h
  refine ⟨m, h1, ?_⟩
  by_cases hp : truncN m % 2 = 1
  · rw [beq_t hp, cond_true] at h
    obtain ⟨y, h2, h⟩ := Option.bind_eq_some_iff.1 h
    obtain ⟨e, hl⟩ := left_parts h
    exact .inl ⟨hp, e, y, h2, hl⟩
  · rw [beq_f hp, cond_false] at h
    obtain ⟨e, hl⟩ := left_parts h
    exact .inr ⟨by omega, e, hl⟩
theorem sincos_parts {x s c : Nat} (h : sincosP x = some (s, c)) : ∃ j z s0 c0, reduce x = some (j, z) ∧ kern z = some (s0, c0) ∧
    ((j = 0 ∧ s = s0 ∧ c = c0) ∨ (j = 2 ∧ s = c0 ∧ c = flipW s0) ∨ (j = 4 ∧ s = flipW s0 ∧ c = flipW c0)) := by
  unfold sincosP at h
  obtain ⟨⟨j, z⟩, h1, h⟩ := Option.bind_eq_some_iff.1 h
  obtain ⟨⟨s0, c0⟩, h2, h⟩ := Option.bind_eq_some_iff.1 h
  refine ⟨j, z, s0, c0, h1, h2, ?_⟩
  dsimp only at h
  by_cases e0 : j = 0
  · rw [beq_t e0, cond_true] at h
    injection h with h; injection h with h3 h4
    exact .inl ⟨e0, h3.symm, h4.symm⟩
  · rw [beq_f e0, cond_false] at h
    by_cases e2 : j = 2
    · rw [beq_t e2, cond_true] at h
      injection h with h; injection h with h3 h4
      exact .inr (.inl ⟨e2, h3.symm, h4.symm⟩)
    · rw [beq_f e2, cond_false] at h
      by_cases e4 : j = 4
      · rw [beq_t e4, cond_true] at h
        injection h with h; injection h with h3 h4
        exact .inr (.inr ⟨e4, h3.symm, h4.symm⟩)
      · rw [beq_f e4, cond_false] at h; cases h

/-- Cut to a whole number. -/
theorem trunc_eq {x : Nat} (h : fin x = true) (hs : sg x = false) : (fmt.read x).toInt .zero = some ((truncN x : Nat) : Int) := by
  rw [read_fin h, hs]
  have hcut : ∀ n d, Ieee.Toward.zero.cut false n d = n / 2 ^ d := fun n d => by
    unfold Ieee.Toward.cut
    dsimp only
    rw [Nat.one_shiftLeft]
    show n / 2 ^ min d (n.log2 + 2) + 0 = _
    rw [Nat.add_zero]
    rcases Nat.le_total d (n.log2 + 2) with h1 | h1
    · rw [Nat.min_eq_left h1]
    · rw [Nat.min_eq_right h1]
      have a1 := Nat.lt_log2_self (n := n)
      have a2 : 2 ^ (n.log2 + 1) ≤ 2 ^ (n.log2 + 2) := Nat.pow_le_pow_right (by decide) (by omega)
      have a3 : 2 ^ (n.log2 + 2) ≤ 2 ^ d := Nat.pow_le_pow_right (by decide) h1
      rw [Nat.div_eq_of_lt (by omega), Nat.div_eq_of_lt (by omega)]
  unfold Ieee.Datum.toInt Ieee.Datum.integral
  dsimp only
  rw [hcut, Nat.shiftLeft_eq]
  show some (Ieee.signed false _ 0) = _
  unfold Ieee.signed truncN
  rw [if_neg (by decide), Nat.shiftLeft_zero]
  congr 2
  by_cases hp : 1074 ≤ pl (rg x)
  · rw [ble_t hp, cond_true, show ((pl (rg x) : Int) - 1074).toNat = pl (rg x) - 1074 by omega, show (-((pl (rg x) : Int) - 1074)).toNat = 0 by omega, Nat.pow_zero, Nat.div_one]
  · rw [ble_f hp, cond_false, show ((pl (rg x) : Int) - 1074).toNat = 0 by omega, show (-((pl (rg x) : Int) - 1074)).toNat = 1074 - pl (rg x) by omega, Nat.pow_zero, Nat.mul_one]
theorem wd_false (r : Nat) : wd false r = r := by unfold wd; rw [cond_false]
theorem nearest_nat (n : Nat) : fmt.nearest false n 0 = natW n := by
  rw [nearest_eq (p := c74) (b := 0) _ _ _ (by unfold c74; omega), word_wd, wd_false]
  unfold natW
  exact Eq.refl _
theorem natW_eq (n : Nat) : fmt.write (.number false n 0) = natW n := nearest_nat n

end Go.Proofs.YtblkejnckbeieaaGreatDoor.WaveP
