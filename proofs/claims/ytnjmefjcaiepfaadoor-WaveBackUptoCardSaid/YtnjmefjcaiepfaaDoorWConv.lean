/- Products of whole numbers' rows, as sums over the complex numbers. -/
import Derived.Test.YtnjmefjcaiepfaaDoorWProd
import Derived.Test.YtnjmefjcaiepfaaDoorWRound
namespace Go.Proofs.YtnjmefjcaiepfaaDoor.WaveP
open Cx

def smI : Nat → (Nat → Int) → Int
  | 0, _ => 0
  | n + 1, f => smI n f + f n
/-- The product's number at m. -/
def cvI (a b : Nat → Int) (m : Nat) : Int := smI (m + 1) fun i => a i * b (m - i)
def toC (x : Int) : Cx := ⟨(x : Rat), 0⟩
theorem toC_zero : toC 0 = Cx.zero := rfl
theorem toC_mul (x y : Int) : toC x * toC y = toC (x * y) := by
  apply Cx.ext' <;> simp only [toC, mul_re, mul_im, Rat.intCast_mul] <;> grind
theorem sm_toC (n : Nat) (f : Nat → Int) : sm n (fun i => toC (f i)) = toC (smI n f) := by
  induction n with
  | zero => rfl
  | succ n ih =>
    rw [sm_succ, ih]
    show _ = toC (smI n f + f n)
    apply Cx.ext' <;> simp only [toC, add_re, add_im, Rat.intCast_add] <;> grind
theorem cv_toC (a b : Nat → Int) (m : Nat) : cv (fun i => toC (a i)) (fun i => toC (b i)) m = toC (cvI a b m) := by
  unfold cv cvI
  rw [← sm_toC]
  exact sm_congr fun j _ => toC_mul _ _
theorem smI_bound (f : Nat → Int) (la B : Nat) (h : ∀ i, (f i).natAbs ≤ B) (h0 : ∀ i, la ≤ i → f i = 0) : ∀ n, (smI n f).natAbs ≤ min n la * B := by
  intro n
  induction n with
  | zero => simp [smI]
  | succ n ih =>
    show (smI n f + f n).natAbs ≤ _
    by_cases hn : la ≤ n
    · rw [h0 n hn, Int.add_zero]
      refine Nat.le_trans ih (Nat.mul_le_mul_right _ (by omega))
    · have := h n
      have e : min (n + 1) la = min n la + 1 := by omega
      rw [e, Nat.add_mul, Nat.one_mul]
      omega
theorem cvI_bound {a b : Nat → Int} {la : Nat} (ha : ∀ i, (a i).natAbs ≤ 256) (hb : ∀ i, (b i).natAbs ≤ 256) (h0 : ∀ i, la ≤ i → a i = 0) (hla : la ≤ 4096) (m : Nat) : (cvI a b m).natAbs ≤ 268435456 := by
  have h := smI_bound (fun i => a i * b (m - i)) la 65536 (fun i => by
    rw [Int.natAbs_mul]
    exact Nat.mul_le_mul (ha i) (hb _)) (fun i hi => by show a i * b (m - i) = 0; rw [h0 i hi, Int.zero_mul]) (m + 1)
  refine Nat.le_trans h ?_
  have : min (m + 1) la ≤ 4096 := by omega
  exact Nat.mul_le_mul_right 65536 this
theorem toC_bd {x : Int} {B : Nat} (h : x.natAbs ≤ B) : Bd (toC x) (B : Rat) := by
  have h1 : x ≤ (B : Int) := by omega
  have h2 : -(B : Int) ≤ x := by omega
  have h3 : (x : Rat) ≤ (B : Rat) := by
    have : ((x : Int) : Rat) ≤ (((B : Nat) : Int) : Rat) := by exact_mod_cast h1
    rwa [Rat.intCast_natCast] at this
  have h4 : -(B : Rat) ≤ (x : Rat) := by
    have : ((-(B : Int) : Int) : Rat) ≤ ((x : Int) : Rat) := by exact_mod_cast h2
    rwa [Rat.intCast_neg, Rat.intCast_natCast] at this
  have h0 : (0 : Rat) ≤ (B : Rat) := by exact_mod_cast Nat.zero_le B
  refine ⟨h0, ?_⟩
  have := sq_le h4 h3
  show (x : Rat) * (x : Rat) + 0 * 0 ≤ _
  grind

def EA : Rat := 4096 * (396 * (256 * uu))
theorem el_forth {L : Nat} (hL : L ≤ 12) : El 0 256 L ≤ EA := by
  have h := el_le (E0 := 0) (V0 := 256) hL (by decide +kernel)
  have hn : ((2 ^ L : Nat) : Rat) ≤ 4096 := by
    have : 2 ^ L ≤ 2 ^ 12 := Nat.pow_le_pow_right (by decide) hL
    exact_mod_cast this
  have h2 := Rat.mul_le_mul_of_nonneg_right hn (show (0 : Rat) ≤ 0 + 396 * (256 * uu) by decide +kernel)
  unfold EA
  grind
def V28 : Rat := 268435456
def V40 : Rat := 1099511627776
section
variable {Z : Nat → Cx} {L : Nat} {A B : Nat → Int} {la lb : Nat}
/-- What stands before the product. -/
structure Fits (A B : Nat → Int) (la lb L : Nat) : Prop where
  hL : L ≤ 12
  a1 : ∀ i, (A i).natAbs ≤ 256
  b1 : ∀ i, (B i).natAbs ≤ 256
  a0 : ∀ i, la ≤ i → A i = 0
  b0 : ∀ i, lb ≤ i → B i = 0
  la1 : la ≤ 4096
  all : la + lb ≤ 2 ^ L + 1
theorem Fits.bdA (h : Fits A B la lb L) (j : Nat) : Bd (toC (A j)) 256 := toC_bd (h.a1 j)
theorem Fits.bdB (h : Fits A B la lb L) (j : Nat) : Bd (toC (B j)) 256 := toC_bd (h.b1 j)
theorem Fits.mul0 (h : Fits A B la lb L) (i j : Nat) (hi : i < 2 ^ L) (hj : j < 2 ^ L) (hs : 2 ^ L ≤ i + j) : toC (A i) * toC (B j) = Cx.zero := by
  rw [toC_mul, ← toC_zero]
  congr 1
  have := h.all
  rcases Nat.lt_or_ge i la with h1 | h1
  · rw [h.b0 j (by omega), Int.mul_zero]
  · rw [h.a0 i h1, Int.zero_mul]
theorem Fits.bdF {X : Nat → Int} (hL : L ≤ 12) (hZ : Roots Z tau) (h : ∀ i, (X i).natAbs ≤ 256) (p : Nat) : Bd (F Z L (fun i => toC (X i)) p) 1048576 := by
  have := F_bd hZ L (fun i => toC (X i)) p hL (V := 256) (fun j _ => toC_bd (h j))
  refine this.mono ?_
  have hn : ((2 ^ L : Nat) : Rat) ≤ 4096 := by
    have : 2 ^ L ≤ 2 ^ 12 := Nat.pow_le_pow_right (by decide) hL
    exact_mod_cast this
  have h2 := Rat.mul_le_mul_of_nonneg_right hn (show (0 : Rat) ≤ 256 by decide +kernel)
  grind
/-- The words' product at one place. -/
theorem Fits.prod (h : Fits A B la lb L) (hZ : Roots Z tau) {p a b c d : Nat} (ha : Nc a b (F Z L (fun i => toC (A i)) p) (El 0 256 L)) (hb : Nc c d (F Z L (fun i => toC (B i)) p) (El 0 256 L)) :
    ∃ ac bd ad bc re im, Prod a b c d ac bd ad bc re im ∧ Nc re im (F Z L (fun i => toC (cvI A B i)) p) (1 / 6) := by
  obtain ⟨ac, bd, ad, bc, re, im, hP, hN⟩ := prod_of (R := 1048576) (E := EA) (ha.mono (el_forth h.hL)) (hb.mono (el_forth h.hL)) (Fits.bdF h.hL hZ h.a1 p) (Fits.bdF h.hL hZ h.b1 p) (by decide +kernel) (by decide +kernel) (by decide +kernel)
  refine ⟨ac, bd, ad, bc, re, im, hP, ?_⟩
  rw [F_mul hZ L _ _ p h.hL h.mul0] at hN
  have e : cv (fun i => toC (A i)) (fun i => toC (B i)) = fun i => toC (cvI A B i) := funext fun m => cv_toC A B m
  rw [e] at hN
  exact hN.mono (by decide +kernel)
theorem Fits.bdC (h : Fits A B la lb L) (j : Nat) : Bd (toC (cvI A B j)) V28 := toC_bd (cvI_bound h.a1 h.b1 h.a0 h.la1 j)
theorem Fits.bdX (h : Fits A B la lb L) (hZ : Roots Z tau) (p : Nat) : Bd (F Z L (fun i => toC (cvI A B i)) p) V40 := by
  have := F_bd hZ L (fun i => toC (cvI A B i)) p h.hL (V := V28) (fun j _ => h.bdC j)
  refine this.mono ?_
  have hn : ((2 ^ L : Nat) : Rat) ≤ 4096 := by
    have : 2 ^ L ≤ 2 ^ 12 := Nat.pow_le_pow_right (by decide) h.hL
    exact_mod_cast this
  have h2 := Rat.mul_le_mul_of_nonneg_right hn (show (0 : Rat) ≤ V28 by decide +kernel)
  have h3 : 4096 * V28 = V40 := by decide +kernel
  grind
/-- What comes back, ahead of the division. -/
theorem Fits.back (h : Fits A B la lb L) (hZ : Roots Z tau) {m a b : Nat} {r : Rat} (hm : m < 2 ^ L) (hr0 : 0 ≤ r) (hr1 : r ≤ 1) (hr : r * ((2 ^ L : Nat) : Rat) = 1)
    (hN : Nc a b (F (fun l => conj (Z l)) L (F Z L fun i => toC (cvI A B i)) m) (El (1 / 6) V40 L)) :
    (-(11 / 50) ≤ val a * r - (cvI A B m : Rat) ∧ val a * r - (cvI A B m : Rat) ≤ 11 / 50) ∧ (-(2 * V40) ≤ val a ∧ val a ≤ 2 * V40) ∧ (-(2 * V40) ≤ val b ∧ val b ≤ 2 * V40) := by
  have hb := back_of hZ (V := V28) h.hL hm (by decide +kernel) (fun j _ => h.bdC j) hN
  obtain ⟨⟨p1, p2⟩, _, ⟨p3, p4⟩, p5, p6⟩ := back_parts (V := V28) (T := 600000000000 * V28 * tau) h.hL (by decide +kernel) hr0 hr1 hr (h.bdC m) (by decide +kernel) hb rfl (by decide +kernel)
  have hD : 1 / 6 + 396 * (V40 * uu) + 600000000000 * V28 * tau ≤ 11 / 50 := by decide +kernel
  have hV : 4096 * (V28 + (1 / 6 + 396 * (V40 * uu) + 600000000000 * V28 * tau)) ≤ 2 * V40 := by decide +kernel
  generalize 1 / 6 + 396 * (V40 * uu) + 600000000000 * V28 * tau = D at *
  have e : (toC (cvI A B m)).re = (cvI A B m : Rat) := rfl
  rw [e] at p1 p2
  refine ⟨⟨by grind, by grind⟩, ⟨by grind, by grind⟩, by grind, by grind⟩
/-- The rounded word is the number. -/
theorem Fits.whole (h : Fits A B la lb L) {m a e : Nat} {r : Rat} (h1 : -(11 / 50) ≤ val a * r - (cvI A B m : Rat)) (h2 : val a * r - (cvI A B m : Rat) ≤ 11 / 50) (hN : Nr e (val a * r) (22 * (2 * V40 * uu))) :
    rg e / 4503599627370496 < 1075 ∧ floatToIntVal .f64 (rndW e) .i64 = some (cvI A B m) := by
  obtain ⟨f, n1, n2⟩ := hN
  have hs : 11 / 50 + 22 * (2 * V40 * uu) ≤ 1 / 4 := by decide +kernel
  have hb := cvI_bound h.a1 h.b1 h.a0 h.la1 m
  exact round_word f (by grind) (by grind) (by omega)
end
end Go.Proofs.YtnjmefjcaiepfaaDoor.WaveP
