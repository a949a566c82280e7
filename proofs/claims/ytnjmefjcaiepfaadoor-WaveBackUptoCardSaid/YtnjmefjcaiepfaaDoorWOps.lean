/- Sums and products of doubles: the words, and how near they are. -/
import Derived.Test.YtnjmefjcaiepfaaDoorWVal
namespace Go.Proofs.YtnjmefjcaiepfaaDoor.WaveP

def mulN (x y : Nat) : Nat := wd (sg x ^^ sg y) (rnd (mg (rg x) * mg (rg y)) (pl (rg x) + pl (rg y)) c74)
def addS (s : Bool) (r1 : Nat) (t : Bool) (r2 : Nat) : Nat :=
  bif s == t then wd s (rnd (mg r1 * 2 ^ (pl r1 - min (pl r1) (pl r2)) + mg r2 * 2 ^ (pl r2 - min (pl r1) (pl r2))) (min (pl r1) (pl r2)) 0)
  else bif Nat.ble (mg r1 * 2 ^ (pl r1 - min (pl r1) (pl r2))) (mg r2 * 2 ^ (pl r2 - min (pl r1) (pl r2))) then
    bif Nat.beq (mg r1 * 2 ^ (pl r1 - min (pl r1) (pl r2))) (mg r2 * 2 ^ (pl r2 - min (pl r1) (pl r2))) then wd false 0
    else wd t (rnd (mg r2 * 2 ^ (pl r2 - min (pl r1) (pl r2)) - mg r1 * 2 ^ (pl r1 - min (pl r1) (pl r2))) (min (pl r1) (pl r2)) 0)
  else wd s (rnd (mg r1 * 2 ^ (pl r1 - min (pl r1) (pl r2)) - mg r2 * 2 ^ (pl r2 - min (pl r1) (pl r2))) (min (pl r1) (pl r2)) 0)
def addN (x y : Nat) : Nat := addS (sg x) (rg x) (sg y) (rg y)
def subN (x y : Nat) : Nat := addS (sg x) (rg x) (!sg y) (rg y)

theorem mul_eq {x y : Nat} (hx : fin x = true) (hy : fin y = true) : fmt.mul x y = some (mulN x y) := by
  unfold Ieee.Format.mul
  rw [read_fin hx, read_fin hy]
  show some (fmt.nearest (sg x ^^ sg y) (mg (rg x) * mg (rg y)) (((pl (rg x) : Int) - 1074) + ((pl (rg y) : Int) - 1074))) = _
  rw [nearest_eq (p := pl (rg x) + pl (rg y)) (b := c74) _ _ _ (by unfold c74; omega), word_wd]
  rfl
theorem sum_eq (s : Bool) (r1 : Nat) (t : Bool) (r2 : Nat) :
    ((Ieee.Datum.number s (mg r1) ((pl r1 : Int) - 1074)).sum (.number t (mg r2) ((pl r2 : Int) - 1074))).map fmt.write = some (addS s r1 t r2) := by
  unfold Ieee.Datum.sum addS
  obtain ⟨p, hp⟩ : ∃ p, min (pl r1) (pl r2) = p := ⟨_, rfl⟩
  have hb : min ((pl r1 : Int) - 1074) ((pl r2 : Int) - 1074) = (p : Int) - 1074 := by omega
  have e1 : ((pl r1 : Int) - 1074 - ((p : Int) - 1074)).toNat = pl r1 - p := by omega
  have e2 : ((pl r2 : Int) - 1074 - ((p : Int) - 1074)).toNat = pl r2 - p := by omega
  dsimp only
  rw [hb, e1, e2, hp]
  obtain ⟨a, ha⟩ : ∃ a, mg r1 * 2 ^ (pl r1 - p) = a := ⟨_, rfl⟩
  obtain ⟨b, hbb⟩ : ∃ b, mg r2 * 2 ^ (pl r2 - p) = b := ⟨_, rfl⟩
  have s1 : Ieee.signed s (mg r1) (pl r1 - p) = if s then -(a : Int) else a := by unfold Ieee.signed; rw [Nat.shiftLeft_eq, ha]
  have s2 : Ieee.signed t (mg r2) (pl r2 - p) = if t then -(b : Int) else b := by unfold Ieee.signed; rw [Nat.shiftLeft_eq, hbb]
  rw [s1, s2, ha, hbb]
  have key : ∀ (neg : Bool) (m : Nat), (some (Ieee.Datum.number neg m ((p : Int) - 1074))).map fmt.write = some (wd neg (rnd m p 0)) := fun neg m => by
    show some (fmt.nearest neg m ((p : Int) - 1074)) = _
    rw [nearest_eq (p := p) (b := 0) _ _ _ (by omega), word_wd]
  rw [key]
  congr 1
  clear ha hbb s1 s2 e1 e2 hb hp
  obtain ⟨T, hT⟩ : ∃ T : Int, (if s = true then -(a : Int) else a) + (if t = true then -(b : Int) else b) = T := ⟨_, rfl⟩
  rw [hT]
  have fin' : ∀ (neg : Bool) (m : Nat), (if T = 0 then s && t else decide (T < 0)) = neg → T.natAbs = m → wd (if T = 0 then s && t else decide (T < 0)) (rnd T.natAbs p 0) = wd neg (rnd m p 0) := fun neg m h1 h2 => by rw [h1, h2]
  cases s <;> cases t
  · simp only [Bool.false_eq_true, if_false] at hT
    rw [show (false == false) = true from rfl, cond_true]
    refine fin' _ _ ?_ (by omega)
    by_cases h0 : T = 0
    · rw [if_pos h0]; rfl
    · rw [if_neg h0]; exact decide_eq_false (by omega)
  · simp only [Bool.false_eq_true, if_false, if_true] at hT
    rw [show (false == true) = false from rfl, cond_false]
    by_cases hab : a ≤ b
    · rw [ble_t hab, cond_true]
      by_cases he : a = b
      · rw [beq_t he, cond_true]
        have h0 : T = 0 := by omega
        exact fin' false 0 (by rw [if_pos h0]; rfl) (by omega)
      · rw [beq_f he, cond_false]
        exact fin' true _ (by rw [if_neg (by omega)]; exact decide_eq_true (by omega)) (by omega)
    · rw [ble_f hab, cond_false]
      exact fin' false _ (by rw [if_neg (by omega)]; exact decide_eq_false (by omega)) (by omega)
  · simp only [Bool.false_eq_true, if_false, if_true] at hT
    rw [show (true == false) = false from rfl, cond_false]
    by_cases hab : a ≤ b
    · rw [ble_t hab, cond_true]
      by_cases he : a = b
      · rw [beq_t he, cond_true]
        have h0 : T = 0 := by omega
        exact fin' false 0 (by rw [if_pos h0]; rfl) (by omega)
      · rw [beq_f he, cond_false]
        exact fin' false _ (by rw [if_neg (by omega)]; exact decide_eq_false (by omega)) (by omega)
    · rw [ble_f hab, cond_false]
      exact fin' true _ (by rw [if_neg (by omega)]; exact decide_eq_true (by omega)) (by omega)
  · simp only [if_true] at hT
    rw [show (true == true) = true from rfl, cond_true]
    refine fin' _ _ ?_ (by omega)
    by_cases h0 : T = 0
    · rw [if_pos h0]; rfl
    · rw [if_neg h0]; exact decide_eq_true (by omega)
theorem add_eq {x y : Nat} (hx : fin x = true) (hy : fin y = true) : fmt.add x y = some (addN x y) := by
  unfold Ieee.Format.add
  rw [read_fin hx, read_fin hy]
  exact sum_eq _ _ _ _
theorem sub_eq {x y : Nat} (hx : fin x = true) (hy : fin y = true) : fmt.sub x y = some (subN x y) := by
  unfold Ieee.Format.sub
  rw [read_fin hx, read_fin hy]
  exact sum_eq _ _ _ _

end Go.Proofs.YtnjmefjcaiepfaaDoor.WaveP
