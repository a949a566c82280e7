/- The division by a complex number that is a power of two. -/
import Derived.Test.YtnjmefjcaiepfaaDoorWTb
namespace Go.Proofs.YtnjmefjcaiepfaaDoor
open Go.RowKit WaveP WaveP.Cx

def quoFacts (n : Nat) : Bool := (absGe (natW n) 0 && (divO 0 (natW n) == some 0)) && ((mulO 0 0 == some 0) && (addO (natW n) 0 == some (natW n)))
theorem quo_facts_all : ∀ L, L < 13 → quoFacts (2 ^ L) = true := by decide +kernel
theorem quo_facts {n L : Nat} (hL : L ≤ 12) (hn : n = 2 ^ L) : absGe (natW n) 0 = true ∧ divO 0 (natW n) = some 0 ∧ mulO 0 0 = some 0 ∧ addO (natW n) 0 = some (natW n) := by
  have h := quo_facts_all L (by omega)
  rw [← hn] at h
  unfold quoFacts at h
  simp only [Bool.and_eq_true, beq_iff_eq] at h
  exact ⟨h.1.1, h.1.2, h.2.1, h.2.2⟩
/-- The quotient's parts, step by step. -/
theorem quoN_of {n L a b br n1 e ar n2 f : Nat} (hL : L ≤ 12) (hn : n = 2 ^ L) (h1 : fmt.mul b 0 = some br) (h2 : fmt.add a br = some n1) (h3 : fmt.div n1 (natW n) = some e) (h4 : fmt.mul a 0 = some ar) (h5 : fmt.sub b ar = some n2)
    (h6 : fmt.div n2 (natW n) = some f) (hne : Op.Complex.isNaN e = false) : quoN n (a, b) = some (e, f) := by
  obtain ⟨q1, q2, q3, q4⟩ := quo_facts hL hn
  have p1 : floatBits .quo .f64 0 (natW n) = some 0 := divO_some q2
  have p2 : floatBits .mul .f64 0 0 = some 0 := mulO_some q3
  have p3 : floatBits .add .f64 (natW n) 0 = some (natW n) := addO_some q4
  have g1 : floatBits .mul .f64 b 0 = some br := h1
  have g2 : floatBits .add .f64 a br = some n1 := h2
  have g3 : floatBits .quo .f64 n1 (natW n) = some e := h3
  have g4 : floatBits .mul .f64 a 0 = some ar := h4
  have g5 : floatBits .sub .f64 b ar = some n2 := h5
  have g6 : floatBits .quo .f64 n2 (natW n) = some f := h6
  unfold quoN cQuoBits
  dsimp only
  rw [if_pos q1, p1, Option.bind_some, p2, Option.bind_some, p3, Option.bind_some, g1, Option.bind_some, g2, Option.bind_some, g3, Option.bind_some, g4, Option.bind_some, g5, Option.bind_some, g6, Option.bind_some, Option.bind_some, hne]
  rfl
end Go.Proofs.YtnjmefjcaiepfaaDoor
