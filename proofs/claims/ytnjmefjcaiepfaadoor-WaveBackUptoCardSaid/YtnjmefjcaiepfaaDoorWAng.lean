/- The angle's steps as the text takes them, forwards and back. -/
import Derived.Test.YtnjmefjcaiepfaaDoorWSinW
import Derived.Test.YtnjmefjcaiepfaaDoorWRev
namespace Go.Proofs.YtnjmefjcaiepfaaDoor
open Go.RowKit WaveP

/-- The angle of a turn the other way. -/
def angleM (k l : Nat) : Option Nat := (mulO (flipW 4618760256179416344) (natW k)).bind fun a => divO a (natW (2 ^ l))
def sameO : Option Nat → Option Nat → Bool
  | some x, some y => Nat.beq (flipW x) y
  | _, _ => false
theorem angleM_all : (List.range 12).all (fun l => allR (fun k => sameO (angle k (l + 1)) (angleM k (l + 1))) l 0) = true := by decide +kernel
theorem angleM_eq {l k x : Nat} (h1 : 1 ≤ l) (h2 : l ≤ 12) (h3 : k < 2 ^ (l - 1)) (h : angle k l = some x) : angleM k l = some (flipW x) := by
  have a := List.all_eq_true.1 angleM_all (l - 1) (List.mem_range.2 (by omega))
  have b := allR_get _ (l - 1) 0 a k (Nat.zero_le _) (by omega)
  rw [show l - 1 + 1 = l by omega, h] at b
  cases hm : angleM k l with
  | none => rw [hm] at b; cases b
  | some y => rw [hm] at b; rw [← Nat.eq_of_beq_eq_true b]
/-- The first word of an angle: two turns' halves. -/
def half2 (neg : Bool) : Nat := fl neg 4618760256179416344
def sgnW (neg : Bool) : Nat := fl neg 4607182418800017408
theorem first_eq : ∀ neg : Bool, mulO (sgnW neg) 4611686018427387904 = some (fl neg 4611686018427387904) ∧ mulO (fl neg 4611686018427387904) 4614256656552045848 = some (half2 neg) := by decide +kernel
theorem angle_steps (neg : Bool) {l k x : Nat} (h1 : 1 ≤ l) (h2 : l ≤ 12) (h3 : k < 2 ^ (l - 1)) (h : angle k l = some x) : ∃ a, mulO (half2 neg) (natW k) = some a ∧ divO a (natW (2 ^ l)) = some (fl neg x) := by
  cases neg with
  | false =>
    unfold angle at h
    exact Option.bind_eq_some_iff.1 h
  | true =>
    have := angleM_eq h1 h2 h3 h
    unfold angleM at this
    exact Option.bind_eq_some_iff.1 this
theorem run_divO {P : Program} {x y r : Nat} (h : divO x y = some r) : ∀ t w, (binOp .quo t (.float .f64 x) (.float .f64 y)).run P w = .ok (.float .f64 r) w := fun t w => run_float_arith w .quo t .f64 x y r (divO_some h)
end Go.Proofs.YtnjmefjcaiepfaaDoor
