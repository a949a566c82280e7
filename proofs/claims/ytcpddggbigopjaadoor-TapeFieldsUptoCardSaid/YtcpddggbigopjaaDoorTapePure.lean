/- Chapter 06: a number of a field, in plain words. -/
import Derived.Test.YtcpddggbigopjaaDoorRows
import Derived.WalkKit
import Derived.Laws.BitsLemmas
import Derived.Laws.BytesArg
import Derived.Lib.SlTrimSet
namespace Go.Proofs.YtcpddggbigopjaaDoor
open Go.RowKit
namespace TapePure

def most : Int := 1099511627776
def binF : Int → List UInt8 → Int × Bool
  | v, [] => (v, true)
  | v, c :: t => if most < 256 * v + c.toNat then (0, false) else binF (256 * v + c.toNat) t
def octF : Int → List UInt8 → Int × Bool
  | v, [] => (v, true)
  | v, c :: t => if 48 ≤ (c.toNat : Int) ∧ (c.toNat : Int) ≤ 55 then (if most < 8 * v + ((c.toNat : Int) - 48) then (0, false) else octF (8 * v + ((c.toNat : Int) - 48)) t) else if Lib.trimS (c :: t) [32, 0] = [] then (v, true) else (0, false)
def numL : List UInt8 → Int × Bool
  | [] => (0, false)
  | c :: t => if 128 ≤ (c.toNat : Int) then binF ((c.toNat : Int) - 128) t else octF 0 (Lib.trimLeftS (c :: t) [32])

theorem andU7 : ∀ i : Fin 256, bits BinOp.and IntKind.u8 (i.val : Int) 127 = (i.val : Int) % 128 := by decide +kernel
theorem subU48 {x : Int} (h0 : 48 ≤ x) (h1 : x ≤ 255) : IntKind.u8.wrap (x - 48) = x - 48 := by rw [IntKind.wrap_u8]; omega
theorem nat_or_shift (a b k : Nat) (h : b < 2 ^ k) : 2 ^ k * a ||| b = 2 ^ k * a + b := (Nat.two_pow_add_eq_or_of_lt h a).symm
theorem or_shift (a b : Int) (k : Nat) (hk : k ≤ 62) (ha : 0 ≤ a) (hb : 0 ≤ b) (hb1 : b < 2 ^ k) (h : 2 ^ k * a + b < 2 ^ 63) : bits BinOp.or IntKind.i64 (2 ^ k * a) b = 2 ^ k * a + b := by
  obtain ⟨n, rfl⟩ := Int.eq_ofNat_of_zero_le ha
  obtain ⟨m, rfl⟩ := Int.eq_ofNat_of_zero_le hb
  have e1 : (2 ^ k * (n : Int)) = ((2 ^ k * n : Nat) : Int) := by simp
  have hm : m < 2 ^ k := by
    have : ((2 ^ k : Nat) : Int) = 2 ^ k := by simp
    omega
  have hlt : 2 ^ k * n + m < 2 ^ 63 := by
    have : ((2 ^ 63 : Nat) : Int) = 2 ^ 63 := by simp
    omega
  rw [e1]
  show IntKind.i64.wrap ((BitVec.ofInt 64 ((2 ^ k * n : Nat) : Int) ||| BitVec.ofInt 64 (m : Int)).toNat : Nat) = _
  have bv : ∀ x : Nat, x < 2 ^ 64 → (BitVec.ofInt 64 (x : Int)).toNat = x := fun x h => by rw [BitVec.toNat_ofInt]; omega
  rw [BitVec.toNat_or, bv _ (by omega), bv m (by omega), nat_or_shift n m k hm, IntKind.wrap_i64]
  omega

end TapePure
end Go.Proofs.YtcpddggbigopjaaDoor
