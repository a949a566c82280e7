/- Quoting in plain Lean. -/
import Derived.Test.YtemcflfgoelpiaaDecQ
namespace Go.Proofs.Ytemcflfgoelpiaa.JsonP

def hexB (d : Nat) : UInt8 := [48, 49, 50, 51, 52, 53, 54, 55, 56, 57, 97, 98, 99, 100, 101, 102].getD d (0 : UInt8)
/-- How a scalar stands between quotes. -/
def qOne (r : Nat) : List UInt8 :=
  if r = 34 ∨ r = 92 then [92, UInt8.ofNat r] else if r = 8 then [92, 98] else if r = 9 then [92, 116] else if r = 10 then [92, 110] else if r = 12 then [92, 102] else if r = 13 then [92, 114]
  else if r < 32 then [92, 117, 48, 48, hexB (r / 16), hexB (r % 16)] else encB r
def qAll (rs : List Int) : List UInt8 := rs.flatMap fun r => qOne r.toNat
def quote (rs : List Int) : List UInt8 := 34 :: (qAll rs ++ [34])
theorem qOne_len (r : Nat) : (qOne r).length ≤ 6 := by
  unfold qOne
  have : (encB r).length ≤ 4 := by unfold encB; repeat' (split <;> try simp)
  repeat' (split <;> try (simp; done))
  omega
theorem qAll_snoc (rs : List Int) (r : Int) : qAll (rs ++ [r]) = qAll rs ++ qOne r.toNat := by simp [qAll]
theorem qAll_len (rs : List Int) : (qAll rs).length ≤ 6 * rs.length := by
  induction rs with
  | nil => simp [qAll]
  | cons r rs ih =>
    have := qOne_len r.toNat
    rw [show qAll (r :: rs) = qOne r.toNat ++ qAll rs from rfl, List.length_append, List.length_cons]
    omega
theorem qOne_plain {r : Nat} (h : 32 ≤ r) (h1 : r ≠ 34) (h2 : r ≠ 92) : qOne r = encB r := by
  unfold qOne
  rw [if_neg (by omega), if_neg (by omega), if_neg (by omega), if_neg (by omega), if_neg (by omega), if_neg (by omega), if_neg (by omega)]

end Go.Proofs.Ytemcflfgoelpiaa.JsonP
