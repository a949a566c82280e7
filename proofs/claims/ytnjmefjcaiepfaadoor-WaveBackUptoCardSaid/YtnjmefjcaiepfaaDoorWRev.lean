/- The library's Reverse32: the lowest bits the other way round. -/
import Derived.Test.YtnjmefjcaiepfaaDoorLib
import Derived.Test.YtnjmefjcaiepfaaDoorWInv
import Derived.Laws.BitsAllLaws
namespace Go.Proofs.YtnjmefjcaiepfaaDoor
open Go.RowKit WaveP

/-- What the four steps of the library's function make of 32 bits. -/
def stepR (m k x : Nat) : Nat := (x / 2 ^ k &&& m) ||| ((x &&& m) * 2 ^ k % 4294967296)
def bytesR (x : Nat) : Nat := stepR 16711935 8 x / 65536 ||| (stepR 16711935 8 x * 65536 % 4294967296)
def bitsR (x : Nat) : Nat := bytesR (stepR 252645135 4 (stepR 858993459 2 (stepR 1431655765 1 x)))

def allR (P : Nat → Bool) : Nat → Nat → Bool
  | 0, b => P b
  | m + 1, b => allR P m b && allR P m (b + 2 ^ m)
theorem allR_get (P : Nat → Bool) : ∀ m b, allR P m b = true → ∀ x, b ≤ x → x < b + 2 ^ m → P x = true := by
  intro m
  induction m with
  | zero => intro b h x h1 h2; rw [show x = b by omega]; exact h
  | succ m ih =>
    intro b h x h1 h2
    have h' : (allR P m b && allR P m (b + 2 ^ m)) = true := h
    rw [Bool.and_eq_true] at h'
    rw [Nat.pow_succ] at h2
    by_cases hx : x < b + 2 ^ m
    · exact ih b h'.1 x h1 hx
    · exact ih (b + 2 ^ m) h'.2 x (by omega) (by omega)
def revOk (L x : Nat) : Bool := Nat.beq (bitsR x / 2 ^ (32 - L)) (rev L x)
theorem rev_all : (List.range 13).all (fun L => allR (revOk L) L 0) = true := by decide +kernel
theorem bitsR_rev {L x : Nat} (hL : L ≤ 12) (hx : x < 2 ^ L) : bitsR x / 2 ^ (32 - L) = rev L x := by
  have h := List.all_eq_true.1 rev_all L (List.mem_range.2 (by omega))
  exact Nat.eq_of_beq_eq_true (allR_get _ L 0 h x (Nat.zero_le _) (by omega))
theorem rev_rev_all : (List.range 13).all (fun L => allR (fun x => Nat.beq (rev L (rev L x)) x) L 0) = true := by decide +kernel
theorem rev_rev {L x : Nat} (hL : L ≤ 12) (hx : x < 2 ^ L) : rev L (rev L x) = x := by
  have h := List.all_eq_true.1 rev_rev_all L (List.mem_range.2 (by omega))
  exact Nat.eq_of_beq_eq_true (allR_get _ L 0 h x (Nat.zero_le _) (by omega))

theorem or_lt32 {x y : Nat} (hx : x < 4294967296) (hy : y < 4294967296) : x ||| y < 4294967296 := Nat.or_lt_two_pow (n := 32) hx hy
theorem and_lt32 {x m : Nat} (hm : m < 4294967296) : x &&& m < 4294967296 := Nat.lt_of_le_of_lt Nat.and_le_right hm
theorem stepR_lt {m : Nat} (k x : Nat) (hm : m < 4294967296) : stepR m k x < 4294967296 := or_lt32 (and_lt32 hm) (Nat.mod_lt _ (by decide))
theorem div_lt32 {x : Nat} (k : Nat) (hx : x < 4294967296) : x / k < 4294967296 := Nat.lt_of_le_of_lt (Nat.div_le_self ..) hx
theorem cdiv (x k : Nat) : ((x : Int) / (k : Int)) = ((x / k : Nat) : Int) := rfl
/-- One step, as the walk speaks of it. -/
theorem step_eq {x : Nat} (m k : Nat) (p : Nat) (hp : 2 ^ k = p) (hx : x < 4294967296) (hm : m < 4294967296) :
    bits .or .u32 (bits .and .u32 ((x : Int) / (p : Int)) (m : Int)) (bits .and .u32 (x : Int) (m : Int) * (p : Int) % 4294967296) = ((stepR m k x : Nat) : Int) := by
  rw [cdiv, Go.u32_and_nat _ _ (div_lt32 p hx) hm, Go.u32_and_nat _ _ hx hm]
  have e : (((x &&& m : Nat) : Int) * (p : Int) % 4294967296) = (((x &&& m) * p % 4294967296 : Nat) : Int) := by omega
  rw [e, Go.u32_or_nat _ _ (and_lt32 hm) (Nat.mod_lt _ (by decide))]
  unfold stepR
  rw [hp]

theorem bytes_eq {y : Nat} {z : Nat} (hy : stepR 16711935 8 z < 4294967296) (h : y = stepR 16711935 8 z := by rfl) :
    bits .or .u32 ((y : Int) / 65536) ((y : Int) * 65536 % 4294967296) = ((bytesR z : Nat) : Int) := by
  rw [show (y : Int) / 65536 = ((y / 65536 : Nat) : Int) from rfl, show (y : Int) * 65536 % 4294967296 = ((y * 65536 % 4294967296 : Nat) : Int) by omega]
  rw [Go.u32_or_nat _ _ (div_lt32 65536 (h ▸ hy)) (Nat.mod_lt _ (by decide))]
  unfold bytesR
  rw [h]

theorem revBytes_any (x : Nat) (hx : x < 4294967296) (w : World) : Calls Tryd.prog 34 #[.int .u32 x] w fun e w' => e = .returned (.int .u32 ((bytesR x : Nat) : Int)) ∧ w = w' := by
  have h1 : bits .or .u32 (bits .and .u32 ((x : Int) / 256) 16711935) (bits .and .u32 (x : Int) 16711935 * 256 % 4294967296) = ((stepR 16711935 8 x : Nat) : Int) := step_eq (x := x) 16711935 8 256 rfl hx (by decide)
  have h2 : bits .or .u32 (((stepR 16711935 8 x : Nat) : Int) / 65536) (((stepR 16711935 8 x : Nat) : Int) * 65536 % 4294967296) = ((bytesR x : Nat) : Int) := bytes_eq (stepR_lt 8 x (by decide))
  go_enter Tryd.func34, Tryd.ntmps34
  go_wp2
  go_ret
  exact ⟨rfl, rfl⟩
theorem rev32_any (x : Nat) (hx : x < 4294967296) (w : World) : Calls Tryd.prog 25 #[.int .u32 x] w fun e w' => e = .returned (.int .u32 ((bitsR x : Nat) : Int)) ∧ w = w' := by
  obtain ⟨y1, e1⟩ : ∃ y, y = stepR 1431655765 1 x := ⟨_, rfl⟩
  have l1 : y1 < 4294967296 := by rw [e1]; exact stepR_lt 1 x (by decide)
  have h1 : bits .or .u32 (bits .and .u32 ((x : Int) / 2) 1431655765) (bits .and .u32 (x : Int) 1431655765 * 2 % 4294967296) = (y1 : Int) := by
    rw [e1]; exact step_eq (x := x) 1431655765 1 2 rfl hx (by decide)
  obtain ⟨y2, e2⟩ : ∃ y, y = stepR 858993459 2 y1 := ⟨_, rfl⟩
  have l2 : y2 < 4294967296 := by rw [e2]; exact stepR_lt 2 y1 (by decide)
  have h2 : bits .or .u32 (bits .and .u32 ((y1 : Int) / 4) 858993459) (bits .and .u32 (y1 : Int) 858993459 * 4 % 4294967296) = (y2 : Int) := by
    rw [e2]; exact step_eq (x := y1) 858993459 2 4 rfl l1 (by decide)
  obtain ⟨y3, e3⟩ : ∃ y, y = stepR 252645135 4 y2 := ⟨_, rfl⟩
  have l3 : y3 < 4294967296 := by rw [e3]; exact stepR_lt 4 y2 (by decide)
  have h3 : bits .or .u32 (bits .and .u32 ((y2 : Int) / 16) 252645135) (bits .and .u32 (y2 : Int) 252645135 * 16 % 4294967296) = (y3 : Int) := by
    rw [e3]; exact step_eq (x := y2) 252645135 4 16 rfl l2 (by decide)
  have hb : bytesR y3 = bitsR x := by unfold bitsR; rw [e3, e2, e1]
  rw [← hb]
  clear hb e1 e2 e3
  go_enter Tryd.func25, Tryd.ntmps25
  go_wp2_with (go_at_call 34; (try rw [h1]); (try rw [h2]); (try rw [h3]); (with_reducible refine (revBytes_any y3 l3 _).mono ?_); rintro e w' ⟨rfl, rfl⟩)
  go_ret
  exact ⟨rfl, rfl⟩
end Go.Proofs.YtnjmefjcaiepfaaDoor
