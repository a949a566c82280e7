/- Chapter 25: the walk of the document's Decimal. -/
import Derived.Test.YtgekkhkmgfbcdaaDoorArgsPack
import Derived.Test.YtgekkhkmgfbcdaaDoorBytes
namespace Go.Proofs.YtgekkhkmgfbcdaaDoor
open Go.Shelf Go.RowKit

def bI (l : List UInt8) : List Int := l.map fun c => (c.toNat : Int)
theorem str_bI (l : List UInt8) : strOfNums (bI l) = bytesOf l := by
  unfold strOfNums bI bytesOf
  rw [List.map_map]
  have : ((fun n : Int => UInt8.ofNat n.toNat) ∘ fun c : UInt8 => (c.toNat : Int)) = id := by funext c; simp
  rw [this, List.map_id]
theorem str_dig (m : Int) (h0 : 0 ≤ m) (h1 : m < 10) : strOfNums [48 + m] = bytesOf [UInt8.ofNat (48 + m.toNat)] := by
  unfold strOfNums bytesOf
  simp only [List.map_cons, List.map_nil, show (48 + m).toNat = 48 + m.toNat by omega]
theorem bytes_app (a b : List UInt8) : bytesOf a ++ bytesOf b = bytesOf (a ++ b) := by
  have h : (bytesOf a ++ bytesOf b).data = (bytesOf (a ++ b)).data := by rw [ByteArray.data_append]; simp [bytesOf]
  exact congrArg ByteArray.mk h

theorem conv_kept {w w1 : World} {x : Int} (hb : Below (w.alloc (.cells #[.int .u8 x] 5)).drew.heap.size (w.alloc (.cells #[.int .u8 x] 5)).drew w1) :
    (convert 58 9 (.slice (some ⟨w.heap.size, 0, none⟩) 1 1)).run Tryd.prog w1 = .ok (.string (strOfNums [x])) w1 := by
  refine run_convert_bytes_arg (P := Tryd.prog) w1 58 5 Tryd.underlying58 Tryd.underlying5 w.heap.size 0 1 1 [x] rfl (fun i hi => ?_) 9 Tryd.underlying9
  obtain rfl : i = 0 := by omega
  rw [hb.cell (p := ⟨w.heap.size, 0 + 0, none⟩) (by simp)]
  exact World.cell?_alloc_new w _ _ 0

theorem below_of_drew {w w' : World} (h : Below w.drew.heap.size w.drew w') : Below w.heap.size w w' := ⟨h.os, h.tape, h.output, h.size, h.block⟩

set_option maxRecDepth 100000 in
set_option maxHeartbeats 1000000 in
theorem decimal_nat (n : Nat) : n < 9223372036854775808 → ∀ w : World, Calls Tryd.prog 23 #[.int .i64 n] w fun e w' => e = .returned (.string (bytesOf (Lib.decDigits n))) ∧ Below w.heap.size w w' := by
  induction n using Nat.strongRecOn with
  | ind n ih =>
  intro hn w
  obtain ⟨z, hz⟩ : ∃ z : Int, (n : Int) = z := ⟨_, rfl⟩
  rw [hz]
  have hz0 : 0 ≤ z := by omega
  have hz1 : z < 9223372036854775808 := by omega
  have hzn : ¬ z < 0 := by omega
  have hmin : (z == -9223372036854775808) = false := by simp; omega
  by_cases h10 : z < 10
  · obtain ⟨D, hD⟩ : ∃ D, strOfNums [48 + z] = D := ⟨_, rfl⟩
    have HD := Lib.hid (show bytesOf (Lib.decDigits n) = D by rw [← hD, str_dig z hz0 h10, Lib.decDigits, dif_pos (by omega), show z.toNat = n by omega])
    have hconv := conv_one w (48 + z)
    rw [hD] at hconv
    clear ih hz hD
    go_enter Tryd.func23, Tryd.ntmps23
    go_wp2
    go_ret
    exact ⟨by rw [HD.out]; rfl, (Below.refl _ _).alloc (Nat.le_refl _) _⟩
  · have h10' : 10 ≤ z := by omega
    obtain ⟨q, hq⟩ : ∃ q, z / 10 = q := ⟨_, rfl⟩
    obtain ⟨m, hm⟩ : ∃ m, z % 10 = m := ⟨_, rfl⟩
    have hm0 : 0 ≤ m := by omega
    have hm1 : m < 10 := by omega
    obtain ⟨D, hD⟩ : ∃ D, strOfNums [48 + m] = D := ⟨_, rfl⟩
    obtain ⟨q1, hq1⟩ : ∃ q1, bytesOf (Lib.decDigits (n / 10)) = q1 := ⟨_, rfl⟩
    have HD := Lib.hid (show bytesOf (Lib.decDigits n) = q1 ++ D by
      rw [← hD, str_dig m hm0 hm1, Lib.decDigits, dif_neg (by omega), ← hq1, bytes_app, show m.toNat = n % 10 by omega])
    have HQ := Lib.hid (fun w => ih (n / 10) (by omega) (by omega) w)
    rw [show ((n / 10 : Nat) : Int) = q by omega, hq1] at HQ
    have hs1 : q1.size ≤ 19 := by rw [← hq1, bytesOf_size]; exact ArgsP.dec_len_le (by omega) (by omega)
    have hs2 : D.size = 1 := by rw [← hD, nums_size]; rfl
    have hs3 : q1.size + D.size ≤ 9223372036854775807 := by omega
    have hs4 := Lib.hid hs2
    have e1 : IntKind.i64.wrap (z.tdiv 10) = q := by rw [IntWalk.i64_quo z 10 (by omega), hq]
    have e2 : IntKind.i64.wrap (48 + m) = 48 + m := IntWalk.i64_in _ (by omega)
    have e3 : z.tmod 10 = m := by rw [IntWalk.rem_in z 10 hz0, hm]
    have e4 : IntKind.u8.wrap (48 + m) = 48 + m := IntWalk.u8_in _ (by omega)
    have hconv := fun w : World => conv_one w (48 + m)
    rw [hD] at hconv
    have hconv2 := fun w : World => conv_kept (w := w) (x := 48 + m) (Below.refl _ _)
    rw [hD] at hconv2
    have HDD := Lib.hid hD
    clear ih hz hD hq hm hq1 hs2
    go_enter Tryd.func23, Tryd.ntmps23
    go_wp2_with fail
    go_region_with ((go_at_call 23; refine (HQ.out _).mono ?_; rintro e w1 ⟨rfl, hb1⟩; (try (have hcv1 := conv_kept hb1; rw [HDD.out] at hcv1)); (try (have hz1 := hb1.size; simp only [World.heap_alloc_size, World.heap_drew] at hz1))))
    all_goals
      go_wp2
      go_ret
      refine ⟨by rw [HD.out]; rfl, ?_⟩
      first
        | exact (below_of_drew hb1).alloc (below_of_drew hb1).size _
        | exact ((Below.refl _ w).alloc (Nat.le_refl _) _).trans ((below_of_drew hb1).mono (by simp))

theorem decimal_any (n : Int) (w : World) (h0 : -9223372036854775808 ≤ n) (h1 : n ≤ 9223372036854775807) :
    Calls Tryd.prog 23 #[.int .i64 n] w fun e w' => e = .returned (.string (bytesOf (Lib.itoa n))) ∧ Below w.heap.size w w' := by
  by_cases hn : 0 ≤ n
  · have := decimal_nat n.toNat (by omega) w
    rw [show ((n.toNat : Nat) : Int) = n by omega] at this
    rw [show Lib.itoa n = Lib.decDigits n.toNat by unfold Lib.itoa; rw [if_neg (by omega)]]
    exact this
  · by_cases hm : n = -9223372036854775808
    · subst hm
      have HI := Lib.hid (show bytesOf (Lib.itoa (-9223372036854775808)) = ⟨#[45, 57, 50, 50, 51, 51, 55, 50, 48, 51, 54, 56, 53, 52, 55, 55, 53, 56, 48, 56]⟩ by decide +kernel)
      go_enter Tryd.func23, Tryd.ntmps23
      go_wp2
      go_ret
      exact ⟨by rw [HI.out]; rfl, Below.refl _ _⟩
    · obtain ⟨m, hmn⟩ : ∃ m : Nat, n = -(m : Int) := ⟨n.natAbs, by omega⟩
      obtain ⟨q1, hq1⟩ : ∃ q1, bytesOf (Lib.decDigits m) = q1 := ⟨_, rfl⟩
      have HD := Lib.hid (show bytesOf (Lib.itoa n) = ⟨#[45]⟩ ++ q1 by
        rw [hmn, Lib.itoa_neg m (by omega), ← hq1]
        exact (bytes_app [45] (Lib.decDigits m)).symm)
      have HQ := Lib.hid (fun w => decimal_nat m (by omega) w)
      have hs1 : q1.size ≤ 19 := by rw [← hq1, bytesOf_size]; exact ArgsP.dec_len_le (by omega) (by omega)
      obtain ⟨z, hz⟩ : ∃ z : Int, (m : Int) = z := ⟨_, rfl⟩
      rw [hz, hq1] at HQ
      have e1 : IntKind.i64.wrap (-n) = z := by rw [show -n = z by omega]; exact IntWalk.i64_in _ (by omega)
      have e2 : (n == -9223372036854775808) = false := by simp; omega
      have hn0 : n < 0 := by omega
      have hs3 : (1 : Nat) + q1.size ≤ 9223372036854775807 := by omega
      clear hmn hq1 hz hn hm
      go_enter Tryd.func23, Tryd.ntmps23
      go_wp2_with (go_at_call 23; refine (HQ.out _).mono ?_; rintro e w1 ⟨rfl, hb1⟩)
      go_ret
      exact ⟨by rw [HD.out]; rfl, hb1⟩

end Go.Proofs.YtgekkhkmgfbcdaaDoor
