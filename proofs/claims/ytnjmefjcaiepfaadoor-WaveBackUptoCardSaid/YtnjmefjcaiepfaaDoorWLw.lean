/- What the laws of chapter 17 share: the four places that are told, two lists that are the same. -/
import Derived.Test.YtnjmefjcaiepfaaDoorWPl
namespace Go.Proofs.YtnjmefjcaiepfaaDoor
open Go.RowKit WaveP

theorem speaks_list : agL ⟨#[97, 98, 99, 97, 98]⟩ ⟨#[97, 98]⟩ = [2, 0, 0, 2] := by decide +kernel
set_option maxRecDepth 100000 in
theorem speaks_any (w : World) (hT : ∀ w', Below w.heap.size w w' → TabsW w') :
    Calls Tryd.prog 10 #[] w fun e w' => e = .returned (.bool true) ∧ Below w.heap.size w w' := by
  have HA := Lib.hid (speaks_list ▸ agree_any ⟨#[97, 98, 99, 97, 98]⟩ ⟨#[97, 98]⟩ w (fun _ => by decide) (by decide) (by decide) hT)
  clear hT
  go_enter Tryd.func10, Tryd.ntmps10
  go_wp2_with (go_at_call 13; (refine HA.out.mono ?_); rintro e w1 ⟨v1, rfl, ⟨A1, c1, rfl, hc1, hc2, hS1⟩, hb1⟩; obtain ⟨b, o, rfl, _, hc⟩ := hS1.ints_ (by decide); have g0 := hc 0 (by decide); have g1 := hc 1 (by decide); have g2 := hc 2 (by decide); have g3 := hc 3 (by decide); (simp only [List.getD_cons_zero, List.getD_cons_succ, Nat.add_zero] at g0 g1 g2 g3); clear hc hS1)
  go_ret
  exact ⟨rfl, hb1⟩

set_option maxRecDepth 100000 in
theorem ints_same (A A' : Option Addr) (c c' B : Nat) (l : List Int) (w : World) (hl : l.length ≤ maxLen) (hA : SeqAt Eint w B A l) (hA' : SeqAt Eint w B A' l) (hB : B ≤ w.heap.size) :
    Calls Tryd.prog 15 #[.slice A l.length c, .slice A' l.length c'] w fun e w' => e = .returned (.bool true) ∧ Below w.heap.size w w' := by
  have HA := Lib.hid hA
  have HA' := Lib.hid hA'
  unfold maxLen at hl
  obtain ⟨n, hn⟩ : ∃ n, n = l.length := ⟨_, rfl⟩
  have HN := Lib.hid hn
  rw [← hn] at hl ⊢
  clear hn hA hA'
  go_enter Tryd.func15, Tryd.ntmps15
  go_wp2
  go_loopw [5] (fun i wr => ∃ k : Nat, k ≤ n ∧ i = .int .i64 k ∧ Below w.heap.size w wr) (fun i _ => n + 1 - (intOf i).toNat)
  case atStart => exact ⟨0, by omega, rfl, Below.refl _ _⟩
  case round =>
    obtain ⟨k, hk, rfl, hbe⟩ := hrel
    by_cases hkn : k < n
    · obtain ⟨b, o, rfl, _, h0⟩ := (HA.out.below (hbe.mono hB)).int_ (show k < l.length by rw [← HN.out]; exact hkn)
      obtain ⟨b', o', rfl, _, h1⟩ := (HA'.out.below (hbe.mono hB)).int_ (show k < l.length by rw [← HN.out]; exact hkn)
      obtain ⟨x, hx⟩ : ∃ x, l[k]'(by rw [← HN.out]; exact hkn) = x := ⟨_, rfl⟩
      rw [hx] at h0 h1
      clear hx
      go_wp2
      go_quiet (fail)
      go_wp2
      go_roundw
      case rel => exact ⟨k + 1, by omega, by go_num, below_drewN hbe _⟩
      case measure => simp [intOf]; omega
    · obtain rfl : k = n := by omega
      go_wp2
      go_ret
      exact ⟨rfl, hbe⟩
end Go.Proofs.YtnjmefjcaiepfaaDoor
