/- The walk of the document's In: is a number in some ranges? -/
import Derived.Test.YtapjkahpblbnmaaSets
namespace Go.Proofs.Ytapjkahpblbnmaa
open Go.RowKit SetPure

theorem inB_drop {l : List Rg} {k : Nat} {x y : Int} (hk : k < l.length) (hr : l.getD k (0, 0) = (x, y)) (z : Int) : inB (l.drop k) z = ((decide (x ≤ z) && decide (z ≤ y)) || inB (l.drop (k + 1)) z) := by
  rw [drop_next' hk hr]; rfl
theorem inB_end (l : List Rg) (z : Int) : inB (l.drop l.length) z = false := by simp [inB]

set_option maxHeartbeats 400000 in
theorem refIn_any (A : Option Addr) (c B : Nat) (l : List Rg) (r : Int) (w : World) (hl : l.length ≤ 8796093022208) (hA : SeqAt Epair w B A l) (hB : B ≤ w.heap.size) :
    Calls Try.prog 20 #[.slice A l.length c, .int .i64 r] w fun e w' => e = .returned (.bool (inB l r)) ∧ Below w.heap.size w w' := by
  have HA := Lib.hid hA
  clear hA
  go_enter Try.func20, Try.ntmps20
  go_wp2
  go_loopw [5] (fun ix wr => ∃ k : Nat, k ≤ l.length ∧ ix = .int .i64 k ∧ Below w.heap.size w wr ∧ Hid (inB l r = inB (l.drop k) r)) (fun ix _ => l.length + 1 - (intOf ix).toNat)
  case atStart => exact ⟨0, by omega, rfl, Below.refl _ _, rfl⟩
  case round =>
    obtain ⟨k, hk, rfl, hbw, hrest⟩ := hrel
    by_cases hlt : k < l.length
    · obtain ⟨b, off, rfl, hb, hc⟩ := (HA.out.below (hbw.mono hB)).pairs_ (by omega)
      obtain ⟨h0, h1⟩ := hc k hlt
      clear hc
      obtain ⟨⟨x, y⟩, hr⟩ : ∃ r, l.getD k (0, 0) = r := ⟨_, rfl⟩
      rw [hr] at h0 h1
      simp only at h0 h1
      have HS := Lib.hid (inB_drop hlt hr r)
      clear hr
      have hki : (k : Int) < (l.length : Int) := by omega
      by_cases c1 : x ≤ r
      · by_cases c2 : r ≤ y
        · go_wp2
          go_ret
          exact ⟨ret_bool (by rw [hrest.out, HS.out]; simp [c1, c2]), hbw⟩
        · go_wp2
          go_roundw
          case rel => exact ⟨k + 1, by omega, by go_num, hbw, Lib.hid (by rw [hrest.out, HS.out]; simp [c2])⟩
          case measure => simp [intOf]; omega
      · go_wp2
        go_roundw
        case rel => exact ⟨k + 1, by omega, by go_num, hbw, Lib.hid (by rw [hrest.out, HS.out]; simp [c1])⟩
        case measure => simp [intOf]; omega
    · obtain rfl : k = l.length := by omega
      have HE := Lib.hid (inB_end l r)
      go_wp2
      go_ret
      exact ⟨ret_bool (by rw [hrest.out, HE.out]), hbw⟩

end Go.Proofs.Ytapjkahpblbnmaa
