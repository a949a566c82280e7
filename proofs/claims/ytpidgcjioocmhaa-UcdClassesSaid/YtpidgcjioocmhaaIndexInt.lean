/- The library's slices.Index and slices.Contains at []int, walked. -/
import Derived.Test.YtpidgcjioocmhaaLib
namespace Go.Proofs.Ytpidgcjioocmhaa
open Go.RowKit

/-- slices.Index's end. -/
def IndexEnd (l : List Int) (r : Int) (w : World) (e : Ending) (w' : World) : Prop := ∃ i : Int, e = .returned (.int .i64 i) ∧ (0 ≤ i ↔ r ∈ l) ∧ w = w'

set_option maxHeartbeats 400000 in
theorem index_any (A : Option Addr) (n c B : Nat) (l : List Int) (r : Int) (w : World) (hl : l.length = n) (hn : n ≤ 4611686018427387904) (hA : SeqAt Eint w B A l) :
    Calls Try.prog 46 #[.slice A n c, .int .i64 r] w (IndexEnd l r w) := by
  have HL := Lib.hid hl
  have HA := Lib.hid hA
  clear hl hA
  go_enter Try.func46, Try.ntmps46
  go_wp2
  go_loop [8] (fun i => ∃ k : Nat, k ≤ n ∧ i = .int .i64 k ∧ Hid (r ∉ l.take k)) (fun i => n + 1 - (intOf i).toNat)
  case atStart => exact ⟨0, by omega, rfl, by unfold Hid; simp⟩
  case round =>
    obtain ⟨k, hk, rfl, hrest⟩ := hrel
    by_cases hlt : k < n
    · have hln := HL.out
      have HK : Hid (k < l.length) := by unfold Hid; omega
      obtain ⟨b, off, rfl, hb, hc⟩ := HA.out.ints_ (by omega)
      have h0 := hc k (by omega)
      clear hc hb hln
      generalize hx : l.getD k 0 = x at *
      have HX := Lib.hid hx
      clear hx
      go_wp2
      · go_ret
        refine ⟨k, rfl, ⟨fun _ => ?_, fun _ => by omega⟩, rfl⟩
        have hxr : r = x := by simpa using ‹(r == x) = true›
        have := List.getElem_mem HK.out
        have hx' := HX.out
        rw [List.getD_eq_getElem?_getD, List.getElem?_eq_getElem HK.out] at hx'
        rw [hxr, ← hx']
        exact this
      · go_round
        case rel =>
          refine ⟨k + 1, by omega, by go_num, ?_⟩
          have hx' := HX.out
          rw [List.getD_eq_getElem?_getD, List.getElem?_eq_getElem HK.out] at hx'
          have hxr : r ≠ x := by simpa using ‹(r == x) = false›
          unfold Hid
          rw [List.take_add_one, List.getElem?_eq_getElem HK.out]
          simp only [List.mem_append, not_or]
          refine ⟨hrest.out, ?_⟩
          simp only [Option.getD_some] at hx'
          simp [hx', hxr]
        case measure => simp [intOf]; omega
    · go_wp2
      go_ret
      refine ⟨-1, rfl, ⟨fun h => by omega, fun h => ?_⟩, rfl⟩
      have := hrest.out
      rw [List.take_of_length_le (by rw [HL.out]; omega)] at this
      exact absurd h this

set_option maxHeartbeats 400000 in
theorem contains_any (A : Option Addr) (n c B : Nat) (l : List Int) (r : Int) (w : World) (hl : l.length = n) (hn : n ≤ 4611686018427387904) (hA : SeqAt Eint w B A l) :
    Calls Try.prog 27 #[.slice A n c, .int .i64 r] w fun e w' => e = .returned (.bool (decide (r ∈ l))) ∧ w = w' := by
  have H := Lib.hid (index_any A n c B l r w hl hn hA)
  clear hl hA
  go_enter Try.func27, Try.ntmps27
  go_wp2_with (go_at_call 46; refine H.out.mono ?_; rintro e w' ⟨i, rfl, hi, rfl⟩; have HI := Lib.hid hi; clear hi)
  go_ret
  exact ⟨ret_bool (decide_eq_decide.2 HI.out), rfl⟩

end Go.Proofs.Ytpidgcjioocmhaa
