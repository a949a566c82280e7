/- The walk of slices.Equal at two sets.
  The walk of sets.Set's Same.
  Sets told by what is in them: the contract of Same. -/
import Derived.Test.YtmmmcfflhlkiiaaZc2
import Derived.Test.YtmmmcfflhlkiiaaZc4
namespace Go.Proofs.Ytmmmcfflhlkiiaa
open Go.RowKit SetPure

set_option maxHeartbeats 400000 in
theorem equal_any (A A' : Option Addr) (c c' B : Nat) (l l' : List Rg) (w : World) (hlen : l.length ≤ 4611686018427387904) (hlen' : l'.length ≤ 4611686018427387904) (hA : SeqAt Epair w B A l) (hA' : SeqAt Epair w B A' l') (hB : B ≤ w.heap.size) :
    Calls Try.prog 22 #[.slice A l.length c, .slice A' l'.length c'] w fun e w' => e = .returned (.bool (decide (l = l'))) ∧ Below w.heap.size w w' := by
  have HA := Lib.hid hA
  have HA' := Lib.hid hA'
  clear hA hA'
  by_cases hn : l.length = l'.length
  · have hb1 : ((l.length : Int) != (l'.length : Int)) = false := by simp; omega
    have HN := Lib.hid hn
    clear hn
    go_enter Try.func22, Try.ntmps22
    go_wp2
    go_loopw [13] (fun i wr => ∃ k : Nat, k ≤ l.length ∧ i = .int .i64 k ∧ Below w.heap.size w wr ∧ Hid (l.take k = l'.take k)) (fun i _ => l.length + 1 - (intOf i).toNat)
    case atStart => exact ⟨0, by omega, rfl, Below.refl _ _, rfl⟩
    case round =>
      obtain ⟨k, hk, rfl, hbw, hrest⟩ := hrel
      have hz := hbw.size
      by_cases hlt : k < l.length
      · have hlt' : k < l'.length := by have := HN.out; omega
        obtain ⟨b, off, rfl, hb, hc⟩ := (HA.out.below (hbw.mono hB)).pairs_ (by omega)
        obtain ⟨b', off', rfl, hb', hc'⟩ := (HA'.out.below (hbw.mono hB)).pairs_ (by omega)
        obtain ⟨h0, h1⟩ := hc k hlt
        obtain ⟨h0', h1'⟩ := hc' k hlt'
        clear hc hc'
        obtain ⟨⟨x, y⟩, hr⟩ : ∃ r, l.getD k (0, 0) = r := ⟨_, rfl⟩
        obtain ⟨⟨x', y'⟩, hr'⟩ : ∃ r, l'.getD k (0, 0) = r := ⟨_, rfl⟩
        rw [hr] at h0 h1
        rw [hr'] at h0' h1'
        have HR := Lib.hid hr
        have HR' := Lib.hid hr'
        clear hr hr'
        simp only at h0 h1 h0' h1'
        have hki : (k : Int) < (l.length : Int) := by omega
        have hki' : (k : Int) < (l'.length : Int) := by omega
        go_wp2
        go_quiet (fail)
        cases he : rangeEq x y x' y' with
        | false =>
          have hne := Lib.hid (show ¬ (x, y) = (x', y') from fun h => by rw [(rangeEq_iff x y x' y').2 h] at he; cases he)
          go_wp2
          go_ret
          refine ⟨ret_bool ?_, below_drewN hbw _⟩
          symm
          rw [decide_eq_false_iff_not]
          intro h
          subst h
          exact hne.out (HR.out.symm.trans HR'.out)
        | true =>
          have heq := Lib.hid ((rangeEq_iff x y x' y').1 he)
          go_wp2
          go_roundw
          case rel => exact ⟨k + 1, by omega, by go_num, below_drewN hbw _, Lib.hid (by rw [take_next' hlt HR.out, take_next' hlt' HR'.out, hrest.out, heq.out])⟩
          case measure => simp [intOf]; omega
      · go_wp2
        go_ret
        have h1 := hrest.out
        have h2 := HN.out
        rw [List.take_of_length_le (by omega), List.take_of_length_le (by omega)] at h1
        exact ⟨ret_bool (by simp [h1]), hbw⟩
  · have hb1 : ((l.length : Int) != (l'.length : Int)) = true := by simp; omega
    have hne : ¬ l = l' := fun h => hn (by rw [h])
    have HN := Lib.hid hne
    clear hn hne
    go_enter Try.func22, Try.ntmps22
    go_wp2
    go_ret
    exact ⟨ret_bool (by simp [HN.out]), Below.refl _ _⟩

end Go.Proofs.Ytmmmcfflhlkiiaa

namespace Go.Proofs.Ytmmmcfflhlkiiaa
open Go.RowKit SetPure

set_option maxHeartbeats 400000 in
theorem set_same {w : World} {v u : Value} {s t : List Rg} (h : IsSet w v s) (k : IsSet w u t) : Calls Try.prog 11 #[v, u] w fun e w' => e = .returned (.bool (decide (s = t))) ∧ Below w.heap.size w w' := by
  obtain ⟨⟨A, c, rfl, hc1, hc2, hA⟩, hcan⟩ := h
  obtain ⟨⟨A', c', rfl, hc1', hc2', hA'⟩, hcan'⟩ := k
  have HE := Lib.hid (equal_any A A' c c' _ s t w (by have := hcan.len; omega) (by have := hcan'.len; omega) hA hA' (Nat.le_refl _))
  clear hA hA' hcan hcan'
  go_enter Try.func11, Try.ntmps11
  go_wp2_with (go_at_call 22; refine HE.out.mono ?_; rintro e w1 ⟨rfl, hb1⟩)
  go_ret
  exact ⟨rfl, hb1⟩

end Go.Proofs.Ytmmmcfflhlkiiaa

namespace Go.Proofs.Ytmmmcfflhlkiiaa
open Go.RowKit SetPure

section
variable {W w w' : World} {L : List (Value × (Int → Bool))} {v u : Value} {f g : Int → Bool}
/-- Two sets that hold the same are the same. -/
theorem hold_same (h : Hold W w L) (hv : (v, f) ∈ L) (hu : (u, g) ∈ L) (e : ∀ z, inR z = true → f z = g z) : Calls Try.prog 11 #[v, u] w fun e w' => e = .returned (.bool true) ∧ Hold W w' L := by
  have k := h.get hv
  have k' := h.get hu
  obtain ⟨s, h1, h2⟩ := h.get hv
  obtain ⟨t, k1, k2⟩ := h.get hu
  refine (set_same h1 k1).mono ?_
  rintro e w' ⟨rfl, hb⟩
  refine ⟨ret_bool ?_, h.go hb⟩
  rw [decide_eq_true_eq]
  refine Canon.unique h1.canon k1.canon fun z => ?_
  rw [← inB_iff, ← inB_iff, h2, k2]
  constructor
  · intro hz; rw [← e z (k.inR hz)]; exact hz
  · intro hz; rw [e z (k'.inR hz)]; exact hz
end

end Go.Proofs.Ytmmmcfflhlkiiaa
