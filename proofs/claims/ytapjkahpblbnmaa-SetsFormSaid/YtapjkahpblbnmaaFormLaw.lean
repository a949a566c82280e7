/- Chapter 08, the walk of SetsForm. -/
import Derived.Test.YtapjkahpblbnmaaMade
namespace Go.Proofs.Ytapjkahpblbnmaa
open Go.RowKit SetPure

/-- A set's value by its list. -/
theorem SetF.form {w : World} {v : Value} {f : Int → Bool} (h : SetF w v f) : ∃ A c, ∃ s : List Rg, v = .slice A s.length c ∧ s.length ≤ 557056 ∧ SeqAt Epair w w.heap.size A s ∧ (∀ k, k < s.length → 0 ≤ (s.getD k (0, 0)).1 ∧ (s.getD k (0, 0)).1 ≤ (s.getD k (0, 0)).2 ∧ (s.getD k (0, 0)).2 ≤ 1114111) ∧
    ∀ k, k + 1 < s.length → (s.getD k (0, 0)).2 + 1 < (s.getD (k + 1) (0, 0)).1 := by
  obtain ⟨s, ⟨⟨A, c, rfl, _, _, hA⟩, hcan⟩, _⟩ := h
  refine ⟨A, c, s, rfl, hcan.len, hA, fun k hk => Canon.ok hcan (by omega) _ (mem_at' hk rfl), fun k hk => ?_⟩
  have := gap_at hcan k (k + 1) (by omega) hk
  omega

theorem SetF.slice {w : World} {v : Value} {f : Int → Bool} (h : SetF w v f) : ∃ A n c, v = .slice A n c := by
  obtain ⟨A, c, s, rfl, _⟩ := h.form
  exact ⟨A, _, c, rfl⟩
theorem SetF.any {w : World} {v : Value} {f : Int → Bool} (h : SetF w v f) : ∃ f, SetF w v f := ⟨f, h⟩

set_option maxHeartbeats 4000000 in
theorem form_any (A A' : Option Addr) (c c' : Nat) (l m : List Rg) (w : World) (hl : l.length ≤ 8796093022208) (hm : m.length ≤ 8796093022208) (hA : SeqAt Epair w w.heap.size A l) (hA' : SeqAt Epair w w.heap.size A' m) :
    Calls Try.prog 4 #[.slice A l.length c, .slice A' m.length c'] w fun e w' => e = .returned (.bool true) ∧ Below w.heap.size w w' := by
  have HA := Lib.hid hA
  have HA' := Lib.hid hA'
  clear hA hA'
  have HM1 : Hid True := trivial
  have HM2 : Hid True := trivial
  have HM3 : Hid True := trivial
  go_enter Try.func4, Try.ntmps4
  go_wp2_with (first
    | (go_at_call 8; refine (speaks_any _).mono ?_; rintro e w1 ⟨rfl, hb1⟩; have hH := (Hold.start w).go hb1)
    | (go_at_call 9; clear HM1; refine (made_any A c l _ hl ((HA.out.below hH.1).more hH.1.size)).mono ?_; rintro e w1 ⟨v1, vb1, rfl, hs1, _, hb1⟩; obtain ⟨A1, n1, c1, rfl⟩ := hs1.slice; have hH := hH.add hb1 hs1)
    | (go_at_call 9; clear HM2; refine (made_any A' c' m _ hm ((HA'.out.below hH.1).more hH.1.size)).mono ?_; rintro e w1 ⟨v2, vb2, rfl, hs2, _, hb2⟩; obtain ⟨A2, n2, c2, rfl⟩ := hs2.slice; have hH := hH.add hb2 hs2)
    | (go_at_call 12; refine (hold_or hH (by repeat (first | exact List.Mem.head _ | apply List.Mem.tail)) (by repeat (first | exact List.Mem.head _ | apply List.Mem.tail))).mono ?_; rintro e w1 ⟨x3, rfl, hH⟩; obtain ⟨A3, n3, c3, rfl⟩ := (hH.get (List.Mem.head _)).slice)
    | (go_at_call 13; refine (hold_and hH (by repeat (first | exact List.Mem.head _ | apply List.Mem.tail)) (by repeat (first | exact List.Mem.head _ | apply List.Mem.tail))).mono ?_; rintro e w1 ⟨x4, rfl, hH⟩; obtain ⟨A4, n4, c4, rfl⟩ := (hH.get (List.Mem.head _)).slice)
    | (go_at_call 14; refine (hold_not hH (by repeat (first | exact List.Mem.head _ | apply List.Mem.tail))).mono ?_; rintro e w1 ⟨x5, rfl, hH⟩; obtain ⟨A5, n5, c5, rfl⟩ := (hH.get (List.Mem.head _)).slice)
    | (go_at_call 15; clear HM3; refine (hold_less hH (by repeat (first | exact List.Mem.head _ | apply List.Mem.tail)) (by repeat (first | exact List.Mem.head _ | apply List.Mem.tail))).mono ?_; rintro e w1 ⟨x6, rfl, hH⟩; obtain ⟨A6, n6, c6, rfl⟩ := (hH.get (List.Mem.head _)).slice)
    | (go_at_call 15; refine (hold_less hH (by repeat (first | exact List.Mem.head _ | apply List.Mem.tail)) (by repeat (first | exact List.Mem.head _ | apply List.Mem.tail))).mono ?_; rintro e w1 ⟨x7, rfl, hH⟩; obtain ⟨A7, n7, c7, rfl⟩ := (hH.get (List.Mem.head _)).slice))
  obtain ⟨wX, hwX⟩ : ∃ wX, w1.alloc (.cells #[.slice A1 n1 c1, .slice A2 n2 c2, .slice A3 n3 c3, .slice A4 n4 c4, .slice A5 n5 c5, .slice A6 n6 c6, .slice A7 n7 c7] 25) = wX := ⟨_, rfl⟩
  have hX := hH.alloc (.cells #[.slice A1 n1 c1, .slice A2 n2 c2, .slice A3 n3 c3, .slice A4 n4 c4, .slice A5 n5 c5, .slice A6 n6 c6, .slice A7 n7 c7] 25)
  rw [hwX] at hX
  have hrow : wX.heap[w1.heap.size]? = some (.cells #[.slice A1 n1 c1, .slice A2 n2 c2, .slice A3 n3 c3, .slice A4 n4 c4, .slice A5 n5 c5, .slice A6 n6 c6, .slice A7 n7 c7] 25 (0, 0)) := by rw [← hwX]; exact heap_alloc_new w1 _
  have hall : Hid (∀ i, i < 7 → ∃ A n c, wX.cell? ⟨w1.heap.size, i, none⟩ = some (.slice A n c) ∧ ∃ f, SetF wX (.slice A n c) f) := Lib.hid (by
    intro i hi
    rw [cell_of_row wX _ i _ _ (0, 0) hrow]
    match i, hi with
    | 0, _ => exact ⟨_, _, _, rfl, (hX.get (by repeat (first | exact List.Mem.head _ | apply List.Mem.tail))).any⟩
    | 1, _ => exact ⟨_, _, _, rfl, (hX.get (by repeat (first | exact List.Mem.head _ | apply List.Mem.tail))).any⟩
    | 2, _ => exact ⟨_, _, _, rfl, (hX.get (by repeat (first | exact List.Mem.head _ | apply List.Mem.tail))).any⟩
    | 3, _ => exact ⟨_, _, _, rfl, (hX.get (by repeat (first | exact List.Mem.head _ | apply List.Mem.tail))).any⟩
    | 4, _ => exact ⟨_, _, _, rfl, (hX.get (by repeat (first | exact List.Mem.head _ | apply List.Mem.tail))).any⟩
    | 5, _ => exact ⟨_, _, _, rfl, (hX.get (by repeat (first | exact List.Mem.head _ | apply List.Mem.tail))).any⟩
    | 6, _ => exact ⟨_, _, _, rfl, (hX.get (by repeat (first | exact List.Mem.head _ | apply List.Mem.tail))).any⟩)
  have hend := hX.1
  rw [hwX]
  generalize w1.heap.size = g at *
  clear hX hH hwX hrow
  go_loopw [10, 11, 12] (fun i _ _ wr => ∃ k q : Nat, k ≤ 7 ∧ i = .int .i64 k ∧ wr = wX.drewN q) (fun i _ _ _ => 8 - (intOf i).toNat)
  case atStart => exact ⟨0, 0, by omega, rfl, rfl⟩
  case round =>
    obtain ⟨k, q, hk, rfl, rfl⟩ := hrel
    by_cases hlt : k < 7
    · obtain ⟨B, n, d, hcell, f, hf⟩ := hall.out k hlt
      obtain ⟨B', d', s, hv, hsl, hS, hok, hgap⟩ := hf.form
      injection hv with h1 h2 h3
      subst h1; subst h2; subst h3
      have HS := Lib.hid hS
      have HOK := Lib.hid hok
      have HG := Lib.hid hgap
      clear hS hok hgap hf
      have hki : (k : Int) < 7 := by omega
      go_wp2
      go_loopw [12] (fun i wr => ∃ j q : Nat, j ≤ s.length ∧ i = .int .i64 j ∧ wr = wX.drewN q) (fun i _ => s.length + 1 - (intOf i).toNat)
      case atStart => exact ⟨0, q, by omega, rfl, rfl⟩
      case round =>
        obtain ⟨j, q2, hj, rfl, rfl⟩ := hrel
        by_cases hlj : j < s.length
        · obtain ⟨b, off, rfl, hb, hc⟩ := HS.out.pairs_ (by omega)
          obtain ⟨h0, h1⟩ := hc j hlj
          obtain ⟨f0, f1, f2⟩ := HOK.out j hlj
          have hjs : (j : Int) < (s.length : Int) := by omega
          obtain ⟨⟨x, y⟩, hr⟩ : ∃ r, s.getD j (0, 0) = r := ⟨_, rfl⟩
          rw [hr] at h0 h1 f0 f1 f2
          simp only at h0 h1 f0 f1 f2
          have dx : decide (x < 0) = false := by simp; omega
          have dxy : decide (y < x) = false := by simp; omega
          have dy : decide (1114111 < y) = false := by simp; omega
          rcases Nat.eq_zero_or_pos j with rfl | hj0
          · simp only [Nat.zero_mul, Nat.add_zero] at h0 h1
            clear hc hr
            go_wp2
            go_big_quiet (fail)
            go_wp2
            go_roundw
            case rel => exact ⟨1, _, by omega, by go_num, rfl⟩
            case measure => simp [intOf] <;> omega
          · obtain ⟨i, rfl⟩ : ∃ i, j = i + 1 := ⟨j - 1, by omega⟩
            have hgp := HG.out i hlj
            obtain ⟨g0, g1⟩ := hc i (by omega)
            rw [hr] at hgp
            obtain ⟨⟨x', y'⟩, hr'⟩ : ∃ r, s.getD i (0, 0) = r := ⟨_, rfl⟩
            rw [hr'] at hgp g0 g1
            simp only at hgp g0 g1
            have fi := HOK.out i (by omega)
            rw [hr'] at fi
            simp only at fi
            obtain ⟨f3, f4, f5⟩ := fi
            have dz : decide (x ≤ y' + 1) = false := by simp; omega
            clear hc hr hr'
            go_wp2
            go_big_quiet (fail)
            go_wp2
            go_roundw
            case rel => exact ⟨i + 1 + 1, _, by omega, by go_num, rfl⟩
            case measure => simp [intOf]; omega
        · obtain rfl : j = s.length := by omega
          go_wp2
          go_roundw
          case rel => exact ⟨k + 1, _, by omega, by go_num, rfl⟩
          case measure => simp [intOf]; omega
    · obtain rfl : k = 7 := by omega
      go_wp2
      go_ret
      exact ⟨rfl, below_drewN hend _⟩

end Go.Proofs.Ytapjkahpblbnmaa
