/- The walks of the program's 'rings', 'shifts' and 'Orbit'. -/
import Derived.Test.YtpidgcjioocmhaaLib
import Derived.Test.YtpidgcjioocmhaaOrbPure
import Derived.Test.YtpidgcjioocmhaaIndexInt
namespace Go.Proofs.Ytpidgcjioocmhaa
open Go.RowKit OrbPure

def RetRings (w : World) (e : Ending) (w' : World) : Prop := ∃ g : Nat, e = .returned (.slice (some ⟨g + 5, 0, none⟩) 5 5) ∧ w.heap.size ≤ g ∧ g + 5 < w'.heap.size ∧ Below w.heap.size w w' ∧
  (∀ i, i < 5 → w'.cell? ⟨g + 5, i, none⟩ = some (.slice (some ⟨g + i, 0, none⟩) 3 3)) ∧ (∀ i k, i < 5 → k < 3 → w'.cell? ⟨g + i, k, none⟩ = some (.int .i64 (ringAt i k)))

set_option maxHeartbeats 400000 in
theorem rings_any (w : World) : Calls Try.prog 26 #[] w (RetRings w) := by
  go_enter Try.func26, Try.ntmps26
  go_wp2
  go_ret
  refine ⟨w.heap.size, rfl, Nat.le_refl _, by simp, (((((((Below.refl _ w).alloc (Nat.le_refl _) _).alloc (by simp <;> omega) _).alloc (by simp <;> omega) _).alloc (by simp <;> omega) _).alloc (by simp <;> omega) _).alloc (by simp <;> omega) _), ?_, ?_⟩
  · intro i hi
    obtain rfl | rfl | rfl | rfl | rfl : i = 0 ∨ i = 1 ∨ i = 2 ∨ i = 3 ∨ i = 4 := by omega
    all_goals go_simp
  · intro i k hi hk
    obtain rfl | rfl | rfl | rfl | rfl : i = 0 ∨ i = 1 ∨ i = 2 ∨ i = 3 ∨ i = 4 := by omega
    all_goals (obtain rfl | rfl | rfl : k = 0 ∨ k = 1 ∨ k = 2 := by omega)
    all_goals go_simp
    all_goals rfl

def Eshift : Enc (Int × Int × Int) := ⟨fun a => [.int .i64 a.1, .int .i64 a.2.1, .int .i64 a.2.2], 3, by decide, fun _ => rfl, fun a u hu => by simp at hu; rcases hu with rfl | rfl | rfl <;> rfl⟩

def RetShifts (w : World) (e : Ending) (w' : World) : Prop := ∃ g : Nat, e = .returned (.slice (some ⟨g, 0, none⟩) 7 7) ∧ w.heap.size ≤ g ∧ g < w'.heap.size ∧ Below w.heap.size w w' ∧
  SeqAt Eshift w' (g + 1) (some ⟨g, 0, none⟩) shiftsL

set_option maxHeartbeats 400000 in
theorem shifts_any (w : World) : Calls Try.prog 28 #[] w (RetShifts w) := by
  go_enter Try.func28, Try.ntmps28
  go_wp2
  go_ret
  exact ⟨w.heap.size, rfl, Nat.le_refl _, by simp, (Below.refl _ w).alloc (Nat.le_refl _) _, SeqAt.new (E := Eshift) w shiftsL _⟩

theorem ring_seq {w : World} {b i : Nat} (hi : i < 5) (h : ∀ k, k < 3 → w.cell? ⟨b, k, none⟩ = some (.int .i64 (ringAt i k))) (hb : b < w.heap.size) : SeqAt Eint w w.heap.size (some ⟨b, 0, none⟩) (ringsL.getD i []) := by
  have hl : (ringsL.getD i []).length = 3 := by
    obtain rfl | rfl | rfl | rfl | rfl : i = 0 ∨ i = 1 ∨ i = 2 ∨ i = 3 ∨ i = 4 := by omega
    all_goals rfl
  intro _
  refine ⟨b, 0, rfl, hb, fun j hj => ?_⟩
  have hj3 : j < 3 := by rw [hl] at hj; simpa [Eint] using hj
  rw [Nat.zero_add, h j hj3]
  congr 1
  obtain rfl | rfl | rfl | rfl | rfl : i = 0 ∨ i = 1 ∨ i = 2 ∨ i = 3 ∨ i = 4 := by omega
  all_goals (obtain rfl | rfl | rfl : j = 0 ∨ j = 1 ∨ j = 2 := by omega)
  all_goals rfl

theorem ring_len {i : Nat} (hi : i < 5) : (ringsL.getD i []).length = 3 := by
  obtain rfl | rfl | rfl | rfl | rfl : i = 0 ∨ i = 1 ∨ i = 2 ∨ i = 3 ∨ i = 4 := by omega
  all_goals rfl

set_option maxHeartbeats 1600000 in
set_option maxRecDepth 100000 in
theorem orbit_some (r : Int) (w : World) (h0 : 0 ≤ r) (h1 : r ≤ 1114111) :
    Calls Try.prog 11 #[.int .i64 r] w (RetSeq Eint w (progOrb r)) := by
  go_enter Try.func11, Try.ntmps11
  go_wp2_with (go_at_call 26; refine (rings_any _).mono ?_; rintro e w1 ⟨g, rfl, hg, hg5, hb1, hH, hC⟩; have HH := Lib.hid hH; have HC := Lib.hid hC; clear hH hC)
  go_loop [15] (fun s => ∃ i : Nat, i ≤ 5 ∧ s = .int .i64 i ∧ Hid (ringFind ringsL r = ringFind (ringsL.drop i) r)) (fun s => 6 - (intOf s).toNat)
  case atStart => exact ⟨0, by omega, rfl, rfl⟩
  case round =>
    obtain ⟨i, hi, rfl, hrest⟩ := hrel
    by_cases hlt : i < 5
    · have h2 := HH.out i hlt
      have hseq := ring_seq hlt (fun k hk => HC.out i k hlt hk) (show g + i < w1.heap.size by omega)
      have hlen := ring_len hlt
      have hat := ringFind_at (r := r) hlt
      generalize ringsL.getD i [] = l at *
      have HS := Lib.hid hseq
      have HLn := Lib.hid hlen
      have HA := Lib.hid hat
      clear hseq hlen hat
      go_wp2_with (go_at_call 27; refine (contains_any _ _ _ _ l r _ HLn.out (by omega) HS.out).mono ?_; rintro e w2 ⟨rfl, rfl⟩)
      · go_ret
        have hmem : r ∈ l := ‹r ∈ l›
        refine ⟨.slice (some ⟨g + i, 0, none⟩) 3 3, rfl, ?_, hb1⟩
        have hl3 := HLn.out
        have he : progOrb r = l := by unfold progOrb; rw [hrest.out, HA.out, if_pos hmem]; rfl
        rw [he]
        exact ⟨_, 3, by rw [hl3], by omega, by simp [maxLen], HS.out⟩
      · go_round
        case rel =>
          have hmem : ¬ r ∈ l := ‹¬ r ∈ l›
          exact ⟨i + 1, by omega, by go_num, Lib.hid (by rw [hrest.out, HA.out, if_neg hmem])⟩
        case measure => simp [intOf]; omega
    · obtain rfl : i = 5 := by omega
      have HP := Lib.hid (show progOrb r = shiftFind shiftsL r by unfold progOrb; rw [hrest.out]; rfl)
      clear hrest HH HC
      go_wp2_with (go_at_call 28; refine (shifts_any _).mono ?_; rintro e w2 ⟨g2, rfl, hg2, hg3, hb2, hS⟩; have HS := Lib.hid hS; clear hS)
      go_loopw [26] (fun s wr => ∃ i : Nat, i ≤ 7 ∧ s = .int .i64 i ∧ Below w.heap.size w wr ∧ Below (g2 + 1) w2 wr ∧ Hid (shiftFind shiftsL r = shiftFind (shiftsL.drop i) r)) (fun s _ => 8 - (intOf s).toNat)
      case atStart => exact ⟨0, by omega, rfl, hb1.trans (hb2.mono hb1.size), Below.refl _ _, rfl⟩
      case round =>
        obtain ⟨i, hi, rfl, hbw, hbg, hrest⟩ := hrel
        by_cases hlt : i < 7
        · obtain ⟨b, off, hA, _, hc⟩ := (HS.out.below hbg).at_ (i := i) hlt
          injection hA with hA
          injection hA with e1 e2
          subst e1; subst e2
          have c0 := hc 0 (by decide)
          have c1 := hc 1 (by decide)
          have c2 := hc 2 (by decide)
          obtain ⟨fa, fb, fd, hgi, hgd, q1, q2, q3, q4, q5, q6⟩ := shifts_at hlt
          rw [hgi] at c0 c1 c2
          simp only [Eshift, Nat.zero_add, Nat.add_zero, List.getD_eq_getElem?_getD, List.getElem?_cons_zero, List.getElem?_cons_succ, Option.getD_some] at c0 c1 c2
          have HA := Lib.hid (shiftFind_at (r := r) hlt hgd)
          clear hgi hgd hc
          have hz1 := hbw.size
          have hz2 := hbg.size
          go_wp2
          · go_ret
            have hp : progOrb r = [r, r + fd] := by
              rw [HP.out, hrest.out, HA.out, if_pos ⟨‹fa ≤ r›, ‹r ≤ fb›⟩]
            rw [hp]
            exact ⟨_, rfl, IsSeq.new_at (E := Eint) (wr.alloc _) [r, r + fd] _ 2 (wr.heap.size + 1) (by simp) (by simp) (by simp [maxLen]), (hbw.alloc hz1 _).alloc (by simp <;> omega) _⟩
          · go_ret
            have hp : progOrb r = [r - fd, r] := by
              rw [HP.out, hrest.out, HA.out, if_neg (by omega), if_pos ⟨‹fa ≤ r - fd›, ‹r - fd ≤ fb›⟩]
            rw [hp]
            exact ⟨_, rfl, IsSeq.new_at (E := Eint) (wr.alloc _) [r - fd, r] _ 2 (wr.heap.size + 1) (by simp) (by simp) (by simp [maxLen]), (hbw.alloc hz1 _).alloc (by simp <;> omega) _⟩
          all_goals
            go_roundw
            case rel => exact ⟨i + 1, by omega, by go_num, hbw.alloc hz1 _, hbg.alloc (by omega) _, Lib.hid (by rw [hrest.out, HA.out, if_neg (by omega), if_neg (by omega)])⟩
            case measure => simp [intOf]; omega
        · go_wp2
          go_ret
          have hp : progOrb r = [r] := by
            rw [HP.out, hrest.out, List.drop_eq_nil_of_le (show shiftsL.length ≤ i from (by simp only [shiftsL, List.length_cons, List.length_nil]; omega))]
            rfl
          rw [hp]
          exact ⟨_, rfl, IsSeq.new (E := Eint) wr [r] _ 1 (by simp) (by simp [maxLen]), hbw.alloc hbw.size _⟩

end Go.Proofs.Ytpidgcjioocmhaa
