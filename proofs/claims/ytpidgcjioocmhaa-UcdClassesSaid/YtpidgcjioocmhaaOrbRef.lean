/- Walks of the reference's 'in', 'one', 'add' and 'Orbit'. -/
import Derived.Test.YtpidgcjioocmhaaLib
import Derived.Test.YtpidgcjioocmhaaOrbPure
namespace Go.Proofs.Ytpidgcjioocmhaa
open Go.RowKit OrbPure

set_option maxHeartbeats 400000 in
theorem in_any (A : Option Addr) (n c B : Nat) (l : List Int) (r : Int) (w : World) (hl : l.length = n) (hn : n ≤ 1000) (hA : SeqAt Eint w B A l) :
    Calls Try.prog 43 #[.slice A n c, .int .i64 r] w fun e w' => e = .returned (.bool (inL l r)) ∧ w = w' := by
  have HL := Lib.hid hl
  have HA := Lib.hid hA
  clear hl hA
  go_enter Try.func43, Try.ntmps43
  go_wp2
  go_loop [5] (fun i => ∃ k : Nat, k ≤ n + 1 ∧ i = .int .i64 k ∧ Hid (inL l r = inL (l.drop k) r)) (fun i => n + 2 - (intOf i).toNat)
  case atStart => exact ⟨0, by omega, rfl, by unfold Hid; simp⟩
  case round =>
    obtain ⟨k, hk, rfl, hrest⟩ := hrel
    by_cases hlt : k + 1 < n
    · have hln := HL.out
      obtain ⟨b, off, rfl, hb, hc⟩ := HA.out.ints_ (by omega)
      have h0 := hc k (by omega)
      have h1 := hc (k + 1) (by omega)
      have HD := Lib.hid (inL_drop l k r (by rw [HL.out]; exact hlt))
      clear hc hb hln
      generalize l.getD k 0 = x at *
      generalize l.getD (k + 1) 0 = y at *
      go_wp2
      · go_ret
        exact ⟨ret_bool (inL_hit hrest.out HD.out ‹_› ‹_›).symm, rfl⟩
      all_goals
        go_round
        case rel => exact ⟨k + 2, by omega, by go_num, inL_miss hrest.out HD.out (by omega)⟩
        case measure => simp [intOf]; omega
    · go_wp2
      go_ret
      exact ⟨ret_bool (by rw [hrest.out, inL_end l k r (by rw [HL.out]; omega)]), rfl⟩

set_option maxHeartbeats 800000 in
theorem one_any (a b : Int) (w : World) (ha : -3000000 ≤ a) (ha' : a ≤ 3000000) (hb : -3000000 ≤ b) (hb' : b ≤ 3000000) :
    Calls Try.prog 29 #[.int .i64 a, .int .i64 b] w fun e w' => e = .returned (.bool (oneB a b)) ∧ Below w.heap.size w w' := by
  go_enter Try.func29, Try.ntmps29
  go_upto_if 12 with (fail)
  go_cut [0, 1] (fun s0 s1 wx => s0 = .int .i64 (min a b) ∧ s1 = .int .i64 (max a b) ∧ w = wx)
  case first =>
    go_wp2
    all_goals
      go_meet
      exact ⟨val_int (by omega), val_int (by omega), rfl⟩
  case rest =>
    obtain ⟨rfl, rfl, rfl⟩ := hcut
    have h1 : -3000000 ≤ min a b := by omega
    have h2 : min a b ≤ max a b := by omega
    have h3 : max a b ≤ 3000000 := by omega
    have HO := Lib.hid (show oneB a b = oneU (min a b) (max a b) from rfl)
    generalize min a b = x at *
    generalize max a b = y at *
    clear ha ha' hb hb'
    go_upto_region 5 with (fail)
    · go_wp2
      go_ret
      exact ⟨ret_bool (HO.out.trans (oneU_1 ‹_›)).symm, Below.refl _ _⟩
    go_cut [26] (fun s26 wx => s26 = .bool ((y - x == 32) && inL caps x) ∧ Below w.heap.size w wx)
    case first =>
      by_cases hd : y - x = 32
      · go_wp2_with (go_at_call 43; refine (in_any _ _ _ _ caps _ _ rfl (by decide) (SeqAt.new _ caps _)).mono ?_; rintro e w1 ⟨rfl, rfl⟩)
        go_meet
        exact ⟨val_bool (by simp [hd]), (Below.refl _ _).alloc (Nat.le_refl _) _⟩
      · go_wp2
        go_meet
        exact ⟨val_bool (by simp [hd]), Below.refl _ _⟩
    case rest =>
      obtain ⟨rfl, hbel⟩ := hcut
      generalize hc1 : ((y - x == 32) && inL caps x) = c1 at *
      have HC1 := Lib.hid hc1
      clear hc1
      go_upto_region 7 with (fail)
      · go_wp2
        go_ret
        exact ⟨ret_bool (HO.out.trans (oneU_2 (HC1.out.trans ‹c1 = true›))).symm, hbel⟩
      go_cut [38] (fun s38 wx => s38 = .bool ((y - x == 40) && decide (66560 ≤ x) && decide (x ≤ 66599)) ∧ wc = wx)
      case first =>
        go_wp2
        all_goals
          go_meet
          exact ⟨val_bool (by simp; omega), rfl⟩
      case rest =>
        obtain ⟨rfl, rfl⟩ := hcut
        generalize hc2 : ((y - x == 40) && decide (66560 ≤ x) && decide (x ≤ 66599)) = c2 at *
        have HC2 := Lib.hid hc2
        clear hc2
        go_upto_region 9 with (fail)
        · go_wp2
          go_ret
          exact ⟨ret_bool (HO.out.trans (oneU_3 (HC2.out.trans ‹c2 = true›))).symm, hbel⟩
        go_outline
        have HR := Lib.hid (HO.out.trans (oneU_4 ‹(x == y) = false› (HC1.out.trans ‹c1 = false›) (HC2.out.trans ‹c2 = false›)))
        have hg0 := hbel.size
        go_cut [5] (fun s5 wx => ∃ g : Nat, w.heap.size ≤ g ∧ s5 = .slice (some ⟨g + 5, 0, none⟩) 5 5 ∧ Below w.heap.size w wx ∧
          Hid (∀ i, i < 5 → wx.cell? ⟨g + 5, i, none⟩ = some (.slice (some ⟨g + i, 0, none⟩) 3 3)) ∧ Hid (∀ i k, i < 5 → k < 3 → wx.cell? ⟨g + i, k, none⟩ = some (.int .i64 (ringAt i k))))
        case first =>
          go_wp2
          go_meet
          refine ⟨_, hg0, rfl, ((((((hbel.alloc hg0 _).alloc (by simp; omega) _).alloc (by simp; omega) _).alloc (by simp; omega) _).alloc (by simp; omega) _).alloc (by simp; omega) _), ?_, ?_⟩
          · intro i hi
            obtain rfl | rfl | rfl | rfl | rfl : i = 0 ∨ i = 1 ∨ i = 2 ∨ i = 3 ∨ i = 4 := by omega
            all_goals go_simp
          · intro i k hi hk
            obtain rfl | rfl | rfl | rfl | rfl : i = 0 ∨ i = 1 ∨ i = 2 ∨ i = 3 ∨ i = 4 := by omega
            all_goals (obtain rfl | rfl | rfl : k = 0 ∨ k = 1 ∨ k = 2 := by omega)
            all_goals go_simp
            all_goals rfl
        case rest =>
          obtain ⟨g, hg, rfl, hbz, HH, HC⟩ := hcut
          clear hbel hg0 HC1 HC2
          go_wp2
          go_loop [6] (fun i => ∃ k : Nat, k ≤ 5 ∧ i = .int .i64 k ∧ Hid (rest x y k = false)) (fun i => 6 - (intOf i).toNat)
          case atStart => exact ⟨0, by omega, rfl, rfl⟩
          case round =>
            obtain ⟨i, hi, rfl, hrest⟩ := hrel
            by_cases hlt : i < 5
            · have h0 := HH.out i hlt
              go_wp2
              go_loop [7, 8, 9] (fun p q k => ∃ j : Nat, j ≤ 3 ∧ k = .int .i64 j ∧ p = .bool (preR x i j) ∧ q = .bool (preR y i j)) (fun _ _ k => 4 - (intOf k).toNat)
              case atStart => exact ⟨0, by omega, rfl, rfl, rfl⟩
              case round =>
                obtain ⟨j, hj, rfl, rfl, rfl⟩ := hrel
                by_cases hlj : j < 3
                · have h1 := HC.out i j hlt hlj
                  have HX := Lib.hid (preR_succ x i j)
                  have HY := Lib.hid (preR_succ y i j)
                  generalize ringAt i j = z at *
                  generalize preR x i j = p at *
                  generalize preR y i j = q at *
                  go_wp2
                  all_goals
                    go_round
                    case rel => exact ⟨j + 1, by omega, by go_num, val_bool (by rw [HX.out]; simp [*]), val_bool (by rw [HY.out]; simp [*])⟩
                    case measure => simp [intOf]; omega
                · go_wp2
                  · go_ret
                    exact ⟨ret_bool (HR.out.trans (rest_hit hlt ‹_› hj ‹_› ‹_›)).symm, hbz⟩
                  all_goals
                    go_round
                    case rel => exact ⟨i + 1, by omega, by go_num, rest_miss ‹3 ≤ (j : Int)› hj hrest.out (by simp [*])⟩
                    case measure => simp [intOf]; omega
            · go_wp2
              go_ret
              exact ⟨ret_bool (HR.out.trans (rest_end ‹_› hi hrest.out)).symm, hbz⟩

end Go.Proofs.Ytpidgcjioocmhaa
