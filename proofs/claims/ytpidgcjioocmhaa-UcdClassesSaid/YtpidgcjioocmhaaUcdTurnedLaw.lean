/- Chapter 09, the walk of UcdTurned. -/
import Derived.Test.YtpidgcjioocmhaaUcdPerl
import Derived.Test.YtpidgcjioocmhaaOrbLaw
namespace Go.Proofs.Ytpidgcjioocmhaa
open Go.RowKit SetPure

theorem Hold.only {W w : World} {L : List (Value × (Int → Bool))} (h : Hold W w L) : Hold W w [] := ⟨h.1, fun p hp => by cases hp⟩
theorem hold_size_eq {W w : World} {L : List (Value × (Int → Bool))} {v : Value} {f : Int → Bool} (h : Hold W w L) (hv : (v, f) ∈ L) {k : Nat} (hk : cntF f = k) : Calls Try.prog 18 #[v] w fun e w' => e = .returned (.int .i64 (k : Nat)) ∧ Hold W w' L := by
  subst hk
  exact hold_size h hv

def letC (i : Nat) : Int := if i = 0 then 100 else if i = 1 then 115 else 119
theorem perl_any (i : Nat) (hi : i < 3) (b : Bool) (W w : World) (L : List (Value × (Int → Bool))) (hH : Hold W w L) :
    Calls Try.prog 22 #[.int .u8 (letC i - if b then 0 else 32)] w fun e w' => ∃ x, e = .returned (.tuple #[x, .bool true]) ∧ Hold W w' ((x, if b then perlF i else fun z => inR z && !perlF i z) :: L) := by
  obtain rfl | rfl | rfl : i = 0 ∨ i = 1 ∨ i = 2 := by omega
  · have := perl_d b W w L hH; cases b <;> exact this
  · have := perl_s b W w L hH; cases b <;> exact this
  · have := perl_w b W w L hH; cases b <;> exact this

set_option maxHeartbeats 4000000 in
theorem turned_any (r : Int) (w : World) : Calls Try.prog 7 #[.int .i64 r] w fun e w' => e = .returned (.bool true) ∧ Below w.heap.size w w' := by
  have hcs : ∀ i : Nat, (0 ≤ r ∧ r ≤ 1114111 ∧ inR r = true ∧ (perlF i r = true ∨ perlF i r = false)) ∨ (0 ≤ r ∧ ¬ r ≤ 1114111 ∧ inR r = false ∧ inR r = false) ∨ (¬ 0 ≤ r ∧ inR r = false ∧ inR r = false) := by
    intro i
    by_cases h0 : 0 ≤ r
    · by_cases h1 : r ≤ 1114111
      · refine .inl ⟨h0, h1, by simp [inR, h0, h1], ?_⟩
        cases perlF i r <;> simp
      · exact .inr (.inl ⟨h0, h1, by simp [inR, h1], by simp [inR, h1]⟩)
    · exact .inr (.inr ⟨h0, by simp [inR, h0], by simp [inR, h0]⟩)
  have HCS := Lib.hid hcs
  clear hcs
  go_enter Try.func7, Try.ntmps7
  go_wp2_with (go_at_call 10; refine (speaks_any _).mono ?_; rintro e w1 ⟨rfl, hb1⟩; have hH1 := (Hold.start w).go hb1)
  go_loopw [4, 5, 6, 7, 8] (fun i _ _ _ _ wx => ∃ k : Nat, k ≤ 3 ∧ i = .int .i64 k ∧ Hold w wx []) (fun i _ _ _ _ _ => 4 - (intOf i).toNat)
  case atStart => exact ⟨0, by omega, rfl, hH1⟩
  case round =>
    obtain ⟨k, hk, rfl, hH⟩ := hrel
    by_cases hlk : k < 3
    · obtain ⟨k1, hk1⟩ : ∃ m, cntF (perlF k) = m := ⟨_, rfl⟩
      obtain ⟨k2, hk2⟩ : ∃ m, cntF (fun z => inR z && !perlF k z) = m := ⟨_, rfl⟩
      have b1 : k1 ≤ 1114112 := hk1 ▸ cntF_le _
      have b2 : k2 ≤ 1114112 := hk2 ▸ cntF_le _
      have s1 : k1 + k2 = 1114112 := by rw [← hk1, ← hk2]; exact cntF_not _
      have d1 : ((k1 : Int) + (k2 : Int) == 1114112) = true := by simp; omega
      have e1 : (k1 : Int) + (k2 : Int) = 1114112 := by omega
      have HK1 := Lib.hid hk1
      have HK2 := Lib.hid hk2
      have HZ := Lib.hid (show cntF (fun z => perlF k z && (inR z && !perlF k z)) = 0 from cntF_none fun z hz => by rw [hz]; cases perlF k z <;> rfl)
      clear hk1 hk2
      obtain ⟨c, hc0, hc1, hc, hp⟩ : ∃ c : Int, 100 ≤ c ∧ c ≤ 119 ∧ ((⟨#[100, 115, 119]⟩ : ByteArray)[k]'(by show k < 3; omega)).toNat = c ∧ letC k = c := by
        rcases (show k = 0 ∨ k = 1 ∨ k = 2 by omega) with rfl | rfl | rfl
        · exact ⟨100, by omega, by omega, rfl, by decide⟩
        · exact ⟨115, by omega, by omega, rfl, by decide⟩
        · exact ⟨119, by omega, by omega, rfl, by decide⟩
      have HP := Lib.hid (fun wx L (h : Hold w wx L) => perl_any k hlk true w wx L h)
      have HQ := Lib.hid (fun wx L (h : Hold w wx L) => perl_any k hlk false w wx L h)
      simp only [hp, if_true, Bool.false_eq_true, if_false, Int.sub_zero] at HP HQ
      clear hp
      have hks : k < (⟨#[100, 115, 119]⟩ : ByteArray).size := hlk
      have hki : (k : Int) < 3 := by omega
      rcases HCS.out k with ⟨h0, h1, hi, hx | hx⟩ | ⟨h0, h1, hi, hx⟩ | ⟨h0, hi, hx⟩ <;>
        (have HX := Lib.hid hx
         have HI := Lib.hid hi
         clear hx hi
         go_wp2_with (first
           | (go_at_call 22; refine (HP.out _ _ hH).mono ?_; clear HP; rintro e w1 ⟨x1, rfl, hH⟩)
           | (go_at_call 22; refine (HQ.out _ _ hH).mono ?_; rintro e w1 ⟨x2, rfl, hH⟩)
           | (go_at_call 15; refine (hold_has_eq hH (by repeat (first | exact List.Mem.head _ | apply List.Mem.tail)) r _ (by simp only [HX.out, HI.out, Bool.and_true, Bool.true_and, Bool.and_false, Bool.false_and, Bool.not_true, Bool.not_false]; rfl)).mono ?_; rintro e w1 ⟨rfl, hH⟩)
           | (go_at_call 18; refine (hold_size_eq hH (by repeat (first | exact List.Mem.head _ | apply List.Mem.tail)) HK1.out).mono ?_; clear HK1; rintro e w1 ⟨rfl, hH⟩)
           | (go_at_call 18; refine (hold_size_eq hH (by repeat (first | exact List.Mem.head _ | apply List.Mem.tail)) HK2.out).mono ?_; clear HK2; rintro e w1 ⟨rfl, hH⟩)
           | (go_at_call 18; refine (hold_size_eq hH (by repeat (first | exact List.Mem.head _ | apply List.Mem.tail)) HZ.out).mono ?_; clear HZ; rintro e w1 ⟨rfl, hH⟩)
           | (go_at_call 17; refine (hold_and hH (by repeat (first | exact List.Mem.head _ | apply List.Mem.tail)) (by repeat (first | exact List.Mem.head _ | apply List.Mem.tail))).mono ?_; rintro e w1 ⟨x3, rfl, hH⟩))
         go_roundw
         case rel => exact ⟨k + 1, by omega, by go_num, hH.only⟩
         case measure => simp [intOf]; omega)
    · obtain rfl : k = 3 := by omega
      go_wp2
      go_ret
      exact ⟨rfl, hH.1⟩

end Go.Proofs.Ytpidgcjioocmhaa
