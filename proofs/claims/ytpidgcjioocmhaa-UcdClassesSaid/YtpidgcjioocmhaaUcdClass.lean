/- The walk of ucd's Class. -/
import Derived.Test.YtpidgcjioocmhaaUcdTable
import Derived.Test.YtpidgcjioocmhaaUcdOf
namespace Go.Proofs.Ytpidgcjioocmhaa
open Go.RowKit SetPure Go.WideShapes

theorem names_apart : ∀ i : Fin 15, ∀ j : Fin 15, i ≠ j → nameC i ≠ nameC j := by decide +kernel
theorem name_ne {i j : Nat} (hi : i < 15) (hj : j < 15) (h : i ≠ j) : nameC i ≠ nameC j := names_apart ⟨i, hi⟩ ⟨j, hj⟩ (fun e => h (by simpa using e))
theorem name_not_any : ∀ i : Fin 15, nameC i ≠ ⟨#[65, 110, 121]⟩ := by decide +kernel
theorem ranges_short : ∀ i : Fin 15, (rangesC i).length ≤ 20 := by decide +kernel

theorem str_eq {s t : ByteArray} (h : s = t) : (s.toList == t.toList) = true := by subst h; simp
theorem str_ne {s t : ByteArray} (h : s ≠ t) : (s.toList == t.toList) = false := by
  have : s.toList ≠ t.toList := by
    rw [ByteArray.toList_eq, ByteArray.toList_eq]
    exact fun e => h (bytes_inj e)
  simpa using this

theorem any_list : (⟨#[65, 110, 121]⟩ : ByteArray).toList = [65, 110, 121] := by rw [ByteArray.toList_eq]

set_option maxHeartbeats 1600000 in
/-- Class at a name of the table. -/
theorem class_base (i : Nat) (hi : i < 15) (W w : World) (L : List (Value × (Int → Bool))) (hH : Hold W w L) :
    Calls Try.prog 21 #[.string (nameC i)] w fun e w' => ∃ x, e = .returned (.tuple #[x, .bool true]) ∧ Hold W w' ((x, fun z => inB (rangesC i) z && inR z) :: L) := by
  have hna : nameC i ≠ ⟨#[65, 110, 121]⟩ := name_not_any ⟨i, hi⟩
  have hrs : (rangesC i).length ≤ 20 := ranges_short ⟨i, hi⟩
  have HN := Lib.hid (fun j (hj : j < i) => name_ne (by omega : j < 15) hi (by omega : j ≠ i))
  have hb0 : ((nameC i).toList == [65, 110, 121]) = false := by
    have h := str_ne hna
    rwa [any_list] at h
  obtain ⟨s, hs⟩ : ∃ s, nameC i = s := ⟨_, rfl⟩
  rw [hs] at hna hb0 HN ⊢
  go_enter Try.func21, Try.ntmps21
  go_wp2_with (go_at_call 39; refine (classes_any _).mono ?_; rintro e w1 ⟨g, rfl, hb1, hg, hT⟩; have HT := Lib.hid hT; clear hT)
  have hH1 := hH.go hb1
  go_loopw [20] (fun k wr => ∃ j : Nat, j ≤ i ∧ k = .int .i64 j ∧ Below w1.heap.size w1 wr) (fun k _ => 16 - (intOf k).toNat)
  case atStart => exact ⟨0, by omega, rfl, Below.refl _ _⟩
  case round =>
    obtain ⟨j, hj, rfl, hbw⟩ := hrel
    have hz := hbw.size
    obtain ⟨t0, A, t1, hA⟩ := HT.out j (by omega)
    have c0 := (hbw.cell (p := ⟨g, j * 2, none⟩) hg).trans t0
    have c1 := (hbw.cell (p := ⟨g, j * 2 + 1, none⟩) hg).trans t1
    have HA := Lib.hid hA
    clear t0 t1 hA
    rcases Nat.lt_or_eq_of_le hj with hlt | rfl
    · have hne := str_ne (HN.out j hlt)
      generalize nameC j = t at *
      go_wp2
      go_roundw
      case rel => exact ⟨j + 1, by omega, by go_num, hbw.alloc hz _⟩
      case measure => simp [intOf]; omega
    · rw [hs] at c0
      have hle : (rangesC j).length ≤ maxLen := by simp only [maxLen]; omega
      have HO := Lib.hid (fun wx (hx : Below wr.heap.size wr wx) => ucdOf_any (.slice A (rangesC j).length (rangesC j).length) (rangesC j) W wx L ((hH1.go hbw).go hx) ⟨A, _, rfl, Nat.le_refl _, hle, ((HA.out.below hbw).more hz |>.below hx).more hx.size⟩ (by omega))
      go_wp2_with (go_at_call 40; refine (HO.out _ ((Below.refl _ wr).alloc (Nat.le_refl _) _)).mono ?_; rintro e w2 ⟨x, rfl, hx⟩)
      go_ret2
      exact ⟨x, rfl, hx⟩

end Go.Proofs.Ytpidgcjioocmhaa
