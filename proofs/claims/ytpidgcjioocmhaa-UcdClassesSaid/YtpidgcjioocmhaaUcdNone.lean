/- Chapter 09: the walks of ucd's Class at what is no name, and of Perl at what is no letter. -/
import Derived.Test.YtpidgcjioocmhaaUcdPerl
namespace Go.Proofs.Ytpidgcjioocmhaa
open Go.RowKit SetPure Go.WideShapes

set_option maxHeartbeats 1600000 in
theorem class_none (s : ByteArray) (hany : (s.toList == [65, 110, 121]) = false) (hn : ∀ j, j < 15 → nameC j ≠ s) (hu : ∀ u, u < 2 → nameU u ≠ s) (W w : World) (L : List (Value × (Int → Bool))) (hH : Hold W w L) :
    Calls Try.prog 21 #[.string s] w fun e w' => e = .returned (.tuple #[.slice none 0 0, .bool false]) ∧ Hold W w' L := by
  have HN := Lib.hid hn
  have HU := Lib.hid hu
  clear hn hu
  go_enter Try.func21, Try.ntmps21
  go_wp2_with (go_at_call 39; refine (classes_any _).mono ?_; rintro e w1 ⟨g, rfl, hb1, hg, hT⟩; have HT := Lib.hid hT; clear hT)
  have hH1 := hH.go hb1
  go_loopw [20] (fun k wr => ∃ j : Nat, j ≤ 15 ∧ k = .int .i64 j ∧ Below w1.heap.size w1 wr) (fun k _ => 16 - (intOf k).toNat)
  case atStart => exact ⟨0, by omega, rfl, Below.refl _ _⟩
  case round =>
    obtain ⟨j, hj, rfl, hbw⟩ := hrel
    have hz := hbw.size
    by_cases hlt : j < 15
    · obtain ⟨t0, A, t1, hA⟩ := HT.out j hlt
      have c0 := (hbw.cell (p := ⟨g, j * 2, none⟩) hg).trans t0
      have c1 := (hbw.cell (p := ⟨g, j * 2 + 1, none⟩) hg).trans t1
      clear t0 t1 hA
      have hne := str_ne (HN.out j hlt)
      generalize nameC j = t at *
      go_wp2
      go_roundw
      case rel => exact ⟨j + 1, by omega, by go_num, hbw.alloc hz _⟩
      case measure => simp [intOf]; omega
    · obtain rfl : j = 15 := by omega
      have hH2 := hH1.go hbw
      clear HT HN hH1 hbw hz
      go_wp2_with (go_at_call 41; refine (unions_any _).mono ?_; rintro e w2 ⟨g2, rfl, hb2, hg2, hT2⟩; have HT := Lib.hid hT2; clear hT2)
      have hH3 := hH2.go hb2
      go_loopw [34] (fun k wr => ∃ m : Nat, m ≤ 2 ∧ k = .int .i64 m ∧ Below w2.heap.size w2 wr) (fun k _ => 3 - (intOf k).toNat)
      case atStart => exact ⟨0, by omega, rfl, Below.refl _ _⟩
      case round =>
        obtain ⟨m, hm, rfl, hbw⟩ := hrel
        have hz := hbw.size
        by_cases hlt : m < 2
        · obtain ⟨t0, b, t1, hb, hC⟩ := HT.out m hlt
          have c0 := (hbw.cell (p := ⟨g2, m * 2, none⟩) hg2).trans t0
          have c1 := (hbw.cell (p := ⟨g2, m * 2 + 1, none⟩) hg2).trans t1
          clear t0 t1 hC
          have hne := str_ne (HU.out m hlt)
          have hm2 : (m : Int) < 2 := by omega
          generalize nameU m = t at *
          go_wp2
          go_roundw
          case rel => exact ⟨m + 1, by omega, by go_num, hbw.alloc hz _⟩
          case measure => simp [intOf]; omega
        · obtain rfl : m = 2 := by omega
          go_wp2
          go_ret2
          exact ⟨rfl, hH3.go hbw⟩

/-- Which bytes are Perl's letters. -/
theorem or32 : ∀ i : Fin 256, (bits BinOp.or IntKind.u8 (i.val : Int) 32 = 100 ↔ i.val = 100 ∨ i.val = 68) ∧ (bits BinOp.or IntKind.u8 (i.val : Int) 32 = 115 ↔ i.val = 115 ∨ i.val = 83) ∧ (bits BinOp.or IntKind.u8 (i.val : Int) 32 = 119 ↔ i.val = 119 ∨ i.val = 87) := by decide +kernel

theorem perl_none (c : Int) (h0 : 0 ≤ c) (h1 : c ≤ 255) (hc : c ≠ 100 ∧ c ≠ 68 ∧ c ≠ 115 ∧ c ≠ 83 ∧ c ≠ 119 ∧ c ≠ 87) (w : World) :
    Calls Try.prog 22 #[.int .u8 c] w fun e w' => e = .returned (.tuple #[.slice none 0 0, .bool false]) ∧ Below w.heap.size w w' := by
  obtain ⟨o1, o2, o3⟩ := or32 ⟨c.toNat, by omega⟩
  have hcn : ((c.toNat : Nat) : Int) = c := by omega
  simp only [hcn] at o1 o2 o3
  have e1 : (bits BinOp.or IntKind.u8 c 32 == 100) = false := beq_eq_false_iff_ne.2 fun h => by have := o1.1 h; omega
  have e2 : (bits BinOp.or IntKind.u8 c 32 == 115) = false := beq_eq_false_iff_ne.2 fun h => by have := o2.1 h; omega
  have e3 : (bits BinOp.or IntKind.u8 c 32 == 119) = false := beq_eq_false_iff_ne.2 fun h => by have := o3.1 h; omega
  obtain ⟨v, hv⟩ : ∃ v, bits BinOp.or IntKind.u8 c 32 = v := ⟨_, rfl⟩
  rw [hv] at e1 e2 e3
  clear o1 o2 o3 hcn hc
  go_enter Try.func22, Try.ntmps22
  go_wp2
  go_ret2
  exact ⟨rfl, Below.refl _ _⟩

end Go.Proofs.Ytpidgcjioocmhaa
