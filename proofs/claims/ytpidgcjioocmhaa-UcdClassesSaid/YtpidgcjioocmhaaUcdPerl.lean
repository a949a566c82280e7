/- The walks of ucd's Class at 'Any', at what is no name, at every name; and of ucd's Perl at its six letters. -/
import Derived.Test.YtpidgcjioocmhaaUcdUnion
namespace Go.Proofs.Ytpidgcjioocmhaa
open Go.RowKit SetPure Go.WideShapes

set_option maxHeartbeats 800000 in
theorem class_every (W w : World) (L : List (Value × (Int → Bool))) (hH : Hold W w L) :
    Calls Try.prog 21 #[.string ⟨#[65, 110, 121]⟩] w fun e w' => ∃ x, e = .returned (.tuple #[x, .bool true]) ∧ Hold W w' ((x, inR) :: L) := by
  have hseq : IsSeq Epair (w.alloc (.cells (([(0, 1114111)] : List Rg).flatMap Epair.enc).toArray 29)) (.slice (some ⟨w.heap.size, 0, none⟩) ([(0, 1114111)] : List Rg).length 1) [(0, 1114111)] :=
    IsSeq.new w _ _ 1 (by decide) (by simp [maxLen])
  have HO := Lib.hid (hold_of (hH.alloc _) hseq (by decide))
  clear hseq
  have ha := any_list
  go_enter Try.func21, Try.ntmps21
  go_wp2_with (go_at_call 13; refine HO.out.mono ?_; rintro e w1 ⟨x, rfl, hx⟩)
  go_ret2
  exact ⟨x, rfl, hx.congr (fun z => by simp [inB, inR])⟩

def nameA (n : Nat) : ByteArray := if n < 15 then nameC n else if n = 17 then ⟨#[65, 110, 121]⟩ else nameU (n - 15)
def classF (n : Nat) : Int → Bool := if n < 15 then fun z => inB (rangesC n) z && inR z else if n = 17 then inR else unionF (idxU (n - 15)) (idxU (n - 15)).length

/-- Class at every name. -/
theorem class_named (n : Nat) (hn : n < 18) (W w : World) (L : List (Value × (Int → Bool))) (hH : Hold W w L) :
    Calls Try.prog 21 #[.string (nameA n)] w fun e w' => ∃ x, e = .returned (.tuple #[x, .bool true]) ∧ Hold W w' ((x, classF n) :: L) := by
  unfold nameA classF
  by_cases h : n < 15
  · simp only [h, if_true]
    exact class_base n h W w L hH
  · by_cases h7 : n = 17
    · simp only [h, h7, if_true, if_false]
      exact class_every W w L hH
    · simp only [h, h7, if_false]
      exact class_union (n - 15) (by omega) W w L hH

/-- What is in the first k classes of a list of names. -/
def orF (idx : List Nat) (k : Nat) (z : Int) : Bool := (idx.take k).any fun i => classF i z
theorem orF_succ {idx : List Nat} {k : Nat} (hk : k < idx.length) (z : Int) : orF idx (k + 1) z = (orF idx k z || classF (idx.getD k 0) z) := by
  unfold orF
  rw [List.take_add_one, List.getElem?_eq_getElem hk, List.getD_eq_getElem?_getD, List.getElem?_eq_getElem hk, List.any_append]
  simp

/-- What Perl's letters tell. -/
def perlF (k : Nat) : Int → Bool := if k = 0 then classF 3 else if k = 1 then fun z => inB blanksL z && inR z else orF [15, 3, 4] 3

theorem name3 : nameA 3 = ⟨#[78, 100]⟩ := by decide +kernel

set_option maxHeartbeats 1600000 in
theorem perl_d (b : Bool) (W w : World) (L : List (Value × (Int → Bool))) (hH : Hold W w L) :
    Calls Try.prog 22 #[.int .u8 (if b then 100 else 68)] w fun e w' => ∃ x, e = .returned (.tuple #[x, .bool true]) ∧ Hold W w' ((x, if b then perlF 0 else fun z => inR z && !perlF 0 z) :: L) := by
  have HC := Lib.hid (class_named 3 (by decide) W w L hH)
  rw [name3] at HC
  cases b
  · simp only [Bool.false_eq_true, if_false]
    go_enter Try.func22, Try.ntmps22
    go_wp2_with (first
      | (go_at_call 21; refine HC.out.mono ?_; rintro e w1 ⟨x, rfl, hx⟩)
      | (go_at_call 38; refine (hold_not hx (List.Mem.head _)).mono ?_; rintro e w2 ⟨y, rfl, hy⟩))
    go_ret2
    exact ⟨y, rfl, hy.1, fun p hp => by
      rcases List.mem_cons.1 hp with rfl | hp
      · exact hy.2 _ (List.Mem.head _)
      · exact hy.2 p (List.mem_cons_of_mem _ (List.mem_cons_of_mem _ hp))⟩
  · simp only [if_true]
    go_enter Try.func22, Try.ntmps22
    go_wp2_with (go_at_call 21; refine HC.out.mono ?_; rintro e w1 ⟨x, rfl, hx⟩)
    go_ret2
    exact ⟨x, rfl, hx⟩

set_option maxHeartbeats 1600000 in
theorem perl_s (b : Bool) (W w : World) (L : List (Value × (Int → Bool))) (hH : Hold W w L) :
    Calls Try.prog 22 #[.int .u8 (if b then 115 else 83)] w fun e w' => ∃ x, e = .returned (.tuple #[x, .bool true]) ∧ Hold W w' ((x, if b then perlF 1 else fun z => inR z && !perlF 1 z) :: L) := by
  have HC := Lib.hid (blanks_any W w L hH)
  cases b
  · simp only [Bool.false_eq_true, if_false]
    go_enter Try.func22, Try.ntmps22
    go_wp2_with (first
      | (go_at_call 42; refine HC.out.mono ?_; rintro e w1 ⟨x, rfl, hx⟩)
      | (go_at_call 38; refine (hold_not hx (List.Mem.head _)).mono ?_; rintro e w2 ⟨y, rfl, hy⟩))
    go_ret2
    exact ⟨y, rfl, hy.1, fun p hp => by
      rcases List.mem_cons.1 hp with rfl | hp
      · exact hy.2 _ (List.Mem.head _)
      · exact hy.2 p (List.mem_cons_of_mem _ (List.mem_cons_of_mem _ hp))⟩
  · simp only [if_true]
    go_enter Try.func22, Try.ntmps22
    go_wp2_with (go_at_call 42; refine HC.out.mono ?_; rintro e w1 ⟨x, rfl, hx⟩)
    go_ret2
    exact ⟨x, rfl, hx⟩

set_option maxHeartbeats 1600000 in
theorem perl_w (b : Bool) (W w : World) (L : List (Value × (Int → Bool))) (hH : Hold W w L) :
    Calls Try.prog 22 #[.int .u8 (if b then 119 else 87)] w fun e w' => ∃ x, e = .returned (.tuple #[x, .bool true]) ∧ Hold W w' ((x, if b then perlF 2 else fun z => inR z && !perlF 2 z) :: L) := by
  have hN : ∀ k, k < 3 → ∃ n, n < 18 ∧ ([15, 3, 4] : List Nat).getD k 0 = n := fun k hk => by
    obtain rfl | rfl | rfl : k = 0 ∨ k = 1 ∨ k = 2 := by omega
    all_goals exact ⟨_, by decide, rfl⟩
  have hW : ∀ k, k < 3 → (w.alloc (.cells #[.string ⟨#[76]⟩, .string ⟨#[78, 100]⟩, .string ⟨#[80, 99]⟩] 9)).cell? ⟨w.heap.size, k, none⟩ = some (.string (nameA (([15, 3, 4] : List Nat).getD k 0))) := fun k hk => by
    have h15 : nameA 15 = ⟨#[76]⟩ := by decide +kernel
    have h3 : nameA 3 = ⟨#[78, 100]⟩ := by decide +kernel
    have h4 : nameA 4 = ⟨#[80, 99]⟩ := by decide +kernel
    obtain rfl | rfl | rfl : k = 0 ∨ k = 1 ∨ k = 2 := by omega
    · rw [show ([15, 3, 4] : List Nat).getD 0 0 = 15 from rfl, h15]; go_simp
    · rw [show ([15, 3, 4] : List Nat).getD 1 0 = 3 from rfl, h3]; go_simp
    · rw [show ([15, 3, 4] : List Nat).getD 2 0 = 4 from rfl, h4]; go_simp
  have HN := Lib.hid hN
  have HC := Lib.hid hW
  clear hN hW
  have hW0 := (hH.alloc (.cells #[.string ⟨#[76]⟩, .string ⟨#[78, 100]⟩, .string ⟨#[80, 99]⟩] 9)).1
  have h0 := Lib.hid (((hH.alloc (.cells #[.string ⟨#[76]⟩, .string ⟨#[78, 100]⟩, .string ⟨#[80, 99]⟩] 9)).base (Below.refl _ _)).nil_)
  have hb1 : bits BinOp.or IntKind.u8 87 32 = 119 := by decide +kernel
  have hb2 : bits BinOp.or IntKind.u8 119 32 = 119 := by decide +kernel
  cases b
  all_goals
    simp only [Bool.false_eq_true, if_false, if_true]
    go_enter Try.func22, Try.ntmps22
    go_wp2
    go_loopw [4, 6, 7, 8, 24] (fun v _ _ _ i wx => ∃ k : Nat, k ≤ 3 ∧ i = .int .i64 k ∧ Hold (w.alloc (.cells #[.string ⟨#[76]⟩, .string ⟨#[78, 100]⟩, .string ⟨#[80, 99]⟩] 9)) wx ((v, orF [15, 3, 4] k) :: L))
      (fun _ _ _ _ i _ => 4 - (intOf i).toNat)
    case atStart => exact ⟨0, by omega, rfl, h0.out.congr (fun z => by simp [orF])⟩
    case round =>
      obtain ⟨k, hk, rfl, hHk⟩ := hrel
      have hbk := hHk.1
      by_cases hlk : k < 3
      · obtain ⟨n, hn, hnk⟩ := HN.out k hlk
        have ck := (hbk.cell (p := ⟨w.heap.size, k, none⟩) (by simp)).trans (HC.out k hlk)
        have HF := Lib.hid (fun z => (orF_succ (idx := [15, 3, 4]) (by simpa using hlk : k < [15, 3, 4].length) z).symm)
        have hzb := hbk.size
        rw [hnk] at ck HF
        have HB := Lib.hid (class_named n hn _ _ _ hHk)
        clear hnk
        generalize nameA n = t at *
        have hki : (k : Int) < 3 := by omega
        go_wp2_with (first
          | (go_at_call 21; refine HB.out.mono ?_; rintro e w5 ⟨x5, rfl, hH5⟩)
          | (go_at_call 19; refine (hold_or hH5 (by repeat (first | exact List.Mem.head _ | apply List.Mem.tail)) (by repeat (first | exact List.Mem.head _ | apply List.Mem.tail))).mono ?_; rintro e w6 ⟨x6, rfl, hH6⟩))
        go_roundw
        case rel => exact ⟨k + 1, by omega, by go_num, hH6.drop2.congr HF.out⟩
        case measure => simp [intOf]; omega
      · obtain rfl : k = 3 := by omega
        have hHe := Hold.rebase hW0 hHk
        go_wp2_with (go_at_call 38; refine (hold_not hHe (List.Mem.head _)).mono ?_; rintro e w2 ⟨y, rfl, hy⟩)
        go_ret2
        first
        | exact ⟨_, rfl, hHe⟩
        | exact ⟨y, rfl, hy.1, fun p hp => by
            rcases List.mem_cons.1 hp with rfl | hp
            · exact hy.2 _ (List.Mem.head _)
            · exact hy.2 p (List.mem_cons_of_mem _ (List.mem_cons_of_mem _ hp))⟩

end Go.Proofs.Ytpidgcjioocmhaa
