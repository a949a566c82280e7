/- Chapter 09: Perl and the document's In at every byte; Class and In at every name. -/
import Derived.Test.YtpidgcjioocmhaaUcdNone
import Derived.Test.YtpidgcjioocmhaaUcdIn2
import Derived.Test.YtpidgcjioocmhaaUcdPartsLaw
namespace Go.Proofs.Ytpidgcjioocmhaa
open Go.RowKit SetPure

def isLet (c : Int) : Bool := decide (c = 100) || decide (c = 68) || decide (c = 115) || decide (c = 83) || decide (c = 119) || decide (c = 87)
def letF (c : Int) : Int → Bool := if c = 100 then perlF 0 else if c = 68 then (fun z => inR z && !perlF 0 z) else if c = 115 then perlF 1 else if c = 83 then (fun z => inR z && !perlF 1 z) else if c = 119 then perlF 2 else if c = 87 then (fun z => inR z && !perlF 2 z) else fun _ => false
theorem hold_nil {W w w' : World} {L : List (Value × (Int → Bool))} (h : Hold W w L) (hb : Below w.heap.size w w') : Hold W w' ((.slice none 0 0, fun _ => false) :: L) := (h.go hb).nil_

theorem perl_all (c : Int) (h0 : 0 ≤ c) (h1 : c ≤ 255) (W w : World) (L : List (Value × (Int → Bool))) (hH : Hold W w L) :
    Calls Try.prog 22 #[.int .u8 c] w fun e w' => ∃ x, e = .returned (.tuple #[x, .bool (isLet c)]) ∧ Hold W w' ((x, letF c) :: L) ∧ (isLet c = false → x = .slice none 0 0) := by
  by_cases hc : c = 100 ∨ c = 68 ∨ c = 115 ∨ c = 83 ∨ c = 119 ∨ c = 87
  · rcases hc with rfl | rfl | rfl | rfl | rfl | rfl
    · refine (perl_d true W w L hH).mono ?_
      rintro e w' ⟨x, rfl, hx⟩
      exact ⟨x, rfl, hx, fun h => by cases h⟩
    · refine (perl_d false W w L hH).mono ?_
      rintro e w' ⟨x, rfl, hx⟩
      exact ⟨x, rfl, hx, fun h => by cases h⟩
    · refine (perl_s true W w L hH).mono ?_
      rintro e w' ⟨x, rfl, hx⟩
      exact ⟨x, rfl, hx, fun h => by cases h⟩
    · refine (perl_s false W w L hH).mono ?_
      rintro e w' ⟨x, rfl, hx⟩
      exact ⟨x, rfl, hx, fun h => by cases h⟩
    · refine (perl_w true W w L hH).mono ?_
      rintro e w' ⟨x, rfl, hx⟩
      exact ⟨x, rfl, hx, fun h => by cases h⟩
    · refine (perl_w false W w L hH).mono ?_
      rintro e w' ⟨x, rfl, hx⟩
      exact ⟨x, rfl, hx, fun h => by cases h⟩
  · have hi : isLet c = false := by simp [isLet]; omega
    have hf : letF c = fun _ => false := by
      unfold letF
      rw [if_neg (by omega), if_neg (by omega), if_neg (by omega), if_neg (by omega), if_neg (by omega), if_neg (by omega)]
    rw [hi, hf]
    refine (perl_none c h0 h1 (by omega) w).mono ?_
    rintro e w' ⟨rfl, hb⟩
    exact ⟨_, rfl, hold_nil hH hb, fun _ => rfl⟩

theorem in9_letter (c : Int) (hc : isLet c = true) (r : Int) (hr : inR r = true) (w : World) :
    Calls Try.prog 24 #[.string (strOfNums [c]), .int .i64 r] w fun e w' => e = .returned (.bool (letF c r)) ∧ Below w.heap.size w w' := by
  have h : c = 100 ∨ c = 68 ∨ c = 115 ∨ c = 83 ∨ c = 119 ∨ c = 87 := by
    simp only [isLet, Bool.or_eq_true, decide_eq_true_eq] at hc
    omega
  rcases h with rfl | rfl | rfl | rfl | rfl | rfl
  · have e : letF 100 r = (inB (rangesC 3) r && inR r) := perl0_eq r
    rw [show strOfNums [100] = ⟨#[100]⟩ by decide +kernel, e]
    exact in9_d r w
  · have e : letF 68 r = !(inB (rangesC 3) r && inR r) := by show (inR r && !perlF 0 r) = _; rw [hr, perl0_eq, Bool.true_and, hr]
    rw [show strOfNums [68] = ⟨#[68]⟩ by decide +kernel, e]
    exact in9_D r hr w
  · have e : letF 115 r = (inB blanksL r && inR r) := perl1_eq r
    rw [show strOfNums [115] = ⟨#[115]⟩ by decide +kernel, e]
    exact in9_s r w
  · have e : letF 83 r = !(inB blanksL r && inR r) := by show (inR r && !perlF 1 r) = _; rw [hr, perl1_eq, Bool.true_and, hr]
    rw [show strOfNums [83] = ⟨#[83]⟩ by decide +kernel, e]
    exact in9_S r hr w
  · have e : letF 119 r = (((inB (rangesC 0) r && inR r) || (inB (rangesC 1) r && inR r) || (inB (rangesC 2) r && inR r)) || (inB (rangesC 3) r && inR r) || (inB (rangesC 4) r && inR r)) := perl2_eq r
    rw [show strOfNums [119] = ⟨#[119]⟩ by decide +kernel, e]
    exact in9_w r w
  · have e : letF 87 r = !(((inB (rangesC 0) r && inR r) || (inB (rangesC 1) r && inR r) || (inB (rangesC 2) r && inR r)) || (inB (rangesC 3) r && inR r) || (inB (rangesC 4) r && inR r)) := by show (inR r && !perlF 2 r) = _; rw [hr, perl2_eq, Bool.true_and, hr]
    rw [show strOfNums [87] = ⟨#[87]⟩ by decide +kernel, e]
    exact in9_W r hr w

/-- In at every name of the 18. -/
theorem in9_named (n : Nat) (hn : n < 18) (r : Int) (w : World) : Calls Try.prog 24 #[.string (nameA n), .int .i64 r] w fun e w' => e = .returned (.bool (classF n r)) ∧ Below w.heap.size w w' := by
  by_cases h : n < 15
  · have e1 : nameA n = nameC n := by unfold nameA; rw [if_pos h]
    have e2 : classF n r = (inB (rangesC n) r && inR r) := by unfold classF; rw [if_pos h]
    rw [e1, e2]
    exact in9_base n h r w
  · obtain rfl | rfl | rfl : n = 15 ∨ n = 16 ∨ n = 17 := by omega
    · have e2 : classF 15 r = ((inB (rangesC 0) r && inR r) || (inB (rangesC 1) r && inR r) || (inB (rangesC 2) r && inR r)) := by simp [classF, unionF, idxU, Bool.or_assoc]
      rw [show nameA 15 = ⟨#[76]⟩ by decide +kernel, e2]
      exact in9_L r w
    · have e2 : classF 16 r = (inB (rangesC 3) r && inR r) := by simp [classF, unionF, idxU, Bool.or_assoc]
      rw [show nameA 16 = ⟨#[78]⟩ by decide +kernel, e2]
      exact in9_N r w
    · rw [show nameA 17 = ⟨#[65, 110, 121]⟩ by decide +kernel, show classF 17 r = inR r from rfl]
      exact in9_any_ r w

end Go.Proofs.Ytpidgcjioocmhaa
