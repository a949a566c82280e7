/- Chapter 09: the document's In at the names of unions and at Perl's letters. -/
import Derived.Test.YtpidgcjioocmhaaUcdRefIn
import Derived.Test.YtpidgcjioocmhaaBytes
namespace Go.Proofs.Ytpidgcjioocmhaa
open Go.RowKit SetPure

set_option maxRecDepth 100000 in
theorem ranges9_space (w : World) : Calls Try.prog 44 #[.string ⟨#[115, 112, 97, 99, 101]⟩] w (RetFlat blanksL w) := by
  go_enter Try.func44, Try.ntmps44
  go_wp2
  go_ret
  exact ret_flat w blanksL 3 _
theorem in9_space (r : Int) (w : World) : Calls Try.prog 24 #[.string ⟨#[115, 112, 97, 99, 101]⟩, .int .i64 r] w fun e w' => e = .returned (.bool (inB blanksL r && inR r)) ∧ Below w.heap.size w w' :=
  in9_range _ blanksL (by decide) ranges9_space r w (by decide +kernel) (by decide +kernel) (by decide +kernel) (by decide +kernel) (by decide +kernel) (by decide +kernel) (by decide +kernel) (by decide +kernel) (by decide +kernel)

/-- In ends early where the number is out of bounds; else it goes on. -/
theorem r_cases (r : Int) : (decide (r < 0) = true ∧ inR r = false) ∨ (decide (r < 0) = false ∧ decide ((1114111 : Int) < r) = true ∧ inR r = false) ∨ (decide (r < 0) = false ∧ decide ((1114111 : Int) < r) = false ∧ inR r = true) := by
  by_cases h0 : r < 0
  · exact .inl ⟨decide_eq_true h0, by simp [inR]; omega⟩
  · by_cases h1 : 1114111 < r
    · exact .inr (.inl ⟨decide_eq_false h0, decide_eq_true h1, by simp [inR]; omega⟩)
    · exact .inr (.inr ⟨decide_eq_false h0, decide_eq_false h1, by simp [inR]; omega⟩)

theorem in9_any_ (r : Int) (w : World) : Calls Try.prog 24 #[.string ⟨#[65, 110, 121]⟩, .int .i64 r] w fun e w' => e = .returned (.bool (inR r)) ∧ Below w.heap.size w w' := by
  rcases r_cases r with ⟨h0, hR⟩ | ⟨h0, h1, hR⟩ | ⟨h0, h1, hR⟩
  all_goals
    rw [hR]
    clear hR
    go_enter Try.func24, Try.ntmps24
    go_wp2
    go_ret
    exact ⟨rfl, Below.refl _ _⟩

theorem in9_N (r : Int) (w : World) : Calls Try.prog 24 #[.string ⟨#[78]⟩, .int .i64 r] w fun e w' => e = .returned (.bool (inB (rangesC 3) r && inR r)) ∧ Below w.heap.size w w' := by
  have HC := Lib.hid (show Calls Try.prog 24 #[.string ⟨#[78, 100]⟩, .int .i64 r] w _ from in9_base 3 (by decide) r w)
  obtain ⟨b, hb⟩ : ∃ b, (inB (rangesC 3) r && inR r) = b := ⟨_, rfl⟩
  have HB := Lib.hid hb
  rw [hb]
  rcases r_cases r with ⟨h0, hR⟩ | ⟨h0, h1, hR⟩ | ⟨h0, h1, hR⟩
  · have hbf : b = false := by rw [← hb, hR, Bool.and_false]
    subst hbf
    clear hR hb
    go_enter Try.func24, Try.ntmps24
    go_wp2
    go_ret
    exact ⟨rfl, Below.refl _ _⟩
  · have hbf : b = false := by rw [← hb, hR, Bool.and_false]
    subst hbf
    clear hR hb
    go_enter Try.func24, Try.ntmps24
    go_wp2
    go_ret
    exact ⟨rfl, Below.refl _ _⟩
  · clear hR hb
    go_enter Try.func24, Try.ntmps24
    go_wp2_with (go_at_call 24; refine HC.out.mono ?_; rintro e w1 ⟨rfl, hb1⟩; rw [HB.out])
    go_ret
    exact ⟨rfl, hb1⟩

theorem in9_d (r : Int) (w : World) : Calls Try.prog 24 #[.string ⟨#[100]⟩, .int .i64 r] w fun e w' => e = .returned (.bool (inB (rangesC 3) r && inR r)) ∧ Below w.heap.size w w' := by
  have HC := Lib.hid (show Calls Try.prog 24 #[.string ⟨#[78, 100]⟩, .int .i64 r] w _ from in9_base 3 (by decide) r w)
  obtain ⟨b, hb⟩ : ∃ b, (inB (rangesC 3) r && inR r) = b := ⟨_, rfl⟩
  have HB := Lib.hid hb
  rw [hb]
  rcases r_cases r with ⟨h0, hR⟩ | ⟨h0, h1, hR⟩ | ⟨h0, h1, hR⟩
  · have hbf : b = false := by rw [← hb, hR, Bool.and_false]
    subst hbf
    clear hR hb
    go_enter Try.func24, Try.ntmps24
    go_wp2
    go_ret
    exact ⟨rfl, Below.refl _ _⟩
  · have hbf : b = false := by rw [← hb, hR, Bool.and_false]
    subst hbf
    clear hR hb
    go_enter Try.func24, Try.ntmps24
    go_wp2
    go_ret
    exact ⟨rfl, Below.refl _ _⟩
  · clear hR hb
    go_enter Try.func24, Try.ntmps24
    go_wp2_with (go_at_call 24; refine HC.out.mono ?_; rintro e w1 ⟨rfl, hb1⟩; rw [HB.out])
    go_ret
    exact ⟨rfl, hb1⟩

theorem in9_s (r : Int) (w : World) : Calls Try.prog 24 #[.string ⟨#[115]⟩, .int .i64 r] w fun e w' => e = .returned (.bool (inB blanksL r && inR r)) ∧ Below w.heap.size w w' := by
  have HC := Lib.hid (in9_space r w)
  obtain ⟨b, hb⟩ : ∃ b, (inB blanksL r && inR r) = b := ⟨_, rfl⟩
  have HB := Lib.hid hb
  rw [hb]
  rcases r_cases r with ⟨h0, hR⟩ | ⟨h0, h1, hR⟩ | ⟨h0, h1, hR⟩
  · have hbf : b = false := by rw [← hb, hR, Bool.and_false]
    subst hbf
    clear hR hb
    go_enter Try.func24, Try.ntmps24
    go_wp2
    go_ret
    exact ⟨rfl, Below.refl _ _⟩
  · have hbf : b = false := by rw [← hb, hR, Bool.and_false]
    subst hbf
    clear hR hb
    go_enter Try.func24, Try.ntmps24
    go_wp2
    go_ret
    exact ⟨rfl, Below.refl _ _⟩
  · clear hR hb
    go_enter Try.func24, Try.ntmps24
    go_wp2_with (go_at_call 24; refine HC.out.mono ?_; rintro e w1 ⟨rfl, hb1⟩; rw [HB.out])
    go_ret
    exact ⟨rfl, hb1⟩

theorem in9_L (r : Int) (w : World) : Calls Try.prog 24 #[.string ⟨#[76]⟩, .int .i64 r] w fun e w' => e = .returned (.bool ((inB (rangesC 0) r && inR r) || (inB (rangesC 1) r && inR r) || (inB (rangesC 2) r && inR r))) ∧ Below w.heap.size w w' := by
  have HC0 := Lib.hid (fun wx => (show Calls Try.prog 24 #[.string ⟨#[76, 117]⟩, .int .i64 r] wx _ from in9_base 0 (by decide) r wx))
  have HC1 := Lib.hid (fun wx => (show Calls Try.prog 24 #[.string ⟨#[76, 108]⟩, .int .i64 r] wx _ from in9_base 1 (by decide) r wx))
  have HC2 := Lib.hid (fun wx => (show Calls Try.prog 24 #[.string ⟨#[76, 111]⟩, .int .i64 r] wx _ from in9_base 2 (by decide) r wx))
  obtain ⟨b0, hb0⟩ : ∃ b, (inB (rangesC 0) r && inR r) = b := ⟨_, rfl⟩
  obtain ⟨b1, hb1⟩ : ∃ b, (inB (rangesC 1) r && inR r) = b := ⟨_, rfl⟩
  obtain ⟨b2, hb2⟩ : ∃ b, (inB (rangesC 2) r && inR r) = b := ⟨_, rfl⟩
  have HB0 := Lib.hid hb0
  have HB1 := Lib.hid hb1
  have HB2 := Lib.hid hb2
  have he : ((inB (rangesC 0) r && inR r) || (inB (rangesC 1) r && inR r) || (inB (rangesC 2) r && inR r)) = (b0 || b1 || b2) := by rw [← hb0, ← hb1, ← hb2]
  rw [he]
  have HM0 : Hid True := trivial
  have HM1 : Hid True := trivial
  rcases r_cases r with ⟨h0, hR⟩ | ⟨h0, h1, hR⟩ | ⟨h0, h1, hR⟩
  · have hbf : (b0 || b1 || b2) = false := by rw [← he]; simp [hR]
    rw [hbf]
    clear hR hb0 hb1 hb2 he hbf
    go_enter Try.func24, Try.ntmps24
    go_wp2
    go_ret
    exact ⟨rfl, Below.refl _ _⟩
  · have hbf : (b0 || b1 || b2) = false := by rw [← he]; simp [hR]
    rw [hbf]
    clear hR hb0 hb1 hb2 he hbf
    go_enter Try.func24, Try.ntmps24
    go_wp2
    go_ret
    exact ⟨rfl, Below.refl _ _⟩
  · clear hR hb0 hb1 hb2 he
    cases b0 <;> cases b1
    all_goals
      go_enter Try.func24, Try.ntmps24
      go_wp2_with (first
        | (go_at_call 24; clear HM0; refine (HC0.out _).mono ?_; rintro e w1 ⟨rfl, hw1⟩; rw [HB0.out])
        | (go_at_call 24; clear HM1; refine (HC1.out _).mono ?_; rintro e w2 ⟨rfl, hw2⟩; rw [HB1.out])
        | (go_at_call 24; refine (HC2.out _).mono ?_; rintro e w3 ⟨rfl, hw3⟩; rw [HB2.out]))
      go_ret
      first
        | exact ⟨rfl, (hw1.trans (hw2.mono hw1.size)).trans (hw3.mono (Nat.le_trans hw1.size hw2.size))⟩
        | exact ⟨rfl, hw1.trans (hw2.mono hw1.size)⟩
        | exact ⟨rfl, hw1⟩

theorem in9_w (r : Int) (w : World) : Calls Try.prog 24 #[.string ⟨#[119]⟩, .int .i64 r] w fun e w' => e = .returned (.bool (((inB (rangesC 0) r && inR r) || (inB (rangesC 1) r && inR r) || (inB (rangesC 2) r && inR r)) || (inB (rangesC 3) r && inR r) || (inB (rangesC 4) r && inR r))) ∧ Below w.heap.size w w' := by
  have HC0 := Lib.hid (fun wx => (show Calls Try.prog 24 #[.string ⟨#[76]⟩, .int .i64 r] wx _ from in9_L r wx))
  have HC1 := Lib.hid (fun wx => (show Calls Try.prog 24 #[.string ⟨#[78, 100]⟩, .int .i64 r] wx _ from in9_base 3 (by decide) r wx))
  have HC2 := Lib.hid (fun wx => (show Calls Try.prog 24 #[.string ⟨#[80, 99]⟩, .int .i64 r] wx _ from in9_base 4 (by decide) r wx))
  obtain ⟨b0, hb0⟩ : ∃ b, ((inB (rangesC 0) r && inR r) || (inB (rangesC 1) r && inR r) || (inB (rangesC 2) r && inR r)) = b := ⟨_, rfl⟩
  obtain ⟨b1, hb1⟩ : ∃ b, (inB (rangesC 3) r && inR r) = b := ⟨_, rfl⟩
  obtain ⟨b2, hb2⟩ : ∃ b, (inB (rangesC 4) r && inR r) = b := ⟨_, rfl⟩
  have HB0 := Lib.hid hb0
  have HB1 := Lib.hid hb1
  have HB2 := Lib.hid hb2
  have he : (((inB (rangesC 0) r && inR r) || (inB (rangesC 1) r && inR r) || (inB (rangesC 2) r && inR r)) || (inB (rangesC 3) r && inR r) || (inB (rangesC 4) r && inR r)) = (b0 || b1 || b2) := by rw [← hb0, ← hb1, ← hb2]
  rw [he]
  have HM0 : Hid True := trivial
  have HM1 : Hid True := trivial
  rcases r_cases r with ⟨h0, hR⟩ | ⟨h0, h1, hR⟩ | ⟨h0, h1, hR⟩
  · have hbf : (b0 || b1 || b2) = false := by rw [← he]; simp [hR]
    rw [hbf]
    clear hR hb0 hb1 hb2 he hbf
    go_enter Try.func24, Try.ntmps24
    go_wp2
    go_ret
    exact ⟨rfl, Below.refl _ _⟩
  · have hbf : (b0 || b1 || b2) = false := by rw [← he]; simp [hR]
    rw [hbf]
    clear hR hb0 hb1 hb2 he hbf
    go_enter Try.func24, Try.ntmps24
    go_wp2
    go_ret
    exact ⟨rfl, Below.refl _ _⟩
  · clear hR hb0 hb1 hb2 he
    cases b0 <;> cases b1
    all_goals
      go_enter Try.func24, Try.ntmps24
      go_wp2_with (first
        | (go_at_call 24; clear HM0; refine (HC0.out _).mono ?_; rintro e w1 ⟨rfl, hw1⟩; rw [HB0.out])
        | (go_at_call 24; clear HM1; refine (HC1.out _).mono ?_; rintro e w2 ⟨rfl, hw2⟩; rw [HB1.out])
        | (go_at_call 24; refine (HC2.out _).mono ?_; rintro e w3 ⟨rfl, hw3⟩; rw [HB2.out]))
      go_ret
      first
        | exact ⟨rfl, (hw1.trans (hw2.mono hw1.size)).trans (hw3.mono (Nat.le_trans hw1.size hw2.size))⟩
        | exact ⟨rfl, hw1.trans (hw2.mono hw1.size)⟩
        | exact ⟨rfl, hw1⟩

set_option maxRecDepth 100000 in
theorem in9_D (r : Int) (hr : inR r = true) (w : World) : Calls Try.prog 24 #[.string ⟨#[68]⟩, .int .i64 r] w fun e w' => e = .returned (.bool (!(inB (rangesC 3) r && inR r))) ∧ Below w.heap.size w w' := by
  have HC := Lib.hid (fun wx => in9_d r wx)
  obtain ⟨b, hb⟩ : ∃ b, (inB (rangesC 3) r && inR r) = b := ⟨_, rfl⟩
  have HB := Lib.hid hb
  rw [hb]
  have h01 := (inR_iff r).1 hr
  have h0 : decide (r < 0) = false := decide_eq_false (by omega)
  have h1 : decide ((1114111 : Int) < r) = false := decide_eq_false (by omega)
  have hcv := conv_one w 100
  have hcs : strOfNums [100] = ⟨#[100]⟩ := by decide +kernel
  rw [hcs] at hcv
  clear hb hr h01
  go_enter Try.func24, Try.ntmps24
  go_wp2_with (first
    | (rw [show (((⟨#[68]⟩ : ByteArray)[0]'(by decide)).toNat + 32 : Int) % 256 = 100 from by decide +kernel, hcv])
    | (go_at_call 24; refine (HC.out _).mono ?_; rintro e w1 ⟨rfl, hb1⟩; rw [HB.out]))
  go_ret
  exact ⟨rfl, ((Below.refl _ w).alloc (Nat.le_refl _) _).trans (hb1.mono (by simp))⟩

set_option maxRecDepth 100000 in
theorem in9_S (r : Int) (hr : inR r = true) (w : World) : Calls Try.prog 24 #[.string ⟨#[83]⟩, .int .i64 r] w fun e w' => e = .returned (.bool (!(inB blanksL r && inR r))) ∧ Below w.heap.size w w' := by
  have HC := Lib.hid (fun wx => in9_s r wx)
  obtain ⟨b, hb⟩ : ∃ b, (inB blanksL r && inR r) = b := ⟨_, rfl⟩
  have HB := Lib.hid hb
  rw [hb]
  have h01 := (inR_iff r).1 hr
  have h0 : decide (r < 0) = false := decide_eq_false (by omega)
  have h1 : decide ((1114111 : Int) < r) = false := decide_eq_false (by omega)
  have hcv := conv_one w 115
  have hcs : strOfNums [115] = ⟨#[115]⟩ := by decide +kernel
  rw [hcs] at hcv
  clear hb hr h01
  go_enter Try.func24, Try.ntmps24
  go_wp2_with (first
    | (rw [show (((⟨#[83]⟩ : ByteArray)[0]'(by decide)).toNat + 32 : Int) % 256 = 115 from by decide +kernel, hcv])
    | (go_at_call 24; refine (HC.out _).mono ?_; rintro e w1 ⟨rfl, hb1⟩; rw [HB.out]))
  go_ret
  exact ⟨rfl, ((Below.refl _ w).alloc (Nat.le_refl _) _).trans (hb1.mono (by simp))⟩

set_option maxRecDepth 100000 in
theorem in9_W (r : Int) (hr : inR r = true) (w : World) : Calls Try.prog 24 #[.string ⟨#[87]⟩, .int .i64 r] w fun e w' => e = .returned (.bool (!(((inB (rangesC 0) r && inR r) || (inB (rangesC 1) r && inR r) || (inB (rangesC 2) r && inR r)) || (inB (rangesC 3) r && inR r) || (inB (rangesC 4) r && inR r)))) ∧ Below w.heap.size w w' := by
  have HC := Lib.hid (fun wx => in9_w r wx)
  obtain ⟨b, hb⟩ : ∃ b, (((inB (rangesC 0) r && inR r) || (inB (rangesC 1) r && inR r) || (inB (rangesC 2) r && inR r)) || (inB (rangesC 3) r && inR r) || (inB (rangesC 4) r && inR r)) = b := ⟨_, rfl⟩
  have HB := Lib.hid hb
  rw [hb]
  have h01 := (inR_iff r).1 hr
  have h0 : decide (r < 0) = false := decide_eq_false (by omega)
  have h1 : decide ((1114111 : Int) < r) = false := decide_eq_false (by omega)
  have hcv := conv_one w 119
  have hcs : strOfNums [119] = ⟨#[119]⟩ := by decide +kernel
  rw [hcs] at hcv
  clear hb hr h01
  go_enter Try.func24, Try.ntmps24
  go_wp2_with (first
    | (rw [show (((⟨#[87]⟩ : ByteArray)[0]'(by decide)).toNat + 32 : Int) % 256 = 119 from by decide +kernel, hcv])
    | (go_at_call 24; refine (HC.out _).mono ?_; rintro e w1 ⟨rfl, hb1⟩; rw [HB.out]))
  go_ret
  exact ⟨rfl, ((Below.refl _ w).alloc (Nat.le_refl _) _).trans (hb1.mono (by simp))⟩

end Go.Proofs.Ytpidgcjioocmhaa
