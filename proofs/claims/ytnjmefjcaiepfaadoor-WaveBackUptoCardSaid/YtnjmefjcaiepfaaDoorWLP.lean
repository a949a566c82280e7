/- The law WaveProducts. -/
import Derived.Test.YtnjmefjcaiepfaaDoorWPq
namespace Go.Proofs.YtnjmefjcaiepfaaDoor
open Go.RowKit WaveP

theorem own_empty (w : World) : Own Eint 3 w (w.alloc (.cells #[] 3)) (.slice (some ⟨w.heap.size, 0, none⟩) 0 0) [] :=
  ⟨⟨rfl, .inr ⟨w.heap.size, 0, #[], rfl, Nat.le_refl _, heap_alloc_new w _, Nat.le_refl _, by simp [maxLen], rfl, rfl⟩⟩, (Below.refl _ w).alloc (Nat.le_refl _) _⟩
theorem prL_len (a b : List Int) : (prL a b).length ≤ 4096 := by
  unfold prL badP
  by_cases h : 4096 < a.length + b.length
  · rw [decide_eq_true h]; simp
  · split
    · simp
    · split
      · simp
      · rw [List.length_map, List.length_range]; omega
/-- The copy of a list that came in. -/
theorem copy_form {w0 w : World} {v : Value} {l : List Int} {n : Nat} (h : Own Eint 3 w0 w v ([] ++ l)) (hn : n = l.length) : ∃ A c, v = .slice A n c ∧ SeqAt Eint w w.heap.size A l := by
  rw [List.nil_append] at h
  obtain ⟨A, c, rfl, _, _, hs⟩ := h.isSeq
  exact ⟨A, c, by rw [hn], hs⟩

set_option maxHeartbeats 1600000 in
set_option maxRecDepth 100000 in
theorem products_any (A A' : Option Addr) (c c' : Nat) (a b : List Int) (w : World) (ha : a.length ≤ 17592186044416) (hb : b.length ≤ 17592186044416) (hA : SeqAt Eint w w.heap.size A a) (hA' : SeqAt Eint w w.heap.size A' b) (hT : ∀ w', Below w.heap.size w w' → TabsW w') :
    Calls Tryd.prog 8 #[.slice A a.length c, .slice A' b.length c'] w fun e w' => e = .returned (.bool true) ∧ Below w.heap.size w w' := by
  have HA := Lib.hid hA
  have HB := Lib.hid hA'
  have HT := Lib.hid hT
  have HS := Lib.hid (speaks_any w hT)
  have HPL := Lib.hid (prL_len a b)
  obtain ⟨la, hla⟩ : ∃ la, la = a.length := ⟨_, rfl⟩
  obtain ⟨lb, hlb⟩ : ∃ lb, lb = b.length := ⟨_, rfl⟩
  have HLA := Lib.hid hla
  have HLB := Lib.hid hlb
  rw [← hla] at ha ⊢
  rw [← hlb] at hb ⊢
  clear hla hlb hA hA' hT
  go_enter Tryd.func8, Tryd.ntmps8
  have HM1 : Hid True := Lib.hid trivial
  have HM2 : Hid True := Lib.hid trivial
  have HM3 : Hid True := Lib.hid trivial
  have HM4 : Hid True := Lib.hid trivial
  have HM5 : Hid True := Lib.hid trivial
  have HM6 : Hid True := Lib.hid trivial
  have HM7 : Hid True := Lib.hid trivial
  go_wp2_with (first
    | (go_at_call 10; (refine HS.out.mono ?_); rintro e w1 ⟨rfl, hb1⟩; have HA1 := Lib.hid ((HA.out.below hb1).more hb1.size); have HB1 := Lib.hid ((HB.out.below hb1).more hb1.size))
    | (at_builtin; clear HM1; (refine wpList_append_seq _ rfl (.tmp 13) (.tmp 14) 22 rfl 8 elInt rfl (own_empty w1) la rfl (HA1.out.alloc (Nat.le_refl _) _) HLA.out.symm (by simp only [maxLen, List.length_nil]; omega) (by simp only [List.length_nil]; omega) ?_)
       intro v1 w2 hO hg
       have hb2 := hO.2
       obtain ⟨A1, c1, rfl, hS1⟩ := copy_form hO HLA.out
       have HS1 := Lib.hid hS1
       have HB2 := Lib.hid ((HB1.out.below hb2).more hb2.size)
       clear hO hg hS1)
    | (at_builtin; clear HM2; (refine wpList_append_seq _ rfl (.tmp 16) (.tmp 17) 22 rfl 8 elInt rfl (own_empty w2) lb rfl (HB2.out.alloc (Nat.le_refl _) _) HLB.out.symm (by simp only [maxLen, List.length_nil]; omega) (by simp only [List.length_nil]; omega) ?_)
       intro v2 w3 hO hg
       have hb3 := hO.2
       obtain ⟨A2, c2, rfl, hS2⟩ := copy_form hO HLB.out
       have HS2 := Lib.hid hS2
       have hb13 := (hb1.trans (hb2.mono hb1.size)).trans (hb3.mono (hb1.trans (hb2.mono hb1.size)).size)
       have HS1b := Lib.hid ((HS1.out.below hb3).more hb3.size)
       have HT3 := Lib.hid (tabs_later HT.out hb13)
       clear hO hg hS2 hb1 hb2 hb3 HA1 HB1 HB2 HS1)
    | (go_at_call 17; (rw [HLA.out, HLB.out]); (refine (product_all A1 A2 c1 c2 a b w3 (by rw [← HLA.out]; exact ha) (by rw [← HLB.out]; exact hb) HS1b.out HS2.out HT3.out).mono ?_); rintro e w4 ⟨A4, n4, c4, rfl, hn4, hS4, hb4⟩; have HS4 := Lib.hid hS4; have HN4 := Lib.hid hn4.1; clear hS4 hn4; (rw [← HLA.out, ← HLB.out]))
    | (go_at_call 18; (rw [HLA.out, HLB.out]); (refine (refProduct_all A A' c c' a b w4 (by rw [← HLA.out]; exact ha) (by rw [← HLB.out]; exact hb) (((HA.out.below hb13).more hb13.size).below hb4 |>.more hb4.size) (((HB.out.below hb13).more hb13.size).below hb4 |>.more hb4.size)).mono ?_); rintro e w5 ⟨A5, n5, c5, rfl, hn5, hS5, hb5⟩; have HS5 := Lib.hid hS5; have hn45 : n5 = n4 := hn5.1.trans HN4.out.symm; subst hn45; clear hS5 hn5; have hn5b : n5 ≤ 4096 := (by rw [HN4.out]; exact HPL.out); (rw [← HLA.out, ← HLB.out]); have hb15 := (hb13.trans (hb4.mono hb13.size)).trans (hb5.mono (hb13.trans (hb4.mono hb13.size)).size))
    | (go_at_call 15; clear HM5; (rw [HN4.out]); (refine (ints_same A4 A5 c4 c5 w5.heap.size (prL a b) w5 (by rw [← HN4.out]; unfold maxLen; omega) ((HS4.out.below hb5).more hb5.size) HS5.out (Nat.le_refl _)).mono ?_); rintro e w6 ⟨rfl, hb6⟩; (rw [← HN4.out]))
    | (go_at_call 15; clear HM6; (rw [HLA.out]); (refine (ints_same A1 A c1 c w6.heap.size a w6 (by rw [← HLA.out]; unfold maxLen; omega) ((((HS1b.out.below hb4).more hb4.size).below hb5 |>.more hb5.size).below hb6 |>.more hb6.size) (((HA.out.below hb15).more hb15.size).below hb6 |>.more hb6.size) (Nat.le_refl _)).mono ?_); rintro e w7 ⟨rfl, hb7⟩; (rw [← HLA.out]))
    | (go_at_call 15; clear HM7; (rw [HLB.out]); (refine (ints_same A2 A' c2 c' w7.heap.size b w7 (by rw [← HLB.out]; unfold maxLen; omega) (((((HS2.out.below hb4).more hb4.size).below hb5 |>.more hb5.size).below hb6 |>.more hb6.size).below hb7 |>.more hb7.size) ((((HB.out.below hb15).more hb15.size).below hb6 |>.more hb6.size).below hb7 |>.more hb7.size) (Nat.le_refl _)).mono ?_); rintro e w8 ⟨rfl, hb8⟩; (rw [← HLB.out]))
    | fail)
  go_ret
  exact ⟨rfl, ((hb15.trans (hb6.mono hb15.size)).trans (hb7.mono (hb15.trans (hb6.mono hb15.size)).size)).trans (hb8.mono ((hb15.trans (hb6.mono hb15.size)).trans (hb7.mono (hb15.trans (hb6.mono hb15.size)).size)).size)⟩

theorem products_card (A : Option Addr) (c : Nat) (a : List Int) (A' : Option Addr) (c' : Nat) (b : List Int) (w : World) (ha : a.length ≤ 17592186044416) (hA : SeqAt Eint w w.heap.size A a) (hb : b.length ≤ 17592186044416) (hA' : SeqAt Eint w w.heap.size A' b) (hT : ∀ w', Below w.heap.size w w' → TabsW w') :
    Calls Tryd.prog 8 #[.slice A a.length c, .slice A' b.length c'] w fun e w' => e = .returned (.bool true) ∧ Below w.heap.size w w' :=
  products_any A A' c c' a b w ha hb hA hA' hT
end Go.Proofs.YtnjmefjcaiepfaaDoor
