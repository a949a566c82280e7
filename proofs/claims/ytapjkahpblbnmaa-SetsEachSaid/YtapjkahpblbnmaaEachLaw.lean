/- Chapter 08, the walk of SetsEach. -/
import Derived.Test.YtapjkahpblbnmaaMade
namespace Go.Proofs.Ytapjkahpblbnmaa
open Go.RowKit SetPure

set_option maxHeartbeats 1000000 in
theorem each_any (A A' : Option Addr) (c c' : Nat) (l m : List Rg) (r : Int) (w : World) (hl : l.length ≤ 8796093022208) (hm : m.length ≤ 8796093022208) (hA : SeqAt Epair w w.heap.size A l) (hA' : SeqAt Epair w w.heap.size A' m) :
    Calls Try.prog 6 #[.slice A l.length c, .slice A' m.length c', .int .i64 r] w fun e w' => e = .returned (.bool true) ∧ Below w.heap.size w w' := by
  have HA := Lib.hid hA
  have HA' := Lib.hid hA'
  clear hA hA'
  have hcs : (0 ≤ r ∧ r ≤ 1114111 ∧ inR r = true ∧ ((inB l r = true ∧ inB m r = true) ∨ (inB l r = true ∧ inB m r = false) ∨ (inB l r = false ∧ inB m r = true) ∨ (inB l r = false ∧ inB m r = false))) ∨ (0 ≤ r ∧ ¬ r ≤ 1114111 ∧ inR r = false ∧ inR r = false ∧ inR r = false) ∨ (¬ 0 ≤ r ∧ inR r = false ∧ inR r = false ∧ inR r = false) := by
    by_cases h0 : 0 ≤ r
    · by_cases h1 : r ≤ 1114111
      · refine .inl ⟨h0, h1, by simp [inR, h0, h1], ?_⟩
        cases inB l r <;> cases inB m r <;> simp
      · exact .inr (.inl ⟨h0, h1, by simp [inR, h1], by simp [inR, h1], by simp [inR, h1]⟩)
    · exact .inr (.inr ⟨h0, by simp [inR, h0], by simp [inR, h0], by simp [inR, h0]⟩)
  have HM1 : Hid True := trivial
  have HM2 : Hid True := trivial
  go_enter Try.func6, Try.ntmps6
  rcases hcs with ⟨h0, h1, hi, ⟨hx, hy⟩ | ⟨hx, hy⟩ | ⟨hx, hy⟩ | ⟨hx, hy⟩⟩ | ⟨h0, h1, hi, hx, hy⟩ | ⟨h0, hi, hx, hy⟩ <;>
    (have HX := Lib.hid hx
     have HY := Lib.hid hy
     have HI := Lib.hid hi
     clear hx hy hi
     go_wp2_with (first
       | (go_at_call 8; refine (speaks_any _).mono ?_; rintro e w1 ⟨rfl, hb1⟩; have hH := (Hold.start w).go hb1)
       | (go_at_call 9; clear HM1; refine (made_any A c l _ hl ((HA.out.below hH.1).more hH.1.size)).mono ?_; rintro e w1 ⟨v1, vb1, rfl, hs1, _, hb1⟩; have hH := hH.add hb1 hs1)
       | (go_at_call 9; clear HM2; refine (made_any A' c' m _ hm ((HA'.out.below hH.1).more hH.1.size)).mono ?_; rintro e w1 ⟨v2, vb2, rfl, hs2, _, hb2⟩; have hH := hH.add hb2 hs2)
       | (go_at_call 17; refine (hold_has_eq hH (by repeat (first | exact List.Mem.head _ | apply List.Mem.tail)) r _ (by simp only [HX.out, HY.out, HI.out, Bool.and_true, Bool.true_and, Bool.and_false, Bool.false_and, Bool.or_true, Bool.true_or, Bool.or_false, Bool.false_or, Bool.not_true, Bool.not_false]; rfl)).mono ?_; rintro e w1 ⟨rfl, hH⟩)
       | (go_at_call 12; refine (hold_or hH (by repeat (first | exact List.Mem.head _ | apply List.Mem.tail)) (by repeat (first | exact List.Mem.head _ | apply List.Mem.tail))).mono ?_; rintro e w1 ⟨x1, rfl, hH⟩)
       | (go_at_call 13; refine (hold_and hH (by repeat (first | exact List.Mem.head _ | apply List.Mem.tail)) (by repeat (first | exact List.Mem.head _ | apply List.Mem.tail))).mono ?_; rintro e w1 ⟨x1, rfl, hH⟩)
       | (go_at_call 14; refine (hold_not hH (by repeat (first | exact List.Mem.head _ | apply List.Mem.tail))).mono ?_; rintro e w1 ⟨x1, rfl, hH⟩)
       | (go_at_call 15; refine (hold_less hH (by repeat (first | exact List.Mem.head _ | apply List.Mem.tail)) (by repeat (first | exact List.Mem.head _ | apply List.Mem.tail))).mono ?_; rintro e w1 ⟨x1, rfl, hH⟩))
     go_ret
     exact ⟨rfl, hH.1⟩)

end Go.Proofs.Ytapjkahpblbnmaa
