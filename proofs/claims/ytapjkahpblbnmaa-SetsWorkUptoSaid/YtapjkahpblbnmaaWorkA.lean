/- Chapter 08, the walk of SetsWork, at a number that may be in a set. -/
import Derived.Test.YtapjkahpblbnmaaWorkBase
namespace Go.Proofs.Ytapjkahpblbnmaa
open Go.RowKit SetPure CanonPure

set_option maxHeartbeats 4000000 in
set_option maxRecDepth 100000 in
theorem work_A (A A' : Option Addr) (c c' : Nat) (l m : List Rg) (r : Int) (w : World) (hl : l.length ≤ 1048576) (hm : m.length ≤ 1048576) (hA : SeqAt Epair w w.heap.size A l) (hA' : SeqAt Epair w w.heap.size A' m) (bl : Bool) (hbl : inB l r = bl) (h0 : 0 ≤ r) (h1 : r ≤ 1114111) (hx : (inB l r && inR r) = bl) :
    Calls Try.prog 7 #[.slice A l.length c, .slice A' m.length c', .int .i64 r] w fun e w' => e = .returned (.bool true) ∧ Below w.heap.size w w' := by
  have HA := Lib.hid hA
  have HA' := Lib.hid hA'
  clear hA hA'
  have HBL := Lib.hid hbl
  obtain ⟨bs, hbs⟩ : ∃ b, sameF (fun z => inB l z && inR z) (fun z => inB m z && inR z) = b := ⟨_, rfl⟩
  have HBS := Lib.hid hbs
  have HBT := Lib.hid (show sameF (fun z => inB m z && inR z) (fun z => inB l z && inR z) = bs by rw [sameF_symm]; exact hbs)
  clear hbl hbs
  have HM1 : Hid True := trivial
  have HM2 : Hid True := trivial
  have HM3 : Hid True := trivial
  have HM4 : Hid True := trivial
  go_enter Try.func7, Try.ntmps7
  have HX := Lib.hid hx
  clear hx
  go_wp2_with (first
       | (go_at_call 8; refine (speaks_any _).mono ?_; rintro e w1 ⟨rfl, hb1⟩; have hH := (Hold.start w).go hb1)
       | (go_at_call 9; clear HM1; refine (made_any A c l _ (by omega) ((HA.out.below hH.1).more hH.1.size)).mono ?_; rintro e w2 ⟨v2, vb2, rfl, hs2, hi2, hb2⟩; obtain ⟨Aa, ca, rfl, _, _, hAa⟩ := hi2; have HAa := Lib.hid hAa; clear hAa; have hH := hH.add hb2 hs2)
       | (go_at_call 9; clear HM2; refine (made_any A' c' m _ (by omega) ((HA'.out.below hH.1).more hH.1.size)).mono ?_; rintro e w3 ⟨v3, vb3, rfl, hs3, hi3, hb3⟩; obtain ⟨Ab, cb, rfl, _, _, hAb⟩ := hi3; have HAb := Lib.hid hAb; clear hAb; have HAa3 := Lib.hid ((HAa.out.below hb3).more hb3.size); have hH := hH.add hb3 hs3; have hW3 := hH.1; have hH := hH.onto (Below.refl _ _))
       | (go_at_call 13; refine (hold_and hH (by repeat (first | exact List.Mem.head _ | apply List.Mem.tail)) (by repeat (first | exact List.Mem.head _ | apply List.Mem.tail))).mono ?_; rintro e w4 ⟨x4, rfl, hH⟩))
  have hWI := (hH.alloc (.cells #[.bool false, .bool true, .bool false, .bool true] 43)).1
  have HAa6 := Lib.hid ((HAa3.out.below hWI).more hWI.size)
  have HAb6 := Lib.hid ((HAb.out.below hWI).more hWI.size)
  have hH := (hH.alloc (.cells #[.bool false, .bool true, .bool false, .bool true] 43)).onto (Below.refl _ _)
  obtain ⟨i0, i1, i2, i3⟩ := is_cells w4
  have I0 := Lib.hid i0
  have I1 := Lib.hid i1
  have I2 := Lib.hid i2
  have I3 := Lib.hid i3
  have hgs : w4.heap.size < (w4.alloc (.cells #[.bool false, .bool true, .bool false, .bool true] 43)).heap.size := by simp
  have HGS := Lib.hid hgs
  generalize w4.alloc (.cells #[.bool false, .bool true, .bool false, .bool true] 43) = w5 at *
  simp only [List.append_eq, List.cons_append, List.nil_append]
  have hH := hH.drew'
  go_region_held3 (fun w' => w'.cell? ⟨w4.heap.size, 0, none⟩ = some (.bool false) ∧ w'.cell? ⟨w4.heap.size, 1, none⟩ = some (.bool true) ∧ w'.cell? ⟨w4.heap.size, 2, none⟩ = some (.bool false) ∧ w'.cell? ⟨w4.heap.size, 3, none⟩ = some (.bool true))
    (first | exact ⟨(hH.1.cell (p := ⟨w4.heap.size, 0, none⟩) HGS.out).trans I0.out, (hH.1.cell (p := ⟨w4.heap.size, 1, none⟩) HGS.out).trans I1.out, (hH.1.cell (p := ⟨w4.heap.size, 2, none⟩) HGS.out).trans I2.out, (hH.1.cell (p := ⟨w4.heap.size, 3, none⟩) HGS.out).trans I3.out⟩ | go_keep)
    ((first
   | (go_at_call 19; refine (hold_canon hH hl hm HAa6.out HAb6.out).mono ?_; rintro e w6 ⟨x6, rfl, hq6, hH⟩; have HQ := Lib.hid hq6; clear hq6)
   | (go_at_call 18; (first | clear HM4 | fail); refine (hold_ref hH (by repeat (first | exact List.Mem.head _ | apply List.Mem.tail)) HQ.out (by intro z hz; simp only [maskB, wantF, hz]; cases inB l z <;> cases inB m z <;> rfl)).mono ?_; rintro e w7 ⟨rfl, hH⟩; have HM4 : Hid True := trivial)
   | (go_at_call 12; refine (hold_or hH (by repeat (first | exact List.Mem.head _ | apply List.Mem.tail)) (by repeat (first | exact List.Mem.head _ | apply List.Mem.tail))).mono ?_; rintro e w7 ⟨x7, rfl, hH⟩)
   | (go_at_call 14; refine (hold_not hH (by repeat (first | exact List.Mem.head _ | apply List.Mem.tail))).mono ?_; rintro e w7 ⟨x7, rfl, hH⟩)
   | (go_at_call 15; refine (hold_less hH (by repeat (first | exact List.Mem.head _ | apply List.Mem.tail)) (by repeat (first | exact List.Mem.head _ | apply List.Mem.tail))).mono ?_; rintro e w7 ⟨x7, rfl, hH⟩)
   | (go_at_call 17; refine (hold_has_eq hH (by repeat (first | exact List.Mem.head _ | apply List.Mem.tail)) r _ HX.out).mono ?_; rintro e w7 ⟨rfl, hH⟩)
   | (go_at_call 20; refine (hold_in hH hl HAa6.out HBL.out).mono ?_; rintro e w7 ⟨rfl, hH⟩)
   | (go_at_call 11; refine (hold_same_dec hH (by repeat (first | exact List.Mem.head _ | apply List.Mem.tail)) (by repeat (first | exact List.Mem.head _ | apply List.Mem.tail)) HBS.out).mono ?_; rintro e w8 ⟨rfl, hH⟩; clear HM4)
   | (go_at_call 18; refine (hold_ref_dec hH (by repeat (first | exact List.Mem.head _ | apply List.Mem.tail)) HQ.out (g := fun z => inB l z && inR z) (by intro z hz; simp only [maskB, wantF, hz]; cases inB l z <;> cases inB m z <;> rfl) HBT.out).mono ?_; rintro e w7 ⟨rfl, hH⟩)))
  go_wp2
  go_ret
  exact ⟨rfl, (Hold.back hW3 (Hold.back hWI hH)).1⟩

end Go.Proofs.Ytapjkahpblbnmaa
