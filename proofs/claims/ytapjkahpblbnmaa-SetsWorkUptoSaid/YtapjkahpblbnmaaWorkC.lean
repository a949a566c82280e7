/- Chapter 08, the walk of SetsWork, at a number that is too small. -/
import Derived.Test.YtapjkahpblbnmaaWorkBase
namespace Go.Proofs.Ytapjkahpblbnmaa
open Go.RowKit SetPure CanonPure

set_option maxHeartbeats 4000000 in
set_option maxRecDepth 100000 in
theorem work_C (A A' : Option Addr) (c c' : Nat) (l m : List Rg) (r : Int) (w : World) (hl : l.length ≤ 1048576) (hm : m.length ≤ 1048576) (hA : SeqAt Epair w w.heap.size A l) (hA' : SeqAt Epair w w.heap.size A' m) (bl : Bool) (hbl : inB l r = bl) (h0 : ¬ 0 ≤ r) (hx : (inB l r && inR r) = false) :
    Calls Try.prog 7 #[.slice A l.length c, .slice A' m.length c', .int .i64 r] w fun e w' => e = .returned (.bool true) ∧ Below w.heap.size w w' := by
  have HA := Lib.hid hA
  have HA' := Lib.hid hA'
  clear hA hA'
  have HBL := Lib.hid hbl
  obtain ⟨bs, hbs⟩ : ∃ b, sameF (fun z => inB l z && inR z) (fun z => inB m z && inR z) = b := ⟨_, rfl⟩
  have HBS := Lib.hid hbs
  have HBT := Lib.hid (show sameF (fun z => inB m z && inR z) (fun z => inB l z && inR z) = bs by rw [sameF_symm]; exact hbs)
  clear hbl hbs
  have hd : decide (0 ≤ r) = false := by simpa using h0
  have HM1 : Hid True := trivial
  have HM2 : Hid True := trivial
  have HM3 : Hid True := trivial
  have HM4 : Hid True := trivial
  go_enter Try.func7, Try.ntmps7
  have HX := Lib.hid hx
  clear hx
  go_wp2_with (first
       | (go_at_call 8; refine (speaks_any _).mono ?_; rintro e w1 ⟨rfl, hb1⟩; have hH := (Hold.start w).go hb1)
       | (go_at_call 9; clear HM1; refine (made_any A c l _ (by omega) ((HA.out.below hH.1).more hH.1.size)).mono ?_; rintro e w2 ⟨v2, vb2, rfl, hs2, hi2, hb2⟩; obtain ⟨Aa, ca, rfl, _, _, hAa⟩ := hi2; have HAa := Lib.hid hAa; clear hAa; have hH := hH.add hb2 hs2)
       | (go_at_call 9; clear HM2; refine (made_any A' c' m _ (by omega) ((HA'.out.below hH.1).more hH.1.size)).mono ?_; rintro e w3 ⟨v3, vb3, rfl, hs3, hi3, hb3⟩; obtain ⟨Ab, cb, rfl, _, _, hAb⟩ := hi3; have HAb := Lib.hid hAb; clear hAb; have HAa3 := Lib.hid ((HAa.out.below hb3).more hb3.size); have hH := hH.add hb3 hs3; have hW3 := hH.1; have hH := hH.onto (Below.refl _ _))
       | (go_at_call 13; refine (hold_and hH (by repeat (first | exact List.Mem.head _ | apply List.Mem.tail)) (by repeat (first | exact List.Mem.head _ | apply List.Mem.tail))).mono ?_; rintro e w4 ⟨x4, rfl, hH⟩))
  have hWI := (hH.alloc (.cells #[.bool false, .bool true, .bool false, .bool true] 43)).1
  have HAa6 := Lib.hid ((HAa3.out.below hWI).more hWI.size)
  have HAb6 := Lib.hid ((HAb.out.below hWI).more hWI.size)
  have hH := (hH.alloc (.cells #[.bool false, .bool true, .bool false, .bool true] 43)).onto (Below.refl _ _)
  obtain ⟨i0, i1, i2, i3⟩ := is_cells w4
  have I0 := Lib.hid i0
  have I1 := Lib.hid i1
  have I2 := Lib.hid i2
  have I3 := Lib.hid i3
  have hgs : w4.heap.size < (w4.alloc (.cells #[.bool false, .bool true, .bool false, .bool true] 43)).heap.size := by simp
  have HGS := Lib.hid hgs
  generalize w4.alloc (.cells #[.bool false, .bool true, .bool false, .bool true] 43) = w5 at *
  simp only [List.append_eq, List.cons_append, List.nil_append]
  have hH := hH.drew'
  refine wp_region_held_drew (S := (fun w' => w'.cell? ⟨w4.heap.size, 0, none⟩ = some (.bool false) ∧ w'.cell? ⟨w4.heap.size, 1, none⟩ = some (.bool true) ∧ w'.cell? ⟨w4.heap.size, 2, none⟩ = some (.bool false) ∧ w'.cell? ⟨w4.heap.size, 3, none⟩ = some (.bool true))) (by kernel_rfl) ?hS (fun hHeld => ?hgo)
  case hS => ((try dsimp only); (first | exact ⟨(hH.1.cell (p := ⟨w4.heap.size, 0, none⟩) HGS.out).trans I0.out, (hH.1.cell (p := ⟨w4.heap.size, 1, none⟩) HGS.out).trans I1.out, (hH.1.cell (p := ⟨w4.heap.size, 2, none⟩) HGS.out).trans I2.out, (hH.1.cell (p := ⟨w4.heap.size, 3, none⟩) HGS.out).trans I3.out⟩ | go_keep))
  refine wpAnyH_take (i := 0) (oi := { dst := some 36, op := Op.move (Operand.tmp 7), type := 25, pos := "law.go:53", after := #[], guard := none }) (v := ?v0) rfl (by kernel_rfl) (by kernel_rfl) (by kernel_rfl) (fun _ _ _ h => h) (Or.inl ⟨by rfl, ?hy0⟩) (by assumption) ?rest0
  case hy0 => (intro w hSw; (try dsimp only at hSw); go_simp; (try with_reducible rfl))
  (try simp only [Act.put, List.setIfInBounds_toArray, List.set_cons_zero, List.set_cons_succ])
  refine wpAnyH_take (i := 1) (oi := { dst := some 37, op := Op.move (Operand.tmp 8), type := 26, pos := "law.go:53", after := #[], guard := none }) (v := ?v1) rfl (by kernel_rfl) (by kernel_rfl) (by kernel_rfl) (fun _ _ _ h => h) (Or.inl ⟨by rfl, ?hy1⟩) (by assumption) ?rest1
  case hy1 => (intro w hSw; (try dsimp only at hSw); go_simp; (try with_reducible rfl))
  (try simp only [Act.put, List.setIfInBounds_toArray, List.set_cons_zero, List.set_cons_succ])
  refine wpAnyH_take (i := 2) (oi := { dst := some 38, op := Op.move (Operand.tmp 10), type := 26, pos := "law.go:53", after := #[], guard := none }) (v := ?v2) rfl (by kernel_rfl) (by kernel_rfl) (by kernel_rfl) (fun _ _ _ h => h) (Or.inl ⟨by rfl, ?hy2⟩) (by assumption) ?rest2
  case hy2 => (intro w hSw; (try dsimp only at hSw); go_simp; (try with_reducible rfl))
  (try simp only [Act.put, List.setIfInBounds_toArray, List.set_cons_zero, List.set_cons_succ])
  refine wpAnyH_take (i := 3) (oi := { dst := some 39, op := Op.load 43 (Operand.tmp 13), type := 43, pos := "law.go:53", after := #[], guard := none }) (v := ?v3) rfl (by kernel_rfl) (by kernel_rfl) (by kernel_rfl) (fun _ _ _ h => h) (Or.inl ⟨by rfl, ?hy3⟩) (by assumption) ?rest3
  case hy3 => (intro w hSw; (try dsimp only at hSw); go_simp; (try with_reducible rfl))
  (try simp only [Act.put, List.setIfInBounds_toArray, List.set_cons_zero, List.set_cons_succ])
  refine wpAnyH_ready (rs := [4]) (by kernel_rfl) (by simp) ?_
  refine AllReadyH.cons (o := { dst := some 40, op := Op.call { callee := Callee.value (Operand.func 19), args := #[Operand.tmp 37, Operand.tmp 38, Operand.tmp 39], argTypes := #[26, 26, 43] }, type := 26, pos := "law.go:53", after := #[{ on := 1, ground := Ground.data }, { on := 2, ground := Ground.data }, { on := 3, ground := Ground.data }], guard := none }) rfl (fun K hK => ?_) AllReadyH.nil
  go_simp
  first
     | (go_at_call 19; refine (hold_canon hH hl hm HAa6.out HAb6.out).mono ?_; rintro e w6 ⟨x6, rfl, hq6, hH⟩; have HQ := Lib.hid hq6; clear hq6)
     | (go_at_call 18; (first | clear HM4 | fail); refine (hold_ref hH (by repeat (first | exact List.Mem.head _ | apply List.Mem.tail)) HQ.out (by intro z hz; simp only [maskB, wantF, hz]; cases inB l z <;> cases inB m z <;> rfl)).mono ?_; rintro e w7 ⟨rfl, hH⟩; have HM4 : Hid True := trivial)
     | (go_at_call 12; refine (hold_or hH (by repeat (first | exact List.Mem.head _ | apply List.Mem.tail)) (by repeat (first | exact List.Mem.head _ | apply List.Mem.tail))).mono ?_; rintro e w7 ⟨x7, rfl, hH⟩)
     | (go_at_call 14; refine (hold_not hH (by repeat (first | exact List.Mem.head _ | apply List.Mem.tail))).mono ?_; rintro e w7 ⟨x7, rfl, hH⟩)
     | (go_at_call 15; refine (hold_less hH (by repeat (first | exact List.Mem.head _ | apply List.Mem.tail)) (by repeat (first | exact List.Mem.head _ | apply List.Mem.tail))).mono ?_; rintro e w7 ⟨x7, rfl, hH⟩)
     | (go_at_call 17; refine (hold_has_eq hH (by repeat (first | exact List.Mem.head _ | apply List.Mem.tail)) r _ HX.out).mono ?_; rintro e w7 ⟨rfl, hH⟩)
     | (go_at_call 20; refine (hold_in hH hl HAa6.out HBL.out).mono ?_; rintro e w7 ⟨rfl, hH⟩)
     | (go_at_call 11; refine (hold_same_dec hH (by repeat (first | exact List.Mem.head _ | apply List.Mem.tail)) (by repeat (first | exact List.Mem.head _ | apply List.Mem.tail)) HBS.out).mono ?_; rintro e w8 ⟨rfl, hH⟩; clear HM4)
     | (go_at_call 18; refine (hold_ref_dec hH (by repeat (first | exact List.Mem.head _ | apply List.Mem.tail)) HQ.out (g := fun z => inB l z && inR z) (by intro z hz; simp only [maskB, wantF, hz]; cases inB l z <;> cases inB m z <;> rfl) HBT.out).mono ?_; rintro e w7 ⟨rfl, hH⟩)
  (try go_wp2_with fail)
  refine hK.out _ _ ?hS4 (fun hHeld => ?hgo4)
  case hS4 => ((try dsimp only); (first | exact ⟨(hH.1.cell (p := ⟨w4.heap.size, 0, none⟩) HGS.out).trans I0.out, (hH.1.cell (p := ⟨w4.heap.size, 1, none⟩) HGS.out).trans I1.out, (hH.1.cell (p := ⟨w4.heap.size, 2, none⟩) HGS.out).trans I2.out, (hH.1.cell (p := ⟨w4.heap.size, 3, none⟩) HGS.out).trans I3.out⟩ | go_keep))
  clear hK K
  (try simp only [Act.put, List.setIfInBounds_toArray, List.set_cons_zero, List.set_cons_succ])
  refine wpAnyH_ready (rs := [5]) (by kernel_rfl) (by simp) ?_
  refine AllReadyH.cons (o := { dst := some 41, op := Op.call { callee := Callee.value (Operand.func 18), args := #[Operand.tmp 36, Operand.tmp 40], argTypes := #[25, 26] }, type := 4, pos := "law.go:53", after := #[{ on := 0, ground := Ground.data }, { on := 4, ground := Ground.data }, { on := 4, ground := Ground.chain }], guard := none }) rfl (fun K hK => ?_) AllReadyH.nil
  go_simp
  first
     | (go_at_call 19; refine (hold_canon hH hl hm HAa6.out HAb6.out).mono ?_; rintro e w6 ⟨x6, rfl, hq6, hH⟩; have HQ := Lib.hid hq6; clear hq6)
     | (go_at_call 18; (first | clear HM4 | fail); refine (hold_ref hH (by repeat (first | exact List.Mem.head _ | apply List.Mem.tail)) HQ.out (by intro z hz; simp only [maskB, wantF, hz]; cases inB l z <;> cases inB m z <;> rfl)).mono ?_; rintro e w7 ⟨rfl, hH⟩; have HM4 : Hid True := trivial)
     | (go_at_call 12; refine (hold_or hH (by repeat (first | exact List.Mem.head _ | apply List.Mem.tail)) (by repeat (first | exact List.Mem.head _ | apply List.Mem.tail))).mono ?_; rintro e w7 ⟨x7, rfl, hH⟩)
     | (go_at_call 14; refine (hold_not hH (by repeat (first | exact List.Mem.head _ | apply List.Mem.tail))).mono ?_; rintro e w7 ⟨x7, rfl, hH⟩)
     | (go_at_call 15; refine (hold_less hH (by repeat (first | exact List.Mem.head _ | apply List.Mem.tail)) (by repeat (first | exact List.Mem.head _ | apply List.Mem.tail))).mono ?_; rintro e w7 ⟨x7, rfl, hH⟩)
     | (go_at_call 17; refine (hold_has_eq hH (by repeat (first | exact List.Mem.head _ | apply List.Mem.tail)) r _ HX.out).mono ?_; rintro e w7 ⟨rfl, hH⟩)
     | (go_at_call 20; refine (hold_in hH hl HAa6.out HBL.out).mono ?_; rintro e w7 ⟨rfl, hH⟩)
     | (go_at_call 11; refine (hold_same_dec hH (by repeat (first | exact List.Mem.head _ | apply List.Mem.tail)) (by repeat (first | exact List.Mem.head _ | apply List.Mem.tail)) HBS.out).mono ?_; rintro e w8 ⟨rfl, hH⟩; clear HM4)
     | (go_at_call 18; refine (hold_ref_dec hH (by repeat (first | exact List.Mem.head _ | apply List.Mem.tail)) HQ.out (g := fun z => inB l z && inR z) (by intro z hz; simp only [maskB, wantF, hz]; cases inB l z <;> cases inB m z <;> rfl) HBT.out).mono ?_; rintro e w7 ⟨rfl, hH⟩)
  (try go_wp2_with fail)
  refine hK.out _ _ ?hS5 (fun hHeld => ?hgo5)
  case hS5 => ((try dsimp only); (first | exact ⟨(hH.1.cell (p := ⟨w4.heap.size, 0, none⟩) HGS.out).trans I0.out, (hH.1.cell (p := ⟨w4.heap.size, 1, none⟩) HGS.out).trans I1.out, (hH.1.cell (p := ⟨w4.heap.size, 2, none⟩) HGS.out).trans I2.out, (hH.1.cell (p := ⟨w4.heap.size, 3, none⟩) HGS.out).trans I3.out⟩ | go_keep))
  clear hK K
  (try simp only [Act.put, List.setIfInBounds_toArray, List.set_cons_zero, List.set_cons_succ])
  refine wpAnyH_take (i := 6) (oi := { dst := some 42, op := Op.move (Operand.tmp 41), type := 4, pos := "law.go:53", after := #[{ on := 5, ground := Ground.data }, { on := 5, ground := Ground.chain }], guard := none }) (v := ?v6) rfl (by kernel_rfl) (by kernel_rfl) (by kernel_rfl) (fun _ _ _ h => h) (Or.inl ⟨by rfl, ?hy6⟩) (by assumption) ?rest6
  case hy6 => (intro w hSw; (try dsimp only at hSw); go_simp; (try with_reducible rfl))
  (try simp only [Act.put, List.setIfInBounds_toArray, List.set_cons_zero, List.set_cons_succ])
  refine wpAnyH_take (i := 7) (oi := { dst := some 43, op := Op.move (Operand.tmp 7), type := 25, pos := "law.go:53", after := #[{ on := 6, ground := Ground.guard }], guard := some (6, true) }) (v := ?v7) rfl (by kernel_rfl) (by kernel_rfl) (by kernel_rfl) (fun _ _ _ h => h) (Or.inl ⟨by rfl, ?hy7⟩) (by assumption) ?rest7
  case hy7 => (intro w hSw; (try dsimp only at hSw); go_simp; (try with_reducible rfl))
  (try simp only [Act.put, List.setIfInBounds_toArray, List.set_cons_zero, List.set_cons_succ])
  refine wpAnyH_take (i := 8) (oi := { dst := some 44, op := Op.move (Operand.tmp 9), type := 25, pos := "law.go:53", after := #[{ on := 6, ground := Ground.guard }], guard := some (6, true) }) (v := ?v8) rfl (by kernel_rfl) (by kernel_rfl) (by kernel_rfl) (fun _ _ _ h => h) (Or.inl ⟨by rfl, ?hy8⟩) (by assumption) ?rest8
  case hy8 => (intro w hSw; (try dsimp only at hSw); go_simp; (try with_reducible rfl))
  (try simp only [Act.put, List.setIfInBounds_toArray, List.set_cons_zero, List.set_cons_succ])
  refine wpAnyH_take (i := 10) (oi := { dst := some 46, op := Op.move (Operand.tmp 8), type := 26, pos := "law.go:53", after := #[{ on := 6, ground := Ground.guard }], guard := some (6, true) }) (v := ?v10) rfl (by kernel_rfl) (by kernel_rfl) (by kernel_rfl) (fun _ _ _ h => h) (Or.inl ⟨by rfl, ?hy10⟩) (by assumption) ?rest10
  case hy10 => (intro w hSw; (try dsimp only at hSw); go_simp; (try with_reducible rfl))
  (try simp only [Act.put, List.setIfInBounds_toArray, List.set_cons_zero, List.set_cons_succ])
  refine wpAnyH_take (i := 11) (oi := { dst := some 47, op := Op.move (Operand.tmp 10), type := 26, pos := "law.go:53", after := #[{ on := 6, ground := Ground.guard }], guard := some (6, true) }) (v := ?v11) rfl (by kernel_rfl) (by kernel_rfl) (by kernel_rfl) (fun _ _ _ h => h) (Or.inl ⟨by rfl, ?hy11⟩) (by assumption) ?rest11
  case hy11 => (intro w hSw; (try dsimp only at hSw); go_simp; (try with_reducible rfl))
  (try simp only [Act.put, List.setIfInBounds_toArray, List.set_cons_zero, List.set_cons_succ])
  refine wpAnyH_take (i := 12) (oi := { dst := some 48, op := Op.build 43 #[(0, Operand.const (Value.bool false)), (1, Operand.const (Value.bool true)), (2, Operand.const (Value.bool true)), (3, Operand.const (Value.bool true))], type := 43, pos := "law.go:53", after := #[{ on := 6, ground := Ground.guard }], guard := some (6, true) }) (v := ?v12) rfl (by kernel_rfl) (by kernel_rfl) (by kernel_rfl) (fun _ _ _ h => h) (Or.inl ⟨by rfl, ?hy12⟩) (by assumption) ?rest12
  case hy12 => (intro w hSw; (try dsimp only at hSw); go_simp; (try with_reducible rfl))
  (try simp only [Act.put, List.setIfInBounds_toArray, List.set_cons_zero, List.set_cons_succ])
  refine wpAnyH_ready (rs := [9]) (by kernel_rfl) (by simp) ?_
  refine AllReadyH.cons (o := { dst := some 45, op := Op.call { callee := Callee.value (Operand.func 12), args := #[Operand.tmp 43, Operand.tmp 44], argTypes := #[25, 25] }, type := 25, pos := "law.go:53", after := #[{ on := 7, ground := Ground.data }, { on := 8, ground := Ground.data }, { on := 6, ground := Ground.chain }, { on := 6, ground := Ground.guard }], guard := some (6, true) }) rfl (fun K hK => ?_) AllReadyH.nil
  go_simp
  first
     | (go_at_call 19; refine (hold_canon hH hl hm HAa6.out HAb6.out).mono ?_; rintro e w6 ⟨x6, rfl, hq6, hH⟩; have HQ := Lib.hid hq6; clear hq6)
     | (go_at_call 18; (first | clear HM4 | fail); refine (hold_ref hH (by repeat (first | exact List.Mem.head _ | apply List.Mem.tail)) HQ.out (by intro z hz; simp only [maskB, wantF, hz]; cases inB l z <;> cases inB m z <;> rfl)).mono ?_; rintro e w7 ⟨rfl, hH⟩; have HM4 : Hid True := trivial)
     | (go_at_call 12; refine (hold_or hH (by repeat (first | exact List.Mem.head _ | apply List.Mem.tail)) (by repeat (first | exact List.Mem.head _ | apply List.Mem.tail))).mono ?_; rintro e w7 ⟨x7, rfl, hH⟩)
     | (go_at_call 14; refine (hold_not hH (by repeat (first | exact List.Mem.head _ | apply List.Mem.tail))).mono ?_; rintro e w7 ⟨x7, rfl, hH⟩)
     | (go_at_call 15; refine (hold_less hH (by repeat (first | exact List.Mem.head _ | apply List.Mem.tail)) (by repeat (first | exact List.Mem.head _ | apply List.Mem.tail))).mono ?_; rintro e w7 ⟨x7, rfl, hH⟩)
     | (go_at_call 17; refine (hold_has_eq hH (by repeat (first | exact List.Mem.head _ | apply List.Mem.tail)) r _ HX.out).mono ?_; rintro e w7 ⟨rfl, hH⟩)
     | (go_at_call 20; refine (hold_in hH hl HAa6.out HBL.out).mono ?_; rintro e w7 ⟨rfl, hH⟩)
     | (go_at_call 11; refine (hold_same_dec hH (by repeat (first | exact List.Mem.head _ | apply List.Mem.tail)) (by repeat (first | exact List.Mem.head _ | apply List.Mem.tail)) HBS.out).mono ?_; rintro e w8 ⟨rfl, hH⟩; clear HM4)
     | (go_at_call 18; refine (hold_ref_dec hH (by repeat (first | exact List.Mem.head _ | apply List.Mem.tail)) HQ.out (g := fun z => inB l z && inR z) (by intro z hz; simp only [maskB, wantF, hz]; cases inB l z <;> cases inB m z <;> rfl) HBT.out).mono ?_; rintro e w7 ⟨rfl, hH⟩)
  (try go_wp2_with fail)
  refine hK.out _ _ ?hS9 (fun hHeld => ?hgo9)
  case hS9 => ((try dsimp only); (first | exact ⟨(hH.1.cell (p := ⟨w4.heap.size, 0, none⟩) HGS.out).trans I0.out, (hH.1.cell (p := ⟨w4.heap.size, 1, none⟩) HGS.out).trans I1.out, (hH.1.cell (p := ⟨w4.heap.size, 2, none⟩) HGS.out).trans I2.out, (hH.1.cell (p := ⟨w4.heap.size, 3, none⟩) HGS.out).trans I3.out⟩ | go_keep))
  clear hK K
  (try simp only [Act.put, List.setIfInBounds_toArray, List.set_cons_zero, List.set_cons_succ])
  refine wpAnyH_ready (rs := [13]) (by kernel_rfl) (by simp) ?_
  refine AllReadyH.cons (o := { dst := some 49, op := Op.call { callee := Callee.value (Operand.func 19), args := #[Operand.tmp 46, Operand.tmp 47, Operand.tmp 48], argTypes := #[26, 26, 43] }, type := 26, pos := "law.go:53", after := #[{ on := 10, ground := Ground.data }, { on := 11, ground := Ground.data }, { on := 12, ground := Ground.data }, { on := 9, ground := Ground.chain }, { on := 6, ground := Ground.guard }], guard := some (6, true) }) rfl (fun K hK => ?_) AllReadyH.nil
  go_simp
  first
     | (go_at_call 19; refine (hold_canon hH hl hm HAa6.out HAb6.out).mono ?_; rintro e w6 ⟨x6, rfl, hq6, hH⟩; have HQ := Lib.hid hq6; clear hq6)
     | (go_at_call 18; (first | clear HM4 | fail); refine (hold_ref hH (by repeat (first | exact List.Mem.head _ | apply List.Mem.tail)) HQ.out (by intro z hz; simp only [maskB, wantF, hz]; cases inB l z <;> cases inB m z <;> rfl)).mono ?_; rintro e w7 ⟨rfl, hH⟩; have HM4 : Hid True := trivial)
     | (go_at_call 12; refine (hold_or hH (by repeat (first | exact List.Mem.head _ | apply List.Mem.tail)) (by repeat (first | exact List.Mem.head _ | apply List.Mem.tail))).mono ?_; rintro e w7 ⟨x7, rfl, hH⟩)
     | (go_at_call 14; refine (hold_not hH (by repeat (first | exact List.Mem.head _ | apply List.Mem.tail))).mono ?_; rintro e w7 ⟨x7, rfl, hH⟩)
     | (go_at_call 15; refine (hold_less hH (by repeat (first | exact List.Mem.head _ | apply List.Mem.tail)) (by repeat (first | exact List.Mem.head _ | apply List.Mem.tail))).mono ?_; rintro e w7 ⟨x7, rfl, hH⟩)
     | (go_at_call 17; refine (hold_has_eq hH (by repeat (first | exact List.Mem.head _ | apply List.Mem.tail)) r _ HX.out).mono ?_; rintro e w7 ⟨rfl, hH⟩)
     | (go_at_call 20; refine (hold_in hH hl HAa6.out HBL.out).mono ?_; rintro e w7 ⟨rfl, hH⟩)
     | (go_at_call 11; refine (hold_same_dec hH (by repeat (first | exact List.Mem.head _ | apply List.Mem.tail)) (by repeat (first | exact List.Mem.head _ | apply List.Mem.tail)) HBS.out).mono ?_; rintro e w8 ⟨rfl, hH⟩; clear HM4)
     | (go_at_call 18; refine (hold_ref_dec hH (by repeat (first | exact List.Mem.head _ | apply List.Mem.tail)) HQ.out (g := fun z => inB l z && inR z) (by intro z hz; simp only [maskB, wantF, hz]; cases inB l z <;> cases inB m z <;> rfl) HBT.out).mono ?_; rintro e w7 ⟨rfl, hH⟩)
  (try go_wp2_with fail)
  refine hK.out _ _ ?hS13 (fun hHeld => ?hgo13)
  case hS13 => ((try dsimp only); (first | exact ⟨(hH.1.cell (p := ⟨w4.heap.size, 0, none⟩) HGS.out).trans I0.out, (hH.1.cell (p := ⟨w4.heap.size, 1, none⟩) HGS.out).trans I1.out, (hH.1.cell (p := ⟨w4.heap.size, 2, none⟩) HGS.out).trans I2.out, (hH.1.cell (p := ⟨w4.heap.size, 3, none⟩) HGS.out).trans I3.out⟩ | go_keep))
  clear hK K
  (try simp only [Act.put, List.setIfInBounds_toArray, List.set_cons_zero, List.set_cons_succ])
  refine wpAnyH_ready (rs := [14]) (by kernel_rfl) (by simp) ?_
  refine AllReadyH.cons (o := { dst := some 50, op := Op.call { callee := Callee.value (Operand.func 18), args := #[Operand.tmp 45, Operand.tmp 49], argTypes := #[25, 26] }, type := 4, pos := "law.go:53", after := #[{ on := 9, ground := Ground.data }, { on := 13, ground := Ground.data }, { on := 13, ground := Ground.chain }, { on := 6, ground := Ground.guard }], guard := some (6, true) }) rfl (fun K hK => ?_) AllReadyH.nil
  go_simp
  first
     | (go_at_call 19; refine (hold_canon hH hl hm HAa6.out HAb6.out).mono ?_; rintro e w6 ⟨x6, rfl, hq6, hH⟩; have HQ := Lib.hid hq6; clear hq6)
     | (go_at_call 18; (first | clear HM4 | fail); refine (hold_ref hH (by repeat (first | exact List.Mem.head _ | apply List.Mem.tail)) HQ.out (by intro z hz; simp only [maskB, wantF, hz]; cases inB l z <;> cases inB m z <;> rfl)).mono ?_; rintro e w7 ⟨rfl, hH⟩; have HM4 : Hid True := trivial)
     | (go_at_call 12; refine (hold_or hH (by repeat (first | exact List.Mem.head _ | apply List.Mem.tail)) (by repeat (first | exact List.Mem.head _ | apply List.Mem.tail))).mono ?_; rintro e w7 ⟨x7, rfl, hH⟩)
     | (go_at_call 14; refine (hold_not hH (by repeat (first | exact List.Mem.head _ | apply List.Mem.tail))).mono ?_; rintro e w7 ⟨x7, rfl, hH⟩)
     | (go_at_call 15; refine (hold_less hH (by repeat (first | exact List.Mem.head _ | apply List.Mem.tail)) (by repeat (first | exact List.Mem.head _ | apply List.Mem.tail))).mono ?_; rintro e w7 ⟨x7, rfl, hH⟩)
     | (go_at_call 17; refine (hold_has_eq hH (by repeat (first | exact List.Mem.head _ | apply List.Mem.tail)) r _ HX.out).mono ?_; rintro e w7 ⟨rfl, hH⟩)
     | (go_at_call 20; refine (hold_in hH hl HAa6.out HBL.out).mono ?_; rintro e w7 ⟨rfl, hH⟩)
     | (go_at_call 11; refine (hold_same_dec hH (by repeat (first | exact List.Mem.head _ | apply List.Mem.tail)) (by repeat (first | exact List.Mem.head _ | apply List.Mem.tail)) HBS.out).mono ?_; rintro e w8 ⟨rfl, hH⟩; clear HM4)
     | (go_at_call 18; refine (hold_ref_dec hH (by repeat (first | exact List.Mem.head _ | apply List.Mem.tail)) HQ.out (g := fun z => inB l z && inR z) (by intro z hz; simp only [maskB, wantF, hz]; cases inB l z <;> cases inB m z <;> rfl) HBT.out).mono ?_; rintro e w7 ⟨rfl, hH⟩)
  (try go_wp2_with fail)
  refine hK.out _ _ ?hS14 (fun hHeld => ?hgo14)
  case hS14 => ((try dsimp only); (first | exact ⟨(hH.1.cell (p := ⟨w4.heap.size, 0, none⟩) HGS.out).trans I0.out, (hH.1.cell (p := ⟨w4.heap.size, 1, none⟩) HGS.out).trans I1.out, (hH.1.cell (p := ⟨w4.heap.size, 2, none⟩) HGS.out).trans I2.out, (hH.1.cell (p := ⟨w4.heap.size, 3, none⟩) HGS.out).trans I3.out⟩ | go_keep))
  clear hK K
  (try simp only [Act.put, List.setIfInBounds_toArray, List.set_cons_zero, List.set_cons_succ])
  refine wpAnyH_take (i := 15) (oi := { dst := some 51, op := Op.pick (Operand.tmp 42) (Operand.tmp 50) (Operand.const (Value.bool false)), type := 4, pos := "law.go:53", after := #[{ on := 6, ground := Ground.data }, { on := 14, ground := Ground.data }], guard := none }) (v := ?v15) rfl (by kernel_rfl) (by kernel_rfl) (by kernel_rfl) (fun _ _ _ h => h) (Or.inl ⟨by rfl, ?hy15⟩) (by assumption) ?rest15
  case hy15 => (intro w hSw; (try dsimp only at hSw); go_simp; (try with_reducible rfl))
  (try simp only [Act.put, List.setIfInBounds_toArray, List.set_cons_zero, List.set_cons_succ])
  refine wpAnyH_take (i := 16) (oi := { dst := some 52, op := Op.move (Operand.tmp 51), type := 4, pos := "law.go:53", after := #[{ on := 15, ground := Ground.data }, { on := 14, ground := Ground.chain }], guard := none }) (v := ?v16) rfl (by kernel_rfl) (by kernel_rfl) (by kernel_rfl) (fun _ _ _ h => h) (Or.inl ⟨by rfl, ?hy16⟩) (by assumption) ?rest16
  case hy16 => (intro w hSw; (try dsimp only at hSw); go_simp; (try with_reducible rfl))
  (try simp only [Act.put, List.setIfInBounds_toArray, List.set_cons_zero, List.set_cons_succ])
  refine wpAnyH_take (i := 17) (oi := { dst := some 53, op := Op.move (Operand.tmp 12), type := 25, pos := "law.go:53", after := #[{ on := 16, ground := Ground.guard }], guard := some (16, true) }) (v := ?v17) rfl (by kernel_rfl) (by kernel_rfl) (by kernel_rfl) (fun _ _ _ h => h) (Or.inl ⟨by rfl, ?hy17⟩) (by assumption) ?rest17
  case hy17 => (intro w hSw; (try dsimp only at hSw); go_simp; (try with_reducible rfl))
  (try simp only [Act.put, List.setIfInBounds_toArray, List.set_cons_zero, List.set_cons_succ])
  refine wpAnyH_take (i := 18) (oi := { dst := some 54, op := Op.move (Operand.tmp 8), type := 26, pos := "law.go:53", after := #[{ on := 16, ground := Ground.guard }], guard := some (16, true) }) (v := ?v18) rfl (by kernel_rfl) (by kernel_rfl) (by kernel_rfl) (fun _ _ _ h => h) (Or.inl ⟨by rfl, ?hy18⟩) (by assumption) ?rest18
  case hy18 => (intro w hSw; (try dsimp only at hSw); go_simp; (try with_reducible rfl))
  (try simp only [Act.put, List.setIfInBounds_toArray, List.set_cons_zero, List.set_cons_succ])
  refine wpAnyH_take (i := 19) (oi := { dst := some 55, op := Op.move (Operand.tmp 10), type := 26, pos := "law.go:53", after := #[{ on := 16, ground := Ground.guard }], guard := some (16, true) }) (v := ?v19) rfl (by kernel_rfl) (by kernel_rfl) (by kernel_rfl) (fun _ _ _ h => h) (Or.inl ⟨by rfl, ?hy19⟩) (by assumption) ?rest19
  case hy19 => (intro w hSw; (try dsimp only at hSw); go_simp; (try with_reducible rfl))
  (try simp only [Act.put, List.setIfInBounds_toArray, List.set_cons_zero, List.set_cons_succ])
  refine wpAnyH_take (i := 20) (oi := { dst := some 56, op := Op.build 43 #[(0, Operand.const (Value.bool false)), (1, Operand.const (Value.bool false)), (2, Operand.const (Value.bool false)), (3, Operand.const (Value.bool true))], type := 43, pos := "law.go:53", after := #[{ on := 16, ground := Ground.guard }], guard := some (16, true) }) (v := ?v20) rfl (by kernel_rfl) (by kernel_rfl) (by kernel_rfl) (fun _ _ _ h => h) (Or.inl ⟨by rfl, ?hy20⟩) (by assumption) ?rest20
  case hy20 => (intro w hSw; (try dsimp only at hSw); go_simp; (try with_reducible rfl))
  (try simp only [Act.put, List.setIfInBounds_toArray, List.set_cons_zero, List.set_cons_succ])
  refine wpAnyH_ready (rs := [21]) (by kernel_rfl) (by simp) ?_
  refine AllReadyH.cons (o := { dst := some 57, op := Op.call { callee := Callee.value (Operand.func 19), args := #[Operand.tmp 54, Operand.tmp 55, Operand.tmp 56], argTypes := #[26, 26, 43] }, type := 26, pos := "law.go:53", after := #[{ on := 18, ground := Ground.data }, { on := 19, ground := Ground.data }, { on := 20, ground := Ground.data }, { on := 16, ground := Ground.chain }, { on := 16, ground := Ground.guard }], guard := some (16, true) }) rfl (fun K hK => ?_) AllReadyH.nil
  go_simp
  first
     | (go_at_call 19; refine (hold_canon hH hl hm HAa6.out HAb6.out).mono ?_; rintro e w6 ⟨x6, rfl, hq6, hH⟩; have HQ := Lib.hid hq6; clear hq6)
     | (go_at_call 18; (first | clear HM4 | fail); refine (hold_ref hH (by repeat (first | exact List.Mem.head _ | apply List.Mem.tail)) HQ.out (by intro z hz; simp only [maskB, wantF, hz]; cases inB l z <;> cases inB m z <;> rfl)).mono ?_; rintro e w7 ⟨rfl, hH⟩; have HM4 : Hid True := trivial)
     | (go_at_call 12; refine (hold_or hH (by repeat (first | exact List.Mem.head _ | apply List.Mem.tail)) (by repeat (first | exact List.Mem.head _ | apply List.Mem.tail))).mono ?_; rintro e w7 ⟨x7, rfl, hH⟩)
     | (go_at_call 14; refine (hold_not hH (by repeat (first | exact List.Mem.head _ | apply List.Mem.tail))).mono ?_; rintro e w7 ⟨x7, rfl, hH⟩)
     | (go_at_call 15; refine (hold_less hH (by repeat (first | exact List.Mem.head _ | apply List.Mem.tail)) (by repeat (first | exact List.Mem.head _ | apply List.Mem.tail))).mono ?_; rintro e w7 ⟨x7, rfl, hH⟩)
     | (go_at_call 17; refine (hold_has_eq hH (by repeat (first | exact List.Mem.head _ | apply List.Mem.tail)) r _ HX.out).mono ?_; rintro e w7 ⟨rfl, hH⟩)
     | (go_at_call 20; refine (hold_in hH hl HAa6.out HBL.out).mono ?_; rintro e w7 ⟨rfl, hH⟩)
     | (go_at_call 11; refine (hold_same_dec hH (by repeat (first | exact List.Mem.head _ | apply List.Mem.tail)) (by repeat (first | exact List.Mem.head _ | apply List.Mem.tail)) HBS.out).mono ?_; rintro e w8 ⟨rfl, hH⟩; clear HM4)
     | (go_at_call 18; refine (hold_ref_dec hH (by repeat (first | exact List.Mem.head _ | apply List.Mem.tail)) HQ.out (g := fun z => inB l z && inR z) (by intro z hz; simp only [maskB, wantF, hz]; cases inB l z <;> cases inB m z <;> rfl) HBT.out).mono ?_; rintro e w7 ⟨rfl, hH⟩)
  (try go_wp2_with fail)
  refine hK.out _ _ ?hS21 (fun hHeld => ?hgo21)
  case hS21 => ((try dsimp only); (first | exact ⟨(hH.1.cell (p := ⟨w4.heap.size, 0, none⟩) HGS.out).trans I0.out, (hH.1.cell (p := ⟨w4.heap.size, 1, none⟩) HGS.out).trans I1.out, (hH.1.cell (p := ⟨w4.heap.size, 2, none⟩) HGS.out).trans I2.out, (hH.1.cell (p := ⟨w4.heap.size, 3, none⟩) HGS.out).trans I3.out⟩ | go_keep))
  clear hK K
  (try simp only [Act.put, List.setIfInBounds_toArray, List.set_cons_zero, List.set_cons_succ])
  refine wpAnyH_ready (rs := [22]) (by kernel_rfl) (by simp) ?_
  refine AllReadyH.cons (o := { dst := some 58, op := Op.call { callee := Callee.value (Operand.func 18), args := #[Operand.tmp 53, Operand.tmp 57], argTypes := #[25, 26] }, type := 4, pos := "law.go:53", after := #[{ on := 17, ground := Ground.data }, { on := 21, ground := Ground.data }, { on := 21, ground := Ground.chain }, { on := 16, ground := Ground.guard }], guard := some (16, true) }) rfl (fun K hK => ?_) AllReadyH.nil
  go_simp
  first
     | (go_at_call 19; refine (hold_canon hH hl hm HAa6.out HAb6.out).mono ?_; rintro e w6 ⟨x6, rfl, hq6, hH⟩; have HQ := Lib.hid hq6; clear hq6)
     | (go_at_call 18; (first | clear HM4 | fail); refine (hold_ref hH (by repeat (first | exact List.Mem.head _ | apply List.Mem.tail)) HQ.out (by intro z hz; simp only [maskB, wantF, hz]; cases inB l z <;> cases inB m z <;> rfl)).mono ?_; rintro e w7 ⟨rfl, hH⟩; have HM4 : Hid True := trivial)
     | (go_at_call 12; refine (hold_or hH (by repeat (first | exact List.Mem.head _ | apply List.Mem.tail)) (by repeat (first | exact List.Mem.head _ | apply List.Mem.tail))).mono ?_; rintro e w7 ⟨x7, rfl, hH⟩)
     | (go_at_call 14; refine (hold_not hH (by repeat (first | exact List.Mem.head _ | apply List.Mem.tail))).mono ?_; rintro e w7 ⟨x7, rfl, hH⟩)
     | (go_at_call 15; refine (hold_less hH (by repeat (first | exact List.Mem.head _ | apply List.Mem.tail)) (by repeat (first | exact List.Mem.head _ | apply List.Mem.tail))).mono ?_; rintro e w7 ⟨x7, rfl, hH⟩)
     | (go_at_call 17; refine (hold_has_eq hH (by repeat (first | exact List.Mem.head _ | apply List.Mem.tail)) r _ HX.out).mono ?_; rintro e w7 ⟨rfl, hH⟩)
     | (go_at_call 20; refine (hold_in hH hl HAa6.out HBL.out).mono ?_; rintro e w7 ⟨rfl, hH⟩)
     | (go_at_call 11; refine (hold_same_dec hH (by repeat (first | exact List.Mem.head _ | apply List.Mem.tail)) (by repeat (first | exact List.Mem.head _ | apply List.Mem.tail)) HBS.out).mono ?_; rintro e w8 ⟨rfl, hH⟩; clear HM4)
     | (go_at_call 18; refine (hold_ref_dec hH (by repeat (first | exact List.Mem.head _ | apply List.Mem.tail)) HQ.out (g := fun z => inB l z && inR z) (by intro z hz; simp only [maskB, wantF, hz]; cases inB l z <;> cases inB m z <;> rfl) HBT.out).mono ?_; rintro e w7 ⟨rfl, hH⟩)
  (try go_wp2_with fail)
  refine hK.out _ _ ?hS22 (fun hHeld => ?hgo22)
  case hS22 => ((try dsimp only); (first | exact ⟨(hH.1.cell (p := ⟨w4.heap.size, 0, none⟩) HGS.out).trans I0.out, (hH.1.cell (p := ⟨w4.heap.size, 1, none⟩) HGS.out).trans I1.out, (hH.1.cell (p := ⟨w4.heap.size, 2, none⟩) HGS.out).trans I2.out, (hH.1.cell (p := ⟨w4.heap.size, 3, none⟩) HGS.out).trans I3.out⟩ | go_keep))
  clear hK K
  (try simp only [Act.put, List.setIfInBounds_toArray, List.set_cons_zero, List.set_cons_succ])
  refine wpAnyH_take (i := 23) (oi := { dst := some 59, op := Op.pick (Operand.tmp 52) (Operand.tmp 58) (Operand.const (Value.bool false)), type := 4, pos := "law.go:53", after := #[{ on := 16, ground := Ground.data }, { on := 22, ground := Ground.data }], guard := none }) (v := ?v23) rfl (by kernel_rfl) (by kernel_rfl) (by kernel_rfl) (fun _ _ _ h => h) (Or.inl ⟨by rfl, ?hy23⟩) (by assumption) ?rest23
  case hy23 => (intro w hSw; (try dsimp only at hSw); go_simp; (try with_reducible rfl))
  (try simp only [Act.put, List.setIfInBounds_toArray, List.set_cons_zero, List.set_cons_succ])
  refine wpAnyH_take (i := 24) (oi := { dst := some 60, op := Op.move (Operand.tmp 59), type := 4, pos := "law.go:53", after := #[{ on := 23, ground := Ground.data }, { on := 22, ground := Ground.chain }], guard := none }) (v := ?v24) rfl (by kernel_rfl) (by kernel_rfl) (by kernel_rfl) (fun _ _ _ h => h) (Or.inl ⟨by rfl, ?hy24⟩) (by assumption) ?rest24
  case hy24 => (intro w hSw; (try dsimp only at hSw); go_simp; (try with_reducible rfl))
  (try simp only [Act.put, List.setIfInBounds_toArray, List.set_cons_zero, List.set_cons_succ])
  refine wpAnyH_take (i := 25) (oi := { dst := some 61, op := Op.move (Operand.tmp 7), type := 25, pos := "law.go:53", after := #[{ on := 24, ground := Ground.guard }], guard := some (24, true) }) (v := ?v25) rfl (by kernel_rfl) (by kernel_rfl) (by kernel_rfl) (fun _ _ _ h => h) (Or.inl ⟨by rfl, ?hy25⟩) (by assumption) ?rest25
  case hy25 => (intro w hSw; (try dsimp only at hSw); go_simp; (try with_reducible rfl))
  (try simp only [Act.put, List.setIfInBounds_toArray, List.set_cons_zero, List.set_cons_succ])
  refine wpAnyH_take (i := 27) (oi := { dst := some 63, op := Op.move (Operand.tmp 8), type := 26, pos := "law.go:53", after := #[{ on := 24, ground := Ground.guard }], guard := some (24, true) }) (v := ?v27) rfl (by kernel_rfl) (by kernel_rfl) (by kernel_rfl) (fun _ _ _ h => h) (Or.inl ⟨by rfl, ?hy27⟩) (by assumption) ?rest27
  case hy27 => (intro w hSw; (try dsimp only at hSw); go_simp; (try with_reducible rfl))
  (try simp only [Act.put, List.setIfInBounds_toArray, List.set_cons_zero, List.set_cons_succ])
  refine wpAnyH_take (i := 28) (oi := { dst := some 64, op := Op.move (Operand.tmp 10), type := 26, pos := "law.go:53", after := #[{ on := 24, ground := Ground.guard }], guard := some (24, true) }) (v := ?v28) rfl (by kernel_rfl) (by kernel_rfl) (by kernel_rfl) (fun _ _ _ h => h) (Or.inl ⟨by rfl, ?hy28⟩) (by assumption) ?rest28
  case hy28 => (intro w hSw; (try dsimp only at hSw); go_simp; (try with_reducible rfl))
  (try simp only [Act.put, List.setIfInBounds_toArray, List.set_cons_zero, List.set_cons_succ])
  refine wpAnyH_take (i := 29) (oi := { dst := some 65, op := Op.build 43 #[(0, Operand.const (Value.bool true)), (1, Operand.const (Value.bool false)), (2, Operand.const (Value.bool true)), (3, Operand.const (Value.bool false))], type := 43, pos := "law.go:53", after := #[{ on := 24, ground := Ground.guard }], guard := some (24, true) }) (v := ?v29) rfl (by kernel_rfl) (by kernel_rfl) (by kernel_rfl) (fun _ _ _ h => h) (Or.inl ⟨by rfl, ?hy29⟩) (by assumption) ?rest29
  case hy29 => (intro w hSw; (try dsimp only at hSw); go_simp; (try with_reducible rfl))
  (try simp only [Act.put, List.setIfInBounds_toArray, List.set_cons_zero, List.set_cons_succ])
  refine wpAnyH_ready (rs := [26]) (by kernel_rfl) (by simp) ?_
  refine AllReadyH.cons (o := { dst := some 62, op := Op.call { callee := Callee.value (Operand.func 14), args := #[Operand.tmp 61], argTypes := #[25] }, type := 25, pos := "law.go:53", after := #[{ on := 25, ground := Ground.data }, { on := 24, ground := Ground.chain }, { on := 24, ground := Ground.guard }], guard := some (24, true) }) rfl (fun K hK => ?_) AllReadyH.nil
  go_simp
  first
     | (go_at_call 19; refine (hold_canon hH hl hm HAa6.out HAb6.out).mono ?_; rintro e w6 ⟨x6, rfl, hq6, hH⟩; have HQ := Lib.hid hq6; clear hq6)
     | (go_at_call 18; (first | clear HM4 | fail); refine (hold_ref hH (by repeat (first | exact List.Mem.head _ | apply List.Mem.tail)) HQ.out (by intro z hz; simp only [maskB, wantF, hz]; cases inB l z <;> cases inB m z <;> rfl)).mono ?_; rintro e w7 ⟨rfl, hH⟩; have HM4 : Hid True := trivial)
     | (go_at_call 12; refine (hold_or hH (by repeat (first | exact List.Mem.head _ | apply List.Mem.tail)) (by repeat (first | exact List.Mem.head _ | apply List.Mem.tail))).mono ?_; rintro e w7 ⟨x7, rfl, hH⟩)
     | (go_at_call 14; refine (hold_not hH (by repeat (first | exact List.Mem.head _ | apply List.Mem.tail))).mono ?_; rintro e w7 ⟨x7, rfl, hH⟩)
     | (go_at_call 15; refine (hold_less hH (by repeat (first | exact List.Mem.head _ | apply List.Mem.tail)) (by repeat (first | exact List.Mem.head _ | apply List.Mem.tail))).mono ?_; rintro e w7 ⟨x7, rfl, hH⟩)
     | (go_at_call 17; refine (hold_has_eq hH (by repeat (first | exact List.Mem.head _ | apply List.Mem.tail)) r _ HX.out).mono ?_; rintro e w7 ⟨rfl, hH⟩)
     | (go_at_call 20; refine (hold_in hH hl HAa6.out HBL.out).mono ?_; rintro e w7 ⟨rfl, hH⟩)
     | (go_at_call 11; refine (hold_same_dec hH (by repeat (first | exact List.Mem.head _ | apply List.Mem.tail)) (by repeat (first | exact List.Mem.head _ | apply List.Mem.tail)) HBS.out).mono ?_; rintro e w8 ⟨rfl, hH⟩; clear HM4)
     | (go_at_call 18; refine (hold_ref_dec hH (by repeat (first | exact List.Mem.head _ | apply List.Mem.tail)) HQ.out (g := fun z => inB l z && inR z) (by intro z hz; simp only [maskB, wantF, hz]; cases inB l z <;> cases inB m z <;> rfl) HBT.out).mono ?_; rintro e w7 ⟨rfl, hH⟩)
  (try go_wp2_with fail)
  refine hK.out _ _ ?hS26 (fun hHeld => ?hgo26)
  case hS26 => ((try dsimp only); (first | exact ⟨(hH.1.cell (p := ⟨w4.heap.size, 0, none⟩) HGS.out).trans I0.out, (hH.1.cell (p := ⟨w4.heap.size, 1, none⟩) HGS.out).trans I1.out, (hH.1.cell (p := ⟨w4.heap.size, 2, none⟩) HGS.out).trans I2.out, (hH.1.cell (p := ⟨w4.heap.size, 3, none⟩) HGS.out).trans I3.out⟩ | go_keep))
  clear hK K
  (try simp only [Act.put, List.setIfInBounds_toArray, List.set_cons_zero, List.set_cons_succ])
  refine wpAnyH_ready (rs := [30]) (by kernel_rfl) (by simp) ?_
  refine AllReadyH.cons (o := { dst := some 66, op := Op.call { callee := Callee.value (Operand.func 19), args := #[Operand.tmp 63, Operand.tmp 64, Operand.tmp 65], argTypes := #[26, 26, 43] }, type := 26, pos := "law.go:53", after := #[{ on := 27, ground := Ground.data }, { on := 28, ground := Ground.data }, { on := 29, ground := Ground.data }, { on := 26, ground := Ground.chain }, { on := 24, ground := Ground.guard }], guard := some (24, true) }) rfl (fun K hK => ?_) AllReadyH.nil
  go_simp
  first
     | (go_at_call 19; refine (hold_canon hH hl hm HAa6.out HAb6.out).mono ?_; rintro e w6 ⟨x6, rfl, hq6, hH⟩; have HQ := Lib.hid hq6; clear hq6)
     | (go_at_call 18; (first | clear HM4 | fail); refine (hold_ref hH (by repeat (first | exact List.Mem.head _ | apply List.Mem.tail)) HQ.out (by intro z hz; simp only [maskB, wantF, hz]; cases inB l z <;> cases inB m z <;> rfl)).mono ?_; rintro e w7 ⟨rfl, hH⟩; have HM4 : Hid True := trivial)
     | (go_at_call 12; refine (hold_or hH (by repeat (first | exact List.Mem.head _ | apply List.Mem.tail)) (by repeat (first | exact List.Mem.head _ | apply List.Mem.tail))).mono ?_; rintro e w7 ⟨x7, rfl, hH⟩)
     | (go_at_call 14; refine (hold_not hH (by repeat (first | exact List.Mem.head _ | apply List.Mem.tail))).mono ?_; rintro e w7 ⟨x7, rfl, hH⟩)
     | (go_at_call 15; refine (hold_less hH (by repeat (first | exact List.Mem.head _ | apply List.Mem.tail)) (by repeat (first | exact List.Mem.head _ | apply List.Mem.tail))).mono ?_; rintro e w7 ⟨x7, rfl, hH⟩)
     | (go_at_call 17; refine (hold_has_eq hH (by repeat (first | exact List.Mem.head _ | apply List.Mem.tail)) r _ HX.out).mono ?_; rintro e w7 ⟨rfl, hH⟩)
     | (go_at_call 20; refine (hold_in hH hl HAa6.out HBL.out).mono ?_; rintro e w7 ⟨rfl, hH⟩)
     | (go_at_call 11; refine (hold_same_dec hH (by repeat (first | exact List.Mem.head _ | apply List.Mem.tail)) (by repeat (first | exact List.Mem.head _ | apply List.Mem.tail)) HBS.out).mono ?_; rintro e w8 ⟨rfl, hH⟩; clear HM4)
     | (go_at_call 18; refine (hold_ref_dec hH (by repeat (first | exact List.Mem.head _ | apply List.Mem.tail)) HQ.out (g := fun z => inB l z && inR z) (by intro z hz; simp only [maskB, wantF, hz]; cases inB l z <;> cases inB m z <;> rfl) HBT.out).mono ?_; rintro e w7 ⟨rfl, hH⟩)
  (try go_wp2_with fail)
  refine hK.out _ _ ?hS30 (fun hHeld => ?hgo30)
  case hS30 => ((try dsimp only); (first | exact ⟨(hH.1.cell (p := ⟨w4.heap.size, 0, none⟩) HGS.out).trans I0.out, (hH.1.cell (p := ⟨w4.heap.size, 1, none⟩) HGS.out).trans I1.out, (hH.1.cell (p := ⟨w4.heap.size, 2, none⟩) HGS.out).trans I2.out, (hH.1.cell (p := ⟨w4.heap.size, 3, none⟩) HGS.out).trans I3.out⟩ | go_keep))
  clear hK K
  (try simp only [Act.put, List.setIfInBounds_toArray, List.set_cons_zero, List.set_cons_succ])
  refine wpAnyH_ready (rs := [31]) (by kernel_rfl) (by simp) ?_
  refine AllReadyH.cons (o := { dst := some 67, op := Op.call { callee := Callee.value (Operand.func 18), args := #[Operand.tmp 62, Operand.tmp 66], argTypes := #[25, 26] }, type := 4, pos := "law.go:53", after := #[{ on := 26, ground := Ground.data }, { on := 30, ground := Ground.data }, { on := 30, ground := Ground.chain }, { on := 24, ground := Ground.guard }], guard := some (24, true) }) rfl (fun K hK => ?_) AllReadyH.nil
  go_simp
  first
     | (go_at_call 19; refine (hold_canon hH hl hm HAa6.out HAb6.out).mono ?_; rintro e w6 ⟨x6, rfl, hq6, hH⟩; have HQ := Lib.hid hq6; clear hq6)
     | (go_at_call 18; (first | clear HM4 | fail); refine (hold_ref hH (by repeat (first | exact List.Mem.head _ | apply List.Mem.tail)) HQ.out (by intro z hz; simp only [maskB, wantF, hz]; cases inB l z <;> cases inB m z <;> rfl)).mono ?_; rintro e w7 ⟨rfl, hH⟩; have HM4 : Hid True := trivial)
     | (go_at_call 12; refine (hold_or hH (by repeat (first | exact List.Mem.head _ | apply List.Mem.tail)) (by repeat (first | exact List.Mem.head _ | apply List.Mem.tail))).mono ?_; rintro e w7 ⟨x7, rfl, hH⟩)
     | (go_at_call 14; refine (hold_not hH (by repeat (first | exact List.Mem.head _ | apply List.Mem.tail))).mono ?_; rintro e w7 ⟨x7, rfl, hH⟩)
     | (go_at_call 15; refine (hold_less hH (by repeat (first | exact List.Mem.head _ | apply List.Mem.tail)) (by repeat (first | exact List.Mem.head _ | apply List.Mem.tail))).mono ?_; rintro e w7 ⟨x7, rfl, hH⟩)
     | (go_at_call 17; refine (hold_has_eq hH (by repeat (first | exact List.Mem.head _ | apply List.Mem.tail)) r _ HX.out).mono ?_; rintro e w7 ⟨rfl, hH⟩)
     | (go_at_call 20; refine (hold_in hH hl HAa6.out HBL.out).mono ?_; rintro e w7 ⟨rfl, hH⟩)
     | (go_at_call 11; refine (hold_same_dec hH (by repeat (first | exact List.Mem.head _ | apply List.Mem.tail)) (by repeat (first | exact List.Mem.head _ | apply List.Mem.tail)) HBS.out).mono ?_; rintro e w8 ⟨rfl, hH⟩; clear HM4)
     | (go_at_call 18; refine (hold_ref_dec hH (by repeat (first | exact List.Mem.head _ | apply List.Mem.tail)) HQ.out (g := fun z => inB l z && inR z) (by intro z hz; simp only [maskB, wantF, hz]; cases inB l z <;> cases inB m z <;> rfl) HBT.out).mono ?_; rintro e w7 ⟨rfl, hH⟩)
  (try go_wp2_with fail)
  refine hK.out _ _ ?hS31 (fun hHeld => ?hgo31)
  case hS31 => ((try dsimp only); (first | exact ⟨(hH.1.cell (p := ⟨w4.heap.size, 0, none⟩) HGS.out).trans I0.out, (hH.1.cell (p := ⟨w4.heap.size, 1, none⟩) HGS.out).trans I1.out, (hH.1.cell (p := ⟨w4.heap.size, 2, none⟩) HGS.out).trans I2.out, (hH.1.cell (p := ⟨w4.heap.size, 3, none⟩) HGS.out).trans I3.out⟩ | go_keep))
  clear hK K
  (try simp only [Act.put, List.setIfInBounds_toArray, List.set_cons_zero, List.set_cons_succ])
  refine wpAnyH_take (i := 32) (oi := { dst := some 68, op := Op.pick (Operand.tmp 60) (Operand.tmp 67) (Operand.const (Value.bool false)), type := 4, pos := "law.go:53", after := #[{ on := 24, ground := Ground.data }, { on := 31, ground := Ground.data }], guard := none }) (v := ?v32) rfl (by kernel_rfl) (by kernel_rfl) (by kernel_rfl) (fun _ _ _ h => h) (Or.inl ⟨by rfl, ?hy32⟩) (by assumption) ?rest32
  case hy32 => (intro w hSw; (try dsimp only at hSw); go_simp; (try with_reducible rfl))
  (try simp only [Act.put, List.setIfInBounds_toArray, List.set_cons_zero, List.set_cons_succ])
  refine wpAnyH_take (i := 33) (oi := { dst := some 69, op := Op.move (Operand.tmp 68), type := 4, pos := "law.go:53", after := #[{ on := 32, ground := Ground.data }, { on := 31, ground := Ground.chain }], guard := none }) (v := ?v33) rfl (by kernel_rfl) (by kernel_rfl) (by kernel_rfl) (fun _ _ _ h => h) (Or.inl ⟨by rfl, ?hy33⟩) (by assumption) ?rest33
  case hy33 => (intro w hSw; (try dsimp only at hSw); go_simp; (try with_reducible rfl))
  (try simp only [Act.put, List.setIfInBounds_toArray, List.set_cons_zero, List.set_cons_succ])
  refine wpAnyH_take (i := 34) (oi := { dst := some 70, op := Op.move (Operand.tmp 7), type := 25, pos := "law.go:53", after := #[{ on := 33, ground := Ground.guard }], guard := some (33, true) }) (v := ?v34) rfl (by kernel_rfl) (by kernel_rfl) (by kernel_rfl) (fun _ _ _ h => h) (Or.inl ⟨by rfl, ?hy34⟩) (by assumption) ?rest34
  case hy34 => (intro w hSw; (try dsimp only at hSw); go_simp; (try with_reducible rfl))
  (try simp only [Act.put, List.setIfInBounds_toArray, List.set_cons_zero, List.set_cons_succ])
  refine wpAnyH_take (i := 35) (oi := { dst := some 71, op := Op.move (Operand.tmp 9), type := 25, pos := "law.go:53", after := #[{ on := 33, ground := Ground.guard }], guard := some (33, true) }) (v := ?v35) rfl (by kernel_rfl) (by kernel_rfl) (by kernel_rfl) (fun _ _ _ h => h) (Or.inl ⟨by rfl, ?hy35⟩) (by assumption) ?rest35
  case hy35 => (intro w hSw; (try dsimp only at hSw); go_simp; (try with_reducible rfl))
  (try simp only [Act.put, List.setIfInBounds_toArray, List.set_cons_zero, List.set_cons_succ])
  refine wpAnyH_take (i := 37) (oi := { dst := some 73, op := Op.move (Operand.tmp 8), type := 26, pos := "law.go:53", after := #[{ on := 33, ground := Ground.guard }], guard := some (33, true) }) (v := ?v37) rfl (by kernel_rfl) (by kernel_rfl) (by kernel_rfl) (fun _ _ _ h => h) (Or.inl ⟨by rfl, ?hy37⟩) (by assumption) ?rest37
  case hy37 => (intro w hSw; (try dsimp only at hSw); go_simp; (try with_reducible rfl))
  (try simp only [Act.put, List.setIfInBounds_toArray, List.set_cons_zero, List.set_cons_succ])
  refine wpAnyH_take (i := 38) (oi := { dst := some 74, op := Op.move (Operand.tmp 10), type := 26, pos := "law.go:53", after := #[{ on := 33, ground := Ground.guard }], guard := some (33, true) }) (v := ?v38) rfl (by kernel_rfl) (by kernel_rfl) (by kernel_rfl) (fun _ _ _ h => h) (Or.inl ⟨by rfl, ?hy38⟩) (by assumption) ?rest38
  case hy38 => (intro w hSw; (try dsimp only at hSw); go_simp; (try with_reducible rfl))
  (try simp only [Act.put, List.setIfInBounds_toArray, List.set_cons_zero, List.set_cons_succ])
  refine wpAnyH_take (i := 39) (oi := { dst := some 75, op := Op.build 43 #[(0, Operand.const (Value.bool false)), (1, Operand.const (Value.bool true)), (2, Operand.const (Value.bool false)), (3, Operand.const (Value.bool false))], type := 43, pos := "law.go:53", after := #[{ on := 33, ground := Ground.guard }], guard := some (33, true) }) (v := ?v39) rfl (by kernel_rfl) (by kernel_rfl) (by kernel_rfl) (fun _ _ _ h => h) (Or.inl ⟨by rfl, ?hy39⟩) (by assumption) ?rest39
  case hy39 => (intro w hSw; (try dsimp only at hSw); go_simp; (try with_reducible rfl))
  (try simp only [Act.put, List.setIfInBounds_toArray, List.set_cons_zero, List.set_cons_succ])
  refine wpAnyH_ready (rs := [36]) (by kernel_rfl) (by simp) ?_
  refine AllReadyH.cons (o := { dst := some 72, op := Op.call { callee := Callee.value (Operand.func 15), args := #[Operand.tmp 70, Operand.tmp 71], argTypes := #[25, 25] }, type := 25, pos := "law.go:53", after := #[{ on := 34, ground := Ground.data }, { on := 35, ground := Ground.data }, { on := 33, ground := Ground.chain }, { on := 33, ground := Ground.guard }], guard := some (33, true) }) rfl (fun K hK => ?_) AllReadyH.nil
  go_simp
  first
     | (go_at_call 19; refine (hold_canon hH hl hm HAa6.out HAb6.out).mono ?_; rintro e w6 ⟨x6, rfl, hq6, hH⟩; have HQ := Lib.hid hq6; clear hq6)
     | (go_at_call 18; (first | clear HM4 | fail); refine (hold_ref hH (by repeat (first | exact List.Mem.head _ | apply List.Mem.tail)) HQ.out (by intro z hz; simp only [maskB, wantF, hz]; cases inB l z <;> cases inB m z <;> rfl)).mono ?_; rintro e w7 ⟨rfl, hH⟩; have HM4 : Hid True := trivial)
     | (go_at_call 12; refine (hold_or hH (by repeat (first | exact List.Mem.head _ | apply List.Mem.tail)) (by repeat (first | exact List.Mem.head _ | apply List.Mem.tail))).mono ?_; rintro e w7 ⟨x7, rfl, hH⟩)
     | (go_at_call 14; refine (hold_not hH (by repeat (first | exact List.Mem.head _ | apply List.Mem.tail))).mono ?_; rintro e w7 ⟨x7, rfl, hH⟩)
     | (go_at_call 15; refine (hold_less hH (by repeat (first | exact List.Mem.head _ | apply List.Mem.tail)) (by repeat (first | exact List.Mem.head _ | apply List.Mem.tail))).mono ?_; rintro e w7 ⟨x7, rfl, hH⟩)
     | (go_at_call 17; refine (hold_has_eq hH (by repeat (first | exact List.Mem.head _ | apply List.Mem.tail)) r _ HX.out).mono ?_; rintro e w7 ⟨rfl, hH⟩)
     | (go_at_call 20; refine (hold_in hH hl HAa6.out HBL.out).mono ?_; rintro e w7 ⟨rfl, hH⟩)
     | (go_at_call 11; refine (hold_same_dec hH (by repeat (first | exact List.Mem.head _ | apply List.Mem.tail)) (by repeat (first | exact List.Mem.head _ | apply List.Mem.tail)) HBS.out).mono ?_; rintro e w8 ⟨rfl, hH⟩; clear HM4)
     | (go_at_call 18; refine (hold_ref_dec hH (by repeat (first | exact List.Mem.head _ | apply List.Mem.tail)) HQ.out (g := fun z => inB l z && inR z) (by intro z hz; simp only [maskB, wantF, hz]; cases inB l z <;> cases inB m z <;> rfl) HBT.out).mono ?_; rintro e w7 ⟨rfl, hH⟩)
  (try go_wp2_with fail)
  refine hK.out _ _ ?hS36 (fun hHeld => ?hgo36)
  case hS36 => ((try dsimp only); (first | exact ⟨(hH.1.cell (p := ⟨w4.heap.size, 0, none⟩) HGS.out).trans I0.out, (hH.1.cell (p := ⟨w4.heap.size, 1, none⟩) HGS.out).trans I1.out, (hH.1.cell (p := ⟨w4.heap.size, 2, none⟩) HGS.out).trans I2.out, (hH.1.cell (p := ⟨w4.heap.size, 3, none⟩) HGS.out).trans I3.out⟩ | go_keep))
  clear hK K
  (try simp only [Act.put, List.setIfInBounds_toArray, List.set_cons_zero, List.set_cons_succ])
  refine wpAnyH_ready (rs := [40]) (by kernel_rfl) (by simp) ?_
  refine AllReadyH.cons (o := { dst := some 76, op := Op.call { callee := Callee.value (Operand.func 19), args := #[Operand.tmp 73, Operand.tmp 74, Operand.tmp 75], argTypes := #[26, 26, 43] }, type := 26, pos := "law.go:53", after := #[{ on := 37, ground := Ground.data }, { on := 38, ground := Ground.data }, { on := 39, ground := Ground.data }, { on := 36, ground := Ground.chain }, { on := 33, ground := Ground.guard }], guard := some (33, true) }) rfl (fun K hK => ?_) AllReadyH.nil
  go_simp
  first
     | (go_at_call 19; refine (hold_canon hH hl hm HAa6.out HAb6.out).mono ?_; rintro e w6 ⟨x6, rfl, hq6, hH⟩; have HQ := Lib.hid hq6; clear hq6)
     | (go_at_call 18; (first | clear HM4 | fail); refine (hold_ref hH (by repeat (first | exact List.Mem.head _ | apply List.Mem.tail)) HQ.out (by intro z hz; simp only [maskB, wantF, hz]; cases inB l z <;> cases inB m z <;> rfl)).mono ?_; rintro e w7 ⟨rfl, hH⟩; have HM4 : Hid True := trivial)
     | (go_at_call 12; refine (hold_or hH (by repeat (first | exact List.Mem.head _ | apply List.Mem.tail)) (by repeat (first | exact List.Mem.head _ | apply List.Mem.tail))).mono ?_; rintro e w7 ⟨x7, rfl, hH⟩)
     | (go_at_call 14; refine (hold_not hH (by repeat (first | exact List.Mem.head _ | apply List.Mem.tail))).mono ?_; rintro e w7 ⟨x7, rfl, hH⟩)
     | (go_at_call 15; refine (hold_less hH (by repeat (first | exact List.Mem.head _ | apply List.Mem.tail)) (by repeat (first | exact List.Mem.head _ | apply List.Mem.tail))).mono ?_; rintro e w7 ⟨x7, rfl, hH⟩)
     | (go_at_call 17; refine (hold_has_eq hH (by repeat (first | exact List.Mem.head _ | apply List.Mem.tail)) r _ HX.out).mono ?_; rintro e w7 ⟨rfl, hH⟩)
     | (go_at_call 20; refine (hold_in hH hl HAa6.out HBL.out).mono ?_; rintro e w7 ⟨rfl, hH⟩)
     | (go_at_call 11; refine (hold_same_dec hH (by repeat (first | exact List.Mem.head _ | apply List.Mem.tail)) (by repeat (first | exact List.Mem.head _ | apply List.Mem.tail)) HBS.out).mono ?_; rintro e w8 ⟨rfl, hH⟩; clear HM4)
     | (go_at_call 18; refine (hold_ref_dec hH (by repeat (first | exact List.Mem.head _ | apply List.Mem.tail)) HQ.out (g := fun z => inB l z && inR z) (by intro z hz; simp only [maskB, wantF, hz]; cases inB l z <;> cases inB m z <;> rfl) HBT.out).mono ?_; rintro e w7 ⟨rfl, hH⟩)
  (try go_wp2_with fail)
  refine hK.out _ _ ?hS40 (fun hHeld => ?hgo40)
  case hS40 => ((try dsimp only); (first | exact ⟨(hH.1.cell (p := ⟨w4.heap.size, 0, none⟩) HGS.out).trans I0.out, (hH.1.cell (p := ⟨w4.heap.size, 1, none⟩) HGS.out).trans I1.out, (hH.1.cell (p := ⟨w4.heap.size, 2, none⟩) HGS.out).trans I2.out, (hH.1.cell (p := ⟨w4.heap.size, 3, none⟩) HGS.out).trans I3.out⟩ | go_keep))
  clear hK K
  (try simp only [Act.put, List.setIfInBounds_toArray, List.set_cons_zero, List.set_cons_succ])
  refine wpAnyH_ready (rs := [41]) (by kernel_rfl) (by simp) ?_
  refine AllReadyH.cons (o := { dst := some 77, op := Op.call { callee := Callee.value (Operand.func 18), args := #[Operand.tmp 72, Operand.tmp 76], argTypes := #[25, 26] }, type := 4, pos := "law.go:53", after := #[{ on := 36, ground := Ground.data }, { on := 40, ground := Ground.data }, { on := 40, ground := Ground.chain }, { on := 33, ground := Ground.guard }], guard := some (33, true) }) rfl (fun K hK => ?_) AllReadyH.nil
  go_simp
  first
     | (go_at_call 19; refine (hold_canon hH hl hm HAa6.out HAb6.out).mono ?_; rintro e w6 ⟨x6, rfl, hq6, hH⟩; have HQ := Lib.hid hq6; clear hq6)
     | (go_at_call 18; (first | clear HM4 | fail); refine (hold_ref hH (by repeat (first | exact List.Mem.head _ | apply List.Mem.tail)) HQ.out (by intro z hz; simp only [maskB, wantF, hz]; cases inB l z <;> cases inB m z <;> rfl)).mono ?_; rintro e w7 ⟨rfl, hH⟩; have HM4 : Hid True := trivial)
     | (go_at_call 12; refine (hold_or hH (by repeat (first | exact List.Mem.head _ | apply List.Mem.tail)) (by repeat (first | exact List.Mem.head _ | apply List.Mem.tail))).mono ?_; rintro e w7 ⟨x7, rfl, hH⟩)
     | (go_at_call 14; refine (hold_not hH (by repeat (first | exact List.Mem.head _ | apply List.Mem.tail))).mono ?_; rintro e w7 ⟨x7, rfl, hH⟩)
     | (go_at_call 15; refine (hold_less hH (by repeat (first | exact List.Mem.head _ | apply List.Mem.tail)) (by repeat (first | exact List.Mem.head _ | apply List.Mem.tail))).mono ?_; rintro e w7 ⟨x7, rfl, hH⟩)
     | (go_at_call 17; refine (hold_has_eq hH (by repeat (first | exact List.Mem.head _ | apply List.Mem.tail)) r _ HX.out).mono ?_; rintro e w7 ⟨rfl, hH⟩)
     | (go_at_call 20; refine (hold_in hH hl HAa6.out HBL.out).mono ?_; rintro e w7 ⟨rfl, hH⟩)
     | (go_at_call 11; refine (hold_same_dec hH (by repeat (first | exact List.Mem.head _ | apply List.Mem.tail)) (by repeat (first | exact List.Mem.head _ | apply List.Mem.tail)) HBS.out).mono ?_; rintro e w8 ⟨rfl, hH⟩; clear HM4)
     | (go_at_call 18; refine (hold_ref_dec hH (by repeat (first | exact List.Mem.head _ | apply List.Mem.tail)) HQ.out (g := fun z => inB l z && inR z) (by intro z hz; simp only [maskB, wantF, hz]; cases inB l z <;> cases inB m z <;> rfl) HBT.out).mono ?_; rintro e w7 ⟨rfl, hH⟩)
  (try go_wp2_with fail)
  refine hK.out _ _ ?hS41 (fun hHeld => ?hgo41)
  case hS41 => ((try dsimp only); (first | exact ⟨(hH.1.cell (p := ⟨w4.heap.size, 0, none⟩) HGS.out).trans I0.out, (hH.1.cell (p := ⟨w4.heap.size, 1, none⟩) HGS.out).trans I1.out, (hH.1.cell (p := ⟨w4.heap.size, 2, none⟩) HGS.out).trans I2.out, (hH.1.cell (p := ⟨w4.heap.size, 3, none⟩) HGS.out).trans I3.out⟩ | go_keep))
  clear hK K
  (try simp only [Act.put, List.setIfInBounds_toArray, List.set_cons_zero, List.set_cons_succ])
  refine wpAnyH_take (i := 42) (oi := { dst := some 78, op := Op.pick (Operand.tmp 69) (Operand.tmp 77) (Operand.const (Value.bool false)), type := 4, pos := "law.go:53", after := #[{ on := 33, ground := Ground.data }, { on := 41, ground := Ground.data }], guard := none }) (v := ?v42) rfl (by kernel_rfl) (by kernel_rfl) (by kernel_rfl) (fun _ _ _ h => h) (Or.inl ⟨by rfl, ?hy42⟩) (by assumption) ?rest42
  case hy42 => (intro w hSw; (try dsimp only at hSw); go_simp; (try with_reducible rfl))
  (try simp only [Act.put, List.setIfInBounds_toArray, List.set_cons_zero, List.set_cons_succ])
  refine wpAnyH_take (i := 43) (oi := { dst := some 79, op := Op.move (Operand.tmp 78), type := 4, pos := "law.go:53", after := #[{ on := 42, ground := Ground.data }, { on := 41, ground := Ground.chain }], guard := none }) (v := ?v43) rfl (by kernel_rfl) (by kernel_rfl) (by kernel_rfl) (fun _ _ _ h => h) (Or.inl ⟨by rfl, ?hy43⟩) (by assumption) ?rest43
  case hy43 => (intro w hSw; (try dsimp only at hSw); go_simp; (try with_reducible rfl))
  (try simp only [Act.put, List.setIfInBounds_toArray, List.set_cons_zero, List.set_cons_succ])
  refine wpAnyH_take (i := 44) (oi := { dst := some 80, op := Op.move (Operand.tmp 7), type := 25, pos := "law.go:53", after := #[{ on := 43, ground := Ground.guard }], guard := some (43, true) }) (v := ?v44) rfl (by kernel_rfl) (by kernel_rfl) (by kernel_rfl) (fun _ _ _ h => h) (Or.inl ⟨by rfl, ?hy44⟩) (by assumption) ?rest44
  case hy44 => (intro w hSw; (try dsimp only at hSw); go_simp; (try with_reducible rfl))
  (try simp only [Act.put, List.setIfInBounds_toArray, List.set_cons_zero, List.set_cons_succ])
  refine wpAnyH_take (i := 45) (oi := { dst := some 81, op := Op.move (Operand.tmp 2), type := 3, pos := "law.go:53", after := #[{ on := 43, ground := Ground.guard }], guard := some (43, true) }) (v := ?v45) rfl (by kernel_rfl) (by kernel_rfl) (by kernel_rfl) (fun _ _ _ h => h) (Or.inl ⟨by rfl, ?hy45⟩) (by assumption) ?rest45
  case hy45 => (intro w hSw; (try dsimp only at hSw); go_simp; (try with_reducible rfl))
  (try simp only [Act.put, List.setIfInBounds_toArray, List.set_cons_zero, List.set_cons_succ])
  refine wpAnyH_take (i := 47) (oi := { dst := some 83, op := Op.move (Operand.tmp 11), type := 4, pos := "law.go:53", after := #[{ on := 43, ground := Ground.guard }], guard := some (43, true) }) (v := ?v47) rfl (by kernel_rfl) (by kernel_rfl) (by kernel_rfl) (fun _ _ _ h => h) (Or.inl ⟨by rfl, ?hy47⟩) (by assumption) ?rest47
  case hy47 => (intro w hSw; (try dsimp only at hSw); go_simp; (try with_reducible rfl))
  (try simp only [Act.put, List.setIfInBounds_toArray, List.set_cons_zero, List.set_cons_succ])
  refine wpAnyH_ready (rs := [46]) (by kernel_rfl) (by simp) ?_
  refine AllReadyH.cons (o := { dst := some 82, op := Op.call { callee := Callee.value (Operand.func 17), args := #[Operand.tmp 80, Operand.tmp 81], argTypes := #[25, 3] }, type := 4, pos := "law.go:53", after := #[{ on := 44, ground := Ground.data }, { on := 45, ground := Ground.data }, { on := 43, ground := Ground.chain }, { on := 43, ground := Ground.guard }], guard := some (43, true) }) rfl (fun K hK => ?_) AllReadyH.nil
  go_simp
  first
     | (go_at_call 19; refine (hold_canon hH hl hm HAa6.out HAb6.out).mono ?_; rintro e w6 ⟨x6, rfl, hq6, hH⟩; have HQ := Lib.hid hq6; clear hq6)
     | (go_at_call 18; (first | clear HM4 | fail); refine (hold_ref hH (by repeat (first | exact List.Mem.head _ | apply List.Mem.tail)) HQ.out (by intro z hz; simp only [maskB, wantF, hz]; cases inB l z <;> cases inB m z <;> rfl)).mono ?_; rintro e w7 ⟨rfl, hH⟩; have HM4 : Hid True := trivial)
     | (go_at_call 12; refine (hold_or hH (by repeat (first | exact List.Mem.head _ | apply List.Mem.tail)) (by repeat (first | exact List.Mem.head _ | apply List.Mem.tail))).mono ?_; rintro e w7 ⟨x7, rfl, hH⟩)
     | (go_at_call 14; refine (hold_not hH (by repeat (first | exact List.Mem.head _ | apply List.Mem.tail))).mono ?_; rintro e w7 ⟨x7, rfl, hH⟩)
     | (go_at_call 15; refine (hold_less hH (by repeat (first | exact List.Mem.head _ | apply List.Mem.tail)) (by repeat (first | exact List.Mem.head _ | apply List.Mem.tail))).mono ?_; rintro e w7 ⟨x7, rfl, hH⟩)
     | (go_at_call 17; refine (hold_has_eq hH (by repeat (first | exact List.Mem.head _ | apply List.Mem.tail)) r _ HX.out).mono ?_; rintro e w7 ⟨rfl, hH⟩)
     | (go_at_call 20; refine (hold_in hH hl HAa6.out HBL.out).mono ?_; rintro e w7 ⟨rfl, hH⟩)
     | (go_at_call 11; refine (hold_same_dec hH (by repeat (first | exact List.Mem.head _ | apply List.Mem.tail)) (by repeat (first | exact List.Mem.head _ | apply List.Mem.tail)) HBS.out).mono ?_; rintro e w8 ⟨rfl, hH⟩; clear HM4)
     | (go_at_call 18; refine (hold_ref_dec hH (by repeat (first | exact List.Mem.head _ | apply List.Mem.tail)) HQ.out (g := fun z => inB l z && inR z) (by intro z hz; simp only [maskB, wantF, hz]; cases inB l z <;> cases inB m z <;> rfl) HBT.out).mono ?_; rintro e w7 ⟨rfl, hH⟩)
  (try go_wp2_with fail)
  refine hK.out _ _ ?hS46 (fun hHeld => ?hgo46)
  case hS46 => ((try dsimp only); (first | exact ⟨(hH.1.cell (p := ⟨w4.heap.size, 0, none⟩) HGS.out).trans I0.out, (hH.1.cell (p := ⟨w4.heap.size, 1, none⟩) HGS.out).trans I1.out, (hH.1.cell (p := ⟨w4.heap.size, 2, none⟩) HGS.out).trans I2.out, (hH.1.cell (p := ⟨w4.heap.size, 3, none⟩) HGS.out).trans I3.out⟩ | go_keep))
  clear hK K
  (try simp only [Act.put, List.setIfInBounds_toArray, List.set_cons_zero, List.set_cons_succ])
  refine wpAnyH_take (i := 48) (oi := { dst := some 84, op := Op.move (Operand.tmp 83), type := 4, pos := "law.go:53", after := #[{ on := 47, ground := Ground.data }, { on := 46, ground := Ground.chain }, { on := 43, ground := Ground.guard }], guard := some (43, true) }) (v := ?v48) rfl (by kernel_rfl) (by kernel_rfl) (by kernel_rfl) (fun _ _ _ h => h) (Or.inl ⟨by rfl, ?hy48⟩) (by assumption) ?rest48
  case hy48 => (intro w hSw; (try dsimp only at hSw); go_simp; (try with_reducible rfl))
  (try simp only [Act.put, List.setIfInBounds_toArray, List.set_cons_zero, List.set_cons_succ])
  refine wpAnyH_take (i := 49) (oi := { dst := some 85, op := Op.move (Operand.tmp 8), type := 26, pos := "law.go:53", after := #[{ on := 48, ground := Ground.guard }], guard := some (48, true) }) (v := undef) rfl (by kernel_rfl) (by kernel_rfl) (by kernel_rfl) (fun _ _ _ h => h) (Or.inr ⟨by rfl, rfl⟩) (by assumption) ?_
  (try simp only [Act.put, List.setIfInBounds_toArray, List.set_cons_zero, List.set_cons_succ])
  refine wpAnyH_take (i := 50) (oi := { dst := some 86, op := Op.move (Operand.tmp 2), type := 3, pos := "law.go:53", after := #[{ on := 48, ground := Ground.guard }], guard := some (48, true) }) (v := undef) rfl (by kernel_rfl) (by kernel_rfl) (by kernel_rfl) (fun _ _ _ h => h) (Or.inr ⟨by rfl, rfl⟩) (by assumption) ?_
  (try simp only [Act.put, List.setIfInBounds_toArray, List.set_cons_zero, List.set_cons_succ])
  refine wpAnyH_take (i := 51) (oi := { dst := some 87, op := Op.call { callee := Callee.value (Operand.func 20), args := #[Operand.tmp 85, Operand.tmp 86], argTypes := #[26, 3] }, type := 4, pos := "law.go:53", after := #[{ on := 49, ground := Ground.data }, { on := 50, ground := Ground.data }, { on := 48, ground := Ground.chain }, { on := 48, ground := Ground.guard }], guard := some (48, true) }) (v := undef) rfl (by kernel_rfl) (by kernel_rfl) (by kernel_rfl) (fun _ _ _ h => h) (Or.inr ⟨by rfl, rfl⟩) (by assumption) ?_
  (try simp only [Act.put, List.setIfInBounds_toArray, List.set_cons_zero, List.set_cons_succ])
  refine wpAnyH_take (i := 52) (oi := { dst := some 88, op := Op.pick (Operand.tmp 84) (Operand.tmp 87) (Operand.const (Value.bool false)), type := 4, pos := "law.go:53", after := #[{ on := 48, ground := Ground.data }, { on := 51, ground := Ground.data }, { on := 43, ground := Ground.guard }], guard := some (43, true) }) (v := ?v52) rfl (by kernel_rfl) (by kernel_rfl) (by kernel_rfl) (fun _ _ _ h => h) (Or.inl ⟨by rfl, ?hy52⟩) (by assumption) ?rest52
  case hy52 => (intro w hSw; (try dsimp only at hSw); go_simp; (try with_reducible rfl))
  (try simp only [Act.put, List.setIfInBounds_toArray, List.set_cons_zero, List.set_cons_succ])
  refine wpAnyH_take (i := 53) (oi := { dst := some 89, op := Op.binOp BinOp.eql 4 (Operand.tmp 82) (Operand.tmp 88) 4, type := 4, pos := "law.go:53", after := #[{ on := 46, ground := Ground.data }, { on := 52, ground := Ground.data }, { on := 43, ground := Ground.guard }], guard := some (43, true) }) (v := ?v53) rfl (by kernel_rfl) (by kernel_rfl) (by kernel_rfl) (fun _ _ _ h => h) (Or.inl ⟨by rfl, ?hy53⟩) (by assumption) ?rest53
  case hy53 => (intro w hSw; (try dsimp only at hSw); go_simp; (try with_reducible rfl))
  (try simp only [Act.put, List.setIfInBounds_toArray, List.set_cons_zero, List.set_cons_succ])
  refine wpAnyH_take (i := 54) (oi := { dst := some 90, op := Op.pick (Operand.tmp 79) (Operand.tmp 89) (Operand.const (Value.bool false)), type := 4, pos := "law.go:53", after := #[{ on := 43, ground := Ground.data }, { on := 53, ground := Ground.data }], guard := none }) (v := ?v54) rfl (by kernel_rfl) (by kernel_rfl) (by kernel_rfl) (fun _ _ _ h => h) (Or.inl ⟨by rfl, ?hy54⟩) (by assumption) ?rest54
  case hy54 => (intro w hSw; (try dsimp only at hSw); go_simp; (try with_reducible rfl))
  (try simp only [Act.put, List.setIfInBounds_toArray, List.set_cons_zero, List.set_cons_succ])
  refine wpAnyH_take (i := 55) (oi := { dst := some 91, op := Op.move (Operand.tmp 90), type := 4, pos := "law.go:53", after := #[{ on := 54, ground := Ground.data }, { on := 51, ground := Ground.chain }], guard := none }) (v := ?v55) rfl (by kernel_rfl) (by kernel_rfl) (by kernel_rfl) (fun _ _ _ h => h) (Or.inl ⟨by rfl, ?hy55⟩) (by assumption) ?rest55
  case hy55 => (intro w hSw; (try dsimp only at hSw); go_simp; (try with_reducible rfl))
  (try simp only [Act.put, List.setIfInBounds_toArray, List.set_cons_zero, List.set_cons_succ])
  refine wpAnyH_take (i := 56) (oi := { dst := some 92, op := Op.move (Operand.tmp 7), type := 25, pos := "law.go:53", after := #[{ on := 55, ground := Ground.guard }], guard := some (55, true) }) (v := ?v56) rfl (by kernel_rfl) (by kernel_rfl) (by kernel_rfl) (fun _ _ _ h => h) (Or.inl ⟨by rfl, ?hy56⟩) (by assumption) ?rest56
  case hy56 => (intro w hSw; (try dsimp only at hSw); go_simp; (try with_reducible rfl))
  (try simp only [Act.put, List.setIfInBounds_toArray, List.set_cons_zero, List.set_cons_succ])
  refine wpAnyH_take (i := 57) (oi := { dst := some 93, op := Op.move (Operand.tmp 9), type := 25, pos := "law.go:53", after := #[{ on := 55, ground := Ground.guard }], guard := some (55, true) }) (v := ?v57) rfl (by kernel_rfl) (by kernel_rfl) (by kernel_rfl) (fun _ _ _ h => h) (Or.inl ⟨by rfl, ?hy57⟩) (by assumption) ?rest57
  case hy57 => (intro w hSw; (try dsimp only at hSw); go_simp; (try with_reducible rfl))
  (try simp only [Act.put, List.setIfInBounds_toArray, List.set_cons_zero, List.set_cons_succ])
  refine wpAnyH_take (i := 59) (oi := { dst := some 95, op := Op.move (Operand.tmp 9), type := 25, pos := "law.go:53", after := #[{ on := 55, ground := Ground.guard }], guard := some (55, true) }) (v := ?v59) rfl (by kernel_rfl) (by kernel_rfl) (by kernel_rfl) (fun _ _ _ h => h) (Or.inl ⟨by rfl, ?hy59⟩) (by assumption) ?rest59
  case hy59 => (intro w hSw; (try dsimp only at hSw); go_simp; (try with_reducible rfl))
  (try simp only [Act.put, List.setIfInBounds_toArray, List.set_cons_zero, List.set_cons_succ])
  refine wpAnyH_take (i := 60) (oi := { dst := some 96, op := Op.move (Operand.tmp 8), type := 26, pos := "law.go:53", after := #[{ on := 55, ground := Ground.guard }], guard := some (55, true) }) (v := ?v60) rfl (by kernel_rfl) (by kernel_rfl) (by kernel_rfl) (fun _ _ _ h => h) (Or.inl ⟨by rfl, ?hy60⟩) (by assumption) ?rest60
  case hy60 => (intro w hSw; (try dsimp only at hSw); go_simp; (try with_reducible rfl))
  (try simp only [Act.put, List.setIfInBounds_toArray, List.set_cons_zero, List.set_cons_succ])
  refine wpAnyH_take (i := 61) (oi := { dst := some 97, op := Op.move (Operand.tmp 10), type := 26, pos := "law.go:53", after := #[{ on := 55, ground := Ground.guard }], guard := some (55, true) }) (v := ?v61) rfl (by kernel_rfl) (by kernel_rfl) (by kernel_rfl) (fun _ _ _ h => h) (Or.inl ⟨by rfl, ?hy61⟩) (by assumption) ?rest61
  case hy61 => (intro w hSw; (try dsimp only at hSw); go_simp; (try with_reducible rfl))
  (try simp only [Act.put, List.setIfInBounds_toArray, List.set_cons_zero, List.set_cons_succ])
  refine wpAnyH_take (i := 62) (oi := { dst := some 98, op := Op.load 43 (Operand.tmp 13), type := 43, pos := "law.go:53", after := #[{ on := 55, ground := Ground.guard }], guard := some (55, true) }) (v := ?v62) rfl (by kernel_rfl) (by kernel_rfl) (by kernel_rfl) (fun _ _ _ h => h) (Or.inl ⟨by rfl, ?hy62⟩) (by assumption) ?rest62
  case hy62 => (intro w hSw; (try dsimp only at hSw); go_simp; (try with_reducible rfl))
  (try simp only [Act.put, List.setIfInBounds_toArray, List.set_cons_zero, List.set_cons_succ])
  refine wpAnyH_ready (rs := [58]) (by kernel_rfl) (by simp) ?_
  refine AllReadyH.cons (o := { dst := some 94, op := Op.call { callee := Callee.value (Operand.func 11), args := #[Operand.tmp 92, Operand.tmp 93], argTypes := #[25, 25] }, type := 4, pos := "law.go:53", after := #[{ on := 56, ground := Ground.data }, { on := 57, ground := Ground.data }, { on := 55, ground := Ground.chain }, { on := 55, ground := Ground.guard }], guard := some (55, true) }) rfl (fun K hK => ?_) AllReadyH.nil
  go_simp
  first
     | (go_at_call 19; refine (hold_canon hH hl hm HAa6.out HAb6.out).mono ?_; rintro e w6 ⟨x6, rfl, hq6, hH⟩; have HQ := Lib.hid hq6; clear hq6)
     | (go_at_call 18; (first | clear HM4 | fail); refine (hold_ref hH (by repeat (first | exact List.Mem.head _ | apply List.Mem.tail)) HQ.out (by intro z hz; simp only [maskB, wantF, hz]; cases inB l z <;> cases inB m z <;> rfl)).mono ?_; rintro e w7 ⟨rfl, hH⟩; have HM4 : Hid True := trivial)
     | (go_at_call 12; refine (hold_or hH (by repeat (first | exact List.Mem.head _ | apply List.Mem.tail)) (by repeat (first | exact List.Mem.head _ | apply List.Mem.tail))).mono ?_; rintro e w7 ⟨x7, rfl, hH⟩)
     | (go_at_call 14; refine (hold_not hH (by repeat (first | exact List.Mem.head _ | apply List.Mem.tail))).mono ?_; rintro e w7 ⟨x7, rfl, hH⟩)
     | (go_at_call 15; refine (hold_less hH (by repeat (first | exact List.Mem.head _ | apply List.Mem.tail)) (by repeat (first | exact List.Mem.head _ | apply List.Mem.tail))).mono ?_; rintro e w7 ⟨x7, rfl, hH⟩)
     | (go_at_call 17; refine (hold_has_eq hH (by repeat (first | exact List.Mem.head _ | apply List.Mem.tail)) r _ HX.out).mono ?_; rintro e w7 ⟨rfl, hH⟩)
     | (go_at_call 20; refine (hold_in hH hl HAa6.out HBL.out).mono ?_; rintro e w7 ⟨rfl, hH⟩)
     | (go_at_call 11; refine (hold_same_dec hH (by repeat (first | exact List.Mem.head _ | apply List.Mem.tail)) (by repeat (first | exact List.Mem.head _ | apply List.Mem.tail)) HBS.out).mono ?_; rintro e w8 ⟨rfl, hH⟩; clear HM4)
     | (go_at_call 18; refine (hold_ref_dec hH (by repeat (first | exact List.Mem.head _ | apply List.Mem.tail)) HQ.out (g := fun z => inB l z && inR z) (by intro z hz; simp only [maskB, wantF, hz]; cases inB l z <;> cases inB m z <;> rfl) HBT.out).mono ?_; rintro e w7 ⟨rfl, hH⟩)
  (try go_wp2_with fail)
  refine hK.out _ _ ?hS58 (fun hHeld => ?hgo58)
  case hS58 => ((try dsimp only); (first | exact ⟨(hH.1.cell (p := ⟨w4.heap.size, 0, none⟩) HGS.out).trans I0.out, (hH.1.cell (p := ⟨w4.heap.size, 1, none⟩) HGS.out).trans I1.out, (hH.1.cell (p := ⟨w4.heap.size, 2, none⟩) HGS.out).trans I2.out, (hH.1.cell (p := ⟨w4.heap.size, 3, none⟩) HGS.out).trans I3.out⟩ | go_keep))
  clear hK K
  (try simp only [Act.put, List.setIfInBounds_toArray, List.set_cons_zero, List.set_cons_succ])
  refine wpAnyH_ready (rs := [63]) (by kernel_rfl) (by simp) ?_
  refine AllReadyH.cons (o := { dst := some 99, op := Op.call { callee := Callee.value (Operand.func 19), args := #[Operand.tmp 96, Operand.tmp 97, Operand.tmp 98], argTypes := #[26, 26, 43] }, type := 26, pos := "law.go:53", after := #[{ on := 60, ground := Ground.data }, { on := 61, ground := Ground.data }, { on := 62, ground := Ground.data }, { on := 58, ground := Ground.chain }, { on := 55, ground := Ground.guard }], guard := some (55, true) }) rfl (fun K hK => ?_) AllReadyH.nil
  go_simp
  first
     | (go_at_call 19; refine (hold_canon hH hl hm HAa6.out HAb6.out).mono ?_; rintro e w6 ⟨x6, rfl, hq6, hH⟩; have HQ := Lib.hid hq6; clear hq6)
     | (go_at_call 18; (first | clear HM4 | fail); refine (hold_ref hH (by repeat (first | exact List.Mem.head _ | apply List.Mem.tail)) HQ.out (by intro z hz; simp only [maskB, wantF, hz]; cases inB l z <;> cases inB m z <;> rfl)).mono ?_; rintro e w7 ⟨rfl, hH⟩; have HM4 : Hid True := trivial)
     | (go_at_call 12; refine (hold_or hH (by repeat (first | exact List.Mem.head _ | apply List.Mem.tail)) (by repeat (first | exact List.Mem.head _ | apply List.Mem.tail))).mono ?_; rintro e w7 ⟨x7, rfl, hH⟩)
     | (go_at_call 14; refine (hold_not hH (by repeat (first | exact List.Mem.head _ | apply List.Mem.tail))).mono ?_; rintro e w7 ⟨x7, rfl, hH⟩)
     | (go_at_call 15; refine (hold_less hH (by repeat (first | exact List.Mem.head _ | apply List.Mem.tail)) (by repeat (first | exact List.Mem.head _ | apply List.Mem.tail))).mono ?_; rintro e w7 ⟨x7, rfl, hH⟩)
     | (go_at_call 17; refine (hold_has_eq hH (by repeat (first | exact List.Mem.head _ | apply List.Mem.tail)) r _ HX.out).mono ?_; rintro e w7 ⟨rfl, hH⟩)
     | (go_at_call 20; refine (hold_in hH hl HAa6.out HBL.out).mono ?_; rintro e w7 ⟨rfl, hH⟩)
     | (go_at_call 11; refine (hold_same_dec hH (by repeat (first | exact List.Mem.head _ | apply List.Mem.tail)) (by repeat (first | exact List.Mem.head _ | apply List.Mem.tail)) HBS.out).mono ?_; rintro e w8 ⟨rfl, hH⟩; clear HM4)
     | (go_at_call 18; refine (hold_ref_dec hH (by repeat (first | exact List.Mem.head _ | apply List.Mem.tail)) HQ.out (g := fun z => inB l z && inR z) (by intro z hz; simp only [maskB, wantF, hz]; cases inB l z <;> cases inB m z <;> rfl) HBT.out).mono ?_; rintro e w7 ⟨rfl, hH⟩)
  (try go_wp2_with fail)
  refine hK.out _ _ ?hS63 (fun hHeld => ?hgo63)
  case hS63 => ((try dsimp only); (first | exact ⟨(hH.1.cell (p := ⟨w4.heap.size, 0, none⟩) HGS.out).trans I0.out, (hH.1.cell (p := ⟨w4.heap.size, 1, none⟩) HGS.out).trans I1.out, (hH.1.cell (p := ⟨w4.heap.size, 2, none⟩) HGS.out).trans I2.out, (hH.1.cell (p := ⟨w4.heap.size, 3, none⟩) HGS.out).trans I3.out⟩ | go_keep))
  clear hK K
  (try simp only [Act.put, List.setIfInBounds_toArray, List.set_cons_zero, List.set_cons_succ])
  refine wpAnyH_ready (rs := [64]) (by kernel_rfl) (by simp) ?_
  refine AllReadyH.cons (o := { dst := some 100, op := Op.call { callee := Callee.value (Operand.func 18), args := #[Operand.tmp 95, Operand.tmp 99], argTypes := #[25, 26] }, type := 4, pos := "law.go:53", after := #[{ on := 59, ground := Ground.data }, { on := 63, ground := Ground.data }, { on := 63, ground := Ground.chain }, { on := 55, ground := Ground.guard }], guard := some (55, true) }) rfl (fun K hK => ?_) AllReadyH.nil
  go_simp
  first
     | (go_at_call 19; refine (hold_canon hH hl hm HAa6.out HAb6.out).mono ?_; rintro e w6 ⟨x6, rfl, hq6, hH⟩; have HQ := Lib.hid hq6; clear hq6)
     | (go_at_call 18; (first | clear HM4 | fail); refine (hold_ref hH (by repeat (first | exact List.Mem.head _ | apply List.Mem.tail)) HQ.out (by intro z hz; simp only [maskB, wantF, hz]; cases inB l z <;> cases inB m z <;> rfl)).mono ?_; rintro e w7 ⟨rfl, hH⟩; have HM4 : Hid True := trivial)
     | (go_at_call 12; refine (hold_or hH (by repeat (first | exact List.Mem.head _ | apply List.Mem.tail)) (by repeat (first | exact List.Mem.head _ | apply List.Mem.tail))).mono ?_; rintro e w7 ⟨x7, rfl, hH⟩)
     | (go_at_call 14; refine (hold_not hH (by repeat (first | exact List.Mem.head _ | apply List.Mem.tail))).mono ?_; rintro e w7 ⟨x7, rfl, hH⟩)
     | (go_at_call 15; refine (hold_less hH (by repeat (first | exact List.Mem.head _ | apply List.Mem.tail)) (by repeat (first | exact List.Mem.head _ | apply List.Mem.tail))).mono ?_; rintro e w7 ⟨x7, rfl, hH⟩)
     | (go_at_call 17; refine (hold_has_eq hH (by repeat (first | exact List.Mem.head _ | apply List.Mem.tail)) r _ HX.out).mono ?_; rintro e w7 ⟨rfl, hH⟩)
     | (go_at_call 20; refine (hold_in hH hl HAa6.out HBL.out).mono ?_; rintro e w7 ⟨rfl, hH⟩)
     | (go_at_call 11; refine (hold_same_dec hH (by repeat (first | exact List.Mem.head _ | apply List.Mem.tail)) (by repeat (first | exact List.Mem.head _ | apply List.Mem.tail)) HBS.out).mono ?_; rintro e w8 ⟨rfl, hH⟩; clear HM4)
     | (go_at_call 18; refine (hold_ref_dec hH (by repeat (first | exact List.Mem.head _ | apply List.Mem.tail)) HQ.out (g := fun z => inB l z && inR z) (by intro z hz; simp only [maskB, wantF, hz]; cases inB l z <;> cases inB m z <;> rfl) HBT.out).mono ?_; rintro e w7 ⟨rfl, hH⟩)
  (try go_wp2_with fail)
  refine hK.out _ _ ?hS64 (fun hHeld => ?hgo64)
  case hS64 => ((try dsimp only); (first | exact ⟨(hH.1.cell (p := ⟨w4.heap.size, 0, none⟩) HGS.out).trans I0.out, (hH.1.cell (p := ⟨w4.heap.size, 1, none⟩) HGS.out).trans I1.out, (hH.1.cell (p := ⟨w4.heap.size, 2, none⟩) HGS.out).trans I2.out, (hH.1.cell (p := ⟨w4.heap.size, 3, none⟩) HGS.out).trans I3.out⟩ | go_keep))
  clear hK K
  (try simp only [Act.put, List.setIfInBounds_toArray, List.set_cons_zero, List.set_cons_succ])
  refine wpAnyH_take (i := 65) (oi := { dst := some 101, op := Op.binOp BinOp.eql 4 (Operand.tmp 94) (Operand.tmp 100) 4, type := 4, pos := "law.go:53", after := #[{ on := 58, ground := Ground.data }, { on := 64, ground := Ground.data }, { on := 55, ground := Ground.guard }], guard := some (55, true) }) (v := ?v65) rfl (by kernel_rfl) (by kernel_rfl) (by kernel_rfl) (fun _ _ _ h => h) (Or.inl ⟨by rfl, ?hy65⟩) (by assumption) ?rest65
  case hy65 => (intro w hSw; (try dsimp only at hSw); go_simp; (try with_reducible rfl))
  (try simp only [Act.put, List.setIfInBounds_toArray, List.set_cons_zero, List.set_cons_succ])
  refine wpAnyH_take (i := 66) (oi := { dst := some 102, op := Op.pick (Operand.tmp 91) (Operand.tmp 101) (Operand.const (Value.bool false)), type := 4, pos := "law.go:53", after := #[{ on := 55, ground := Ground.data }, { on := 65, ground := Ground.data }], guard := none }) (v := ?v66) rfl (by kernel_rfl) (by kernel_rfl) (by kernel_rfl) (fun _ _ _ h => h) (Or.inl ⟨by rfl, ?hy66⟩) (by assumption) ?rest66
  case hy66 => (intro w hSw; (try dsimp only at hSw); go_simp; (try with_reducible rfl))
  (try simp only [Act.put, List.setIfInBounds_toArray, List.set_cons_zero, List.set_cons_succ])
  refine wpAnyH_take (i := 67) (oi := { dst := some 6, op := Op.assign (Operand.tmp 102), type := 4, pos := "law.go:53", after := #[{ on := 66, ground := Ground.data }, { on := 64, ground := Ground.chain }, { on := 0, ground := Ground.phase }, { on := 1, ground := Ground.phase }, { on := 2, ground := Ground.phase }, { on := 3, ground := Ground.phase }, { on := 4, ground := Ground.phase }, { on := 5, ground := Ground.phase }, { on := 6, ground := Ground.phase }, { on := 7, ground := Ground.phase }, { on := 8, ground := Ground.phase }, { on := 9, ground := Ground.phase }, { on := 10, ground := Ground.phase }, { on := 11, ground := Ground.phase }, { on := 12, ground := Ground.phase }, { on := 13, ground := Ground.phase }, { on := 14, ground := Ground.phase }, { on := 15, ground := Ground.phase }, { on := 16, ground := Ground.phase }, { on := 17, ground := Ground.phase }, { on := 18, ground := Ground.phase }, { on := 19, ground := Ground.phase }, { on := 20, ground := Ground.phase }, { on := 21, ground := Ground.phase }, { on := 22, ground := Ground.phase }, { on := 23, ground := Ground.phase }, { on := 24, ground := Ground.phase }, { on := 25, ground := Ground.phase }, { on := 26, ground := Ground.phase }, { on := 27, ground := Ground.phase }, { on := 28, ground := Ground.phase }, { on := 29, ground := Ground.phase }, { on := 30, ground := Ground.phase }, { on := 31, ground := Ground.phase }, { on := 32, ground := Ground.phase }, { on := 33, ground := Ground.phase }, { on := 34, ground := Ground.phase }, { on := 35, ground := Ground.phase }, { on := 36, ground := Ground.phase }, { on := 37, ground := Ground.phase }, { on := 38, ground := Ground.phase }, { on := 39, ground := Ground.phase }, { on := 40, ground := Ground.phase }, { on := 41, ground := Ground.phase }, { on := 42, ground := Ground.phase }, { on := 43, ground := Ground.phase }, { on := 44, ground := Ground.phase }, { on := 45, ground := Ground.phase }, { on := 46, ground := Ground.phase }, { on := 47, ground := Ground.phase }, { on := 48, ground := Ground.phase }, { on := 49, ground := Ground.phase }, { on := 50, ground := Ground.phase }, { on := 51, ground := Ground.phase }, { on := 52, ground := Ground.phase }, { on := 53, ground := Ground.phase }, { on := 54, ground := Ground.phase }, { on := 55, ground := Ground.phase }, { on := 56, ground := Ground.phase }, { on := 57, ground := Ground.phase }, { on := 58, ground := Ground.phase }, { on := 59, ground := Ground.phase }, { on := 60, ground := Ground.phase }, { on := 61, ground := Ground.phase }, { on := 62, ground := Ground.phase }, { on := 63, ground := Ground.phase }, { on := 64, ground := Ground.phase }, { on := 65, ground := Ground.phase }, { on := 66, ground := Ground.phase }], guard := none }) (v := ?v67) rfl (by kernel_rfl) (by kernel_rfl) (by kernel_rfl) (fun _ _ _ h => h) (Or.inl ⟨by rfl, ?hy67⟩) (by assumption) ?rest67
  case hy67 => (intro w hSw; (try dsimp only at hSw); go_simp; (try with_reducible rfl))
  (try simp only [Act.put, List.setIfInBounds_toArray, List.set_cons_zero, List.set_cons_succ])
  refine wpAnyH_done (by kernel_rfl) ?_ _
  go_wp2
  go_ret
  exact ⟨rfl, (Hold.back hW3 (Hold.back hWI hH)).1⟩

end Go.Proofs.Ytapjkahpblbnmaa
