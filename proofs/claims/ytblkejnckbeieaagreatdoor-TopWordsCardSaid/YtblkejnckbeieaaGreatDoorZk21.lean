/- UTF-8, read: the walk of the program's Decode at UTF-8, of bytes without a mark. -/
import Derived.Test.YtblkejnckbeieaaGreatDoorZk20
import Derived.Test.YtblkejnckbeieaaGreatDoorShelf
import Derived.Deep.RegionLaw
import Derived.Deep.LoopGhost
import Derived.Laws.Tables
namespace Go.Proofs.YtblkejnckbeieaaGreatDoor
open Go.RowKit

/-- The bytes begin with no mark. -/
def NoMark (d : ByteArray) : Prop := Lib.hasPrefix d.data.toList [239, 187, 191] = false

theorem mark_any (w : World) : Calls Tryz.prog 62 #[.int .i64 1] w fun e w' => e = .returned (.string ⟨#[239, 187, 191]⟩) ∧ w = w' := by
  go_enter Tryz.func62, Tryz.ntmps62
  go_wp2
  go_ret
  exact ⟨rfl, rfl⟩
theorem prefix_no (d : ByteArray) (h : NoMark d) (w : World) : Calls Tryz.prog 63 #[.string d, .string ⟨#[239, 187, 191]⟩] w fun e w' => e = .returned (.bool false) ∧ w = w' := by
  refine (Tryz.strings_HasPrefix d ⟨#[239, 187, 191]⟩ w).mono ?_
  rintro e w' ⟨rfl, rfl⟩
  rw [show Lib.hasPrefix d.data.toList (ByteArray.mk #[239, 187, 191]).data.toList = false from h]
  exact ⟨rfl, rfl⟩
theorem scalarOf_any (w : World) : Calls Tryz.prog 64 #[.int .i64 1] w fun e w' => e = .returned (.func (.func 95) #[] #[]) ∧ w = w' := by
  go_enter Tryz.func64, Tryz.ntmps64
  go_wp2
  go_ret
  exact ⟨rfl, rfl⟩
theorem info_intE : (Tryz.prog.info? 3).map (fun i => (i.zero, i.size, i.bytes)) = some (some (.int .i64 0), 1, 8) := by kernel_rfl
theorem elInt : ElemOf Tryz.prog 22 3 Eint.k 8 := by
  obtain ⟨i, hi, hz0, hz1, hz2⟩ := info_parts info_intE
  exact ⟨i, _, Tryz.underlying22, hi, hz0, hz1, hz2, rfl⟩

theorem own_not {w0 w : World} {v : Value} {l : List Int} {T : Nat} {cs : Array Value} {t : TypeId} (h : Own Eint 3 w0 w v l) (hb : w.heap[T]? = some (.cells cs t)) (ht : t ≠ 3) : v.ownBlock ≠ some T := by
  rcases h.1.2 with ⟨rfl, _⟩ | ⟨g, cap, cur, rfl, _, hg, _⟩
  · intro e; cases e
  · intro e
    simp only [Value.ownBlock] at e
    injection e with e
    subst e
    rw [hg] at hb
    injection hb with hb
    injection hb with _ hb
    exact ht hb.symm

/-- A block of some other type. -/
def TyAt (w : World) (b : Nat) : Prop := ∃ cs t, w.heap[b]? = some (.cells cs t) ∧ t ≠ 3
theorem grown_set (w : World) (a : Addr) (v : Value) : w.grownBy (w.setCell a v) (some a.block) :=
  ⟨rfl, rfl, rfl, by simp [World.setCell], fun k _ hne => by simp only [World.setCell, Array.getElem?_modify]; rw [if_neg (fun e => hne (by rw [e]))]⟩
theorem TyAt.set {w : World} {b : Nat} (h : TyAt w b) (b' o : Nat) (v : Value) : TyAt (w.setCell ⟨b', o, none⟩ v) b := by
  obtain ⟨cs, t, h, ht⟩ := h
  by_cases he : b' = b
  · exact ⟨cs.setIfInBounds o v, t, by simp only [World.setCell, Array.getElem?_modify, if_pos he, h, Option.map_some]; rfl, ht⟩
  · exact ⟨cs, t, by simp only [World.setCell, Array.getElem?_modify, if_neg he]; exact h, ht⟩
theorem own_set {w0 w : World} {v : Value} {l : List Int} (h : Own Eint 3 w0 w v l) {b : Nat} (hb : TyAt w b) (hw : w0.heap.size ≤ b) (o : Nat) (u : Value) : Own Eint 3 w0 (w.setCell ⟨b, o, none⟩ u) v l := by
  obtain ⟨cs, t, hb, ht⟩ := hb
  exact own_kept2 h (grown_set w ⟨b, o, none⟩ u) (Or.inr (own_not h hb ht)) (h.2.setCell (p := ⟨b, o, none⟩) hw u)
theorem own_sets {w0 : World} {v : Value} {l : List Int} : ∀ (us : List (Nat × Nat × Value)) (w : World), Own Eint 3 w0 w v l → (∀ x ∈ us, TyAt w x.1 ∧ w0.heap.size ≤ x.1) → Own Eint 3 w0 (us.foldl (fun w x => w.setCell ⟨x.1, x.2.1, none⟩ x.2.2) w) v l
  | [], _, h, _ => h
  | x :: us, _, h, hx => own_sets us _ (own_set h (hx x List.mem_cons_self).1 (hx x List.mem_cons_self).2 x.2.1 x.2.2) (fun y hy => ⟨(hx y (List.mem_cons_of_mem _ hy)).1.set _ _ _, (hx y (List.mem_cons_of_mem _ hy)).2⟩)

/-- What stands at the loop's head: the result's two blocks, the text's block, its two rows. -/
structure DecS (w wr : World) (T : Nat) (bad : Int) (va : Value) (la : List Int) (vb : Value) (lb : List Int) : Prop where
  two : Two Eint 3 Eint 3 w wr va la vb lb
  base : w.heap.size ≤ T
  txt : wr.heap[T + 1 + 1]? = some (.cells #[.int .i64 1, va, vb, .int .i64 bad] 69)
  res : wr.heap[T]? = some (.cells #[.int .i64 0, .slice none 0 0, .slice none 0 0, .int .i64 0] 69)
  flt : wr.heap[T + 1]? = some (.cells #[.int .i64 0, .int .i64 0] 35)

theorem heap_set_ne (w : World) {a : Addr} {k : Nat} (h : a.block ≠ k) (v : Value) : (w.setCell a v).heap[k]? = w.heap[k]? := by
  simp only [World.setCell, Array.getElem?_modify, if_neg h]
theorem heap_set_eq {w : World} {b o : Nat} {v : Value} {l : List Value} {t : TypeId} (h : w.heap[b]? = some (.cells l.toArray t)) : (w.setCell ⟨b, o, none⟩ v).heap[b]? = some (.cells (l.set o v).toArray t) := by
  simp only [World.setCell, Array.getElem?_modify, if_true, h, Option.map_some]
  simp
section
variable {w wr : World} {T : Nat} {bad : Int} {va vb : Value} {la lb : List Int}
theorem Two.set (h : Two Eint 3 Eint 3 w wr va la vb lb) {b : Nat} {cs : Array Value} {t : TypeId} (hb : wr.heap[b]? = some (.cells cs t)) (ht : t ≠ 3) (hw : w.heap.size ≤ b) (o : Nat) (v : Value) : Two Eint 3 Eint 3 w (wr.setCell ⟨b, o, none⟩ v) va la vb lb := by
  have hbl : Below w.heap.size w (wr.setCell ⟨b, o, none⟩ v) := h.a.2.setCell (p := ⟨b, o, none⟩) hw v
  exact ⟨own_kept2 h.a (grown_set wr ⟨b, o, none⟩ v) (Or.inr (own_not h.a hb ht)) hbl, own_kept2 h.b (grown_set wr ⟨b, o, none⟩ v) (Or.inr (own_not h.b hb ht)) hbl, h.ne⟩
theorem DecS.setBad (h : DecS w wr T bad va la vb lb) (b' : Int) : DecS w (wr.setCell ⟨T + 1 + 1, 3, none⟩ (.int .i64 b')) T b' va la vb lb := by
  have hbs := h.base
  exact ⟨h.two.set h.txt (by decide) (by omega) 3 _, h.base, heap_set_eq (l := [.int .i64 1, va, vb, .int .i64 bad]) h.txt, (heap_set_ne wr (by show T + 1 + 1 ≠ T; omega) _).trans h.res, (heap_set_ne wr (by show T + 1 + 1 ≠ T + 1; omega) _).trans h.flt⟩
theorem DecS.lay {va' vb' : Value} (h : Two Eint 3 Eint 3 w wr va' la vb' lb) (hb : w.heap.size ≤ T) (ht : wr.heap[T + 1 + 1]? = some (.cells #[.int .i64 1, va, vb, .int .i64 bad] 69))
    (hr : wr.heap[T]? = some (.cells #[.int .i64 0, .slice none 0 0, .slice none 0 0, .int .i64 0] 69)) (hf : wr.heap[T + 1]? = some (.cells #[.int .i64 0, .int .i64 0] 35)) :
    DecS w ((wr.setCell ⟨T + 1 + 1, 1, none⟩ va').setCell ⟨T + 1 + 1, 2, none⟩ vb') T bad va' la vb' lb := by
  have h1 := heap_set_eq (o := 1) (v := va') (l := [.int .i64 1, va, vb, .int .i64 bad]) ht
  have h2 := heap_set_eq (o := 2) (v := vb') h1
  refine ⟨(h.set ht (by decide) (by omega) 1 _).set h1 (by decide) (by omega) 2 _, hb, h2, ?_, ?_⟩
  · rw [heap_set_ne _ (by show T + 1 + 1 ≠ T; omega), heap_set_ne _ (by show T + 1 + 1 ≠ T; omega)]; exact hr
  · rw [heap_set_ne _ (by show T + 1 + 1 ≠ T + 1; omega), heap_set_ne _ (by show T + 1 + 1 ≠ T + 1; omega)]; exact hf
end
section
variable {P : Program} {ops : Array Oper} {o : Oper} {a : Act} {K : Act → World → Prop} {Q : Exit → Act → World → Prop} {F : Prop} {w0 w : World} {va vb : Value} {la lb : List Int}
/-- Two rows of ints, one of which grows by one; blocks of other types stand. -/
theorem step_dec_a (w : World) (T : Nat) (cs : Array Value) (tt : TypeId) (hgd : o.guard = none) (s x : Operand) (t : TypeId)
    (ho : o.op = .call { callee := .builtin .append, args := #[s, x], argTypes := #[t, t] }) (he : ElemOf P t 3 Eint.k 8)
    (hs : a.eval s = va) (h : Two Eint 3 Eint 3 w0 w va la vb lb) (hT : w.heap[T]? = some (Obj.cells cs tt)) (hne : tt ≠ 3) {y : Int} {g oo c : Nat} (hx : a.eval x = .slice (some ⟨g, oo, none⟩) 1 c) (hc : w.cell? ⟨g, oo, none⟩ = some (.int .i64 y))
    (h63 : la.length + 1 ≤ maxLen) (hbytes : (la.length + 1) * 8 ≤ 140737488355328)
    (k : ∀ v' w', Two Eint 3 Eint 3 w0 w' v' (la ++ [y]) vb lb → (∀ g o u, va.ownBlock ≠ some g → w.cell? ⟨g, o, none⟩ = some u → w'.cell? ⟨g, o, none⟩ = some u) → w'.heap[T]? = some (.cells cs tt) → w.heap.size ≤ w'.heap.size →
      (∀ (T : Nat) (cs : Array Value) (tt : TypeId), w.heap[T]? = some (Obj.cells cs tt) → tt ≠ 3 → w'.heap[T]? = some (Obj.cells cs tt)) → K (a.put o.dst v') w') :
    if Region.wanted o (yielded ops a.tmps) = true then Oper.wp P o a w K Q else F := by
  have hw : Region.wanted o (yielded ops a.tmps) = true := by simp [Region.wanted, hgd]
  rw [if_pos hw]
  obtain ⟨v', w', hrun, h2, h3⟩ := h.run_a (P := P) rfl t o.type 8 he (x := y) (u := .int .i64 y) rfl (c := c) hc h63 hbytes
  unfold Oper.wp execOp
  simp only [ho, resolve, invoke, builtin, Sem.run_bind, Sem.run_pure, Result.andThen_ok, List.map_toArray, List.map_cons, List.map_nil, hs, hx, hrun]
  have key : ∀ (T : Nat) (cs : Array Value) (tt : TypeId), w.heap[T]? = some (Obj.cells cs tt) → tt ≠ 3 → w'.heap[T]? = some (Obj.cells cs tt) := fun T cs tt hT hne =>
    (h3.block T (Array.getElem?_eq_some_iff.1 hT).1 (fun e => own_not h.a hT hne e.symm)).trans hT
  exact k v' w' h2 (fun g o u hg hcell => h3.cell hcell (fun e => hg e.symm)) (key T cs tt hT hne) h3.size key
theorem step_dec_b (w : World) (T : Nat) (cs : Array Value) (tt : TypeId) (hgd : o.guard = none) (s x : Operand) (t : TypeId)
    (ho : o.op = .call { callee := .builtin .append, args := #[s, x], argTypes := #[t, t] }) (he : ElemOf P t 3 Eint.k 8)
    (hs : a.eval s = vb) (h : Two Eint 3 Eint 3 w0 w va la vb lb) (hT : w.heap[T]? = some (Obj.cells cs tt)) (hne : tt ≠ 3) {y : Int} {g oo c : Nat} (hx : a.eval x = .slice (some ⟨g, oo, none⟩) 1 c) (hc : w.cell? ⟨g, oo, none⟩ = some (.int .i64 y))
    (h63 : lb.length + 1 ≤ maxLen) (hbytes : (lb.length + 1) * 8 ≤ 140737488355328)
    (k : ∀ v' w', Two Eint 3 Eint 3 w0 w' va la v' (lb ++ [y]) → (∀ g o u, vb.ownBlock ≠ some g → w.cell? ⟨g, o, none⟩ = some u → w'.cell? ⟨g, o, none⟩ = some u) → w'.heap[T]? = some (Obj.cells cs tt) → w.heap.size ≤ w'.heap.size →
      (∀ (T : Nat) (cs : Array Value) (tt : TypeId), w.heap[T]? = some (Obj.cells cs tt) → tt ≠ 3 → w'.heap[T]? = some (Obj.cells cs tt)) → K (a.put o.dst v') w') :
    if Region.wanted o (yielded ops a.tmps) = true then Oper.wp P o a w K Q else F :=
  step_dec_a w T cs tt hgd s x t ho he hs h.swap hT hne hx hc h63 hbytes fun v' w' h2 h3 h4 h5 h6 => k v' w' h2.swap h3 h4 h5 h6
end

def badS (strict : Bool) (s : List UInt8) (i : Nat) : Option Nat := if strict then DecP.badAt s i else none
/-- What Decode hands back. -/
def DecEnd (d : ByteArray) (strict : Bool) (w : World) (e : Ending) (w' : World) : Prop :=
  Below w.heap.size w w' ∧ match badS strict d.data.toList 0 with
  | some p => e = .returned (.tuple #[.agg #[.int .i64 0, .slice none 0 0, .slice none 0 0, .int .i64 0], .agg #[.int .i64 17, .int .i64 p]])
  | none => ∃ Ar nr cr Ap np cp bad, e = .returned (.tuple #[.agg #[.int .i64 1, .slice Ar nr cr, .slice Ap np cp, .int .i64 bad], .agg #[.int .i64 0, .int .i64 0]]) ∧ Own Eint 3 w w' (.slice Ar nr cr) (DecP.runes d.data.toList) ∧ Own Eint 3 w w' (.slice Ap np cp) (DecP.places d.data.toList 0 ++ [(d.size : Int)])

set_option maxRecDepth 100000 in
set_option maxHeartbeats 4000000 in
theorem decode_any (d : ByteArray) (strict : Bool) (w : World) (hd : d.size ≤ 1099511627776) (hm : NoMark d) :
    Calls Tryz.prog 29 #[.string d, .int .i64 1, .bool strict] w (DecEnd d strict w) := by
  have HM := Lib.hid hm
  clear hm
  go_enter Tryz.func29, Tryz.ntmps29
  go_wp2_with (first
    | (go_at_call 62; refine (mark_any _).mono ?_; rintro e w1 ⟨rfl, rfl⟩)
    | (go_at_call 63; refine (prefix_no d HM.out _).mono ?_; rintro e w1 ⟨rfl, rfl⟩)
    | (go_at_call 64; refine (scalarOf_any _).mono ?_; rintro e w1 ⟨rfl, rfl⟩))
  have hb0 : Below w.heap.size w (((w.alloc (.cells #[.int .i64 0, .slice none 0 0, .slice none 0 0, .int .i64 0] 69)).alloc (.cells #[.int .i64 0, .int .i64 0] 35)).alloc (.cells #[.int .i64 1, .slice none 0 0, .slice none 0 0, .int .i64 0] 69)) := (((Below.refl _ w).alloc (Nat.le_refl _) _).alloc (by simp) _).alloc (by simp; omega) _
  have q2 := heap_alloc_new ((w.alloc (.cells #[.int .i64 0, .slice none 0 0, .slice none 0 0, .int .i64 0] 69)).alloc (.cells #[.int .i64 0, .int .i64 0] 35)) (.cells #[.int .i64 1, .slice none 0 0, .slice none 0 0, .int .i64 0] 69)
  have q1 := heap_alloc_new (w.alloc (.cells #[.int .i64 0, .slice none 0 0, .slice none 0 0, .int .i64 0] 69)) (.cells #[.int .i64 0, .int .i64 0] 35)
  have q0 := heap_alloc_new w (.cells #[.int .i64 0, .slice none 0 0, .slice none 0 0, .int .i64 0] 69)
  simp only [World.size_alloc] at q1 q2
  have q1' := (Below.heap_alloc ((w.alloc (.cells #[.int .i64 0, .slice none 0 0, .slice none 0 0, .int .i64 0] 69)).alloc (.cells #[.int .i64 0, .int .i64 0] 35)) (.cells #[.int .i64 1, .slice none 0 0, .slice none 0 0, .int .i64 0] 69) (w.heap.size + 1) (by simp)).trans q1
  have q0' := (Below.heap_alloc ((w.alloc (.cells #[.int .i64 0, .slice none 0 0, .slice none 0 0, .int .i64 0] 69)).alloc (.cells #[.int .i64 0, .int .i64 0] 35)) (.cells #[.int .i64 1, .slice none 0 0, .slice none 0 0, .int .i64 0] 69) w.heap.size (by simp; omega)).trans ((Below.heap_alloc _ _ _ (by simp)).trans q0)
  have HS0 := Lib.hid (DecS.mk (w := w) (T := w.heap.size) (bad := 0) ⟨Own.nil_of hb0, Own.nil_of hb0, Or.inl rfl⟩ (Nat.le_refl _) q2 q0' q1')
  clear q0 q1 q2 q1' q0' hb0
  generalize (((w.alloc (.cells #[.int .i64 0, .slice none 0 0, .slice none 0 0, .int .i64 0] 69)).alloc (.cells #[.int .i64 0, .int .i64 0] 35)).alloc (.cells #[.int .i64 1, .slice none 0 0, .slice none 0 0, .int .i64 0] 69)) = W at HS0 ⊢
  obtain ⟨T, hT⟩ : ∃ T, w.heap.size = T := ⟨_, rfl⟩
  rw [hT] at HS0 ⊢
  have HT := Lib.hid hT
  clear hT
  go_loopw [9] (fun s9 wr => ∃ (i : Nat) (va vb : Value) (la lb : List Int) (bad : Int), s9 = .int .i64 i ∧ i ≤ d.size ∧ la.length ≤ i ∧ lb.length ≤ i ∧ 0 ≤ bad ∧ bad ≤ i ∧ Hid (DecS w wr T bad va la vb lb) ∧ Hid (DecP.runes d.data.toList = la ++ DecP.runes (d.data.toList.drop i)) ∧ Hid (DecP.places d.data.toList 0 = lb ++ DecP.places (d.data.toList.drop i) i) ∧ Hid (badS strict d.data.toList 0 = badS strict (d.data.toList.drop i) i)) (fun s9 _ => d.size - (intOf s9).toNat)
  case atStart => exact ⟨0, _, _, _, _, 0, rfl, by omega, by simp, by simp, by omega, by omega, HS0, Lib.hid rfl, Lib.hid rfl, Lib.hid rfl⟩
  case round =>
    obtain ⟨i, va, vb, la, lb, bad, rfl, hi, hla, hlb, hbad0, hbad1, HS, HR, HPl, HBd⟩ := hrel
    by_cases hlt : i < d.size
    · have c2 := fun o => Lib.cell_of_heap HS.out.txt o
      have f2 := fun o => Lib.frozen_of_heap HS.out.txt o
      have hsz : 0 < (d.extract i d.size).size := by rw [ByteArray.size_extract]; omega
      have hsz2 : (d.extract i d.size).size ≤ 140737488355328 := by rw [ByteArray.size_extract]; omega
      have hdl : (d.extract i d.size).data.toList = d.data.toList.drop i := by
        rw [ByteArray.data_extract, Array.toList_extract, List.extract_eq_take_drop]
        exact List.take_of_length_le (by rw [List.length_drop, Array.length_toList]; exact Nat.le_refl _)
      obtain ⟨n, hn⟩ : ∃ n, (DecP.one (d.data.toList.drop i)).2 = n := ⟨_, rfl⟩
      obtain ⟨v, hv⟩ : ∃ v, (DecP.one (d.data.toList.drop i)).1 = v := ⟨_, rfl⟩
      have hne : d.data.toList.drop i ≠ [] := by rw [cons_at hlt]; exact List.cons_ne_nil _ _
      have hnp := DecP.one_pos _ hne
      rw [hn, List.length_drop, Array.length_toList] at hnp
      have hnp2 : n ≤ d.size - i := hnp.2
      have hrc := DecP.runes_cons hne
      rw [hn, List.drop_drop] at hrc
      have HRC := Lib.hid hrc
      have hpc := DecP.places_cons (i := i) hne
      rw [hn, List.drop_drop] at hpc
      have HPC := Lib.hid hpc
      clear hpc
      have HC : Hid (∀ w, Calls Tryz.prog 95 #[.string (d.extract i d.size)] w fun e w' => e = .returned (.tuple #[.int .i64 v, .int .i64 n]) ∧ w = w') := Lib.hid fun w => by
        have := utf8_any (d.extract i d.size) w hsz2 hsz
        rw [hdl] at this
        unfold oneV at this
        rw [hv, hn] at this
        exact this
      have HNext : Hid (strict = false ∨ 0 ≤ v → badS strict d.data.toList 0 = badS strict (d.data.toList.drop (i + n)) (i + n)) := Lib.hid fun h => by
        rw [HBd.out]
        unfold badS
        cases strict
        · rfl
        · rcases h with h | h
          · cases h
          · simp only [if_true]
            rw [DecP.badAt_good hne (by rw [hv]; omega), hn, List.drop_drop]
      have HBadE : Hid (strict = true → v < 0 → badS strict d.data.toList 0 = some i) := Lib.hid fun h1 h2 => by
        rw [HBd.out]
        unfold badS
        rw [h1]
        simp only [if_true]
        rw [DecP.badAt_bad hne (by rw [hv]; exact h2)]
      have HV := Lib.hid hv
      have HN := Lib.hid hn
      have hi0 : (0 : Int) ≤ (i : Int) := by omega
      have hii : (i : Int) < (d.size : Int) := by omega
      clear hsz hsz2 hdl hv hn hne hrc
      obtain ⟨r, hr⟩ : ∃ r, DecP.rune (v, n) = r := ⟨_, rfl⟩
      have HRu := Lib.hid hr
      clear hr
      go_upto_if 56 with (go_at_call 95; refine (HC.out _).mono ?_; rintro e w1 ⟨rfl, rfl⟩)
      go_cut [12] (fun s12 wx => s12 = .int .i64 r ∧ Hid (badS strict d.data.toList 0 = badS strict (d.data.toList.drop (i + n)) (i + n)) ∧ ∃ bad' : Int, 0 ≤ bad' ∧ bad' ≤ (i : Int) + 1 ∧ Hid (DecS w wx T bad' va la vb lb))
      case first =>
        by_cases hv0 : v < 0
        · have HE : Hid (r = 65533) := Lib.hid (by rw [← HRu.out]; unfold DecP.rune; rw [if_pos hv0])
          cases strict
          · go_wp2
            go_meet
            exact ⟨by rw [HE.out], Lib.hid (HNext.out (Or.inl (by first | trivial | rfl))), bad + 1, by omega, by omega, Lib.hid (HS.out.setBad _)⟩
          · have HBE := Lib.hid (HBadE.out rfl hv0)
            have f0 := fun o => Lib.frozen_of_heap HS.out.res o
            have f1 := fun o => Lib.frozen_of_heap HS.out.flt o
            have c0 := fun o => Lib.cell_of_heap HS.out.res o
            have c1 := fun o => Lib.cell_of_heap HS.out.flt o
            have hbs := HS.out.base
            have HB0 := Lib.hid HS.out.two.a.2
            have hT1 : ¬ T = T + 1 := by omega
            have hT2 : ¬ T + 1 = T := by omega
            clear c2 f2
            go_wp2
            refine bodyPost_ret (v := .tuple #[.agg #[.int .i64 0, .slice none 0 0, .slice none 0 0, .int .i64 0], .agg #[.int .i64 17, .int .i64 i]]) ?_ ?_ ?_
            · simp [results, Tryz.results29, go_sem, c0, c1]
            · rfl
            refine ⟨?_, ?_⟩
            · exact (((((HB0.out.setCell (p := ⟨T, 0, none⟩) hbs _).setCell (p := ⟨T, 1, none⟩) hbs _).setCell (p := ⟨T, 2, none⟩) hbs _).setCell (p := ⟨T, 3, none⟩) hbs _).setCell (p := ⟨T + 1, 0, none⟩) (by show _ ≤ T + 1; omega) _).setCell (p := ⟨T + 1, 1, none⟩) (by show _ ≤ T + 1; omega) _
            · rw [HBE.out]
        · have HE : Hid (r = v) := Lib.hid (by rw [← HRu.out]; unfold DecP.rune; rw [if_neg hv0])
          go_wp2
          go_meet
          exact ⟨by rw [HE.out], Lib.hid (HNext.out (Or.inr (by omega))), bad, by omega, by omega, HS⟩
      case rest =>
        obtain ⟨rfl, HNx, bad', hb0', hb1', HS'⟩ := hcut
        have c2' := fun o => Lib.cell_of_heap HS'.out.txt o
        have f2' := fun o => Lib.frozen_of_heap HS'.out.txt o
        have htw := HS'.out.two
        clear c2 f2
        go_upto_region 18 with fail
        have hx1 : ∀ o, (wc.alloc o).heap[T + 1 + 1]? = some (.cells #[.int .i64 1, va, vb, .int .i64 bad'] 69) := fun o => (Below.heap_alloc _ _ _ (Array.getElem?_eq_some_iff.1 HS'.out.txt).1).trans HS'.out.txt
        have hx2 : ∀ o o', ((wc.alloc o).alloc o').heap[T + 1 + 1]? = some (.cells #[.int .i64 1, va, vb, .int .i64 bad'] 69) := fun o o' => (Below.heap_alloc _ _ _ (Array.getElem?_eq_some_iff.1 (hx1 o)).1).trans (hx1 o)
        have lR := (Array.getElem?_eq_some_iff.1 HS'.out.res).1
        have lF := (Array.getElem?_eq_some_iff.1 HS'.out.flt).1
        have HR1 := Lib.hid (fun o => (Below.heap_alloc wc o T lR).trans HS'.out.res)
        have HR2 := Lib.hid (fun o o' => (Below.heap_alloc (wc.alloc o) o' T (by simp; omega)).trans (HR1.out o))
        have HF1 := Lib.hid (fun o => (Below.heap_alloc wc o (T + 1) lF).trans HS'.out.flt)
        have HF2 := Lib.hid (fun o o' => (Below.heap_alloc (wc.alloc o) o' (T + 1) (by simp; omega)).trans (HF1.out o))
        have hRU : DecP.runes d.data.toList = (la ++ [r]) ++ DecP.runes (d.data.toList.drop (i + n)) := by
          rw [HR.out, HRC.out, ← HRu.out, ← HV.out, ← HN.out, List.append_assoc]; rfl
        have HRU := Lib.hid hRU
        have HPU : Hid (DecP.places d.data.toList 0 = (lb ++ [(i : Int)]) ++ DecP.places (d.data.toList.drop (i + n)) (i + n)) := Lib.hid (by
          rw [HPl.out, HPC.out, List.append_assoc]; rfl)
        have hwr : IntKind.i64.wrap ((i : Int) + (n : Int)) = ((i + n : Nat) : Int) := by rw [IntKind.wrap_i64]; omega
        have HWr := Lib.hid hwr
        have HBs := Lib.hid HS'.out.base
        have HX1 := Lib.hid hx1
        have HX2 := Lib.hid hx2
        have HTW := Lib.hid htw
        have hkA : ∀ g, wc.heap.size ≤ g → va.ownBlock ≠ some g := fun g hg e => by have := htw.lt.1 g e; omega
        have HKA := Lib.hid hkA
        have zT : T + 1 + 1 < wc.heap.size := (Array.getElem?_eq_some_iff.1 HS'.out.txt).1
        have zT' : T + 1 + 1 < wc.heap.size + 1 := by omega
        clear hx1 hx2 htw hkA lR lF hRU hwr HS HR HRC
        go_region_law (first
          | (refine step_dec_a _ (T + 1 + 1) #[.int .i64 1, va, vb, .int .i64 bad'] 69 rfl (.tmp 66) (.tmp 68) 22 rfl elInt rfl (by first | exact (HTW.out.alloc _).drew | exact ((HTW.out.alloc _).alloc _).drew) (by first | exact HX1.out _ | exact HX2.out _ _) (by decide) (y := r) rfl (by go_simp) (by unfold maxLen; omega) (by omega) ?_
             intro v1 w1 ht1 hk1 hT1 hz1 hh1
             obtain ⟨A1, c1, hv1, _, _, _⟩ := ht1.a.isSeq
             rw [List.length_append, List.length_singleton] at hv1
             subst hv1
             have r1 := hh1 T _ _ (by first | exact HR1.out _ | exact HR2.out _ _) (by decide)
             have g1 := hh1 (T + 1) _ _ (by first | exact HF1.out _ | exact HF2.out _ _) (by decide)
             have HR1' := Lib.hid r1
             have HG1' := Lib.hid g1
             clear r1 g1 hh1
             have cT1 := fun o => Lib.cell_of_heap hT1 o
             have fT1 := fun o => Lib.frozen_of_heap hT1 o
             have zT1 : T + 1 + 1 < w1.heap.size := (Array.getElem?_eq_some_iff.1 hT1).1)
          | (refine step_dec_b _ (T + 1 + 1) #[.int .i64 1, va, vb, .int .i64 bad'] 69 rfl (.tmp 71) (.tmp 73) 22 rfl elInt rfl (by first | exact ht1 | exact ht1.alloc _) (by first | exact hT1 | exact (Below.heap_alloc _ _ _ (Array.getElem?_eq_some_iff.1 hT1).1).trans hT1) (by decide) (y := (i : Int)) rfl (by first | (go_simp; done) | exact hk1 _ _ _ (HKA.out _ (by omega)) (by go_simp)) (by unfold maxLen; omega) (by omega) ?_
             intro v2 w2 ht2 hk2 hT2 hz2 hh2
             obtain ⟨A2, c2, hv2, _, _, _⟩ := ht2.b.isSeq
             rw [List.length_append, List.length_singleton] at hv2
             subst hv2
             have r2 := hh2 T _ _ (by first | exact HR1'.out | exact (Below.heap_alloc _ _ _ (Array.getElem?_eq_some_iff.1 HR1'.out).1).trans HR1'.out) (by decide)
             have g2 := hh2 (T + 1) _ _ (by first | exact HG1'.out | exact (Below.heap_alloc _ _ _ (Array.getElem?_eq_some_iff.1 HG1'.out).1).trans HG1'.out) (by decide)
             have HR2' := Lib.hid r2
             have HG2' := Lib.hid g2
             have HT2' := Lib.hid hT2
             have HTW2 := Lib.hid ht2
             clear r2 g2 hh2
             have cT2 := fun o => Lib.cell_of_heap hT2 o
             have fT2 := fun o => Lib.frozen_of_heap hT2 o
             have zT2 : T + 1 + 1 < w2.heap.size := (Array.getElem?_eq_some_iff.1 hT2).1))
        all_goals
          go_wp2
          go_roundw
        all_goals first
          | exact ⟨i + n, _, _, la ++ [r], lb ++ [(i : Int)], bad', by go_num, by omega, by rw [List.length_append, List.length_singleton]; omega, by rw [List.length_append, List.length_singleton]; omega, hb0', by omega, Lib.hid (DecS.lay HTW2.out HBs.out HT2'.out HR2'.out HG2'.out), HRU, HPU, HNx⟩
          | (simp [intOf] <;> omega)
    · have hge : d.size ≤ i := by omega
      have hR : DecP.runes d.data.toList = la := by
        rw [HR.out, List.drop_of_length_le (by rw [Array.length_toList]; exact hge), DecP.runes_nil, List.append_nil]
      have HRR := Lib.hid hR
      have HPP : Hid (DecP.places d.data.toList 0 = lb) := Lib.hid (by
        rw [HPl.out, List.drop_of_length_le (by rw [Array.length_toList]; exact hge), DecP.places_nil, List.append_nil])
      obtain ⟨A1, c1, rfl, _, _, _⟩ := HS.out.two.a.isSeq
      have c2 := fun o => Lib.cell_of_heap HS.out.txt o
      have zT : T + 1 + 1 < wr.heap.size := (Array.getElem?_eq_some_iff.1 HS.out.txt).1
      clear hR
      have lR := (Array.getElem?_eq_some_iff.1 HS.out.res).1
      have lF := (Array.getElem?_eq_some_iff.1 HS.out.flt).1
      go_upto_region 21 with (at_builtin; (refine wpList_append_seq _ rfl (.tmp 81) (.tmp 84) 22 rfl 8 elInt rfl (HS.out.two.b.alloc _) 1 rfl (SeqAt.new (E := Eint) wr [(d.size : Int)] 3) rfl (by unfold maxLen; omega) (by omega) ?_)
                              intro v3 w3 ho3 hg3
                              obtain ⟨A3, c3, hv3, _, _, _⟩ := ho3.isSeq
                              rw [List.length_append, List.length_singleton] at hv3
                              subst hv3
                              have e2 := (hg3.block (T + 1 + 1) (by simp; omega) (fun e => own_not HS.out.two.b HS.out.txt (by decide) e.symm)).trans ((Below.heap_alloc wr _ _ zT).trans HS.out.txt)
                              have e1 := (hg3.block (T + 1) (by simp; omega) (fun e => own_not HS.out.two.b HS.out.flt (by decide) e.symm)).trans ((Below.heap_alloc wr _ _ lF).trans HS.out.flt)
                              have e0 := (hg3.block T (by simp; omega) (fun e => own_not HS.out.two.b HS.out.res (by decide) e.symm)).trans ((Below.heap_alloc wr _ _ lR).trans HS.out.res)
                              have hva := own_kept2 (HS.out.two.a.alloc _) hg3 HS.out.two.ne ho3.2
                              have HVa := Lib.hid hva
                              have HO3 := Lib.hid ho3
                              clear hva ho3 hg3
                              have d2 := fun o => Lib.cell_of_heap e2 o
                              have d1 := fun o => Lib.cell_of_heap e1 o
                              have d0 := fun o => Lib.cell_of_heap e0 o
                              have f2 := fun o => Lib.frozen_of_heap e2 o
                              have f1 := fun o => Lib.frozen_of_heap e1 o
                              have f0 := fun o => Lib.frozen_of_heap e0 o
                              have E0 := Lib.hid e0
                              have E1 := Lib.hid e1
                              have E2 := Lib.hid e2
                              clear e0 e1 e2)
      have HBdE : Hid (badS strict d.data.toList 0 = none) := Lib.hid (by
        rw [HBd.out, List.drop_of_length_le (by rw [Array.length_toList]; exact hge)]
        unfold badS
        cases strict
        · rfl
        · simp only [if_true]; exact DecP.badAt_nil i)
      have hbs := HS.out.base
      have hT1 : ¬ T = T + 1 := by omega
      have hT2 : ¬ T + 1 = T := by omega
      have hT3 : ¬ T = T + 1 + 1 := by omega
      have hT4 : ¬ T + 1 + 1 = T := by omega
      have hT5 : ¬ T + 1 = T + 1 + 1 := by omega
      have hT6 : ¬ T + 1 + 1 = T + 1 := by omega
      have HOwn := Lib.hid (own_sets [(T + 1 + 1, 2, .slice A3 (lb.length + 1) c3), (T, 0, .int .i64 1), (T, 1, .slice A1 la.length c1), (T, 2, .slice A3 (lb.length + 1) c3), (T, 3, .int .i64 bad), (T + 1, 0, .int .i64 0), (T + 1, 1, .int .i64 0)] w3 HVa.out (fun x hx => by
        have t0 : TyAt w3 T := ⟨_, _, E0.out, by decide⟩
        have t1 : TyAt w3 (T + 1) := ⟨_, _, E1.out, by decide⟩
        have t2 : TyAt w3 (T + 1 + 1) := ⟨_, _, E2.out, by decide⟩
        simp only [List.mem_cons, List.not_mem_nil, or_false] at hx
        rcases hx with rfl | rfl | rfl | rfl | rfl | rfl | rfl
        · exact ⟨t2, by show _ ≤ T + 1 + 1; omega⟩
        · exact ⟨t0, hbs⟩
        · exact ⟨t0, hbs⟩
        · exact ⟨t0, hbs⟩
        · exact ⟨t0, hbs⟩
        · exact ⟨t1, by show _ ≤ T + 1; omega⟩
        · exact ⟨t1, by show _ ≤ T + 1; omega⟩))
      have HOwn2 := Lib.hid (own_sets [(T + 1 + 1, 2, .slice A3 (lb.length + 1) c3), (T, 0, .int .i64 1), (T, 1, .slice A1 la.length c1), (T, 2, .slice A3 (lb.length + 1) c3), (T, 3, .int .i64 bad), (T + 1, 0, .int .i64 0), (T + 1, 1, .int .i64 0)] w3 HO3.out (fun x hx => by
        have t0 : TyAt w3 T := ⟨_, _, E0.out, by decide⟩
        have t1 : TyAt w3 (T + 1) := ⟨_, _, E1.out, by decide⟩
        have t2 : TyAt w3 (T + 1 + 1) := ⟨_, _, E2.out, by decide⟩
        simp only [List.mem_cons, List.not_mem_nil, or_false] at hx
        rcases hx with rfl | rfl | rfl | rfl | rfl | rfl | rfl
        · exact ⟨t2, by show _ ≤ T + 1 + 1; omega⟩
        · exact ⟨t0, hbs⟩
        · exact ⟨t0, hbs⟩
        · exact ⟨t0, hbs⟩
        · exact ⟨t0, hbs⟩
        · exact ⟨t1, by show _ ≤ T + 1; omega⟩
        · exact ⟨t1, by show _ ≤ T + 1; omega⟩))
      go_wp2
      refine bodyPost_ret (v := .tuple #[.agg #[.int .i64 1, .slice A1 la.length c1, .slice A3 (lb.length + 1) c3, .int .i64 bad], .agg #[.int .i64 0, .int .i64 0]]) ?_ ?_ ?_
      · simp [results, Tryz.results29, go_sem, d0, d1]
      · rfl
      refine ⟨HOwn.out.2, ?_⟩
      rw [HBdE.out]
      refine ⟨_, _, _, _, _, _, _, rfl, by rw [HRR.out]; exact HOwn.out, ?_⟩
      rw [HPP.out]
      have := HOwn2.out
      exact this

end Go.Proofs.YtblkejnckbeieaaGreatDoor
