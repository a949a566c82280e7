/- Chapter 25: the law ArgsTwice: the region of a key that comes twice, in whatever order. -/
import Derived.Test.YtgekkhkmgfbcdaaDoorAnyInv
import Derived.Test.YtgekkhkmgfbcdaaDoorStepCall
import Derived.Test.YtgekkhkmgfbcdaaDoorArgsTwiceP
import Derived.Great.BuildSlice
import Derived.Laws.CopyOwn
namespace Go.Proofs.YtgekkhkmgfbcdaaDoor
open Go.Shelf Go.RowKit AnyInv

/-- What each operation of the region leaves. -/
def twV (B : Nat) (q y0 y1 X : ByteArray) (p n2 g o c : Nat) (c0 : Array Value) (L : Array Bool) : Nat → Value → World → Prop
  | 0, v, _ => v = .string q
  | 1, v, _ => v = .slice (some ⟨g, o, none⟩) n2 c
  | 2, v, _ => v = .int .i64 p
  | 3, v, _ => v = .int .i64 (2 * (p : Int))
  | 4, v, _ => v = .pointer (some ⟨g, o + (2 * (p : Int)).toNat, none⟩)
  | 5, v, _ => v = .string y0
  | 6, v, _ => v = .slice (some ⟨g, o, none⟩) n2 c
  | 7, v, _ => v = .int .i64 p
  | 8, v, _ => v = .int .i64 (2 * (p : Int))
  | 9, v, _ => v = .int .i64 (2 * (p : Int) + 1)
  | 10, v, _ => v = .pointer (some ⟨g, o + (2 * (p : Int) + 1).toNat, none⟩)
  | 11, v, _ => v = .string y1
  | 12, v, w => ∃ b, v = .slice (some ⟨b, 0, none⟩) 2 2 ∧ w.heap[b]? = some (.cells #[.string y0, .string y1] 9 (0, 0))
  | 13, v, _ => v = .string X
  | 14, v, _ => v = .string (q ++ X)
  | 15, v, _ => v = .tuple #[.agg c0, .string ⟨#[]⟩, .agg #[.int .i64 29, .int .i64 n2]]
  | 16, v, _ => v = .tuple #[.agg c0, .string ⟨#[]⟩, .agg #[.int .i64 29, .int .i64 n2]]
  | 17, v, _ => v = .agg c0
  | 18, v, _ => v = .string ⟨#[]⟩
  | 19, v, _ => v = .agg #[.int .i64 29, .int .i64 n2]
  | 20, v, w => ∃ b cs, v = .pointer (some ⟨b, 0, none⟩) ∧ B ≤ b ∧ w.heap[b]? = some (.cells cs 39 (0, 0)) ∧ cs.size = 17
  | 21, v, w => ∃ b cs, v = .pointer (some ⟨b, 0, none⟩) ∧ B ≤ b ∧ w.heap[b]? = some (.cells cs 27 (0, 0)) ∧ cs.size = 2 ∧ (L.getD 24 false = true → cs = #[.int .i64 29, .int .i64 n2])
  | _, _, _ => True

variable {B : Nat} {q y0 y1 X : ByteArray} {p n2 g o c : Nat} {c0 : Array Value} {L : Array Bool}

theorem lt_heap {w : World} {b : Nat} {x : Obj} (h : w.heap[b]? = some x) : b < w.heap.size := (Array.getElem?_eq_some_iff.1 h).1

/-- What stands stays, where no block that stands is written. -/
theorem twV_keep {i : Nat} (hi : i ≠ 24) {w w' : World} (hk : ∀ b, b < w.heap.size → w'.heap[b]? = w.heap[b]?) (j : Nat) (u : Value) (h : twV B q y0 y1 X p n2 g o c c0 L j u w) :
    twV B q y0 y1 X p n2 g o c c0 (L.setIfInBounds i true) j u w' := by
  have hL : (L.setIfInBounds i true).getD 24 false = L.getD 24 false := getD_set_ne false hi
  unfold twV at h ⊢
  split <;> simp only [] at h ⊢
  all_goals first
    | exact h
    | (obtain ⟨b, e, hb⟩ := h
       exact ⟨b, e, (hk b (lt_heap hb)).trans hb⟩)
    | (obtain ⟨b, cs, e, h1, hb, h2, h3⟩ := h
       exact ⟨b, cs, e, h1, (hk b (lt_heap hb)).trans hb, h2, fun hx => h3 (hL ▸ hx)⟩)
    | (obtain ⟨b, cs, e, h1, hb, h2⟩ := h
       exact ⟨b, cs, e, h1, (hk b (lt_heap hb)).trans hb, h2⟩)

section
variable {ρ : Operand → Value} {oo : Oper} {w : World}
theorem run_move {x : Operand} {v : Value} (ho : oo.op = .move x) (hx : ρ x = v) : (execOp ρ oo).run Tryd.prog w = .ok (.value v) w := by
  simp [execOp, ho, hx]
theorem run_assign {x : Operand} {v : Value} (ho : oo.op = .assign x) (hx : ρ x = v) : (execOp ρ oo).run Tryd.prog w = .ok (.value v) w := by
  simp [execOp, ho, hx]
theorem run_mul {x y : Operand} {t u : TypeId} {a b : Int} (ho : oo.op = .binOp .mul t x y u) (hx : ρ x = .int .i64 a) (hy : ρ y = .int .i64 b) (h : IntKind.i64.wrap (a * b) = a * b) :
    (execOp ρ oo).run Tryd.prog w = .ok (.value (.int .i64 (a * b))) w := by
  simp [execOp, ho, hx, hy, go_sem, h]
theorem run_add {x y : Operand} {t u : TypeId} {a b : Int} (ho : oo.op = .binOp .add t x y u) (hx : ρ x = .int .i64 a) (hy : ρ y = .int .i64 b) (h : IntKind.i64.wrap (a + b) = a + b) :
    (execOp ρ oo).run Tryd.prog w = .ok (.value (.int .i64 (a + b))) w := by
  simp [execOp, ho, hx, hy, go_sem, h]
theorem run_cat {x y : Operand} {t u : TypeId} {a b : ByteArray} (ho : oo.op = .binOp .add t x y u) (hx : ρ x = .string a) (hy : ρ y = .string b) (h : a.size + b.size ≤ 9223372036854775807) :
    (execOp ρ oo).run Tryd.prog w = .ok (.value (.string (a ++ b))) w := by
  have h2 : ¬ a.size + b.size > 9223372036854775807 := by omega
  simp [execOp, ho, hx, hy, go_sem, h2]
theorem run_index {x y : Operand} {n c g o : Nat} {i : Int} (ho : oo.op = .indexAddr 22 x y) (hx : ρ x = .slice (some ⟨g, o, none⟩) n c) (hy : ρ y = .int .i64 i) (h0 : 0 ≤ i) (h1 : i < n) :
    (execOp ρ oo).run Tryd.prog w = .ok (.value (.pointer (some ⟨g, o + i.toNat, none⟩))) w := by
  have hu := Tryd.underlying22
  simp [execOp, ho, hx, hy, go_sem, h0, h1, hu]
theorem run_loadS {x : Operand} {g o : Nat} {v : ByteArray} (ho : oo.op = .load 9 x) (hx : ρ x = .pointer (some ⟨g, o, none⟩)) (h : w.cell? ⟨g, o, none⟩ = some (.string v)) :
    (execOp ρ oo).run Tryd.prog w = .ok (.value (.string v)) w := by
  simp [execOp, ho, hx, go_sem, h]
theorem run_two {x y : Operand} {a b : ByteArray} (ho : oo.op = .buildSlice 22 2 #[(0, x), (1, y)]) (hx : ρ x = .string a) (hy : ρ y = .string b) :
    (execOp ρ oo).run Tryd.prog w = .ok (.value (.slice (some ⟨w.heap.size, 0, none⟩) 2 2)) (w.alloc (.cells #[.string a, .string b] 9 (0, 0))) := by
  simp [execOp, ho, hx, hy, go_sem]
theorem run_extract {x : Operand} {vs : Array Value} {i : Nat} {v : Value} (ho : oo.op = .extract x i) (hx : ρ x = .tuple vs) (h : vs[i]? = some v) :
    (execOp ρ oo).run Tryd.prog w = .ok (.value v) w := by
  simp [execOp, ho, hx, go_sem, h]
theorem run_alloc_any (t : TypeId) (n : Nat) (hz : (((Tryd.prog.info? t).bind (·.zero)).map (·.cells.size)) = some n) :
    ∃ cs : Array Value, cs.size = n ∧ ∀ (ρ : Operand → Value) (oo : Oper) (w : World), oo.op = .alloc t → (execOp ρ oo).run Tryd.prog w = .ok (.value (.pointer (some ⟨w.heap.size, 0, none⟩))) (w.alloc (.cells cs t (0, 0))) := by
  cases hi : Tryd.prog.info? t with
  | none => rw [hi] at hz; cases hz
  | some ie =>
    rw [hi] at hz
    cases hq : ie.zero with
    | none => simp [hq] at hz
    | some z =>
      refine ⟨z.cells, by simpa [hq] using hz, fun ρ oo w ho => ?_⟩
      simp [execOp, ho, Instr.alloc, zeroValue, typeInfo, hi, hq, newVar, newRow]
theorem run_storeRow {t : TypeId} {x y : Operand} {b : Nat} {cells old : Array Value} {tt : TypeId} (ho : oo.op = .store t x y) (hx : ρ x = .pointer (some ⟨b, 0, none⟩)) (hy : ρ y = .agg cells) (hg : w.heap[b]? = some (.cells old tt (0, 0)))
    (hi : (Tryd.prog.info? t).map (·.size) = some cells.size) (hold : old.size = cells.size) (h1 : cells.all (·.oneCell') = true) :
    (execOp ρ oo).run Tryd.prog w = .ok .skip (w.setRow b cells) := by
  unfold execOp
  simp only [ho, hx, hy, Instr.storeAt, Instr.sureAddr, Sem.run_bind, Sem.run_pure, Result.andThen_ok, run_storeVar_row w b tt t old cells hg hi hold h1]
theorem run_call {x : Operand} {f : FuncId} {tys : Array TypeId} {v : Value} {fn : Func} (ho : oo.op = .call { callee := .value (.func f), args := #[x], argTypes := tys }) (hr : ρ (.func f) = .func (.func f) #[] #[]) (hx : ρ x = v)
    (hf : Tryd.prog.funcs[f]? = some fn) (hn : (fn.name == "runtime.NumGoroutine") = false) (hb : fn.body.isNone = false) :
    (execOp ρ oo).run Tryd.prog w = .ok (.enter f #[v]) w := by
  have hc := callFunc_enter hf hn hb #[v] w
  simp [execOp, ho, resolve, invoke, Deferred.ofValue, hr, hx, hc]
end

/-- The region, in whatever order. -/
theorem tw_region {ops : Array Oper} {a0 : Act} {Q : Exit → Act → World → Prop} {W : World} (hsz : ops.size = 25) (hu : uniqB ops = true) (hb : boundB ops a0.tmps.size = true) (hl : lowB .any ops = true)
    (n2k : notB ops 2 = true) (n8k : notB ops 8 = true) (n9k : notB ops 9 = true)
    (e2 : a0.eval (.tmp 2) = .int .i64 p) (e8 : a0.eval (.tmp 8) = .string q) (e9 : a0.eval (.tmp 9) = .slice (some ⟨g, o, none⟩) n2 c)
    (i0 : Is .any ops 0 (some 122) (.move (.tmp 8)) [])
    (i1 : Is .any ops 1 (some 123) (.move (.tmp 9)) [])
    (i2 : Is .any ops 2 (some 124) (.move (.tmp 2)) [])
    (i3 : Is .any ops 3 (some 125) (.binOp .mul 3 (.const (.int .i64 2)) (.tmp 124) 3) [2])
    (i4 : Is .any ops 4 (some 126) (.indexAddr 22 (.tmp 123) (.tmp 125)) [1, 3])
    (i5 : Is .any ops 5 (some 127) (.load 9 (.tmp 126)) [4])
    (i6 : Is .any ops 6 (some 128) (.move (.tmp 9)) [])
    (i7 : Is .any ops 7 (some 129) (.move (.tmp 2)) [])
    (i8 : Is .any ops 8 (some 130) (.binOp .mul 3 (.const (.int .i64 2)) (.tmp 129) 3) [7])
    (i9 : Is .any ops 9 (some 131) (.binOp .add 3 (.tmp 130) (.const (.int .i64 1)) 3) [8])
    (i10 : Is .any ops 10 (some 132) (.indexAddr 22 (.tmp 128) (.tmp 131)) [6, 9])
    (i11 : Is .any ops 11 (some 133) (.load 9 (.tmp 132)) [10])
    (i12 : Is .any ops 12 (some 134) (.buildSlice 22 2 #[(0, .tmp 127), (1, .tmp 133)]) [5, 11])
    (i13 : Is .any ops 13 (some 135) (.call { callee := .value (.func 9), args := #[.tmp 134], argTypes := #[22] }) [12])
    (i14 : Is .any ops 14 (some 136) (.binOp .add 9 (.tmp 122) (.tmp 135) 9) [0, 13])
    (i15 : Is .any ops 15 (some 137) (.call { callee := .value (.func 13), args := #[.tmp 136], argTypes := #[9] }) [14, 13])
    (i16 : Is .any ops 16 (some 121) (.move (.tmp 137)) [15])
    (i17 : Is .any ops 17 (some 138) (.extract (.tmp 121) 0) [16])
    (i18 : Is .any ops 18 (some 139) (.extract (.tmp 121) 1) [16])
    (i19 : Is .any ops 19 (some 140) (.extract (.tmp 121) 2) [16])
    (i20 : Is .any ops 20 (some 16) (.alloc 39) [])
    (i21 : Is .any ops 21 (some 18) (.alloc 27) [])
    (i22 : Is .any ops 22 (none) (.store 39 (.tmp 16) (.tmp 138)) [20, 17, 12, 21])
    (i23 : Is .any ops 23 (some 17) (.assign (.tmp 139)) [18])
    (i24 : Is .any ops 24 (none) (.store 27 (.tmp 18) (.tmp 140)) [21, 19, 12])
    (hp : 2 * (p : Int) + 1 < n2) (hn : (n2 : Int) ≤ 100) (hg : g < W.heap.size)
    (x0 : W.cell? ⟨g, o + (2 * (p : Int)).toNat, none⟩ = some (.string y0)) (x1 : W.cell? ⟨g, o + (2 * (p : Int) + 1).toNat, none⟩ = some (.string y1))
    (hc0 : c0.size = 17) (hc1 : c0.all (·.oneCell') = true) (hqX : q.size + X.size ≤ 9223372036854775807)
    (HPk : ∀ w b, Below W.heap.size W w → SeqAt Estr w w.heap.size (some ⟨b, 0, none⟩) [y0, y1] → Calls Tryd.prog 9 #[.slice (some ⟨b, 0, none⟩) 2 2] w fun e w' => e = .returned (.string X) ∧ Below w.heap.size w w')
    (HPb : ∀ w, Below W.heap.size W w → Calls Tryd.prog 13 #[.string (q ++ X)] w fun e w' => e = .returned (.tuple #[.agg c0, .string ⟨#[]⟩, .agg #[.int .i64 29, .int .i64 n2]]) ∧ Below w.heap.size w w')
    (hQ : ∀ a w, a.tmps.size = a0.tmps.size → a.defers = a0.defers → (∀ k, (∀ (i : Nat) (o : Oper), ops[i]? = some o → o.dst ≠ some k) → a.tmps[k]? = a0.tmps[k]?) →
      (∃ f : Nat, a.eval (.tmp 18) = .pointer (some ⟨f, 0, none⟩) ∧ w.cell? ⟨f, 0, none⟩ = some (.int .i64 29) ∧ w.cell? ⟨f, 1, none⟩ = some (.int .i64 n2) ∧ Below W.heap.size W w) → Q .normal a w) :
    wpAny Tryd.prog .any ops Q ops.size (Array.replicate ops.size false) a0 W := by
  refine wpAny_inv (Inv .any ops a0 (twV W.heap.size q y0 y1 X p n2 g o c c0) (fun _ w => Below W.heap.size W w)) (fun _ _ _ h => h.size) ?_ ?_ _ _ _ _ ?_ ?_
  · intro L a w h i hi
    have hi25 : i < 25 := by
      obtain ⟨_, o, ho, _⟩ := mem_ready.1 hi
      have := lt_of_some ho
      omega
    have same : ∀ {i : Nat}, i ≠ 24 → ∀ j u, L.getD j false = true → twV W.heap.size q y0 y1 X p n2 g o c c0 L j u w → twV W.heap.size q y0 y1 X p n2 g o c c0 (L.setIfInBounds i true) j u w := fun hne j u _ hv => twV_keep hne (fun _ _ => rfl) j u hv
    have grow : ∀ {i : Nat}, i ≠ 24 → ∀ (ob : Obj) (j : Nat) (u : Value), L.getD j false = true → twV W.heap.size q y0 y1 X p n2 g o c c0 L j u w → twV W.heap.size q y0 y1 X p n2 g o c c0 (L.setIfInBounds i true) j u (w.alloc ob) := fun hne ob j u _ hv => twV_keep hne (fun b hb => Below.heap_alloc _ _ _ hb) j u hv
    have later : ∀ {i : Nat} {w' : World}, i ≠ 24 → Below w.heap.size w w' → ∀ j u, L.getD j false = true → twV W.heap.size q y0 y1 X p n2 g o c c0 L j u w → twV W.heap.size q y0 y1 X p n2 g o c c0 (L.setIfInBounds i true) j u w' := fun hne hb j u _ hv => twV_keep hne (fun b hlt => hb.block b hlt) j u hv
    have hsW := h.ok.size
    have hc : i = 0 ∨ i = 1 ∨ i = 2 ∨ i = 3 ∨ i = 4 ∨ i = 5 ∨ i = 6 ∨ i = 7 ∨ i = 8 ∨ i = 9 ∨ i = 10 ∨ i = 11 ∨ i = 12 ∨ i = 13 ∨ i = 14 ∨ i = 15 ∨ i = 16 ∨ i = 17 ∨ i = 18 ∨ i = 19 ∨ i = 20 ∨ i = 21 ∨ i = 22 ∨ i = 23 ∨ i = 24 := by omega
    rcases hc with rfl | rfl | rfl | rfl | rfl | rfl | rfl | rfl | rfl | rfl | rfl | rfl | rfl | rfl | rfl | rfl | rfl | rfl | rfl | rfl | rfl | rfl | rfl | rfl | rfl
    · exact h.value hi hu hb i0 (.string q) w (fun oo ho => run_move ho ((h.old (not_of n8k)).trans e8)) (by exact rfl) (same (by decide)) h.ok
    · exact h.value hi hu hb i1 (.slice (some ⟨g, o, none⟩) n2 c) w (fun oo ho => run_move ho ((h.old (not_of n9k)).trans e9)) (by exact rfl) (same (by decide)) h.ok
    · exact h.value hi hu hb i2 (.int .i64 p) w (fun oo ho => run_move ho ((h.old (not_of n2k)).trans e2)) (by exact rfl) (same (by decide)) h.ok
    · obtain ⟨v2, ev2, hv2⟩ := h.got (i3.waits hi (x := 2) (by simp)) i2
      have hv2 : v2 = .int .i64 p := hv2
      subst hv2
      exact h.value hi hu hb i3 (.int .i64 (2 * (p : Int))) w (fun oo ho => run_mul ho rfl ev2 (by rw [IntKind.wrap_i64]; omega)) (by exact rfl) (same (by decide)) h.ok
    · obtain ⟨v1, ev1, hv1⟩ := h.got (i4.waits hi (x := 1) (by simp)) i1
      have hv1 : v1 = .slice (some ⟨g, o, none⟩) n2 c := hv1
      subst hv1
      obtain ⟨v3, ev3, hv3⟩ := h.got (i4.waits hi (x := 3) (by simp)) i3
      have hv3 : v3 = .int .i64 (2 * (p : Int)) := hv3
      subst hv3
      exact h.value hi hu hb i4 (.pointer (some ⟨g, o + (2 * (p : Int)).toNat, none⟩)) w (fun oo ho => run_index ho ev1 ev3 (by omega) (by omega)) (by exact rfl) (same (by decide)) h.ok
    · obtain ⟨v4, ev4, hv4⟩ := h.got (i5.waits hi (x := 4) (by simp)) i4
      have hv4 : v4 = .pointer (some ⟨g, o + (2 * (p : Int)).toNat, none⟩) := hv4
      subst hv4
      exact h.value hi hu hb i5 (.string y0) w (fun oo ho => run_loadS ho ev4 ((h.ok.cell (p := ⟨g, _, none⟩) hg).trans x0)) (by exact rfl) (same (by decide)) h.ok
    · exact h.value hi hu hb i6 (.slice (some ⟨g, o, none⟩) n2 c) w (fun oo ho => run_move ho ((h.old (not_of n9k)).trans e9)) (by exact rfl) (same (by decide)) h.ok
    · exact h.value hi hu hb i7 (.int .i64 p) w (fun oo ho => run_move ho ((h.old (not_of n2k)).trans e2)) (by exact rfl) (same (by decide)) h.ok
    · obtain ⟨v7, ev7, hv7⟩ := h.got (i8.waits hi (x := 7) (by simp)) i7
      have hv7 : v7 = .int .i64 p := hv7
      subst hv7
      exact h.value hi hu hb i8 (.int .i64 (2 * (p : Int))) w (fun oo ho => run_mul ho rfl ev7 (by rw [IntKind.wrap_i64]; omega)) (by exact rfl) (same (by decide)) h.ok
    · obtain ⟨v8, ev8, hv8⟩ := h.got (i9.waits hi (x := 8) (by simp)) i8
      have hv8 : v8 = .int .i64 (2 * (p : Int)) := hv8
      subst hv8
      exact h.value hi hu hb i9 (.int .i64 (2 * (p : Int) + 1)) w (fun oo ho => run_add ho ev8 rfl (by rw [IntKind.wrap_i64]; omega)) (by exact rfl) (same (by decide)) h.ok
    · obtain ⟨v6, ev6, hv6⟩ := h.got (i10.waits hi (x := 6) (by simp)) i6
      have hv6 : v6 = .slice (some ⟨g, o, none⟩) n2 c := hv6
      subst hv6
      obtain ⟨v9, ev9, hv9⟩ := h.got (i10.waits hi (x := 9) (by simp)) i9
      have hv9 : v9 = .int .i64 (2 * (p : Int) + 1) := hv9
      subst hv9
      exact h.value hi hu hb i10 (.pointer (some ⟨g, o + (2 * (p : Int) + 1).toNat, none⟩)) w (fun oo ho => run_index ho ev6 ev9 (by omega) (by omega)) (by exact rfl) (same (by decide)) h.ok
    · obtain ⟨v10, ev10, hv10⟩ := h.got (i11.waits hi (x := 10) (by simp)) i10
      have hv10 : v10 = .pointer (some ⟨g, o + (2 * (p : Int) + 1).toNat, none⟩) := hv10
      subst hv10
      exact h.value hi hu hb i11 (.string y1) w (fun oo ho => run_loadS ho ev10 ((h.ok.cell (p := ⟨g, _, none⟩) hg).trans x1)) (by exact rfl) (same (by decide)) h.ok
    · obtain ⟨v5, ev5, hv5⟩ := h.got (i12.waits hi (x := 5) (by simp)) i5
      have hv5 : v5 = .string y0 := hv5
      subst hv5
      obtain ⟨v11, ev11, hv11⟩ := h.got (i12.waits hi (x := 11) (by simp)) i11
      have hv11 : v11 = .string y1 := hv11
      subst hv11
      exact h.value hi hu hb i12 (.slice (some ⟨w.heap.size, 0, none⟩) 2 2) (w.alloc (.cells #[.string y0, .string y1] 9 (0, 0))) (fun oo ho => run_two ho ev5 ev11) (by exact ⟨_, rfl, heap_alloc_new w _⟩) (grow (by decide) _) (h.ok.alloc hsW _)
    · obtain ⟨v12, ev12, hv12⟩ := h.got (i13.waits hi (x := 12) (by simp)) i12
      obtain ⟨b12, hv12, hh⟩ := hv12
      subst hv12
      have hS : SeqAt Estr w w.heap.size (some ⟨b12, 0, none⟩) [y0, y1] := fun _ => ⟨b12, 0, rfl, lt_heap hh, fun j hj => by
        rw [Nat.zero_add, Lib.cell_of_heap hh j]
        have hj2 : j < 2 := hj
        have hj3 : j = 0 ∨ j = 1 := by omega
        rcases hj3 with rfl | rfl <;> rfl⟩
      refine h.enter hi hu hb i13 9 #[.slice (some ⟨b12, 0, none⟩) 2 2] (fun oo ho => run_call ho rfl ev12 Tryd.func9 (by kernel_rfl) (by kernel_rfl)) (R := fun v w' => v = .string X ∧ Below w.heap.size w w') ((HPk w b12 h.ok hS).mono ?_) ?_
      · rintro e w' ⟨rfl, hb'⟩
        exact ⟨_, rfl, rfl, hb'⟩
      · rintro v w' ⟨rfl, hb'⟩
        exact ⟨rfl, later (by decide) hb', h.ok.trans (hb'.mono hsW)⟩
    · obtain ⟨v0, ev0, hv0⟩ := h.got (i14.waits hi (x := 0) (by simp)) i0
      have hv0 : v0 = .string q := hv0
      subst hv0
      obtain ⟨v13, ev13, hv13⟩ := h.got (i14.waits hi (x := 13) (by simp)) i13
      have hv13 : v13 = .string X := hv13
      subst hv13
      exact h.value hi hu hb i14 (.string (q ++ X)) w (fun oo ho => run_cat ho ev0 ev13 hqX) (by exact rfl) (same (by decide)) h.ok
    · obtain ⟨v14, ev14, hv14⟩ := h.got (i15.waits hi (x := 14) (by simp)) i14
      have hv14 : v14 = .string (q ++ X) := hv14
      subst hv14
      refine h.enter hi hu hb i15 13 #[.string (q ++ X)] (fun oo ho => run_call ho rfl ev14 Tryd.func13 (by kernel_rfl) (by kernel_rfl)) (R := fun v w' => v = .tuple #[.agg c0, .string ⟨#[]⟩, .agg #[.int .i64 29, .int .i64 n2]] ∧ Below w.heap.size w w') ((HPb w h.ok).mono ?_) ?_
      · rintro e w' ⟨rfl, hb'⟩
        exact ⟨_, rfl, rfl, hb'⟩
      · rintro v w' ⟨rfl, hb'⟩
        exact ⟨rfl, later (by decide) hb', h.ok.trans (hb'.mono hsW)⟩
    · obtain ⟨v15, ev15, hv15⟩ := h.got (i16.waits hi (x := 15) (by simp)) i15
      have hv15 : v15 = .tuple #[.agg c0, .string ⟨#[]⟩, .agg #[.int .i64 29, .int .i64 n2]] := hv15
      subst hv15
      exact h.value hi hu hb i16 (.tuple #[.agg c0, .string ⟨#[]⟩, .agg #[.int .i64 29, .int .i64 n2]]) w (fun oo ho => run_move ho ev15) (by exact rfl) (same (by decide)) h.ok
    · obtain ⟨v16, ev16, hv16⟩ := h.got (i17.waits hi (x := 16) (by simp)) i16
      have hv16 : v16 = .tuple #[.agg c0, .string ⟨#[]⟩, .agg #[.int .i64 29, .int .i64 n2]] := hv16
      subst hv16
      exact h.value hi hu hb i17 (.agg c0) w (fun oo ho => run_extract ho ev16 rfl) (by exact rfl) (same (by decide)) h.ok
    · obtain ⟨v16, ev16, hv16⟩ := h.got (i18.waits hi (x := 16) (by simp)) i16
      have hv16 : v16 = .tuple #[.agg c0, .string ⟨#[]⟩, .agg #[.int .i64 29, .int .i64 n2]] := hv16
      subst hv16
      exact h.value hi hu hb i18 (.string ⟨#[]⟩) w (fun oo ho => run_extract ho ev16 rfl) (by exact rfl) (same (by decide)) h.ok
    · obtain ⟨v16, ev16, hv16⟩ := h.got (i19.waits hi (x := 16) (by simp)) i16
      have hv16 : v16 = .tuple #[.agg c0, .string ⟨#[]⟩, .agg #[.int .i64 29, .int .i64 n2]] := hv16
      subst hv16
      exact h.value hi hu hb i19 (.agg #[.int .i64 29, .int .i64 n2]) w (fun oo ho => run_extract ho ev16 rfl) (by exact rfl) (same (by decide)) h.ok
    · obtain ⟨cs, hcs, hrun⟩ := run_alloc_any 39 17 (by kernel_rfl)
      exact h.value hi hu hb i20 (.pointer (some ⟨w.heap.size, 0, none⟩)) (w.alloc (.cells cs 39 (0, 0))) (fun oo ho => hrun _ _ _ ho) (by exact ⟨_, cs, rfl, hsW, heap_alloc_new w _, hcs⟩) (grow (by decide) _) (h.ok.alloc hsW _)
    · obtain ⟨cs, hcs, hrun⟩ := run_alloc_any 27 2 (by kernel_rfl)
      have h24 : L.getD 24 false = false := by
        cases hx : L.getD 24 false with
        | false => rfl
        | true =>
          have h21 := h.before i24 hx (x := 21) (by simp)
          have h21' := (mem_ready.1 hi).1
          rw [Array.getD_eq_getD_getElem?] at h21 h21'
          cases hy : L[21]? with
          | none => simp [hy] at h21
          | some bb =>
            simp only [hy, Option.getD_some] at h21 h21'
            rw [h21] at h21'
            cases h21'
      exact h.value hi hu hb i21 (.pointer (some ⟨w.heap.size, 0, none⟩)) (w.alloc (.cells cs 27 (0, 0))) (fun oo ho => hrun _ _ _ ho) (by exact ⟨_, cs, rfl, hsW, heap_alloc_new w _, hcs, fun hx => absurd hx (by rw [getD_set_ne false (by decide)]; simp [h24])⟩) (grow (by decide) _) (h.ok.alloc hsW _)
    · obtain ⟨v20, ev20, hv20⟩ := h.got (i22.waits hi (x := 20) (by simp)) i20
      obtain ⟨v17, ev17, hv17⟩ := h.got (i22.waits hi (x := 17) (by simp)) i17
      have hv17 : v17 = .agg c0 := hv17
      subst hv17
      obtain ⟨b20, cs, hv20, hB, hh, hcs⟩ := hv20
      subst hv20
      refine h.skip hi i22 (w.setRow b20 c0) (fun oo ho => run_storeRow ho ev20 ev17 hh (by rw [hc0]; exact optInfo) (by rw [hcs, hc0]) hc1) ?_ (below_setRow h.ok hB _)
      intro j u oj dj hj hoj hdj heu hv
      have hL : (L.setIfInBounds 22 true).getD 24 false = L.getD 24 false := getD_set_ne false (by decide)
      unfold twV at hv ⊢
      split <;> simp only [] at hv ⊢
      all_goals first
        | exact hv
        | (obtain ⟨b, e, hb'⟩ := hv
           refine ⟨b, e, (setRow_other _ _ _ _ fun e2 => ?_).trans hb'⟩
           rw [e2, hh] at hb'
           injection hb' with hb'
           injection hb' with _ hb'
           exact absurd hb' (by decide))
        | (obtain ⟨b, ds, e, h1, hb', h2, h3⟩ := hv
           refine ⟨b, ds, e, h1, (setRow_other _ _ _ _ fun e2 => ?_).trans hb', h2, fun hx => h3 (hL ▸ hx)⟩
           rw [e2, hh] at hb'
           injection hb' with hb'
           injection hb' with _ hb'
           exact absurd hb' (by decide))
        | (obtain ⟨b, ds, e, h1, hb', h2⟩ := hv
           by_cases e2 : b = b20
           · subst e2
             exact ⟨b, c0, e, h1, setRow_heap _ _ _ _ _ _ hh, hc0⟩
           · exact ⟨b, ds, e, h1, (setRow_other _ _ _ _ e2).trans hb', h2⟩)
    · obtain ⟨v18, ev18, hv18⟩ := h.got (i23.waits hi (x := 18) (by simp)) i18
      have hv18 : v18 = .string ⟨#[]⟩ := hv18
      subst hv18
      exact h.value hi hu hb i23 (.string ⟨#[]⟩) w (fun oo ho => run_assign ho ev18) (by trivial) (same (by decide)) h.ok
    · obtain ⟨v21, ev21, hv21⟩ := h.got (i24.waits hi (x := 21) (by simp)) i21
      obtain ⟨v19, ev19, hv19⟩ := h.got (i24.waits hi (x := 19) (by simp)) i19
      have hv19 : v19 = .agg #[.int .i64 29, .int .i64 n2] := hv19
      subst hv19
      obtain ⟨b21, cs, hv21, hB, hh, hcs, _⟩ := hv21
      subst hv21
      refine h.skip hi i24 (w.setRow b21 #[.int .i64 29, .int .i64 n2]) (fun oo ho => run_storeRow ho ev21 ev19 hh (by kernel_rfl) hcs (by simp [Value.oneCell'])) ?_ (below_setRow h.ok hB _)
      intro j u oj dj hj hoj hdj heu hv
      unfold twV at hv ⊢
      split <;> simp only [] at hv ⊢
      all_goals first
        | exact hv
        | (obtain ⟨b, e, hb'⟩ := hv
           refine ⟨b, e, (setRow_other _ _ _ _ fun e2 => ?_).trans hb'⟩
           rw [e2, hh] at hb'
           injection hb' with hb'
           injection hb' with _ hb'
           exact absurd hb' (by decide))
        | (obtain ⟨b, ds, e, h1, hb', h2, h3⟩ := hv
           obtain ⟨o21, ho21, hd21, _⟩ := i21
           rw [ho21] at hoj
           injection hoj with hoj
           subst hoj
           rw [hd21] at hdj
           injection hdj with hdj
           subst hdj
           rw [ev21, e] at heu
           injection heu with heu
           injection heu with heu
           injection heu with heu
           subst heu
           exact ⟨_, _, e, h1, setRow_heap _ _ _ _ _ _ hh, rfl, fun _ => rfl⟩)
        | (obtain ⟨b, ds, e, h1, hb', h2⟩ := hv
           refine ⟨b, ds, e, h1, (setRow_other _ _ _ _ fun e2 => ?_).trans hb', h2⟩
           rw [e2, hh] at hb'
           injection hb' with hb'
           injection hb' with _ hb'
           exact absurd hb' (by decide))
  · intro L a w h hr
    have hall := h.all hr (low_of hl)
    obtain ⟨v, ev, hv⟩ := h.got (hall 21 (by omega)) i21
    obtain ⟨b, cs, hv', hB, hh, hcs, h24⟩ := hv
    subst hv'
    have hcs2 := h24 (hall 24 (by omega))
    subst hcs2
    exact hQ a w h.tm h.df h.out ⟨b, ev, (Lib.cell_of_heap hh 0).trans rfl, (Lib.cell_of_heap hh 1).trans rfl, h.ok⟩
  · simp
  · exact Inv.start (Below.refl _ _)
end Go.Proofs.YtgekkhkmgfbcdaaDoor
