/- General words of memory for the walks of this seat: lists that lie behind slices, kept over new blocks, draws and calls; lists that a call builds by append. -/
import Derived.Test.YtgekkhkmgfbcdaaDoorRows
import Derived.WalkKit
import Derived.WalkLawsBesides
import Derived.WalkSpells
import Derived.Laws.OwnMore
import Derived.Laws.Rows
import Derived.Deep.Draws
import Derived.Deep.AppendLies
import Derived.Maps.AppendAt
import Derived.OwnWalk
import Derived.Lib.Hide
import Derived.Deep.QuietTactic
import Derived.BigQuiet
import Derived.BigGuardPart
import Derived.Deep.DeepCutAuto
import Derived.Deep.RegionHeld3
import Derived.Deep.RegionWith
import Derived.Deep.LoopGhost
import Derived.Deep.DeepFit
import Derived.StillTailTactics
import Derived.Outline
namespace Go.Proofs.YtgekkhkmgfbcdaaDoor
open Go.RowKit

theorem ret_bool {a b : Bool} (h : a = b) : Ending.returned (.bool a) = .returned (.bool b) := by rw [h]
theorem ret_int {k : IntKind} {a b : Int} (h : a = b) : Ending.returned (.int k a) = .returned (.int k b) := by rw [h]
theorem val_bool {a b : Bool} (h : a = b) : Value.bool a = .bool b := by rw [h]
theorem val_int {k : IntKind} {a b : Int} (h : a = b) : Value.int k a = .int k b := by rw [h]

theorem add_row (g j : Nat) : (⟨g, 0, none⟩ : Addr).add j = ⟨g, j, none⟩ := by unfold Addr.add; split <;> simp_all
theorem add_off (g o j : Nat) : (⟨g, o, none⟩ : Addr).add j = ⟨g, o + j, none⟩ := by unfold Addr.add; split <;> simp_all

theorem below_drewN {B : Nat} {a w : World} (h : Below B a w) (n : Nat) : Below B a (w.drewN n) := ⟨h.os, h.tape, h.output, h.size, h.block⟩

theorem below_of_drewN {w w' : World} {n : Nat} (h : Below (w.drewN n).heap.size (w.drewN n) w') : Below w.heap.size w w' := ⟨h.os, h.tape, h.output, h.size, h.block⟩

/-- A world behind w: below w's own blocks it is as w was. -/
structure Later (w : World) where
  here : World
  below : Below w.heap.size w here

instance (w : World) : Nonempty (Later w) := ⟨⟨w, Below.refl _ w⟩⟩

/-- A region that draws its order: its operations read, its callees may make memory: one walk in the order of the text. -/
theorem wp_region_later {P : Program} {id : Nat} {Q : Exit → Act → World → Prop} {a : Act} {w : World} {l : List Oper} (hm : P.follows .mixedOrders = true) (hB : Region.lexB .any l.toArray = true)
    (h : wpQuiet P l.toArray (fun w' => ∃ s : Later w, w' = s.here) (fun a' => ∀ w', (∃ s : Later w, w' = s.here) → Q .normal a' w') l a) : (Code.region id l.toArray true).wp P Q a w :=
  wp_region_quiet (C := fun w' => ∃ s : Later w, w' = s.here) hm hB ⟨⟨_, (Below.refl _ w).drew⟩, rfl⟩ (by simpa using h)

theorem later_of {P : Program} {f : FuncId} {args : Array Value} {w : World} {s : Later w} {v : Value}
    (h : Calls P f args s.here fun e w' => e = .returned v ∧ Below s.here.heap.size s.here w') : Calls P f args s.here fun e w'' => e = .returned v ∧ ∃ m : Later w, w'' = m.here :=
  h.mono fun _ w' ⟨he, hb⟩ => ⟨he, ⟨w', s.below.trans (hb.mono s.below.size)⟩, rfl⟩
theorem later_of_same {P : Program} {f : FuncId} {args : Array Value} {w : World} {s : Later w} {v : Value}
    (h : Calls P f args s.here fun e w' => e = .returned v ∧ s.here = w') : Calls P f args s.here fun e w'' => e = .returned v ∧ ∃ m : Later w, w'' = m.here :=
  h.mono fun _ w' ⟨he, hb⟩ => ⟨he, s, hb.symm⟩

/-- How an element lies in memory: as so many cells. -/
structure Enc (α : Type) where
  enc : α → List Value
  k : Nat
  pos : 0 < k
  len : ∀ a, (enc a).length = k
  one : ∀ a, ∀ u ∈ enc a, u.oneCell' = true

theorem Enc.flat_len {α : Type} (E : Enc α) (l : List α) : (l.flatMap E.enc).length = l.length * E.k := by
  induction l with
  | nil => simp
  | cons a l ih => rw [List.flatMap_cons, List.length_append, ih, E.len, List.length_cons, Nat.add_mul, Nat.one_mul, Nat.add_comm]
theorem Enc.flat_at {α : Type} (E : Enc α) (l : List α) (i : Nat) (hi : i < l.length) (j : Nat) (hj : j < E.k) : (l.flatMap E.enc)[i * E.k + j]? = (E.enc l[i])[j]? := by
  induction l generalizing i with
  | nil => simp at hi
  | cons a l ih =>
    rw [List.flatMap_cons]
    cases i with
    | zero => rw [List.getElem?_append_left (by rw [E.len]; omega)]; simp
    | succ i =>
      rw [List.getElem?_append_right (by rw [E.len, Nat.add_mul]; omega), E.len, show (i + 1) * E.k + j - E.k = i * E.k + j by rw [Nat.add_mul]; omega, ih i (by simpa using hi)]
      simp
theorem Enc.flat_one {α : Type} (E : Enc α) (l : List α) : ∀ u ∈ l.flatMap E.enc, u.oneCell' = true := by
  intro u hu
  obtain ⟨a, _, h⟩ := List.mem_flatMap.1 hu
  exact E.one a u h

/-- Behind the address A lie the elements l, below block B. (Nothing is said of A where l is empty.) -/
def SeqAt {α : Type} (E : Enc α) (w : World) (B : Nat) (A : Option Addr) (l : List α) : Prop :=
  0 < l.length → ∃ b off, A = some ⟨b, off, none⟩ ∧ b < B ∧ ∀ j, j < l.length * E.k → w.cell? ⟨b, off + j, none⟩ = some ((l.flatMap E.enc).getD j undef)

section
variable {α : Type} {E : Enc α} {w w' : World} {B B' : Nat} {A : Option Addr} {l : List α}
theorem SeqAt.nil_ : SeqAt E w B A ([] : List α) := fun h => absurd h (by simp)
theorem SeqAt.keep (h : SeqAt E w B A l) (hk : ∀ b o, b < B → w'.cell? ⟨b, o, none⟩ = w.cell? ⟨b, o, none⟩) : SeqAt E w' B A l := fun hn => by
  obtain ⟨b, off, e, hb, hc⟩ := h hn
  exact ⟨b, off, e, hb, fun j hj => (hk _ _ hb).trans (hc j hj)⟩
theorem SeqAt.more (h : SeqAt E w B A l) (hB : B ≤ B') : SeqAt E w B' A l := fun hn => by
  obtain ⟨b, off, e, hb, hc⟩ := h hn
  exact ⟨b, off, e, by omega, hc⟩
theorem SeqAt.below (h : SeqAt E w B A l) (hb : Below B w w') : SeqAt E w' B A l := h.keep fun b o hp => hb.cell (p := ⟨b, o, none⟩) hp
theorem SeqAt.drew (h : SeqAt E w B A l) : SeqAt E w.drew B A l := h
theorem SeqAt.drewN (h : SeqAt E w B A l) (m : Nat) : SeqAt E (w.drewN m) B A l := h
theorem SeqAt.alloc (h : SeqAt E w B A l) (hB : B ≤ w.heap.size) (o : Obj) : SeqAt E (w.alloc o) B A l :=
  h.keep fun b o' hp => World.cell?_alloc_lt w o ⟨b, o', none⟩ (by simp only; omega)
/-- The element at i: where it lies, and its cells. -/
theorem SeqAt.at_ (h : SeqAt E w B A l) {i : Nat} (hi : i < l.length) : ∃ b off, A = some ⟨b, off, none⟩ ∧ b < B ∧ ∀ j, j < E.k → w.cell? ⟨b, off + (i * E.k + j), none⟩ = some ((E.enc l[i]).getD j undef) := by
  obtain ⟨b, off, e, hb, hc⟩ := h (by omega)
  refine ⟨b, off, e, hb, fun j hj => ?_⟩
  have hlt : i * E.k + j < l.length * E.k := by
    have h2 : (i + 1) * E.k ≤ l.length * E.k := Nat.mul_le_mul_right _ hi
    rw [Nat.add_mul, Nat.one_mul] at h2
    omega
  rw [hc _ hlt, List.getD_eq_getElem?_getD, List.getD_eq_getElem?_getD, E.flat_at l i hi j hj]
theorem SeqAt.new (w : World) (l : List α) (t : TypeId) : SeqAt E (w.alloc (.cells (l.flatMap E.enc).toArray t)) (w.heap.size + 1) (some ⟨w.heap.size, 0, none⟩) l := fun _ =>
  ⟨w.heap.size, 0, rfl, Nat.lt_succ_self _, fun j hj => by
    rw [Nat.zero_add, cell_of_row (w.alloc (.cells (l.flatMap E.enc).toArray t)) w.heap.size j _ t (0, 0) (heap_alloc_new w _)]
    rw [List.getElem?_toArray, List.getD_eq_getElem?_getD, List.getElem?_eq_getElem (by rw [E.flat_len]; exact hj)]
    rfl⟩
theorem SeqAt.new_at (w : World) (l : List α) (t : TypeId) (g : Nat) (hg : w.heap.size = g) : SeqAt E (w.alloc (.cells (l.flatMap E.enc).toArray t)) (g + 1) (some ⟨g, 0, none⟩) l := by
  subst hg
  exact SeqAt.new w l t
theorem SeqAt.cut (h : SeqAt E w B A l) {m cap : Nat} (hm : m ≤ l.length) (hc : l.length ≤ cap) :
    SeqAt E w B (if cap = m then A else A.map (·.add (m * E.k))) (l.drop m) := by
  intro hn
  rw [List.length_drop] at hn
  obtain ⟨b, off, rfl, hb, hcell⟩ := h (by omega)
  rw [if_neg (by omega)]
  refine ⟨b, off + m * E.k, by simp [add_off], hb, fun j hj => ?_⟩
  rw [List.length_drop, Nat.sub_mul] at hj
  rw [Nat.add_assoc, hcell _ (by omega)]
  congr 1
  rw [List.getD_eq_getElem?_getD, List.getD_eq_getElem?_getD]
  have hsplit : l.flatMap E.enc = (l.take m).flatMap E.enc ++ (l.drop m).flatMap E.enc := by rw [← List.flatMap_append, List.take_append_drop]
  have hlen : ((l.take m).flatMap E.enc).length = m * E.k := by rw [E.flat_len, List.length_take, Nat.min_eq_left hm]
  rw [hsplit, List.getElem?_append_right (by omega), hlen, Nat.add_sub_cancel_left]
end

/-- The value is a slice that reads as the list l. -/
def IsSeq {α : Type} (E : Enc α) (w : World) (v : Value) (l : List α) : Prop :=
  ∃ A c, v = .slice A l.length c ∧ l.length ≤ c ∧ c ≤ maxLen ∧ SeqAt E w w.heap.size A l

/-- A call's end: it hands back a slice that reads as l; what was there when it began stands. -/
def RetSeq {α : Type} (E : Enc α) (w : World) (l : List α) (e : Ending) (w' : World) : Prop := ∃ v, e = .returned v ∧ IsSeq E w' v l ∧ Below w.heap.size w w'

/-- The value is a slice over a row of the call's own (the call began in w0), which reads as l; what was there when the call began stands. -/
def Own {α : Type} (E : Enc α) (e : TypeId) (w0 w : World) (v : Value) (l : List α) : Prop :=
  w.ownsRow w0.heap.size e E.k v l.length (l.flatMap E.enc) ∧ Below w0.heap.size w0 w

section
variable {α : Type} {E : Enc α} {w0 w w' : World} {e : TypeId} {v : Value} {l l' : List α}
theorem IsSeq.below (h : IsSeq E w v l) (hb : Below w.heap.size w w') : IsSeq E w' v l := by
  obtain ⟨A, c, rfl, h1, h2, h3⟩ := h
  exact ⟨A, c, rfl, h1, h2, (h3.below hb).more hb.size⟩
theorem SeqAt.of_own {base : Nat} {A : Option Addr} {c : Nat} (h : w.ownsRow base e E.k (.slice A l.length c) l.length (l.flatMap E.enc)) : SeqAt E w w.heap.size A l := fun hn => by
  rcases h.2 with ⟨_, h0⟩ | ⟨g, cap, cur, hv, hb, hg, hnc, hm, hs, ht⟩
  · omega
  · injection hv with hA _ _
    subst hA
    refine ⟨g, 0, rfl, (Array.getElem?_eq_some_iff.1 hg).1, fun j hj => ?_⟩
    have hx : (l.flatMap E.enc)[j]? = some ((l.flatMap E.enc).getD j undef) := by
      rw [List.getD_eq_getElem?_getD, List.getElem?_eq_getElem (by have := h.1; omega)]; rfl
    have := h.cells (g := g) (by simp [Value.ownBlock]) j _ hx
    rw [add_row] at this
    rw [Nat.zero_add]
    exact this
theorem Own.isSeq (h : Own E e w0 w v l) : IsSeq E w v l := by
  have hs : ∃ A c, v = .slice A l.length c ∧ l.length ≤ c ∧ c ≤ maxLen := by
    rcases h.1.2 with ⟨rfl, h0⟩ | ⟨g, cap, cur, rfl, _, _, hnc, hm, _⟩
    · exact ⟨none, 0, by rw [h0], by omega, by simp [maxLen]⟩
    · exact ⟨_, cap, rfl, hnc, hm⟩
  obtain ⟨A, c, rfl, h1, h2⟩ := hs
  exact ⟨A, c, rfl, h1, h2, SeqAt.of_own h.1⟩
theorem Own.ret (h : Own E e w0 w v l) : RetSeq E w0 l (.returned v) w := ⟨v, rfl, h.isSeq, h.2⟩
theorem Own.nil_ (w : World) : Own E e w w (.slice none 0 0) ([] : List α) := ⟨World.ownsRow_nil _ _ _ _, Below.refl _ _⟩
theorem Own.nil_of (hb : Below w0.heap.size w0 w) : Own E e w0 w (.slice none 0 0) ([] : List α) := ⟨World.ownsRow_nil _ _ _ _, hb⟩
theorem Own.alloc (h : Own E e w0 w v l) (o : Obj) : Own E e w0 (w.alloc o) v l := ⟨h.1.alloc o, h.2.alloc h.2.size o⟩
theorem Own.drew (h : Own E e w0 w v l) : Own E e w0 w.drew v l := ⟨h.1, h.2.drew⟩
theorem Own.below (h : Own E e w0 w v l) (hb : Below w.heap.size w w') : Own E e w0 w' v l :=
  ⟨h.1.kept (row := none) ⟨hb.os, hb.tape, hb.output, hb.size, fun k hk _ => hb.block k hk⟩ (by cases hv : v.ownBlock <;> simp), h.2.trans (hb.mono h.2.size)⟩
theorem Own.size (h : Own E e w0 w v l) : w0.heap.size ≤ w.heap.size := h.2.size
theorem IsSeq.new_at (w : World) (l : List α) (t : TypeId) (c g : Nat) (hg : w.heap.size = g) (h1 : l.length ≤ c) (h2 : c ≤ maxLen) :
    IsSeq E (w.alloc (.cells (l.flatMap E.enc).toArray t)) (.slice (some ⟨g, 0, none⟩) l.length c) l := by
  subst hg
  exact ⟨_, c, rfl, h1, h2, (SeqAt.new w l t).more (by simp)⟩
theorem IsSeq.new (w : World) (l : List α) (t : TypeId) (c : Nat) (h1 : l.length ≤ c) (h2 : c ≤ maxLen) :
    IsSeq E (w.alloc (.cells (l.flatMap E.enc).toArray t)) (.slice (some ⟨w.heap.size, 0, none⟩) l.length c) l :=
  ⟨_, c, rfl, h1, h2, (SeqAt.new w l t).more (by simp)⟩
end

/-- A cell of a block that is none of the row's own stands behind the append. -/
theorem grown_cell {α : Type} {E : Enc α} {w0 w w2 w1 : World} {e : TypeId} {v u : Value} {l : List α} {b o : Nat} (hown : Own E e w0 w v l) (hg : w2.grownBy w1 v.ownBlock) (h : w2.cell? ⟨b, o, none⟩ = some u) (hb : w.heap.size ≤ b) :
    w1.cell? ⟨b, o, none⟩ = some u := hg.cell h (fun e => by have := (hown.1.lt b e.symm).2; omega)

/-- What the model's table says of a slice type t with elements e, of so many cells and bytes. -/
def ElemOf (P : Program) (t e : TypeId) (size bytes : Nat) : Prop :=
  ∃ i z, P.underlying t = some (.slice e) ∧ P.info? e = some i ∧ i.zero = some z ∧ i.size = size ∧ i.bytes = bytes ∧ z.cells.size = size

section
variable {P : Program} (w : World)
theorem run_append_none (base : Nat) (t ty e : TypeId) (i : TypeInfo) (size : Nat) (ht : P.underlying t = some (.slice e)) (hi : P.info? e = some i)
    (v : Value) (n : Nat) (xs : List Value) (hown : w.ownsRow base e size v n xs) (c : Nat) : (Builtin.append_ #[t, t] ty #[v, .slice none 0 c]).run P w = .ok v w := by
  rcases hown.2 with ⟨rfl, rfl⟩ | ⟨g, cap, cur, rfl, _, _, hnc, _⟩
  · simp [Builtin.append_, run_underlying ht, sizeOf, typeInfo, hi, Builtin.lenOf, Builtin.firstCells]
  · simp [Builtin.append_, run_underlying ht, sizeOf, typeInfo, hi, Builtin.lenOf, Builtin.firstCells, hnc, storeCells]

variable {α : Type} {E : Enc α} {w0 : World} {e : TypeId} {v : Value} {l l' : List α} {B : Nat} {A : Option Addr} {c : Nat}

theorem run_append_seq (t ty : TypeId) (bytes : Nat) (he : ElemOf P t e E.k bytes) (hown : Own E e w0 w v l) (hr : SeqAt E w B A l')
    (h63 : l.length + l'.length ≤ maxLen) (hbytes : (l.length + l'.length) * bytes ≤ 140737488355328) :
    ∃ v' w', (Builtin.append_ #[t, t] ty #[v, .slice A l'.length c]).run P w = .ok v' w' ∧ Own E e w0 w' v' (l ++ l') ∧ w.grownBy w' v.ownBlock := by
  obtain ⟨i, z, ht, hi, hz, hsize, hby, hzs⟩ := he
  have hb := hown.2
  have hlen : (l ++ l').length = l.length + l'.length := List.length_append
  rcases A with _ | ad
  · have hm : l' = [] := by
      rcases Nat.eq_zero_or_pos l'.length with h0 | h0
      · exact List.eq_nil_of_length_eq_zero h0
      · obtain ⟨_, _, h, _⟩ := hr h0
        cases h
    subst hm
    exact ⟨v, w, run_append_none w _ t ty e i E.k ht hi v _ _ hown.1 c, by simpa using hown, World.grownBy.refl w _⟩
  · have hcells : ∀ j u, (l'.flatMap E.enc)[j]? = some u → w.cell? (ad.add j) = some u := by
      intro j u hu
      have hj : j < l'.length * E.k := by rw [← E.flat_len]; exact (List.getElem?_eq_some_iff.1 hu).1
      obtain ⟨b, off, h, _, hc⟩ := hr (Nat.pos_of_ne_zero fun h => by rw [h] at hj; omega)
      injection h with h
      subst h
      rw [add_off, hc j hj, List.getD_eq_getElem?_getD, hu]; rfl
    obtain ⟨v', w', hrun, h2, h3, _⟩ := run_append_own (P := P) w w0.heap.size t ty e i z E.k bytes ht hi hz hsize hby hzs E.pos v l.length _ hown.1 ad l'.length c (l'.flatMap E.enc) (E.flat_len l') hcells (E.flat_one l') h63 hbytes hb.size
    refine ⟨v', w', hrun, ⟨?_, hb.grown h3 hb.size (fun k hk => (hown.1.lt k hk).1)⟩, h3⟩
    rw [hlen, List.flatMap_append]
    exact h2

theorem wp_append_seq {o : Oper} {a : Act} {K : Act → World → Prop} {Q : Exit → Act → World → Prop} (s x : Operand) (t : TypeId)
    (ho : o.op = .call { callee := .builtin .append, args := #[s, x], argTypes := #[t, t] }) (bytes : Nat) (he : ElemOf P t e E.k bytes)
    (hs : a.eval s = v) (hown : Own E e w0 w v l) (m : Nat) (hx : a.eval x = .slice A m c) (hr : SeqAt E w B A l') (hm : l'.length = m)
    (h63 : l.length + m ≤ maxLen) (hbytes : (l.length + m) * bytes ≤ 140737488355328)
    (h : ∀ v' w', Own E e w0 w' v' (l ++ l') → w.grownBy w' v.ownBlock → K (a.put o.dst v') w') : o.wp P a w K Q := by
  subst hm
  obtain ⟨v', w', hrun, h2, h3⟩ := run_append_seq (P := P) w t o.type bytes he hown hr (c := c) h63 hbytes
  unfold Oper.wp execOp
  simp only [ho, resolve, invoke, builtin, Sem.run_bind, Sem.run_pure, Result.andThen_ok, List.map_toArray, List.map_cons, List.map_nil, hs, hx, hrun]
  exact h v' w' h2 h3

/-- 'out = append(out, l..)', out a row of the call's own. -/
theorem wpList_append_seq {ops : Array Oper} {rest : List Oper} {o : Oper} {a : Act} {Q : Exit → Act → World → Prop} (hgd : o.guard = none) (s x : Operand) (t : TypeId)
    (ho : o.op = .call { callee := .builtin .append, args := #[s, x], argTypes := #[t, t] }) (bytes : Nat) (he : ElemOf P t e E.k bytes)
    (hs : a.eval s = v) (hown : Own E e w0 w v l) (m : Nat) (hx : a.eval x = .slice A m c) (hr : SeqAt E w B A l') (hm : l'.length = m)
    (h63 : l.length + m ≤ maxLen) (hbytes : (l.length + m) * bytes ≤ 140737488355328)
    (h : ∀ v' w', Own E e w0 w' v' (l ++ l') → w.grownBy w' v.ownBlock → wpList P ops Q rest (a.put o.dst v') w') : wpList P ops Q (o :: rest) a w :=
  wpList_plain hgd fun _ hK => wp_append_seq w s x t ho bytes he hs hown m hx hr hm h63 hbytes fun v' w' h2 h3 => hK _ _ (h v' w' h2 h3)
end

/-- The value is a slice over a row of the call's own, from block 'base' on, which reads as l. -/
def OwnB {α : Type} (E : Enc α) (e : TypeId) (base : Nat) (w : World) (v : Value) (l : List α) : Prop :=
  w.ownsRow base e E.k v l.length (l.flatMap E.enc) ∧ base ≤ w.heap.size

section
variable {α : Type} {E : Enc α} {w w' : World} {e : TypeId} {base : Nat} {v : Value} {l l' : List α}
theorem OwnB.form (h : OwnB E e base w v l) : ∃ A c, v = .slice A l.length c ∧ l.length ≤ c ∧ c ≤ maxLen := by
  rcases h.1.2 with ⟨rfl, h0⟩ | ⟨g, cap, cur, rfl, _, _, hnc, hm, _⟩
  · exact ⟨none, 0, by rw [h0], by omega, by simp [maxLen]⟩
  · exact ⟨_, cap, rfl, hnc, hm⟩
theorem OwnB.alloc (h : OwnB E e base w v l) (o : Obj) : OwnB E e base (w.alloc o) v l := ⟨h.1.alloc o, by have := h.2; simp; omega⟩
theorem OwnB.drew (h : OwnB E e base w v l) : OwnB E e base w.drew v l := h
theorem OwnB.drewN (h : OwnB E e base w v l) (n : Nat) : OwnB E e base (w.drewN n) v l := h
theorem OwnB.below (h : OwnB E e base w v l) (hb : Below w.heap.size w w') : OwnB E e base w' v l :=
  ⟨h.1.kept (row := none) ⟨hb.os, hb.tape, hb.output, hb.size, fun k hk _ => hb.block k hk⟩ (by cases hv : v.ownBlock <;> simp), Nat.le_trans h.2 hb.size⟩
theorem OwnB.setBelow (h : OwnB E e base w v l) {a : Addr} (ha : a.block < base) (u : Value) : OwnB E e base (w.setCell a u) v l :=
  ⟨ownsRow_setCell_below h.1 ha u, by have := h.2; simpa [World.setCell] using this⟩
theorem OwnB.seq {A : Option Addr} {c : Nat} (h : OwnB E e base w (.slice A l.length c) l) : SeqAt E w w.heap.size A l := SeqAt.of_own h.1
theorem OwnB.nil_ (h : base ≤ w.heap.size) : OwnB E e base w (.slice none 0 0) ([] : List α) := ⟨World.ownsRow_nil _ _ _ _, h⟩
theorem OwnB.lt (h : OwnB E e base w v l) : ∀ k, v.ownBlock = some k → base ≤ k ∧ k < w.heap.size := h.1.lt
theorem OwnB.frozen (h : OwnB E e base w v l) {g c n : Nat} (hv : v = .slice (some ⟨g, 0, none⟩) n c) (j : Nat) : w.frozen? ⟨g, j, none⟩ = false := by
  subst hv
  have hn : n = l.length := by
    rcases h.1.2 with ⟨h', _⟩ | ⟨g', cap, cur, h', _⟩
    · cases h'
    · injection h'
  subst hn
  exact h.1.frozenAt j
end

section
variable {P : Program} (w : World) {α : Type} {E : Enc α} {base : Nat} {e : TypeId} {v : Value} {l l' : List α} {B : Nat} {A : Option Addr} {c : Nat}
theorem run_append_seqB (t ty : TypeId) (bytes : Nat) (he : ElemOf P t e E.k bytes) (hown : OwnB E e base w v l) (hr : SeqAt E w B A l')
    (h63 : l.length + l'.length ≤ maxLen) (hbytes : (l.length + l'.length) * bytes ≤ 140737488355328) :
    ∃ v' w', (Builtin.append_ #[t, t] ty #[v, .slice A l'.length c]).run P w = .ok v' w' ∧ OwnB E e base w' v' (l ++ l') ∧ w.grownBy w' v.ownBlock := by
  obtain ⟨i, z, ht, hi, hz, hsize, hby, hzs⟩ := he
  have hlen : (l ++ l').length = l.length + l'.length := List.length_append
  rcases A with _ | ad
  · have hm : l' = [] := by
      rcases Nat.eq_zero_or_pos l'.length with h0 | h0
      · exact List.eq_nil_of_length_eq_zero h0
      · obtain ⟨_, _, h, _⟩ := hr h0
        cases h
    subst hm
    exact ⟨v, w, run_append_none w _ t ty e i E.k ht hi v _ _ hown.1 c, by simpa using hown, World.grownBy.refl w _⟩
  · have hcells : ∀ j u, (l'.flatMap E.enc)[j]? = some u → w.cell? (ad.add j) = some u := by
      intro j u hu
      have hj : j < l'.length * E.k := by rw [← E.flat_len]; exact (List.getElem?_eq_some_iff.1 hu).1
      obtain ⟨b, off, h, _, hc⟩ := hr (Nat.pos_of_ne_zero fun h => by rw [h] at hj; omega)
      injection h with h
      subst h
      rw [add_off, hc j hj, List.getD_eq_getElem?_getD, hu]; rfl
    obtain ⟨v', w', hrun, h2, h3, _⟩ := run_append_own (P := P) w base t ty e i z E.k bytes ht hi hz hsize hby hzs E.pos v l.length _ hown.1 ad l'.length c (l'.flatMap E.enc) (E.flat_len l') hcells (E.flat_one l') h63 hbytes hown.2
    refine ⟨v', w', hrun, ⟨?_, Nat.le_trans hown.2 h3.size⟩, h3⟩
    rw [hlen, List.flatMap_append]
    exact h2
theorem wp_append_seqB {o : Oper} {a : Act} {K : Act → World → Prop} {Q : Exit → Act → World → Prop} (s x : Operand) (t : TypeId)
    (ho : o.op = .call { callee := .builtin .append, args := #[s, x], argTypes := #[t, t] }) (bytes : Nat) (he : ElemOf P t e E.k bytes)
    (hs : a.eval s = v) (hown : OwnB E e base w v l) (m : Nat) (hx : a.eval x = .slice A m c) (hr : SeqAt E w B A l') (hm : l'.length = m)
    (h63 : l.length + m ≤ maxLen) (hbytes : (l.length + m) * bytes ≤ 140737488355328)
    (h : ∀ v' w', OwnB E e base w' v' (l ++ l') → w.grownBy w' v.ownBlock → K (a.put o.dst v') w') : o.wp P a w K Q := by
  subst hm
  obtain ⟨v', w', hrun, h2, h3⟩ := run_append_seqB (P := P) w t o.type bytes he hown hr (c := c) h63 hbytes
  unfold Oper.wp execOp
  simp only [ho, resolve, invoke, builtin, Sem.run_bind, Sem.run_pure, Result.andThen_ok, List.map_toArray, List.map_cons, List.map_nil, hs, hx, hrun]
  exact h v' w' h2 h3
/-- 'out = append(out, l..)', out a row from block 'base' on. -/
theorem wpList_append_seqB {ops : Array Oper} {rest : List Oper} {o : Oper} {a : Act} {Q : Exit → Act → World → Prop} (hgd : o.guard = none) (s x : Operand) (t : TypeId)
    (ho : o.op = .call { callee := .builtin .append, args := #[s, x], argTypes := #[t, t] }) (bytes : Nat) (he : ElemOf P t e E.k bytes)
    (hs : a.eval s = v) (hown : OwnB E e base w v l) (m : Nat) (hx : a.eval x = .slice A m c) (hr : SeqAt E w B A l') (hm : l'.length = m)
    (h63 : l.length + m ≤ maxLen) (hbytes : (l.length + m) * bytes ≤ 140737488355328)
    (h : ∀ v' w', OwnB E e base w' v' (l ++ l') → w.grownBy w' v.ownBlock → wpList P ops Q rest (a.put o.dst v') w') : wpList P ops Q (o :: rest) a w :=
  wpList_plain hgd fun _ hK => wp_append_seqB w s x t ho bytes he hs hown m hx hr hm h63 hbytes fun v' w' h2 h3 => hK _ _ (h v' w' h2 h3)
end

/-- ints; strings; pairs of ints; whatever values of one cell. -/
def Eint : Enc Int := ⟨fun a => [.int .i64 a], 1, by decide, fun _ => rfl, fun a u hu => by simp at hu; subst hu; rfl⟩
def Estr : Enc ByteArray := ⟨fun a => [.string a], 1, by decide, fun _ => rfl, fun a u hu => by simp at hu; subst hu; rfl⟩
def Epair : Enc (Int × Int) := ⟨fun a => [.int .i64 a.1, .int .i64 a.2], 2, by decide, fun _ => rfl, fun a u hu => by simp at hu; rcases hu with rfl | rfl <;> rfl⟩

/-- The cell of an int behind a slice. -/
theorem SeqAt.int_ {w : World} {B : Nat} {A : Option Addr} {l : List Int} (h : SeqAt Eint w B A l) {i : Nat} (hi : i < l.length) :
    ∃ b off, A = some ⟨b, off, none⟩ ∧ b < B ∧ w.cell? ⟨b, off + i, none⟩ = some (.int .i64 l[i]) := by
  obtain ⟨b, off, e, hb, hc⟩ := h.at_ hi
  have := hc 0 (by decide)
  exact ⟨b, off, e, hb, by simpa [Eint] using this⟩
theorem SeqAt.ints_ {w : World} {B : Nat} {A : Option Addr} {l : List Int} (h : SeqAt Eint w B A l) (hn : 0 < l.length) :
    ∃ b off, A = some ⟨b, off, none⟩ ∧ b < B ∧ ∀ i, i < l.length → w.cell? ⟨b, off + i, none⟩ = some (.int .i64 (l.getD i 0)) := by
  obtain ⟨b, off, e, hb, hc⟩ := h.at_ hn
  refine ⟨b, off, e, hb, fun i hi => ?_⟩
  obtain ⟨b', off', e', _, hc'⟩ := h.int_ hi
  rw [e] at e'
  injection e' with e'
  injection e' with e1 e2
  subst e1; subst e2
  rw [hc', List.getD_eq_getElem?_getD, List.getElem?_eq_getElem hi]; rfl

/-- The cells of pairs of ints behind a slice. -/
theorem SeqAt.pairs_ {w : World} {B : Nat} {A : Option Addr} {l : List (Int × Int)} (h : SeqAt Epair w B A l) (hn : 0 < l.length) :
    ∃ b off, A = some ⟨b, off, none⟩ ∧ b < B ∧ ∀ i, i < l.length → w.cell? ⟨b, off + i * 2, none⟩ = some (.int .i64 (l.getD i (0, 0)).1) ∧ w.cell? ⟨b, off + i * 2 + 1, none⟩ = some (.int .i64 (l.getD i (0, 0)).2) := by
  obtain ⟨b, off, e, hb, hc⟩ := h.at_ hn
  refine ⟨b, off, e, hb, fun i hi => ?_⟩
  obtain ⟨b', off', e', _, hc'⟩ := h.at_ hi
  rw [e] at e'
  injection e' with e'
  injection e' with e1 e2
  subst e1; subst e2
  have h0 := hc' 0 (by decide)
  have h1 := hc' 1 (by decide)
  have hg : l.getD i (0, 0) = l[i] := by rw [List.getD_eq_getElem?_getD, List.getElem?_eq_getElem hi]; rfl
  rw [hg]
  exact ⟨by simpa [Epair] using h0, by simpa [Epair, Nat.add_assoc] using h1⟩

theorem new_ints (w : World) (l : List Int) (t : TypeId) (i : Nat) (hi : i < l.length) : (w.alloc (.cells (l.flatMap Eint.enc).toArray t)).cell? ⟨w.heap.size, i, none⟩ = some (.int .i64 (l.getD i 0)) := by
  obtain ⟨b, off, hA, _, hc⟩ := (SeqAt.new (E := Eint) w l t).ints_ (by omega)
  injection hA with hA
  injection hA with e1 e2
  subst e1; subst e2
  simpa using hc i hi

theorem SeqAt.cut_one {α : Type} {E : Enc α} (hk : E.k = 1) {w : World} {B b off : Nat} {l : List α} (h : SeqAt E w B (some ⟨b, off, none⟩) l) {m cap : Nat} (hm : m ≤ l.length) (hc : l.length ≤ cap) :
    SeqAt E w B (if cap = m then some ⟨b, off, none⟩ else some ⟨b, off + m, none⟩) (l.drop m) := by
  have := h.cut hm hc
  simpa [add_off, hk] using this
theorem SeqAt.cut_lt {α : Type} {E : Enc α} (hk : E.k = 1) {w : World} {B b off : Nat} {l : List α} (h : SeqAt E w B (some ⟨b, off, none⟩) l) {m cap : Nat} (hm : m ≤ l.length) (hc : l.length ≤ cap) (hlt : m < cap) :
    SeqAt E w B (some ⟨b, off + m, none⟩) (l.drop m) := by
  have := h.cut_one hk hm hc
  rwa [if_neg (by omega)] at this

end Go.Proofs.YtgekkhkmgfbcdaaDoor
