/- General words of memory for the walks of this seat: lists that lie behind slices, kept over new blocks, draws and calls; lists that a call builds by append.
  Chapter 10: the parser of patterns in plain Lean: over the text's scalars; a set is its test; the classes by name and Perl's are handed in.
  General: a world in which one block alone, and what is new, has turned; rows, builders and sequences that it leaves alone.
  Chapter 10: the parser of patterns: its state in memory; fail, peek, has.
  Chapter 10: the plain parser's places: it goes on, and never behind the end.
  Chapter 10: the parser of patterns: digits and quantifiers. -/
import Derived.Test.YtblkejnckbeieaaGreatDoorRows
import Derived.WalkKit
import Derived.WalkLawsBesides
import Derived.WalkSpells
import Derived.Laws.OwnMore
import Derived.Laws.Rows
import Derived.Deep.Draws
import Derived.Deep.AppendLies
import Derived.Maps.AppendAt
import Derived.OwnWalk
import Derived.Lib.Hide
import Derived.Deep.QuietTactic
import Derived.BigQuiet
import Derived.BigGuardPart
import Derived.Deep.DeepCutAuto
import Derived.Deep.RegionHeld3
import Derived.Deep.RegionWith
import Derived.Deep.LoopGhost
import Derived.Deep.DeepFit
import Derived.StillTailTactics
import Derived.Outline
import Derived.Laws.AppendOwn
import Derived.Laws.BytesArg
namespace Go.Proofs.YtblkejnckbeieaaGreatDoor
open Go.RowKit

theorem ret_bool {a b : Bool} (h : a = b) : Ending.returned (.bool a) = .returned (.bool b) := by rw [h]
theorem ret_int {k : IntKind} {a b : Int} (h : a = b) : Ending.returned (.int k a) = .returned (.int k b) := by rw [h]
theorem val_bool {a b : Bool} (h : a = b) : Value.bool a = .bool b := by rw [h]
theorem val_int {k : IntKind} {a b : Int} (h : a = b) : Value.int k a = .int k b := by rw [h]

theorem add_row (g j : Nat) : (⟨g, 0, none⟩ : Addr).add j = ⟨g, j, none⟩ := by unfold Addr.add; split <;> simp_all
theorem add_off (g o j : Nat) : (⟨g, o, none⟩ : Addr).add j = ⟨g, o + j, none⟩ := by unfold Addr.add; split <;> simp_all

theorem below_drewN {B : Nat} {a w : World} (h : Below B a w) (n : Nat) : Below B a (w.drewN n) := ⟨h.os, h.tape, h.output, h.size, h.block⟩

theorem below_of_drewN {w w' : World} {n : Nat} (h : Below (w.drewN n).heap.size (w.drewN n) w') : Below w.heap.size w w' := ⟨h.os, h.tape, h.output, h.size, h.block⟩

/-- A world behind w: below w's own blocks it is as w was. -/
structure Later (w : World) where
  here : World
  below : Below w.heap.size w here

instance (w : World) : Nonempty (Later w) := ⟨⟨w, Below.refl _ w⟩⟩

/-- A region that draws its order: its operations read, its callees may make memory: one walk in the order of the text. -/
theorem wp_region_later {P : Program} {id : Nat} {Q : Exit → Act → World → Prop} {a : Act} {w : World} {l : List Oper} (hm : P.follows .mixedOrders = true) (hB : Region.lexB .any l.toArray = true)
    (h : wpQuiet P l.toArray (fun w' => ∃ s : Later w, w' = s.here) (fun a' => ∀ w', (∃ s : Later w, w' = s.here) → Q .normal a' w') l a) : (Code.region id l.toArray true).wp P Q a w :=
  wp_region_quiet (C := fun w' => ∃ s : Later w, w' = s.here) hm hB ⟨⟨_, (Below.refl _ w).drew⟩, rfl⟩ (by simpa using h)

theorem later_of {P : Program} {f : FuncId} {args : Array Value} {w : World} {s : Later w} {v : Value}
    (h : Calls P f args s.here fun e w' => e = .returned v ∧ Below s.here.heap.size s.here w') : Calls P f args s.here fun e w'' => e = .returned v ∧ ∃ m : Later w, w'' = m.here :=
  h.mono fun _ w' ⟨he, hb⟩ => ⟨he, ⟨w', s.below.trans (hb.mono s.below.size)⟩, rfl⟩
theorem later_of_same {P : Program} {f : FuncId} {args : Array Value} {w : World} {s : Later w} {v : Value}
    (h : Calls P f args s.here fun e w' => e = .returned v ∧ s.here = w') : Calls P f args s.here fun e w'' => e = .returned v ∧ ∃ m : Later w, w'' = m.here :=
  h.mono fun _ _ ⟨he, hb⟩ => ⟨he, s, hb.symm⟩

/-- How an element lies in memory: as so many cells. -/
structure Enc (α : Type) where
  enc : α → List Value
  k : Nat
  pos : 0 < k
  len : ∀ a, (enc a).length = k
  one : ∀ a, ∀ u ∈ enc a, u.oneCell' = true

theorem Enc.flat_len {α : Type} (E : Enc α) (l : List α) : (l.flatMap E.enc).length = l.length * E.k := by
  induction l with
  | nil => simp
  | cons a l ih => rw [List.flatMap_cons, List.length_append, ih, E.len, List.length_cons, Nat.add_mul, Nat.one_mul, Nat.add_comm]
theorem Enc.flat_at {α : Type} (E : Enc α) (l : List α) (i : Nat) (hi : i < l.length) (j : Nat) (hj : j < E.k) : (l.flatMap E.enc)[i * E.k + j]? = (E.enc l[i])[j]? := by
  induction l generalizing i with
  | nil => simp at hi
  | cons a l ih =>
    rw [List.flatMap_cons]
    cases i with
    | zero => rw [List.getElem?_append_left (by rw [E.len]; omega)]; simp
    | succ i =>
      rw [List.getElem?_append_right (by rw [E.len, Nat.add_mul]; omega), E.len, show (i + 1) * E.k + j - E.k = i * E.k + j by rw [Nat.add_mul]; omega, ih i (by simpa using hi)]
      simp
theorem Enc.flat_one {α : Type} (E : Enc α) (l : List α) : ∀ u ∈ l.flatMap E.enc, u.oneCell' = true := by
  intro u hu
  obtain ⟨a, _, h⟩ := List.mem_flatMap.1 hu
  exact E.one a u h

/-- Behind the address A lie the elements l, below block B. (Nothing is said of A where l is empty.) -/
def SeqAt {α : Type} (E : Enc α) (w : World) (B : Nat) (A : Option Addr) (l : List α) : Prop :=
  0 < l.length → ∃ b off, A = some ⟨b, off, none⟩ ∧ b < B ∧ ∀ j, j < l.length * E.k → w.cell? ⟨b, off + j, none⟩ = some ((l.flatMap E.enc).getD j undef)

section
variable {α : Type} {E : Enc α} {w w' : World} {B B' : Nat} {A : Option Addr} {l : List α}
theorem SeqAt.nil_ : SeqAt E w B A ([] : List α) := fun h => absurd h (by simp)
theorem SeqAt.keep (h : SeqAt E w B A l) (hk : ∀ b o, b < B → w'.cell? ⟨b, o, none⟩ = w.cell? ⟨b, o, none⟩) : SeqAt E w' B A l := fun hn => by
  obtain ⟨b, off, e, hb, hc⟩ := h hn
  exact ⟨b, off, e, hb, fun j hj => (hk _ _ hb).trans (hc j hj)⟩
theorem SeqAt.more (h : SeqAt E w B A l) (hB : B ≤ B') : SeqAt E w B' A l := fun hn => by
  obtain ⟨b, off, e, hb, hc⟩ := h hn
  exact ⟨b, off, e, by omega, hc⟩
theorem SeqAt.below (h : SeqAt E w B A l) (hb : Below B w w') : SeqAt E w' B A l := h.keep fun b o hp => hb.cell (p := ⟨b, o, none⟩) hp
theorem SeqAt.drew (h : SeqAt E w B A l) : SeqAt E w.drew B A l := h
theorem SeqAt.drewN (h : SeqAt E w B A l) (m : Nat) : SeqAt E (w.drewN m) B A l := h
theorem SeqAt.alloc (h : SeqAt E w B A l) (hB : B ≤ w.heap.size) (o : Obj) : SeqAt E (w.alloc o) B A l :=
  h.keep fun b o' hp => World.cell?_alloc_lt w o ⟨b, o', none⟩ (by simp only; omega)
/-- The element at i: where it lies, and its cells. -/
theorem SeqAt.at_ (h : SeqAt E w B A l) {i : Nat} (hi : i < l.length) : ∃ b off, A = some ⟨b, off, none⟩ ∧ b < B ∧ ∀ j, j < E.k → w.cell? ⟨b, off + (i * E.k + j), none⟩ = some ((E.enc l[i]).getD j undef) := by
  obtain ⟨b, off, e, hb, hc⟩ := h (by omega)
  refine ⟨b, off, e, hb, fun j hj => ?_⟩
  have hlt : i * E.k + j < l.length * E.k := by
    have h2 : (i + 1) * E.k ≤ l.length * E.k := Nat.mul_le_mul_right _ hi
    rw [Nat.add_mul, Nat.one_mul] at h2
    omega
  rw [hc _ hlt, List.getD_eq_getElem?_getD, List.getD_eq_getElem?_getD, E.flat_at l i hi j hj]
theorem SeqAt.new (w : World) (l : List α) (t : TypeId) : SeqAt E (w.alloc (.cells (l.flatMap E.enc).toArray t)) (w.heap.size + 1) (some ⟨w.heap.size, 0, none⟩) l := fun _ =>
  ⟨w.heap.size, 0, rfl, Nat.lt_succ_self _, fun j hj => by
    rw [Nat.zero_add, cell_of_row (w.alloc (.cells (l.flatMap E.enc).toArray t)) w.heap.size j _ t (0, 0) (heap_alloc_new w _)]
    rw [List.getElem?_toArray, List.getD_eq_getElem?_getD, List.getElem?_eq_getElem (by rw [E.flat_len]; exact hj)]
    rfl⟩
theorem SeqAt.new_at (w : World) (l : List α) (t : TypeId) (g : Nat) (hg : w.heap.size = g) : SeqAt E (w.alloc (.cells (l.flatMap E.enc).toArray t)) (g + 1) (some ⟨g, 0, none⟩) l := by
  subst hg
  exact SeqAt.new w l t
theorem SeqAt.cut (h : SeqAt E w B A l) {m cap : Nat} (hm : m ≤ l.length) (hc : l.length ≤ cap) :
    SeqAt E w B (if cap = m then A else A.map (·.add (m * E.k))) (l.drop m) := by
  intro hn
  rw [List.length_drop] at hn
  obtain ⟨b, off, rfl, hb, hcell⟩ := h (by omega)
  rw [if_neg (by omega)]
  refine ⟨b, off + m * E.k, by simp [add_off], hb, fun j hj => ?_⟩
  rw [List.length_drop, Nat.sub_mul] at hj
  rw [Nat.add_assoc, hcell _ (by omega)]
  congr 1
  rw [List.getD_eq_getElem?_getD, List.getD_eq_getElem?_getD]
  have hsplit : l.flatMap E.enc = (l.take m).flatMap E.enc ++ (l.drop m).flatMap E.enc := by rw [← List.flatMap_append, List.take_append_drop]
  have hlen : ((l.take m).flatMap E.enc).length = m * E.k := by rw [E.flat_len, List.length_take, Nat.min_eq_left hm]
  rw [hsplit, List.getElem?_append_right (by omega), hlen, Nat.add_sub_cancel_left]
end

/-- The value is a slice that reads as the list l. -/
def IsSeq {α : Type} (E : Enc α) (w : World) (v : Value) (l : List α) : Prop :=
  ∃ A c, v = .slice A l.length c ∧ l.length ≤ c ∧ c ≤ maxLen ∧ SeqAt E w w.heap.size A l

/-- A call's end: it hands back a slice that reads as l; what was there when it began stands. -/
def RetSeq {α : Type} (E : Enc α) (w : World) (l : List α) (e : Ending) (w' : World) : Prop := ∃ v, e = .returned v ∧ IsSeq E w' v l ∧ Below w.heap.size w w'

/-- The value is a slice over a row of the call's own (the call began in w0), which reads as l; what was there when the call began stands. -/
def Own {α : Type} (E : Enc α) (e : TypeId) (w0 w : World) (v : Value) (l : List α) : Prop :=
  w.ownsRow w0.heap.size e E.k v l.length (l.flatMap E.enc) ∧ Below w0.heap.size w0 w

section
variable {α : Type} {E : Enc α} {w0 w w' : World} {e : TypeId} {v : Value} {l l' : List α}
theorem IsSeq.below (h : IsSeq E w v l) (hb : Below w.heap.size w w') : IsSeq E w' v l := by
  obtain ⟨A, c, rfl, h1, h2, h3⟩ := h
  exact ⟨A, c, rfl, h1, h2, (h3.below hb).more hb.size⟩
theorem SeqAt.of_own {base : Nat} {A : Option Addr} {c : Nat} (h : w.ownsRow base e E.k (.slice A l.length c) l.length (l.flatMap E.enc)) : SeqAt E w w.heap.size A l := fun hn => by
  rcases h.2 with ⟨_, h0⟩ | ⟨g, cap, cur, hv, hb, hg, hnc, hm, hs, ht⟩
  · omega
  · injection hv with hA _ _
    subst hA
    refine ⟨g, 0, rfl, (Array.getElem?_eq_some_iff.1 hg).1, fun j hj => ?_⟩
    have hx : (l.flatMap E.enc)[j]? = some ((l.flatMap E.enc).getD j undef) := by
      rw [List.getD_eq_getElem?_getD, List.getElem?_eq_getElem (by have := h.1; omega)]; rfl
    have := h.cells (g := g) (by simp [Value.ownBlock]) j _ hx
    rw [add_row] at this
    rw [Nat.zero_add]
    exact this
theorem Own.isSeq (h : Own E e w0 w v l) : IsSeq E w v l := by
  have hs : ∃ A c, v = .slice A l.length c ∧ l.length ≤ c ∧ c ≤ maxLen := by
    rcases h.1.2 with ⟨rfl, h0⟩ | ⟨g, cap, cur, rfl, _, _, hnc, hm, _⟩
    · exact ⟨none, 0, by rw [h0], by omega, by simp [maxLen]⟩
    · exact ⟨_, cap, rfl, hnc, hm⟩
  obtain ⟨A, c, rfl, h1, h2⟩ := hs
  exact ⟨A, c, rfl, h1, h2, SeqAt.of_own h.1⟩
theorem Own.ret (h : Own E e w0 w v l) : RetSeq E w0 l (.returned v) w := ⟨v, rfl, h.isSeq, h.2⟩
theorem Own.nil_ (w : World) : Own E e w w (.slice none 0 0) ([] : List α) := ⟨World.ownsRow_nil _ _ _ _, Below.refl _ _⟩
theorem Own.nil_of (hb : Below w0.heap.size w0 w) : Own E e w0 w (.slice none 0 0) ([] : List α) := ⟨World.ownsRow_nil _ _ _ _, hb⟩
theorem Own.alloc (h : Own E e w0 w v l) (o : Obj) : Own E e w0 (w.alloc o) v l := ⟨h.1.alloc o, h.2.alloc h.2.size o⟩
theorem Own.drew (h : Own E e w0 w v l) : Own E e w0 w.drew v l := ⟨h.1, h.2.drew⟩
theorem Own.below (h : Own E e w0 w v l) (hb : Below w.heap.size w w') : Own E e w0 w' v l :=
  ⟨h.1.kept (row := none) ⟨hb.os, hb.tape, hb.output, hb.size, fun k hk _ => hb.block k hk⟩ (by cases hv : v.ownBlock <;> simp), h.2.trans (hb.mono h.2.size)⟩
theorem Own.size (h : Own E e w0 w v l) : w0.heap.size ≤ w.heap.size := h.2.size
theorem IsSeq.new_at (w : World) (l : List α) (t : TypeId) (c g : Nat) (hg : w.heap.size = g) (h1 : l.length ≤ c) (h2 : c ≤ maxLen) :
    IsSeq E (w.alloc (.cells (l.flatMap E.enc).toArray t)) (.slice (some ⟨g, 0, none⟩) l.length c) l := by
  subst hg
  exact ⟨_, c, rfl, h1, h2, (SeqAt.new w l t).more (by simp)⟩
theorem IsSeq.new (w : World) (l : List α) (t : TypeId) (c : Nat) (h1 : l.length ≤ c) (h2 : c ≤ maxLen) :
    IsSeq E (w.alloc (.cells (l.flatMap E.enc).toArray t)) (.slice (some ⟨w.heap.size, 0, none⟩) l.length c) l :=
  ⟨_, c, rfl, h1, h2, (SeqAt.new w l t).more (by simp)⟩
end

/-- A cell of a block that is none of the row's own stands behind the append. -/
theorem grown_cell {α : Type} {E : Enc α} {w0 w w2 w1 : World} {e : TypeId} {v u : Value} {l : List α} {b o : Nat} (hown : Own E e w0 w v l) (hg : w2.grownBy w1 v.ownBlock) (h : w2.cell? ⟨b, o, none⟩ = some u) (hb : w.heap.size ≤ b) :
    w1.cell? ⟨b, o, none⟩ = some u := hg.cell h (fun e => by have := (hown.1.lt b e.symm).2; omega)

/-- What the model's table says of a slice type t with elements e, of so many cells and bytes. -/
def ElemOf (P : Program) (t e : TypeId) (size bytes : Nat) : Prop :=
  ∃ i z, P.underlying t = some (.slice e) ∧ P.info? e = some i ∧ i.zero = some z ∧ i.size = size ∧ i.bytes = bytes ∧ z.cells.size = size

section
variable {P : Program} (w : World)
theorem run_append_none (base : Nat) (t ty e : TypeId) (i : TypeInfo) (size : Nat) (ht : P.underlying t = some (.slice e)) (hi : P.info? e = some i)
    (v : Value) (n : Nat) (xs : List Value) (hown : w.ownsRow base e size v n xs) (c : Nat) : (Builtin.append_ #[t, t] ty #[v, .slice none 0 c]).run P w = .ok v w := by
  rcases hown.2 with ⟨rfl, rfl⟩ | ⟨g, cap, cur, rfl, _, _, hnc, _⟩
  · simp [Builtin.append_, run_underlying ht, sizeOf, typeInfo, hi, Builtin.lenOf, Builtin.firstCells]
  · simp [Builtin.append_, run_underlying ht, sizeOf, typeInfo, hi, Builtin.lenOf, Builtin.firstCells, hnc, storeCells]

variable {α : Type} {E : Enc α} {w0 : World} {e : TypeId} {v : Value} {l l' : List α} {B : Nat} {A : Option Addr} {c : Nat}

theorem run_append_seq (t ty : TypeId) (bytes : Nat) (he : ElemOf P t e E.k bytes) (hown : Own E e w0 w v l) (hr : SeqAt E w B A l')
    (h63 : l.length + l'.length ≤ maxLen) (hbytes : (l.length + l'.length) * bytes ≤ 140737488355328) :
    ∃ v' w', (Builtin.append_ #[t, t] ty #[v, .slice A l'.length c]).run P w = .ok v' w' ∧ Own E e w0 w' v' (l ++ l') ∧ w.grownBy w' v.ownBlock := by
  obtain ⟨i, z, ht, hi, hz, hsize, hby, hzs⟩ := he
  have hb := hown.2
  have hlen : (l ++ l').length = l.length + l'.length := List.length_append
  rcases A with _ | ad
  · have hm : l' = [] := by
      rcases Nat.eq_zero_or_pos l'.length with h0 | h0
      · exact List.eq_nil_of_length_eq_zero h0
      · obtain ⟨_, _, h, _⟩ := hr h0
        cases h
    subst hm
    exact ⟨v, w, run_append_none w _ t ty e i E.k ht hi v _ _ hown.1 c, by simpa using hown, World.grownBy.refl w _⟩
  · have hcells : ∀ j u, (l'.flatMap E.enc)[j]? = some u → w.cell? (ad.add j) = some u := by
      intro j u hu
      have hj : j < l'.length * E.k := by rw [← E.flat_len]; exact (List.getElem?_eq_some_iff.1 hu).1
      obtain ⟨b, off, h, _, hc⟩ := hr (Nat.pos_of_ne_zero fun h => by rw [h] at hj; omega)
      injection h with h
      subst h
      rw [add_off, hc j hj, List.getD_eq_getElem?_getD, hu]; rfl
    obtain ⟨v', w', hrun, h2, h3, _⟩ := run_append_own (P := P) w w0.heap.size t ty e i z E.k bytes ht hi hz hsize hby hzs E.pos v l.length _ hown.1 ad l'.length c (l'.flatMap E.enc) (E.flat_len l') hcells (E.flat_one l') h63 hbytes hb.size
    refine ⟨v', w', hrun, ⟨?_, hb.grown h3 hb.size (fun k hk => (hown.1.lt k hk).1)⟩, h3⟩
    rw [hlen, List.flatMap_append]
    exact h2

theorem wp_append_seq {o : Oper} {a : Act} {K : Act → World → Prop} {Q : Exit → Act → World → Prop} (s x : Operand) (t : TypeId)
    (ho : o.op = .call { callee := .builtin .append, args := #[s, x], argTypes := #[t, t] }) (bytes : Nat) (he : ElemOf P t e E.k bytes)
    (hs : a.eval s = v) (hown : Own E e w0 w v l) (m : Nat) (hx : a.eval x = .slice A m c) (hr : SeqAt E w B A l') (hm : l'.length = m)
    (h63 : l.length + m ≤ maxLen) (hbytes : (l.length + m) * bytes ≤ 140737488355328)
    (h : ∀ v' w', Own E e w0 w' v' (l ++ l') → w.grownBy w' v.ownBlock → K (a.put o.dst v') w') : o.wp P a w K Q := by
  subst hm
  obtain ⟨v', w', hrun, h2, h3⟩ := run_append_seq (P := P) w t o.type bytes he hown hr (c := c) h63 hbytes
  unfold Oper.wp execOp
  simp only [ho, resolve, invoke, builtin, Sem.run_bind, Sem.run_pure, Result.andThen_ok, List.map_toArray, List.map_cons, List.map_nil, hs, hx, hrun]
  exact h v' w' h2 h3

/-- 'out = append(out, l..)', out a row of the call's own. -/
theorem wpList_append_seq {ops : Array Oper} {rest : List Oper} {o : Oper} {a : Act} {Q : Exit → Act → World → Prop} (hgd : o.guard = none) (s x : Operand) (t : TypeId)
    (ho : o.op = .call { callee := .builtin .append, args := #[s, x], argTypes := #[t, t] }) (bytes : Nat) (he : ElemOf P t e E.k bytes)
    (hs : a.eval s = v) (hown : Own E e w0 w v l) (m : Nat) (hx : a.eval x = .slice A m c) (hr : SeqAt E w B A l') (hm : l'.length = m)
    (h63 : l.length + m ≤ maxLen) (hbytes : (l.length + m) * bytes ≤ 140737488355328)
    (h : ∀ v' w', Own E e w0 w' v' (l ++ l') → w.grownBy w' v.ownBlock → wpList P ops Q rest (a.put o.dst v') w') : wpList P ops Q (o :: rest) a w :=
  wpList_plain hgd fun _ hK => wp_append_seq w s x t ho bytes he hs hown m hx hr hm h63 hbytes fun v' w' h2 h3 => hK _ _ (h v' w' h2 h3)
end

/-- The value is a slice over a row of the call's own, from block 'base' on, which reads as l. -/
def OwnB {α : Type} (E : Enc α) (e : TypeId) (base : Nat) (w : World) (v : Value) (l : List α) : Prop :=
  w.ownsRow base e E.k v l.length (l.flatMap E.enc) ∧ base ≤ w.heap.size

section
variable {α : Type} {E : Enc α} {w w' : World} {e : TypeId} {base : Nat} {v : Value} {l l' : List α}
theorem OwnB.form (h : OwnB E e base w v l) : ∃ A c, v = .slice A l.length c ∧ l.length ≤ c ∧ c ≤ maxLen := by
  rcases h.1.2 with ⟨rfl, h0⟩ | ⟨g, cap, cur, rfl, _, _, hnc, hm, _⟩
  · exact ⟨none, 0, by rw [h0], by omega, by simp [maxLen]⟩
  · exact ⟨_, cap, rfl, hnc, hm⟩
theorem OwnB.alloc (h : OwnB E e base w v l) (o : Obj) : OwnB E e base (w.alloc o) v l := ⟨h.1.alloc o, by have := h.2; simp; omega⟩
theorem OwnB.drew (h : OwnB E e base w v l) : OwnB E e base w.drew v l := h
theorem OwnB.drewN (h : OwnB E e base w v l) (n : Nat) : OwnB E e base (w.drewN n) v l := h
theorem OwnB.below (h : OwnB E e base w v l) (hb : Below w.heap.size w w') : OwnB E e base w' v l :=
  ⟨h.1.kept (row := none) ⟨hb.os, hb.tape, hb.output, hb.size, fun k hk _ => hb.block k hk⟩ (by cases hv : v.ownBlock <;> simp), Nat.le_trans h.2 hb.size⟩
theorem OwnB.setBelow (h : OwnB E e base w v l) {a : Addr} (ha : a.block < base) (u : Value) : OwnB E e base (w.setCell a u) v l :=
  ⟨ownsRow_setCell_below h.1 ha u, by have := h.2; simpa [World.setCell] using this⟩
theorem OwnB.seq {A : Option Addr} {c : Nat} (h : OwnB E e base w (.slice A l.length c) l) : SeqAt E w w.heap.size A l := SeqAt.of_own h.1
theorem OwnB.nil_ (h : base ≤ w.heap.size) : OwnB E e base w (.slice none 0 0) ([] : List α) := ⟨World.ownsRow_nil _ _ _ _, h⟩
theorem OwnB.lt (h : OwnB E e base w v l) : ∀ k, v.ownBlock = some k → base ≤ k ∧ k < w.heap.size := h.1.lt
theorem OwnB.frozen (h : OwnB E e base w v l) {g c n : Nat} (hv : v = .slice (some ⟨g, 0, none⟩) n c) (j : Nat) : w.frozen? ⟨g, j, none⟩ = false := by
  subst hv
  have hn : n = l.length := by
    rcases h.1.2 with ⟨h', _⟩ | ⟨g', cap, cur, h', _⟩
    · cases h'
    · injection h'
  subst hn
  exact h.1.frozenAt j
end

section
variable {P : Program} (w : World) {α : Type} {E : Enc α} {base : Nat} {e : TypeId} {v : Value} {l l' : List α} {B : Nat} {A : Option Addr} {c : Nat}
theorem run_append_seqB (t ty : TypeId) (bytes : Nat) (he : ElemOf P t e E.k bytes) (hown : OwnB E e base w v l) (hr : SeqAt E w B A l')
    (h63 : l.length + l'.length ≤ maxLen) (hbytes : (l.length + l'.length) * bytes ≤ 140737488355328) :
    ∃ v' w', (Builtin.append_ #[t, t] ty #[v, .slice A l'.length c]).run P w = .ok v' w' ∧ OwnB E e base w' v' (l ++ l') ∧ w.grownBy w' v.ownBlock := by
  obtain ⟨i, z, ht, hi, hz, hsize, hby, hzs⟩ := he
  have hlen : (l ++ l').length = l.length + l'.length := List.length_append
  rcases A with _ | ad
  · have hm : l' = [] := by
      rcases Nat.eq_zero_or_pos l'.length with h0 | h0
      · exact List.eq_nil_of_length_eq_zero h0
      · obtain ⟨_, _, h, _⟩ := hr h0
        cases h
    subst hm
    exact ⟨v, w, run_append_none w _ t ty e i E.k ht hi v _ _ hown.1 c, by simpa using hown, World.grownBy.refl w _⟩
  · have hcells : ∀ j u, (l'.flatMap E.enc)[j]? = some u → w.cell? (ad.add j) = some u := by
      intro j u hu
      have hj : j < l'.length * E.k := by rw [← E.flat_len]; exact (List.getElem?_eq_some_iff.1 hu).1
      obtain ⟨b, off, h, _, hc⟩ := hr (Nat.pos_of_ne_zero fun h => by rw [h] at hj; omega)
      injection h with h
      subst h
      rw [add_off, hc j hj, List.getD_eq_getElem?_getD, hu]; rfl
    obtain ⟨v', w', hrun, h2, h3, _⟩ := run_append_own (P := P) w base t ty e i z E.k bytes ht hi hz hsize hby hzs E.pos v l.length _ hown.1 ad l'.length c (l'.flatMap E.enc) (E.flat_len l') hcells (E.flat_one l') h63 hbytes hown.2
    refine ⟨v', w', hrun, ⟨?_, Nat.le_trans hown.2 h3.size⟩, h3⟩
    rw [hlen, List.flatMap_append]
    exact h2
theorem wp_append_seqB {o : Oper} {a : Act} {K : Act → World → Prop} {Q : Exit → Act → World → Prop} (s x : Operand) (t : TypeId)
    (ho : o.op = .call { callee := .builtin .append, args := #[s, x], argTypes := #[t, t] }) (bytes : Nat) (he : ElemOf P t e E.k bytes)
    (hs : a.eval s = v) (hown : OwnB E e base w v l) (m : Nat) (hx : a.eval x = .slice A m c) (hr : SeqAt E w B A l') (hm : l'.length = m)
    (h63 : l.length + m ≤ maxLen) (hbytes : (l.length + m) * bytes ≤ 140737488355328)
    (h : ∀ v' w', OwnB E e base w' v' (l ++ l') → w.grownBy w' v.ownBlock → K (a.put o.dst v') w') : o.wp P a w K Q := by
  subst hm
  obtain ⟨v', w', hrun, h2, h3⟩ := run_append_seqB (P := P) w t o.type bytes he hown hr (c := c) h63 hbytes
  unfold Oper.wp execOp
  simp only [ho, resolve, invoke, builtin, Sem.run_bind, Sem.run_pure, Result.andThen_ok, List.map_toArray, List.map_cons, List.map_nil, hs, hx, hrun]
  exact h v' w' h2 h3
/-- 'out = append(out, l..)', out a row from block 'base' on. -/
theorem wpList_append_seqB {ops : Array Oper} {rest : List Oper} {o : Oper} {a : Act} {Q : Exit → Act → World → Prop} (hgd : o.guard = none) (s x : Operand) (t : TypeId)
    (ho : o.op = .call { callee := .builtin .append, args := #[s, x], argTypes := #[t, t] }) (bytes : Nat) (he : ElemOf P t e E.k bytes)
    (hs : a.eval s = v) (hown : OwnB E e base w v l) (m : Nat) (hx : a.eval x = .slice A m c) (hr : SeqAt E w B A l') (hm : l'.length = m)
    (h63 : l.length + m ≤ maxLen) (hbytes : (l.length + m) * bytes ≤ 140737488355328)
    (h : ∀ v' w', OwnB E e base w' v' (l ++ l') → w.grownBy w' v.ownBlock → wpList P ops Q rest (a.put o.dst v') w') : wpList P ops Q (o :: rest) a w :=
  wpList_plain hgd fun _ hK => wp_append_seqB w s x t ho bytes he hs hown m hx hr hm h63 hbytes fun v' w' h2 h3 => hK _ _ (h v' w' h2 h3)
end

/-- ints; strings; pairs of ints; whatever values of one cell. -/
def Eint : Enc Int := ⟨fun a => [.int .i64 a], 1, by decide, fun _ => rfl, fun a u hu => by simp at hu; subst hu; rfl⟩
def Estr : Enc ByteArray := ⟨fun a => [.string a], 1, by decide, fun _ => rfl, fun a u hu => by simp at hu; subst hu; rfl⟩
def Epair : Enc (Int × Int) := ⟨fun a => [.int .i64 a.1, .int .i64 a.2], 2, by decide, fun _ => rfl, fun a u hu => by simp at hu; rcases hu with rfl | rfl <;> rfl⟩

/-- The cell of an int behind a slice. -/
theorem SeqAt.int_ {w : World} {B : Nat} {A : Option Addr} {l : List Int} (h : SeqAt Eint w B A l) {i : Nat} (hi : i < l.length) :
    ∃ b off, A = some ⟨b, off, none⟩ ∧ b < B ∧ w.cell? ⟨b, off + i, none⟩ = some (.int .i64 l[i]) := by
  obtain ⟨b, off, e, hb, hc⟩ := h.at_ hi
  have := hc 0 (by decide)
  exact ⟨b, off, e, hb, by simpa [Eint] using this⟩
theorem SeqAt.ints_ {w : World} {B : Nat} {A : Option Addr} {l : List Int} (h : SeqAt Eint w B A l) (hn : 0 < l.length) :
    ∃ b off, A = some ⟨b, off, none⟩ ∧ b < B ∧ ∀ i, i < l.length → w.cell? ⟨b, off + i, none⟩ = some (.int .i64 (l.getD i 0)) := by
  obtain ⟨b, off, e, hb, hc⟩ := h.at_ hn
  refine ⟨b, off, e, hb, fun i hi => ?_⟩
  obtain ⟨b', off', e', _, hc'⟩ := h.int_ hi
  rw [e] at e'
  injection e' with e'
  injection e' with e1 e2
  subst e1; subst e2
  rw [hc', List.getD_eq_getElem?_getD, List.getElem?_eq_getElem hi]; rfl

/-- The cells of pairs of ints behind a slice. -/
theorem SeqAt.pairs_ {w : World} {B : Nat} {A : Option Addr} {l : List (Int × Int)} (h : SeqAt Epair w B A l) (hn : 0 < l.length) :
    ∃ b off, A = some ⟨b, off, none⟩ ∧ b < B ∧ ∀ i, i < l.length → w.cell? ⟨b, off + i * 2, none⟩ = some (.int .i64 (l.getD i (0, 0)).1) ∧ w.cell? ⟨b, off + i * 2 + 1, none⟩ = some (.int .i64 (l.getD i (0, 0)).2) := by
  obtain ⟨b, off, e, hb, hc⟩ := h.at_ hn
  refine ⟨b, off, e, hb, fun i hi => ?_⟩
  obtain ⟨b', off', e', _, hc'⟩ := h.at_ hi
  rw [e] at e'
  injection e' with e'
  injection e' with e1 e2
  subst e1; subst e2
  have h0 := hc' 0 (by decide)
  have h1 := hc' 1 (by decide)
  have hg : l.getD i (0, 0) = l[i] := by rw [List.getD_eq_getElem?_getD, List.getElem?_eq_getElem hi]; rfl
  rw [hg]
  exact ⟨by simpa [Epair] using h0, by simpa [Epair, Nat.add_assoc] using h1⟩

theorem new_ints (w : World) (l : List Int) (t : TypeId) (i : Nat) (hi : i < l.length) : (w.alloc (.cells (l.flatMap Eint.enc).toArray t)).cell? ⟨w.heap.size, i, none⟩ = some (.int .i64 (l.getD i 0)) := by
  obtain ⟨b, off, hA, _, hc⟩ := (SeqAt.new (E := Eint) w l t).ints_ (by omega)
  injection hA with hA
  injection hA with e1 e2
  subst e1; subst e2
  simpa using hc i hi

theorem SeqAt.cut_one {α : Type} {E : Enc α} (hk : E.k = 1) {w : World} {B b off : Nat} {l : List α} (h : SeqAt E w B (some ⟨b, off, none⟩) l) {m cap : Nat} (hm : m ≤ l.length) (hc : l.length ≤ cap) :
    SeqAt E w B (if cap = m then some ⟨b, off, none⟩ else some ⟨b, off + m, none⟩) (l.drop m) := by
  have := h.cut hm hc
  simpa [add_off, hk] using this
theorem SeqAt.cut_lt {α : Type} {E : Enc α} (hk : E.k = 1) {w : World} {B b off : Nat} {l : List α} (h : SeqAt E w B (some ⟨b, off, none⟩) l) {m cap : Nat} (hm : m ≤ l.length) (hc : l.length ≤ cap) (hlt : m < cap) :
    SeqAt E w B (some ⟨b, off + m, none⟩) (l.drop m) := by
  have := h.cut_one hk hm hc
  rwa [if_neg (by omega)] at this

end Go.Proofs.YtblkejnckbeieaaGreatDoor

namespace Go.Proofs.YtblkejnckbeieaaGreatDoor.SynP

structure Fl where
  fold : Bool
  lines : Bool
  dot : Bool
  lazy : Bool

/-- A tree: kind, set, fold, least, most, lazy, the group's number and name, kids. -/
inductive Nd where
  | mk (kind : Nat) (set : Option (Int → Bool)) (fold : Bool) (least most : Int) (lazy : Bool) (cap : Nat) (name : List UInt8) (kids : List Nd)

def Nd.leaf (kind : Nat) : Nd := .mk kind none false 0 0 false 0 [] []
def Nd.cls (f : Int → Bool) (fold : Bool) : Nd := .mk 1 (some f) fold 0 0 false 0 [] []
def Nd.rep (least most : Int) (lazy : Bool) (x : Nd) : Nd := .mk 10 none false least most lazy 0 [] [x]
def Nd.grp (cap : Nat) (name : List UInt8) (x : Nd) : Nd := .mk 11 none false 0 0 false cap name [x]
/-- One thing, or several as one. -/
def whole (kind : Nat) : List Nd → Nd
  | [] => .leaf 0
  | [x] => x
  | l => .mk kind none false 0 0 false 0 [] l

/-- The parser's state: the place, the open brackets' places, the names, the flags. -/
structure St where
  at_ : Nat
  opn : List Nat
  names : List (List UInt8)
  fl : Fl

/-- An answer, or what is wrong and at which scalar. -/
inductive R (α : Type) where
  | ok (x : α)
  | bad (code : Int) (k : Nat)

section
variable (rs : List Int)

/-- The scalar at a place; -1 behind the end. -/
def pk (i : Nat) : Int := rs.getD i (-1)

/-- Up to f digits. -/
def digs : Nat → Int → Nat → Int × Nat
  | 0, n, i => (n, i)
  | f + 1, n, i => if 48 ≤ pk rs i ∧ pk rs i ≤ 57 then digs f (10 * n + pk rs i - 48) (i + 1) else (n, i)

/-- A quantifier: least, most, the place behind it. -/
def times (i : Nat) : Option (Int × Int × Nat) :=
  if pk rs i = 42 then some (0, -1, i + 1)
  else if pk rs i = 43 then some (1, -1, i + 1)
  else if pk rs i = 63 then some (0, 1, i + 1)
  else if pk rs i ≠ 123 then none
  else
    let d := digs rs 4 0 (i + 1)
    if d.2 = i + 1 then none
    else if pk rs d.2 = 44 then
      let e := digs rs 4 0 (d.2 + 1)
      if pk rs e.2 = 125 then some (d.1, if e.2 = d.2 + 1 then -1 else e.1, e.2 + 1) else none
    else if pk rs d.2 = 125 then some (d.1, d.1, d.2 + 1) else none

def hexOf (c : Int) : Int :=
  if 48 ≤ c ∧ c ≤ 57 then c - 48 else if 65 ≤ c ∧ c ≤ 70 then c - 55 else if 97 ≤ c ∧ c ≤ 102 then c - 87 else -1
def nums : Nat → Int → Nat → Int × Nat
  | 0, n, i => (n, i)
  | f + 1, n, i => if 0 ≤ hexOf (pk rs i) then nums f (16 * n + hexOf (pk rs i)) (i + 1) else (n, i)
/-- A number by its digits, and the place behind it. -/
def number (from_ i : Nat) : R (Int × Nat) :=
  if pk rs i = 123 then
    let d := nums rs 6 0 (i + 1)
    if 1114111 < d.1 ∨ d.2 = i + 1 ∨ pk rs d.2 ≠ 125 then .bad 20 from_ else .ok (d.1, d.2 + 1)
  else
    let d := nums rs 2 0 i
    if d.2 ≠ i + 2 then .bad 20 from_ else .ok d

/-- The bytes of a class' name, and the place behind them. -/
def word : Nat → List UInt8 → Nat → List UInt8 × Nat
  | 0, s, i => (s, i)
  | f + 1, s, i => if pk rs i ≠ 125 ∧ 32 < pk rs i ∧ pk rs i < 127 then word f (s ++ [UInt8.ofNat (pk rs i).toNat]) (i + 1) else (s, i)
/-- The bytes of a group's name. -/
def isName (c : Int) : Bool := decide (48 ≤ c ∧ c ≤ 57 ∨ 65 ≤ c ∧ c ≤ 90 ∨ 97 ≤ c ∧ c ≤ 122 ∨ c = 95)
def nameB : Nat → List UInt8 → Nat → List UInt8 × Nat
  | 0, s, i => (s, i)
  | f + 1, s, i => if isName (pk rs i) = true then nameB f (s ++ [UInt8.ofNat (pk rs i).toNat]) (i + 1) else (s, i)
def name (names : List (List UInt8)) (from_ i : Nat) : R (List UInt8 × Nat) :=
  if pk rs i ≠ 60 then .bad 25 from_
  else
    let d := nameB rs rs.length [] (i + 1)
    if pk rs d.2 ≠ 62 ∨ d.1.length = 0 ∨ 32 < d.1.length ∨ d.1 ∈ names then .bad 25 from_ else .ok (d.1, d.2 + 1)

variable (cls : List UInt8 → Option (Int → Bool)) (perl : Int → Option (Int → Bool))

def one (r : Int) : Int → Bool := fun z => decide (z = r)
def named (from_ i : Nat) : R ((Int → Bool) × Nat) :=
  if pk rs i ≠ 123 then .bad 24 from_
  else
    let d := word rs rs.length [] (i + 1)
    match cls d.1 with
    | none => .bad 24 from_
    | some f => if pk rs d.2 ≠ 125 then .bad 24 from_ else .ok (f, d.2 + 1)
/-- What "ntrfv" stand for. -/
def plainEsc (c : Int) : Option Int := if c = 110 then some 10 else if c = 116 then some 9 else if c = 114 then some 13 else if c = 102 then some 12 else if c = 118 then some 11 else none
/-- What stands behind a stroke: its set, the scalar if it is one (else -1), the place behind it. -/
def escape (from_ i : Nat) : R ((Int → Bool) × Int × Nat) :=
  let c := pk rs i
  if c < 33 ∨ 126 < c then .bad 20 from_
  else if c = 112 ∨ c = 80 then
    match named rs cls from_ (i + 1) with
    | .bad e k => .bad e k
    | .ok (f, j) => .ok (if c = 80 then fun z => !f z else f, -1, j)
  else if c = 120 then
    match number rs from_ (i + 1) with
    | .bad e k => .bad e k
    | .ok (r, j) => .ok (one r, r, j)
  else match perl c with
    | some f => .ok (f, -1, i + 1)
    | none => match plainEsc c with
      | some r => .ok (one r, r, i + 1)
      | none => if 48 ≤ c ∧ c ≤ 57 ∨ 97 ≤ c ∧ c ≤ 122 ∨ 65 ≤ c ∧ c ≤ 90 then .bad 20 from_ else .ok (one c, c, i + 1)
def item (i : Nat) : R ((Int → Bool) × Int × Nat) :=
  if pk rs i = 92 then escape rs cls perl i (i + 1) else .ok (one (pk rs i), pk rs i, i + 1)
/-- A list's items. -/
def items (from_ : Nat) : Nat → Bool → (Int → Bool) → Nat → R ((Int → Bool) × Nat)
  | 0, _, _, _ => .bad 0 0
  | n + 1, first, out, i =>
    if first = false ∧ pk rs i = 93 then .ok (out, i)
    else if pk rs i = -1 then .bad 24 from_
    else match item rs cls perl i with
      | .bad e k => .bad e k
      | .ok (f, r, j) =>
        if 0 ≤ r ∧ pk rs j = 45 ∧ pk rs (j + 1) ≠ 93 ∧ pk rs (j + 1) ≠ -1 then
          match item rs cls perl (j + 1) with
          | .bad e k => .bad e k
          | .ok (_, hi, j2) => if hi < r then .bad 22 i else items from_ n false (fun z => out z || decide (r ≤ z ∧ z ≤ hi)) j2
        else items from_ n false (fun z => out z || f z) j
def list (from_ i : Nat) : R ((Int → Bool) × Nat) :=
  let no := pk rs i = 94
  match items rs cls perl from_ (rs.length + 1) true (fun _ => false) (if no then i + 1 else i) with
  | .bad e k => .bad e k
  | .ok (f, j) => .ok (if no then fun z => !f z else f, j + 1)

/-- A letter's flag is set. -/
def Fl.put (f : Fl) (c : Int) (b : Bool) : Fl :=
  if c = 105 then { f with fold := b } else if c = 109 then { f with lines := b } else if c = 115 then { f with dot := b } else { f with lazy := b }
/-- Flags: do brackets go on behind them, the flags, the place behind them. -/
def flags (from_ : Nat) : Nat → Bool → Bool → Fl → List Int → List Int → Nat → R (Bool × Fl × Nat)
  | 0, _, _, _, _, _, _ => .bad 0 0
  | n + 1, on, some_, f, m0, m1, i =>
    let c := pk rs i
    if c = 45 ∧ on = true then flags from_ n false some_ f m0 m1 (i + 1)
    else if (c = 105 ∨ c = 109 ∨ c = 115 ∨ c = 85) ∧ ¬ c ∈ (if on then m0 else m1) then
      flags from_ n on true (f.put c on) (if on then m0 ++ [c] else m0) (if on then m1 else m1 ++ [c]) (i + 1)
    else if (c = 58 ∨ c = 41) ∧ (some_ = true ∨ c = 58 ∧ on = true) then .ok (decide (c = 58), f, i + 1)
    else .bad 20 from_

/-- A stroke's own signs: A z b B. -/
def signs (c : Int) : Option Nat := if c = 65 then some 2 else if c = 122 then some 3 else if c = 98 then some 6 else if c = 66 then some 7 else none

/-- Of one call: alternatives (what stands so far), a row (what stands so far; may a quantifier stand here), an atom (is it one). -/
inductive Q where
  | alts (l : List Nd)
  | row (l : List Nd) (some_ : Bool)
  | atom
/-- The parser: at most n calls deep. An atom that is none: none. -/
def go : Nat → Q → St → R (Option Nd × St)
  | 0, _, _ => .bad 0 0
  | n + 1, .alts l, s =>
    match go n (.row [] false) s with
    | .bad e k => .bad e k
    | .ok (x, s1) =>
      let l1 := l ++ x.toList
      if pk rs s1.at_ = 124 then go n (.alts l1) { s1 with at_ := s1.at_ + 1 } else .ok (some (whole 9 l1), s1)
  | n + 1, .row l some_, s =>
    let c := pk rs s.at_
    if c = -1 ∨ c = 124 then .ok (some (whole 8 l), s)
    else if c = 41 then (if s.opn = [] then .bad 25 s.at_ else .ok (some (whole 8 l), s))
    else match times rs s.at_ with
      | some (least, most, j) =>
        if some_ = false then .bad 23 s.at_
        else if 64 < least ∨ 64 < most ∨ 0 ≤ most ∧ most < least then .bad 23 s.at_
        else
          let q := pk rs j = 63
          let x := (l.getLast?.map (Nd.rep least most (decide q != s.fl.lazy))).toList
          go n (.row (l.dropLast ++ x) false) { s with at_ := if q then j + 1 else j }
      | none =>
        match go n .atom s with
        | .bad e k => .bad e k
        | .ok (x, s1) => go n (.row (l ++ x.toList) x.isSome) s1
  | n + 1, .atom, s =>
    let from_ := s.at_
    let c := pk rs from_
    let to1 := { s with at_ := from_ + 1 }
    let body (g : Option (Nat × List UInt8)) (was : Fl) (s1 : St) : R (Option Nd × St) :=
      match go n (.alts []) { s1 with opn := s1.opn ++ [from_] } with
      | .bad e k => .bad e k
      | .ok (x, s2) =>
        if pk rs s2.at_ ≠ 41 then .bad 25 (s2.opn.getLast?.getD 0)
        else .ok ((match g with | none => x | some (cap, nm) => x.map (Nd.grp cap nm)), { s2 with at_ := s2.at_ + 1, opn := s2.opn.dropLast, fl := was })
    if c = 40 then
      if 32 ≤ s.opn.length then .bad 21 from_
      else if pk rs (from_ + 1) = 63 then
        if pk rs (from_ + 2) = 80 then
          match name rs s.names from_ (from_ + 3) with
          | .bad e k => .bad e k
          | .ok (nm, j) => body (some (s.names.length, nm)) s.fl { s with at_ := j, names := s.names ++ [nm] }
        else
          match flags rs from_ (rs.length + 1) true false s.fl [] [] (from_ + 2) with
          | .bad e k => .bad e k
          | .ok (false, f, j) => .ok (none, { s with at_ := j, fl := f })
          | .ok (true, f, j) => body none s.fl { s with at_ := j, fl := f }
      else body (some (s.names.length, [])) s.fl { to1 with names := s.names ++ [[]] }
    else if c = 46 then .ok (some (.cls (fun z => s.fl.dot || decide (z ≠ 10)) s.fl.fold), to1)
    else if c = 94 then .ok (some (.leaf (if s.fl.lines then 4 else 2)), to1)
    else if c = 36 then .ok (some (.leaf (if s.fl.lines then 5 else 3)), to1)
    else if c = 91 then
      match list rs cls perl from_ (from_ + 1) with
      | .bad e k => .bad e k
      | .ok (f, j) => .ok (some (.cls f s.fl.fold), { s with at_ := j })
    else if c = 92 then
      match signs (pk rs (from_ + 1)) with
      | some k => .ok (some (.leaf k), { s with at_ := from_ + 2 })
      | none =>
        match escape rs cls perl from_ (from_ + 1) with
        | .bad e k => .bad e k
        | .ok (f, _, j) => .ok (some (.cls f s.fl.fold), { s with at_ := j })
    else .ok (some (.cls (one c) s.fl.fold), to1)

/-- The whole text. -/
def parse (f : Fl) : R (Option Nd × St) := go rs cls perl (4 * rs.length + 8) (.alts []) ⟨0, [], [[]], f⟩
end
end Go.Proofs.YtblkejnckbeieaaGreatDoor.SynP

namespace Go.Proofs.YtblkejnckbeieaaGreatDoor
open Go.RowKit

/-- w' is w, but for block p and for what is new. -/
abbrev Mv (p : Nat) (w w' : World) : Prop := w.grownBy w' (some p)
theorem Mv.rfl_ (p : Nat) (w : World) : Mv p w w := World.grownBy.refl w _
theorem Mv.step {p : Nat} {a b c : World} (h : Mv p a b) (k : Mv p b c) : Mv p a c :=
  ⟨k.os.trans h.os, k.tape.trans h.tape, k.output.trans h.output, Nat.le_trans h.size k.size, fun i hi hn => (k.block i (Nat.lt_of_lt_of_le hi h.size) hn).trans (h.block i hi hn)⟩
theorem Mv.drewN {p : Nat} {a w : World} (h : Mv p a w) (n : Nat) : Mv p a (w.drewN n) := ⟨h.os, h.tape, h.output, h.size, h.block⟩
theorem Mv.drew {p : Nat} {a w : World} (h : Mv p a w) : Mv p a w.drew := ⟨h.os, h.tape, h.output, h.size, h.block⟩
theorem Mv.alloc {p : Nat} {a w : World} (h : Mv p a w) (o : Obj) : Mv p a (w.alloc o) :=
  ⟨h.os, h.tape, h.output, Nat.le_trans h.size (by simp), fun i hi hne => (Below.heap_alloc w o i (Nat.lt_of_lt_of_le hi h.size)).trans (h.block i hi hne)⟩
theorem Mv.set {p : Nat} {a w : World} (h : Mv p a w) (q : Addr) (hq : q.block = p ∨ a.heap.size ≤ q.block) (u : Value) : Mv p a (w.setCell q u) :=
  ⟨h.os, h.tape, h.output, by simpa [World.setCell] using h.size, fun i hi hne => (Below.heap_setCell w q u i (by
    rintro rfl
    rcases hq with hq | hq
    · exact hne (by rw [hq])
    · omega)).trans (h.block i hi hne)⟩
theorem Mv.of_below {p : Nat} {a w : World} (h : Below a.heap.size a w) : Mv p a w := ⟨h.os, h.tape, h.output, h.size, fun i hi _ => h.block i hi⟩
theorem Mv.below {p : Nat} {a b c : World} (h : Mv p a b) (k : Below b.heap.size b c) : Mv p a c := h.step (Mv.of_below k)
/-- Below a bound that the block does not lie below, nothing has turned. -/
theorem Mv.to_below {p B : Nat} {w0 a b : World} (h : Below B w0 a) (k : Mv p a b) (hp : B ≤ p) (hB : B ≤ a.heap.size) : Below B w0 b :=
  ⟨k.os.trans h.os, k.tape.trans h.tape, k.output.trans h.output, Nat.le_trans h.size k.size, fun i hi => (k.block i (Nat.lt_of_lt_of_le hi hB) (fun e => by injection e; omega)).trans (h.block i hi)⟩
theorem Mv.heap {p : Nat} {a b : World} (h : Mv p a b) {i : Nat} (hi : i < a.heap.size) (hn : i ≠ p) : b.heap[i]? = a.heap[i]? := h.block i hi (fun e => by injection e; omega)
/-- What a below-step leaves alone: it reaches down to a bound above block p. -/
theorem Mv.of_low {p B : Nat} {a b : World} (h : Below B a b) (_hp : B ≤ a.heap.size) (hb : ∀ i, B ≤ i → i < a.heap.size → i ≠ p → b.heap[i]? = a.heap[i]?) : Mv p a b :=
  ⟨h.os, h.tape, h.output, h.size, fun i hi hn => by
    rcases Nat.lt_or_ge i B with h1 | h1
    · exact h.block i h1
    · exact hb i h1 hi (fun e => hn (by rw [e]))⟩

section
variable {α : Type} {E : Enc α} {e : TypeId} {base p : Nat} {v : Value} {l : List α} {w w' : World}
theorem OwnB.mv (h : OwnB E e base w v l) (k : Mv p w w') (hp : p < base) : OwnB E e base w' v l :=
  ⟨h.1.kept k (by
    cases hv : v.ownBlock with
    | none => exact .inl rfl
    | some g => exact .inr (fun e => by injection e with e; have := (h.1.lt g hv).1; omega)), Nat.le_trans h.2 k.size⟩
/-- A sequence that lies in another block than p. -/
def SeqN (E : Enc α) (w : World) (p : Nat) (A : Option Addr) (l : List α) : Prop :=
  0 < l.length → ∃ b off, A = some ⟨b, off, none⟩ ∧ b ≠ p ∧ b < w.heap.size ∧ ∀ j, j < l.length * E.k → w.cell? ⟨b, off + j, none⟩ = some ((l.flatMap E.enc).getD j undef)
theorem SeqN.nil_ {A : Option Addr} : SeqN E w p A ([] : List α) := fun h => absurd h (by simp)
theorem SeqN.mv {A : Option Addr} (h : SeqN E w p A l) (k : Mv p w w') : SeqN E w' p A l := fun hn => by
  obtain ⟨b, off, e, hb, hlt, hc⟩ := h hn
  exact ⟨b, off, e, hb, Nat.lt_of_lt_of_le hlt k.size, fun j hj => (World.cell?_of_block (k.heap hlt hb)).trans (hc j hj)⟩
theorem SeqN.seq {A : Option Addr} (h : SeqN E w p A l) : SeqAt E w w.heap.size A l := fun hn => by
  obtain ⟨b, off, e, _, hlt, hc⟩ := h hn
  exact ⟨b, off, e, hlt, hc⟩
theorem SeqAt.seqN {A : Option Addr} (h : SeqAt E w w.heap.size A l) (hp : w.heap.size ≤ p) : SeqN E w p A l := fun hn => by
  obtain ⟨b, off, e, hlt, hc⟩ := h hn
  exact ⟨b, off, e, by omega, hlt, hc⟩
/-- A row of the call's own, made behind block p, as a sequence. -/
theorem OwnB.seqN {A : Option Addr} {n c : Nat} (h : OwnB E e base w (.slice A n c) l) (hn : n = l.length) (hp : p < base) : SeqN E w p A l := fun hl => by
  subst hn
  obtain ⟨b, off, e', hlt, hc⟩ := h.seq hl
  refine ⟨b, off, e', ?_, hlt, hc⟩
  rcases h.1.2 with ⟨h', h0⟩ | ⟨g, cap, cur, h', hb, _⟩
  · omega
  · injection h' with h1 _ _
    rw [h1] at e'
    injection e' with e'
    injection e' with e1 e2
    omega
end

end Go.Proofs.YtblkejnckbeieaaGreatDoor

namespace Go.Proofs.YtblkejnckbeieaaGreatDoor
open Go.RowKit

/-- What a parse stands on: the bound below which nothing turns, the parser's block, the decoded text. -/
structure Cx where
  B : Nat
  b : Nat
  cd : Int
  bad : Int
  Ar : Option Addr
  cr : Nat
  Ap : Option Addr
  cp : Nat
  rs : List Int
  pl : List Int
/-- What the parser holds besides its place. -/
structure Pv where
  op : Value
  nm : Value
  f : SynP.Fl
def pcells (X : Cx) (p : Pv) (i : Int) : Array Value :=
  #[.int .i64 X.cd, .slice X.Ar X.rs.length X.cr, .slice X.Ap X.pl.length X.cp, .int .i64 X.bad, .int .i64 i, p.op, p.nm, .bool p.f.fold, .bool p.f.lines, .bool p.f.dot, .bool p.f.lazy]
/-- The parser stands before the i-th scalar. -/
structure At (w : World) (X : Cx) (p : Pv) (i : Nat) : Prop where
  le : i ≤ X.rs.length + 1
  few : X.rs.length ≤ 1024
  pll : X.pl.length = X.rs.length + 1
  ru : SeqAt Eint w X.B X.Ar X.rs
  pla : SeqAt Eint w X.B X.Ap X.pl
  low : X.B ≤ X.b
  blk : w.heap[X.b]? = some (.cells (pcells X p i) 76)

section
variable {w w' : World} {X : Cx} {p : Pv} {i : Nat}
theorem At.lt (h : At w X p i) : X.b < w.heap.size := (Array.getElem?_eq_some_iff.1 h.blk).1
theorem At.drewN (h : At w X p i) (n : Nat) : At (w.drewN n) X p i := ⟨h.le, h.few, h.pll, h.ru, h.pla, h.low, h.blk⟩
theorem At.mv_ (h : At w X p i) (k : Below X.B w w') (e : w'.heap[X.b]? = w.heap[X.b]?) : At w' X p i :=
  ⟨h.le, h.few, h.pll, h.ru.below k, h.pla.below k, h.low, e.trans h.blk⟩
theorem At.below (h : At w X p i) (k : Below w.heap.size w w') : At w' X p i := h.mv_ (k.mono (by have := h.low; have := h.lt; omega)) (k.block _ h.lt)
theorem At.cell (h : At w X p i) (o : Nat) : w.cell? ⟨X.b, o, none⟩ = (#[.int .i64 X.cd, .slice X.Ar X.rs.length X.cr, .slice X.Ap X.pl.length X.cp, .int .i64 X.bad, .int .i64 i, p.op, p.nm, .bool p.f.fold, .bool p.f.lines, .bool p.f.dot, .bool p.f.lazy] : Array Value)[o]? := Lib.cell_of_heap h.blk o
theorem At.frozen (h : At w X p i) (o : Nat) : w.frozen? ⟨X.b, o, none⟩ = false := Lib.frozen_of_heap h.blk o
/-- 'p.at = x'. -/
theorem At.put (h : At w X p i) (x : Int) (j : Nat) (hx : x = j) (hj : j ≤ X.rs.length + 1) : At (w.setCell ⟨X.b, 4, none⟩ (.int .i64 x)) X p j := by
  subst hx
  have k : Below X.B w (w.setCell ⟨X.b, 4, none⟩ (.int .i64 (j : Int))) := (Below.refl _ w).setCell (p := ⟨X.b, 4, none⟩) h.low _
  refine ⟨hj, h.few, h.pll, h.ru.below k, h.pla.below k, h.low, ?_⟩
  simp only [World.setCell, Array.getElem?_modify, if_true, h.blk, Option.map_some]
  rfl
theorem mv_put (w : World) (X : Cx) (v : Value) : Mv X.b w (w.setCell ⟨X.b, 4, none⟩ v) := (Mv.rfl_ X.b w).set ⟨X.b, 4, none⟩ (.inl rfl) _
end

/-- A method's end: it hands back v, the parser stands before the j-th scalar. -/
def Went (w : World) (X : Cx) (p : Pv) (v : Value) (j : Nat) (e : Ending) (w' : World) : Prop := e = .returned v ∧ Mv X.b w w' ∧ At w' X p j
/-- A fault of that kind, told of the k-th scalar's place. -/
def thrown (X : Cx) (c : Int) (k : Nat) : Ending := .panicked [{ v := .iface 72 (.agg #[.int .i64 c, .int .i64 (X.pl.getD k 0)]), recovered := false }]
def Threw (w : World) (X : Cx) (c : Int) (k : Nat) (e : Ending) (w' : World) : Prop := Mv X.b w w' ∧ e = thrown X c k
def unitV : Value := .tuple #[]

theorem fail_any (c : Int) (k : Nat) (w : World) (X : Cx) (p : Pv) (i : Nat) (h : At w X p i) (hk : k ≤ X.rs.length) :
    Calls Tryz.prog 101 #[.pointer (some ⟨X.b, 0, none⟩), .int .i64 c, .int .i64 k] w fun e w' => Threw w X c k e w' := by
  have hc := h.cell
  have hkl : k < X.pl.length := by rw [h.pll]; omega
  obtain ⟨bp, off, hA, hb, hcell⟩ := h.pla.int_ hkl
  have hkk : (k : Int) < (X.pl.length : Int) := by omega
  have hk0 : (0 : Int) ≤ (k : Int) := by omega
  have HG : Hid (X.pl.getD k 0 = X.pl[k]) := Lib.hid (by rw [List.getD_eq_getElem?_getD, List.getElem?_eq_getElem hkl]; rfl)
  rw [hA] at hc
  generalize X.pl[k] = x at *
  clear h hA hb
  go_enter Tryz.func101, Tryz.ntmps101
  go_wp2
  refine ⟨rfl, Mv.rfl_ _ _, ?_⟩
  unfold thrown
  rw [HG.out]

set_option maxHeartbeats 400000 in
theorem peek_raw (k : Nat) (hk10 : k ≤ 10) (w : World) (X : Cx) (p : Pv) (i : Nat) (h : At w X p i) :
    Calls Tryz.prog 100 #[.pointer (some ⟨X.b, 0, none⟩), .int .i64 k] w fun e w' => e = .returned (.int .i64 (SynP.pk X.rs (i + k))) ∧ ∃ n, w' = w.drewN n := by
  have hc := h.cell
  have hle := h.le
  have hfew := h.few
  by_cases hi : i + k < X.rs.length
  · obtain ⟨br, off, hA, hb, hcell⟩ := h.ru.int_ hi
    have hp : SynP.pk X.rs (i + k) = X.rs[i + k] := by unfold SynP.pk; rw [List.getD_eq_getElem?_getD, List.getElem?_eq_getElem hi]; rfl
    have hii : (i : Int) + (k : Int) < (X.rs.length : Int) := by omega
    have hi0 : (0 : Int) ≤ (i : Int) + (k : Int) := by omega
    have hcl : w.cell? ⟨br, off + ((i : Int) + (k : Int)).toNat, none⟩ = some (.int .i64 X.rs[i + k]) := by
      rw [show ((i : Int) + (k : Int)).toNat = i + k by omega]; exact hcell
    rw [hp]
    rw [hA] at hc
    generalize X.rs[i + k] = x at *
    clear h hA hp
    go_enter Tryz.func100, Tryz.ntmps100
    go_wp2
    go_quiet (fail)
    go_wp2
    go_quiet (fail)
    go_wp2
    go_ret
    exact ⟨rfl, _, World.drewN_drewN _ _ _⟩
  · have hp : SynP.pk X.rs (i + k) = -1 := by unfold SynP.pk; rw [List.getD_eq_getElem?_getD, List.getElem?_eq_none (by omega)]; rfl
    have hii : (X.rs.length : Int) ≤ (i : Int) + (k : Int) := by omega
    rw [hp]
    clear h hp
    go_enter Tryz.func100, Tryz.ntmps100
    go_wp2
    go_quiet (fail)
    go_wp2
    go_ret
    exact ⟨rfl, _, rfl⟩
theorem peek_any (k : Nat) (hk10 : k ≤ 10) (w : World) (X : Cx) (p : Pv) (i : Nat) (h : At w X p i) :
    Calls Tryz.prog 100 #[.pointer (some ⟨X.b, 0, none⟩), .int .i64 k] w fun e w' => Went w X p (.int .i64 (SynP.pk X.rs (i + k))) i e w' :=
  (peek_raw k hk10 w X p i h).mono fun e w' ⟨he, n, hn⟩ => ⟨he, by rw [hn]; exact (Mv.rfl_ _ w).drewN n, by rw [hn]; exact h.drewN n⟩

/-- Some bytes stand at a place. -/
def hasB (rs : List Int) : List UInt8 → Nat → Bool
  | [], _ => true
  | c :: l, i => decide (SynP.pk rs i = c.toNat) && hasB rs l (i + 1)
theorem pk_lt {rs : List Int} {i : Nat} {c : Nat} (h : SynP.pk rs i = c) : i < rs.length := by
  rcases Nat.lt_or_ge i rs.length with h1 | h1
  · exact h1
  · unfold SynP.pk at h
    rw [List.getD_eq_getElem?_getD, List.getElem?_eq_none h1] at h
    simp at h
theorem hasB_cons (rs : List Int) (c : UInt8) (l : List UInt8) (i : Nat) : hasB rs (c :: l) i = (decide (SynP.pk rs i = c.toNat) && hasB rs l (i + 1)) := rfl
theorem hasB_le {rs : List Int} : ∀ (l : List UInt8) (i : Nat), hasB rs l i = true → i ≤ rs.length + 1 → i + l.length ≤ rs.length + 1
  | [], i, _, h => by simpa using h
  | c :: l, i, h, hi => by
    unfold hasB at h
    rw [Bool.and_eq_true, decide_eq_true_eq] at h
    have h1 := pk_lt h.1
    have := hasB_le l (i + 1) h.2 (by omega)
    rw [List.length_cons]
    omega
theorem hasB_one (rs : List Int) (c : UInt8) (i : Nat) : hasB rs [c] i = decide (SynP.pk rs i = c.toNat) := by simp [hasB]
/-- has: behind the bytes, if they stand here. -/
def HasEnd (w : World) (X : Cx) (p : Pv) (i : Nat) (s : List UInt8) (e : Ending) (w' : World) : Prop :=
  Went w X p (.bool (hasB X.rs s i)) (if hasB X.rs s i = true then i + s.length else i) e w'

theorem bytesRow_at (w : World) (wd : ByteArray) (cap : Nat) (e : TypeId) (fz : Nat × Nat) (j : Nat) (hj : j < wd.size) :
    (w.alloc (.cells (bytesRow wd cap) e fz)).cell? ⟨w.heap.size, j, none⟩ = some (.int .u8 wd[j].toNat) := by
  rw [Lib.cell_of_heap (heap_alloc_new w _) j]
  have h1 : j < (wd.data.map (fun b => Value.int .u8 b.toNat)).size := by rw [Array.size_map]; exact hj
  unfold bytesRow
  rw [Array.getElem?_append_left h1, Array.getElem?_map]
  have : wd.data[j]? = some wd[j] := Array.getElem?_eq_getElem hj
  rw [this]
  rfl
theorem byt_cons {s : ByteArray} {i : Nat} (h : i < s.size) : s.data.toList.drop i = s[i] :: s.data.toList.drop (i + 1) := by
  have h' : i < s.data.toList.length := by rw [Array.length_toList]; exact h
  rw [List.drop_eq_getElem_cons h']
  rfl
theorem byt_none {s : ByteArray} {i : Nat} (h : s.size ≤ i) : s.data.toList.drop i = [] := List.drop_of_length_le (by rw [Array.length_toList]; exact h)

set_option maxHeartbeats 800000 in
theorem hasP_any (wd : ByteArray) (hw : wd.size ≤ 8) (w : World) (X : Cx) (p : Pv) (i : Nat) (h : At w X p i) :
    Calls Tryz.prog 66 #[.pointer (some ⟨X.b, 0, none⟩), .string wd] w fun e w' => HasEnd w X p i wd.data.toList e w' := by
  have HA := Lib.hid h
  have hle := h.le
  have hfew := h.few
  have hbg := h.lt
  clear h
  have hcv := fun w => run_bytes_of_string (P := Tryz.prog) w 9 60 5 wd Tryz.underlying9 Tryz.underlying60 Tryz.underlying5
  go_enter Tryz.func66, Tryz.ntmps66
  go_upto_region 2 with fail
  obtain ⟨W, hW⟩ : ∃ W, W = (w.alloc (.cells (bytesRow wd (grownCap w wd.size 0 5)) 5 ((bytesRow wd (grownCap w wd.size 0 5)).size, (bytesRow wd (grownCap w wd.size 0 5)).size + 1))).drew := ⟨_, rfl⟩
  obtain ⟨g, hg⟩ : ∃ g, w.heap.size = g := ⟨_, rfl⟩
  have hrow : ∀ j (hj : j < wd.size), W.cell? ⟨g, j, none⟩ = some (.int .u8 wd[j].toNat) := fun j hj => by
    rw [hW, ← hg]; exact bytesRow_at w wd _ _ _ j hj
  have hm0 : Mv X.b w W := by rw [hW]; exact ((Mv.rfl_ _ w).alloc _).drew
  have ha0 : At W X p i := by rw [hW]; exact (HA.out.below ((Below.refl _ w).alloc (Nat.le_refl _) _)).drewN 1
  have hgW : g < W.heap.size := by rw [hW, ← hg]; simp
  rw [← hW, hg]
  generalize grownCap w wd.size 0 5 = cap at *
  have hgb : g ≠ X.b := by omega
  have HM0 := Lib.hid hm0
  have HA0 := Lib.hid ha0
  have HR0 := Lib.hid hrow
  clear hm0 ha0 hrow hW hg hcv hbg HA
  go_loopg [10] (wd.size + 1) (fun k s10 wr => ∃ (j : Nat), s10 = .int .i64 j ∧ j ≤ wd.size ∧ k = wd.size + 1 - j ∧ Hid (hasB X.rs (wd.data.toList.drop j) (i + j) = hasB X.rs wd.data.toList i) ∧ Mv X.b w wr ∧ Hid (At wr X p i) ∧ g < wr.heap.size ∧ Hid (∀ j (hj : j < wd.size), wr.cell? ⟨g, j, none⟩ = some (.int .u8 wd[j].toNat)))
  case atStart => exact ⟨0, rfl, by omega, by omega, Lib.hid rfl, HM0.out, HA0, hgW, HR0⟩
  case round =>
    obtain ⟨j, rfl, hj, hk, HE, hm, HAt, hgr, HR⟩ := hrel
    have HM := Lib.hid hm
    clear hm HA0 HM0 HR0
    have HK := Lib.hid hk
    clear hk
    by_cases hlt : j < wd.size
    · have hjj : (j : Int) < (wd.size : Int) := by omega
      have hj0 : (0 : Int) ≤ (j : Int) := by omega
      have cj := HR.out j hlt
      have hE := HE.out
      rw [byt_cons hlt, hasB_cons] at hE
      have hpk := peek_any j (by omega) wr X p i HAt.out
      obtain ⟨y, hy⟩ : ∃ y : Int, SynP.pk X.rs (i + j) = y := ⟨_, rfl⟩
      obtain ⟨x, hx⟩ : ∃ x : Int, (wd[j].toNat : Int) = x := ⟨_, rfl⟩
      have hx0 : 0 ≤ x ∧ x < 256 := by have := UInt8.toNat_lt wd[j]; omega
      rw [hy] at hpk
      rw [hy, hx] at hE
      rw [hx] at cj
      have HP := Lib.hid hpk
      clear hpk hy hx
      obtain ⟨hx1, hx2⟩ := hx0
      by_cases hxy : y = x
      · subst hxy
        rw [decide_eq_true rfl, Bool.true_and] at hE
        have HE2 := Lib.hid hE
        clear hE
        go_wp2_with (go_at_call 100; refine HP.out.mono ?_; rintro e w3 ⟨rfl, hm3, ha3⟩; have HM3 := Lib.hid hm3; have HA3 := Lib.hid ha3; have hg3 := Nat.lt_of_lt_of_le hgr hm3.size; have HR3 := Lib.hid (fun j (hj : j < wd.size) => (World.cell?_of_block (hm3.heap hgr hgb)).trans (HR.out j hj)); clear hm3 ha3)
        go_roundg (gk - 1)
        case measure => have := HK.out; omega
        case rel => exact ⟨j + 1, by go_num, by omega, by have := HK.out; omega, Lib.hid (by rw [← HE2.out, Nat.add_assoc]), HM.out.step HM3.out, HA3, hg3, HR3⟩
      · rw [decide_eq_false hxy, Bool.false_and] at hE
        have HE2 := Lib.hid hE
        have hq : (y != x) = true := by rw [bne_iff_ne]; exact hxy
        clear hE
        go_wp2_with (go_at_call 100; refine HP.out.mono ?_; rintro e w3 ⟨rfl, hm3, ha3⟩; have HM3 := Lib.hid hm3; have HA3 := Lib.hid ha3; clear hm3 ha3)
        go_ret
        unfold HasEnd
        rw [← HE2.out]
        exact ⟨rfl, HM.out.step HM3.out, HA3.out⟩
    · have hjj : ¬ (j : Int) < (wd.size : Int) := by omega
      obtain rfl : j = wd.size := by omega
      have hE := HE.out
      rw [byt_none (Nat.le_refl _)] at hE
      have hE2 : hasB X.rs wd.data.toList i = true := hE.symm
      have HE2 := Lib.hid hE2
      have hll : i + wd.size ≤ X.rs.length + 1 := by
        have := hasB_le _ _ hE2 hle
        rwa [Array.length_toList] at this
      have hc := HAt.out.cell
      have hz := HAt.out.frozen
      clear hE hE2
      go_wp2
      go_ret
      unfold HasEnd
      rw [HE2.out]
      exact ⟨rfl, HM.out.step (mv_put _ X _), HAt.out.put _ _ (by rw [if_pos rfl, Array.length_toList]; show _ = ((i + wd.size : Nat) : Int); omega) (by rw [if_pos rfl, Array.length_toList]; exact hll)⟩

theorem has1 (c : UInt8) (w : World) (X : Cx) (p : Pv) (i : Nat) (h : At w X p i) (b : Bool) (hb : b = decide (SynP.pk X.rs i = c.toNat)) :
    Calls Tryz.prog 66 #[.pointer (some ⟨X.b, 0, none⟩), .string ⟨#[c]⟩] w fun e w' => Went w X p (.bool b) (if b = true then i + 1 else i) e w' := by
  have := hasP_any ⟨#[c]⟩ (by show 1 ≤ 8; decide) w X p i h
  unfold HasEnd at this
  rw [hasB_one, ← hb] at this
  exact this

theorem has_yes (c : UInt8) (w : World) (X : Cx) (p : Pv) (i : Nat) (h : At w X p i) (hb : SynP.pk X.rs i = c.toNat) :
    Calls Tryz.prog 66 #[.pointer (some ⟨X.b, 0, none⟩), .string ⟨#[c]⟩] w fun e w' => Went w X p (.bool true) (i + 1) e w' :=
  has1 c w X p i h true (decide_eq_true hb).symm
theorem has_no (c : UInt8) (w : World) (X : Cx) (p : Pv) (i : Nat) (h : At w X p i) (hb : SynP.pk X.rs i ≠ c.toNat) :
    Calls Tryz.prog 66 #[.pointer (some ⟨X.b, 0, none⟩), .string ⟨#[c]⟩] w fun e w' => Went w X p (.bool false) i e w' :=
  has1 c w X p i h false (decide_eq_false hb).symm
theorem peek0 (w : World) (X : Cx) (p : Pv) (i : Nat) (h : At w X p i) :
    Calls Tryz.prog 100 #[.pointer (some ⟨X.b, 0, none⟩), .int .i64 0] w fun e w' => Went w X p (.int .i64 (SynP.pk X.rs i)) i e w' := peek_any 0 (by omega) w X p i h

end Go.Proofs.YtblkejnckbeieaaGreatDoor

namespace Go.Proofs.YtblkejnckbeieaaGreatDoor.SynP

variable {rs : List Int} {cls : List UInt8 → Option (Int → Bool)} {perl : Int → Option (Int → Bool)}

theorem pk_lt {i : Nat} (h : pk rs i ≠ -1) : i < rs.length := by
  refine Nat.lt_of_not_le fun hl => h ?_
  unfold pk
  rw [List.getD_eq_getElem?_getD, List.getElem?_eq_none hl]
  rfl
theorem pk_lt0 {i : Nat} (h : 0 ≤ pk rs i) : i < rs.length := pk_lt (by omega)

theorem digs_at : ∀ (f : Nat) (n : Int) (i : Nat), i ≤ rs.length → i ≤ (digs rs f n i).2 ∧ (digs rs f n i).2 ≤ rs.length
  | 0, n, i, h => ⟨Nat.le_refl _, h⟩
  | f + 1, n, i, h => by
    unfold digs
    split
    · rename_i hd
      have := pk_lt0 (rs := rs) (i := i) (by omega)
      have := digs_at f (10 * n + pk rs i - 48) (i + 1) (by omega)
      omega
    · exact ⟨Nat.le_refl _, h⟩
theorem nums_at : ∀ (f : Nat) (n : Int) (i : Nat), i ≤ rs.length → i ≤ (nums rs f n i).2 ∧ (nums rs f n i).2 ≤ rs.length
  | 0, n, i, h => ⟨Nat.le_refl _, h⟩
  | f + 1, n, i, h => by
    unfold nums
    split
    · rename_i hd
      have hi : i < rs.length := pk_lt fun e => by rw [e] at hd; revert hd; decide
      have := nums_at f (16 * n + hexOf (pk rs i)) (i + 1) (by omega)
      omega
    · exact ⟨Nat.le_refl _, h⟩
theorem word_at : ∀ (f : Nat) (s : List UInt8) (i : Nat), i ≤ rs.length → i ≤ (word rs f s i).2 ∧ (word rs f s i).2 ≤ rs.length
  | 0, s, i, h => ⟨Nat.le_refl _, h⟩
  | f + 1, s, i, h => by
    unfold word
    split
    · rename_i hd
      have := pk_lt0 (rs := rs) (i := i) (by omega)
      have := word_at f (s ++ [UInt8.ofNat (pk rs i).toNat]) (i + 1) (by omega)
      omega
    · exact ⟨Nat.le_refl _, h⟩
theorem nameB_at : ∀ (f : Nat) (s : List UInt8) (i : Nat), i ≤ rs.length → i ≤ (nameB rs f s i).2 ∧ (nameB rs f s i).2 ≤ rs.length
  | 0, s, i, h => ⟨Nat.le_refl _, h⟩
  | f + 1, s, i, h => by
    unfold nameB
    split
    · rename_i hd
      have hi : i < rs.length := pk_lt fun e => by rw [e] at hd; revert hd; decide
      have := nameB_at f (s ++ [UInt8.ofNat (pk rs i).toNat]) (i + 1) (by omega)
      omega
    · exact ⟨Nat.le_refl _, h⟩

theorem times_at {i : Nat} {a b : Int} {j : Nat} (h : times rs i = some (a, b, j)) : i < j ∧ j ≤ rs.length := by
  unfold times at h
  split at h
  · rename_i hc; have := pk_lt0 (rs := rs) (i := i) (by omega); simp only [Option.some.injEq, Prod.mk.injEq] at h; omega
  split at h
  · rename_i hc; have := pk_lt0 (rs := rs) (i := i) (by omega); simp only [Option.some.injEq, Prod.mk.injEq] at h; omega
  split at h
  · rename_i hc; have := pk_lt0 (rs := rs) (i := i) (by omega); simp only [Option.some.injEq, Prod.mk.injEq] at h; omega
  split at h
  · cases h
  · rename_i hc
    have hi := pk_lt0 (rs := rs) (i := i) (by omega)
    have h1 := digs_at (rs := rs) 4 0 (i + 1) (by omega)
    simp only [] at h
    split at h
    · cases h
    split at h
    · rename_i hk
      have := pk_lt0 (rs := rs) (i := (digs rs 4 0 (i + 1)).2) (by omega)
      have h2 := digs_at (rs := rs) 4 0 ((digs rs 4 0 (i + 1)).2 + 1) (by omega)
      split at h
      · rename_i hz
        have := pk_lt0 (rs := rs) (i := (digs rs 4 0 ((digs rs 4 0 (i + 1)).2 + 1)).2) (by omega)
        simp only [Option.some.injEq, Prod.mk.injEq] at h
        omega
      · cases h
    split at h
    · rename_i hz
      have := pk_lt0 (rs := rs) (i := (digs rs 4 0 (i + 1)).2) (by omega)
      simp only [Option.some.injEq, Prod.mk.injEq] at h
      omega
    · cases h

theorem number_at {from_ i : Nat} {n : Int} {j : Nat} (hi : i ≤ rs.length) (h : number rs from_ i = .ok (n, j)) : i < j ∧ j ≤ rs.length := by
  unfold number at h
  split at h
  · rename_i hc
    have := pk_lt0 (rs := rs) (i := i) (by omega)
    have h1 := nums_at (rs := rs) 6 0 (i + 1) (by omega)
    simp only [] at h
    split at h
    · cases h
    · rename_i hn
      have := pk_lt0 (rs := rs) (i := (nums rs 6 0 (i + 1)).2) (by omega)
      simp only [R.ok.injEq, Prod.mk.injEq] at h
      omega
  · have h1 := nums_at (rs := rs) 2 0 i hi
    simp only [] at h
    split at h
    · cases h
    · rename_i hn
      simp only [R.ok.injEq] at h
      rw [h] at h1 hn
      simp only [] at h1 hn
      omega
theorem name_at {names : List (List UInt8)} {from_ i : Nat} {s : List UInt8} {j : Nat} (h : name rs names from_ i = .ok (s, j)) : i < j ∧ j ≤ rs.length := by
  unfold name at h
  split at h
  · cases h
  · rename_i hc
    have := pk_lt0 (rs := rs) (i := i) (by omega)
    have h1 := nameB_at (rs := rs) rs.length [] (i + 1) (by omega)
    simp only [] at h
    split at h
    · cases h
    · rename_i hn
      have := pk_lt0 (rs := rs) (i := (nameB rs rs.length [] (i + 1)).2) (by omega)
      simp only [R.ok.injEq, Prod.mk.injEq] at h
      omega
theorem named_at {from_ i : Nat} {f : Int → Bool} {j : Nat} (h : named rs cls from_ i = .ok (f, j)) : i < j ∧ j ≤ rs.length := by
  unfold named at h
  split at h
  · cases h
  · rename_i hc
    have := pk_lt0 (rs := rs) (i := i) (by omega)
    have h1 := word_at (rs := rs) rs.length [] (i + 1) (by omega)
    simp only [] at h
    split at h
    · cases h
    · split at h
      · cases h
      · rename_i hn
        have := pk_lt0 (rs := rs) (i := (word rs rs.length [] (i + 1)).2) (by omega)
        simp only [R.ok.injEq, Prod.mk.injEq] at h
        omega
theorem escape_at {from_ i : Nat} {f : Int → Bool} {r : Int} {j : Nat} (h : escape rs cls perl from_ i = .ok (f, r, j)) : i < j ∧ j ≤ rs.length := by
  unfold escape at h
  simp only [] at h
  split at h
  · cases h
  · rename_i hc
    have hi := pk_lt0 (rs := rs) (i := i) (by omega)
    split at h
    · split at h
      · cases h
      · rename_i g k hg
        have := named_at hg
        simp only [R.ok.injEq, Prod.mk.injEq] at h
        omega
    · split at h
      · split at h
        · cases h
        · rename_i g k hg
          have := number_at (by omega) hg
          simp only [R.ok.injEq, Prod.mk.injEq] at h
          omega
      · split at h
        · simp only [R.ok.injEq, Prod.mk.injEq] at h
          omega
        · split at h
          · simp only [R.ok.injEq, Prod.mk.injEq] at h
            omega
          · split at h
            · cases h
            · simp only [R.ok.injEq, Prod.mk.injEq] at h
              omega
theorem item_at {i : Nat} {f : Int → Bool} {r : Int} {j : Nat} (hi : i < rs.length) (h : item rs cls perl i = .ok (f, r, j)) : i < j ∧ j ≤ rs.length := by
  unfold item at h
  split at h
  · have := escape_at h
    omega
  · simp only [R.ok.injEq, Prod.mk.injEq] at h
    omega
theorem items_at {from_ : Nat} : ∀ (n : Nat) (first : Bool) (out : Int → Bool) (i : Nat) {f : Int → Bool} {j : Nat}, items rs cls perl from_ n first out i = .ok (f, j) → i ≤ j ∧ j < rs.length
  | 0, _, _, _, _, _, h => by cases h
  | n + 1, first, out, i, f, j, h => by
    unfold items at h
    split at h
    · rename_i hc
      have := pk_lt0 (rs := rs) (i := i) (by omega)
      simp only [R.ok.injEq, Prod.mk.injEq] at h
      omega
    split at h
    · cases h
    · rename_i hc
      have hi := pk_lt hc
      split at h
      · cases h
      · rename_i g r k hg
        have h1 := item_at hi hg
        split at h
        · rename_i hr
          have h2 := pk_lt hr.2.2.2
          split at h
          · cases h
          · rename_i g2 r2 k2 hg2
            have h3 := item_at h2 hg2
            split at h
            · cases h
            · have := items_at n _ _ _ h
              omega
        · have := items_at n _ _ _ h
          omega
theorem list_at {from_ i : Nat} {f : Int → Bool} {j : Nat} (h : list rs cls perl from_ i = .ok (f, j)) : i < j ∧ j ≤ rs.length := by
  unfold list at h
  simp only [] at h
  split at h
  · cases h
  · rename_i g k hg
    have := items_at _ _ _ _ hg
    simp only [R.ok.injEq, Prod.mk.injEq] at h
    split at this <;> omega
theorem flags_at {from_ : Nat} : ∀ (n : Nat) (on some_ : Bool) (f : Fl) (m0 m1 : List Int) (i : Nat) {b : Bool} {g : Fl} {j : Nat}, flags rs from_ n on some_ f m0 m1 i = .ok (b, g, j) → i < j ∧ j ≤ rs.length
  | 0, _, _, _, _, _, _, _, _, _, h => by cases h
  | n + 1, on, some_, f, m0, m1, i, b, g, j, h => by
    unfold flags at h
    simp only [] at h
    by_cases h1 : pk rs i = 45 ∧ on = true
    · rw [if_pos h1] at h
      have := flags_at n _ _ _ _ _ _ h
      omega
    · rw [if_neg h1] at h
      by_cases h2 : (pk rs i = 105 ∨ pk rs i = 109 ∨ pk rs i = 115 ∨ pk rs i = 85) ∧ ¬ pk rs i ∈ (if on = true then m0 else m1)
      · rw [if_pos h2] at h
        have := flags_at n _ _ _ _ _ _ h
        omega
      · rw [if_neg h2] at h
        by_cases h3 : (pk rs i = 58 ∨ pk rs i = 41) ∧ (some_ = true ∨ pk rs i = 58 ∧ on = true)
        · rw [if_pos h3] at h
          have := pk_lt0 (rs := rs) (i := i) (by omega)
          simp only [R.ok.injEq, Prod.mk.injEq] at h
          omega
        · rw [if_neg h3] at h
          cases h

theorem R.eq_ok {α : Type} {a b : α} (h : R.ok a = R.ok b) : a = b := by injection h

/-- The parser goes on, and never behind the end. -/
theorem go_at : ∀ (n : Nat) (q : Q) (s : St) {x : Option Nd} {s1 : St}, go rs cls perl n q s = .ok (x, s1) → s.at_ ≤ rs.length → (q = .atom → s.at_ < rs.length) →
    s.at_ ≤ s1.at_ ∧ s1.at_ ≤ rs.length ∧ (q = .atom → s.at_ < s1.at_)
  | 0, _, _, _, _, h, _, _ => by cases h
  | n + 1, .alts l, s, x, s1, h, hs, _ => by
    rw [go] at h
    split at h
    · cases h
    · rename_i y s2 hy
      have h1 := go_at n _ _ hy hs (fun e => by cases e)
      simp only [] at h
      split at h
      · rename_i hc
        have := pk_lt0 (rs := rs) (i := s2.at_) (by omega)
        have h2 := go_at n _ _ h (by simp only []; omega) (fun e => by cases e)
        simp only [] at h2
        exact ⟨by omega, h2.2.1, fun e => by cases e⟩
      · injection R.eq_ok h with _ e
        subst e
        exact ⟨h1.1, h1.2.1, fun e => by cases e⟩
  | n + 1, .row l some_, s, x, s1, h, hs, _ => by
    rw [go] at h
    simp only [] at h
    split at h
    · injection R.eq_ok h with _ e
      subst e
      exact ⟨Nat.le_refl _, hs, fun e => by cases e⟩
    · rename_i hc
      have hi := pk_lt (rs := rs) (i := s.at_) (fun e => hc (.inl e))
      split at h
      · split at h
        · cases h
        · injection R.eq_ok h with _ e
          subst e
          exact ⟨Nat.le_refl _, hs, fun e => by cases e⟩
      · split at h
        · rename_i least most j ht
          have hj := times_at ht
          split at h
          · cases h
          split at h
          · cases h
          have hq : (if pk rs j = 63 then j + 1 else j) ≤ rs.length ∧ j ≤ (if pk rs j = 63 then j + 1 else j) := by
            split
            · rename_i hq
              have := pk_lt0 (rs := rs) (i := j) (by omega)
              omega
            · omega
          have h2 := go_at n _ _ h hq.1 (fun e => by cases e)
          simp only [] at h2
          exact ⟨by omega, h2.2.1, fun e => by cases e⟩
        · split at h
          · cases h
          · rename_i y s2 hy
            have h1 := go_at n _ _ hy hs (fun _ => hi)
            have h3 := go_at n _ _ h h1.2.1 (fun e => by cases e)
            exact ⟨by omega, h3.2.1, fun e => by cases e⟩
  | n + 1, .atom, s, x, s1, h, hs, ha => by
    have hi := ha rfl
    have key : ∀ (g : Option (Nat × List UInt8)) (was : Fl) (s2 : St) {x : Option Nd} {s1 : St}, s2.at_ ≤ rs.length →
        (match go rs cls perl n (.alts []) { s2 with opn := s2.opn ++ [s.at_] } with
          | .bad e k => R.bad e k
          | .ok (x, s3) => if pk rs s3.at_ ≠ 41 then .bad 25 (s3.opn.getLast?.getD 0)
            else .ok ((match g with | none => x | some (cap, nm) => x.map (Nd.grp cap nm)), { s3 with at_ := s3.at_ + 1, opn := s3.opn.dropLast, fl := was })) = R.ok (x, s1) → s2.at_ < s1.at_ ∧ s1.at_ ≤ rs.length := by
      intro g was s2 x s1 h2 h
      split at h
      · cases h
      · rename_i y s3 hy
        have h1 := go_at n _ _ hy h2 (fun e => by cases e)
        split at h
        · cases h
        · rename_i hc
          have := pk_lt0 (rs := rs) (i := s3.at_) (by omega)
          injection R.eq_ok h with _ e
          subst e
          simp only [] at h1 ⊢
          omega
    suffices hh : s.at_ < s1.at_ ∧ s1.at_ ≤ rs.length from ⟨by omega, hh.2, fun _ => hh.1⟩
    rw [go] at h
    simp only [] at h
    split at h
    · split at h
      · cases h
      split at h
      · rename_i hq
        have hq1 := pk_lt0 (rs := rs) (i := s.at_ + 1) (by omega)
        split at h
        · rename_i hp
          have hq2 := pk_lt0 (rs := rs) (i := s.at_ + 2) (by omega)
          split at h
          · cases h
          · rename_i nm j hn
            have h1 := name_at hn
            have h2 := key (some (s.names.length, nm)) s.fl { s with at_ := j, names := s.names ++ [nm] } (by simp only []; omega) h
            simp only [] at h2
            omega
        · split at h
          · cases h
          · rename_i f j hf
            have h1 := flags_at _ _ _ _ _ _ _ hf
            injection R.eq_ok h with _ e
            subst e
            simp only []
            omega
          · rename_i f j hf
            have h1 := flags_at _ _ _ _ _ _ _ hf
            have h2 := key none s.fl { s with at_ := j, fl := f } (by simp only []; omega) h
            simp only [] at h2
            omega
      · have h2 := key (some (s.names.length, [])) s.fl { s with at_ := s.at_ + 1, names := s.names ++ [[]] } (by simp only []; omega) h
        simp only [] at h2
        omega
    split at h
    · injection R.eq_ok h with _ e
      subst e
      simp only []
      omega
    split at h
    · injection R.eq_ok h with _ e
      subst e
      simp only []
      omega
    split at h
    · injection R.eq_ok h with _ e
      subst e
      simp only []
      omega
    split at h
    · split at h
      · cases h
      · rename_i f j hl
        have h1 := list_at hl
        injection R.eq_ok h with _ e
        subst e
        simp only []
        omega
    split at h
    · split at h
      · rename_i k hk
        have hq1 : s.at_ + 1 < rs.length := pk_lt fun e => by rw [e] at hk; exact absurd hk (by simp [signs])
        injection R.eq_ok h with _ e
        subst e
        simp only []
        omega
      · split at h
        · cases h
        · rename_i f r j he
          have h1 := escape_at he
          injection R.eq_ok h with _ e
          subst e
          simp only []
          omega
    · injection R.eq_ok h with _ e
      subst e
      simp only []
      omega
end Go.Proofs.YtblkejnckbeieaaGreatDoor.SynP

namespace Go.Proofs.YtblkejnckbeieaaGreatDoor
open Go.RowKit

theorem digs_stop {rs : List Int} {f : Nat} {n : Int} {i : Nat} (h : ¬ (48 ≤ SynP.pk rs i ∧ SynP.pk rs i ≤ 57)) : SynP.digs rs f n i = (n, i) := by
  cases f with
  | zero => rfl
  | succ f => unfold SynP.digs; rw [if_neg h]
theorem digs_next {rs : List Int} {f : Nat} {n : Int} {i : Nat} (h : 48 ≤ SynP.pk rs i ∧ SynP.pk rs i ≤ 57) : SynP.digs rs (f + 1) n i = SynP.digs rs f (10 * n + SynP.pk rs i - 48) (i + 1) := by
  rw [SynP.digs, if_pos h]
theorem pk_in {rs : List Int} {i : Nat} (h : SynP.pk rs i ≠ -1) : i < rs.length := by
  rcases Nat.lt_or_ge i rs.length with h1 | h1
  · exact h1
  · exact absurd (by unfold SynP.pk; rw [List.getD_eq_getElem?_getD, List.getElem?_eq_none h1]; rfl) h

set_option maxHeartbeats 400000 in
theorem digits_any (w : World) (X : Cx) (p : Pv) (i : Nat) (h : At w X p i) :
    Calls Tryz.prog 138 #[.pointer (some ⟨X.b, 0, none⟩)] w fun e w' => Went w X p (.tuple #[.int .i64 (SynP.digs X.rs 4 0 i).1, .bool (decide (i < (SynP.digs X.rs 4 0 i).2))]) (SynP.digs X.rs 4 0 i).2 e w' := by
  have HA0 := Lib.hid h
  have hle := h.le
  have hfew := h.few
  clear h
  go_enter Tryz.func138, Tryz.ntmps138
  go_wp2
  go_loopg [4, 5] 5 (fun k s4 s5 wr => ∃ (j : Nat) (n : Int), s4 = .int .i64 n ∧ s5 = .int .i64 j ∧ j ≤ 4 ∧ k = 5 - j ∧ 0 ≤ n ∧ n < 10 ^ j ∧ Hid (SynP.digs X.rs (4 - j) n (i + j) = SynP.digs X.rs 4 0 i) ∧ Hid (Mv X.b w wr) ∧ Hid (At wr X p (i + j)))
  case atStart => exact ⟨0, 0, rfl, rfl, by omega, by omega, by omega, by decide, Lib.hid rfl, Lib.hid (Mv.rfl_ _ _), HA0⟩
  case round =>
    obtain ⟨j, n, rfl, rfl, hj, hk, hn0, hn1, HE, HM, HA⟩ := hrel
    have hn : n < 10000 := by
      obtain rfl | rfl | rfl | rfl | rfl : j = 0 ∨ j = 1 ∨ j = 2 ∨ j = 3 ∨ j = 4 := by omega
      all_goals (simp at hn1; omega)
    have HN1 := Lib.hid hn1
    clear hn1
    have HK := Lib.hid hk
    clear hk HA0
    have hE := HE.out
    by_cases hj4 : j < 4
    · have hjj : (j : Int) < 4 := by omega
      by_cases h48 : 48 ≤ SynP.pk X.rs (i + j)
      · by_cases h57 : SynP.pk X.rs (i + j) ≤ 57
        · rw [show 4 - j = 4 - (j + 1) + 1 by omega, digs_next ⟨h48, h57⟩] at hE
          have hin := pk_in (show SynP.pk X.rs (i + j) ≠ -1 by omega)
          have HE2 := Lib.hid hE
          have hc := HA.out.cell
          have hz := HA.out.frozen
          clear hE
          go_wp2_with (go_at_call 100; refine (peek0 _ X p _ HA.out).mono ?_; rintro e w1 ⟨rfl, hm1, ha1⟩; replace HM := Lib.hid (HM.out.step hm1); replace HA := Lib.hid ha1; clear hm1 ha1; replace hc := HA.out.cell; replace hz := HA.out.frozen)
          go_roundg (gk - 1)
          case measure => have := HK.out; omega
          case rel => exact ⟨j + 1, 10 * n + SynP.pk X.rs (i + j) - 48, by go_num, by go_num, by omega, by have := HK.out; omega, by omega, by have := HN1.out; rw [Int.pow_succ]; omega, HE2, Lib.hid (HM.out.step (mv_put _ X _)), Lib.hid (HA.out.put _ _ (by omega) (by omega))⟩
        · rw [digs_stop (by omega)] at hE
          have HE2 := Lib.hid hE
          clear hE
          go_wp2_with (go_at_call 100; refine (peek0 _ X p _ HA.out).mono ?_; rintro e w1 ⟨rfl, hm1, ha1⟩; replace HM := Lib.hid (HM.out.step hm1); replace HA := Lib.hid ha1; clear hm1 ha1)
          go_ret2
          rw [← HE2.out]
          exact ⟨by simp, HM.out, HA.out⟩
      · rw [digs_stop (by omega)] at hE
        have HE2 := Lib.hid hE
        clear hE
        go_wp2_with (go_at_call 100; refine (peek0 _ X p _ HA.out).mono ?_; rintro e w1 ⟨rfl, hm1, ha1⟩; replace HM := Lib.hid (HM.out.step hm1); replace HA := Lib.hid ha1; clear hm1 ha1)
        go_ret2
        rw [← HE2.out]
        exact ⟨by simp, HM.out, HA.out⟩
    · obtain rfl : j = 4 := by omega
      have hE2 : (n, i + 4) = SynP.digs X.rs 4 0 i := hE
      have HE2 := Lib.hid hE2
      clear hE hE2
      go_wp2
      go_ret2
      rw [← HE2.out]
      exact ⟨by simp, HM.out, HA.out⟩

end Go.Proofs.YtblkejnckbeieaaGreatDoor
