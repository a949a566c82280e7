/- General: a world in which one block alone, and what is new, has turned; rows, builders and sequences that it leaves alone. -/
import Derived.Test.YtemcflfgoelpiaaLib
import Derived.Laws.AppendOwn
import Derived.Deep.Draws
namespace Go.Proofs.Ytemcflfgoelpiaa
open Go.RowKit

/-- w' is w, but for block p and for what is new. -/
abbrev Mv (p : Nat) (w w' : World) : Prop := w.grownBy w' (some p)
theorem Mv.rfl_ (p : Nat) (w : World) : Mv p w w := World.grownBy.refl w _
theorem Mv.step {p : Nat} {a b c : World} (h : Mv p a b) (k : Mv p b c) : Mv p a c :=
  ⟨k.os.trans h.os, k.tape.trans h.tape, k.output.trans h.output, Nat.le_trans h.size k.size, fun i hi hn => (k.block i (Nat.lt_of_lt_of_le hi h.size) hn).trans (h.block i hi hn)⟩
theorem Mv.drewN {p : Nat} {a w : World} (h : Mv p a w) (n : Nat) : Mv p a (w.drewN n) := ⟨h.os, h.tape, h.output, h.size, h.block⟩
theorem Mv.drew {p : Nat} {a w : World} (h : Mv p a w) : Mv p a w.drew := ⟨h.os, h.tape, h.output, h.size, h.block⟩
theorem Mv.alloc {p : Nat} {a w : World} (h : Mv p a w) (o : Obj) : Mv p a (w.alloc o) :=
  ⟨h.os, h.tape, h.output, Nat.le_trans h.size (by simp), fun i hi hne => (Below.heap_alloc w o i (Nat.lt_of_lt_of_le hi h.size)).trans (h.block i hi hne)⟩
theorem Mv.set {p : Nat} {a w : World} (h : Mv p a w) (q : Addr) (hq : q.block = p ∨ a.heap.size ≤ q.block) (u : Value) : Mv p a (w.setCell q u) :=
  ⟨h.os, h.tape, h.output, by simpa [World.setCell] using h.size, fun i hi hne => (Below.heap_setCell w q u i (by
    rintro rfl
    rcases hq with hq | hq
    · exact hne (by rw [hq])
    · omega)).trans (h.block i hi hne)⟩
theorem Mv.of_below {p : Nat} {a w : World} (h : Below a.heap.size a w) : Mv p a w := ⟨h.os, h.tape, h.output, h.size, fun i hi _ => h.block i hi⟩
theorem Mv.below {p : Nat} {a b c : World} (h : Mv p a b) (k : Below b.heap.size b c) : Mv p a c := h.step (Mv.of_below k)
/-- Below a bound that the block does not lie below, nothing has turned. -/
theorem Mv.to_below {p B : Nat} {w0 a b : World} (h : Below B w0 a) (k : Mv p a b) (hp : B ≤ p) (hB : B ≤ a.heap.size) : Below B w0 b :=
  ⟨k.os.trans h.os, k.tape.trans h.tape, k.output.trans h.output, Nat.le_trans h.size k.size, fun i hi => (k.block i (Nat.lt_of_lt_of_le hi hB) (fun e => by injection e; omega)).trans (h.block i hi)⟩
theorem Mv.heap {p : Nat} {a b : World} (h : Mv p a b) {i : Nat} (hi : i < a.heap.size) (hn : i ≠ p) : b.heap[i]? = a.heap[i]? := h.block i hi (fun e => by injection e; omega)
/-- What a below-step leaves alone: it reaches down to a bound above block p. -/
theorem Mv.of_low {p B : Nat} {a b : World} (h : Below B a b) (hp : B ≤ a.heap.size) (hb : ∀ i, B ≤ i → i < a.heap.size → i ≠ p → b.heap[i]? = a.heap[i]?) : Mv p a b :=
  ⟨h.os, h.tape, h.output, h.size, fun i hi hn => by
    rcases Nat.lt_or_ge i B with h1 | h1
    · exact h.block i h1
    · exact hb i h1 hi (fun e => hn (by rw [e]))⟩

section
variable {α : Type} {E : Enc α} {e : TypeId} {base p : Nat} {v : Value} {l : List α} {w w' : World}
theorem OwnB.mv (h : OwnB E e base w v l) (k : Mv p w w') (hp : p < base) : OwnB E e base w' v l :=
  ⟨h.1.kept k (by
    cases hv : v.ownBlock with
    | none => exact .inl rfl
    | some g => exact .inr (fun e => by injection e with e; have := (h.1.lt g hv).1; omega)), Nat.le_trans h.2 k.size⟩
/-- A sequence that lies in another block than p. -/
def SeqN (E : Enc α) (w : World) (p : Nat) (A : Option Addr) (l : List α) : Prop :=
  0 < l.length → ∃ b off, A = some ⟨b, off, none⟩ ∧ b ≠ p ∧ b < w.heap.size ∧ ∀ j, j < l.length * E.k → w.cell? ⟨b, off + j, none⟩ = some ((l.flatMap E.enc).getD j undef)
theorem SeqN.nil_ {A : Option Addr} : SeqN E w p A ([] : List α) := fun h => absurd h (by simp)
theorem SeqN.mv {A : Option Addr} (h : SeqN E w p A l) (k : Mv p w w') : SeqN E w' p A l := fun hn => by
  obtain ⟨b, off, e, hb, hlt, hc⟩ := h hn
  exact ⟨b, off, e, hb, Nat.lt_of_lt_of_le hlt k.size, fun j hj => (World.cell?_of_block (k.heap hlt hb)).trans (hc j hj)⟩
theorem SeqN.seq {A : Option Addr} (h : SeqN E w p A l) : SeqAt E w w.heap.size A l := fun hn => by
  obtain ⟨b, off, e, _, hlt, hc⟩ := h hn
  exact ⟨b, off, e, hlt, hc⟩
theorem SeqAt.seqN {A : Option Addr} (h : SeqAt E w w.heap.size A l) (hp : w.heap.size ≤ p) : SeqN E w p A l := fun hn => by
  obtain ⟨b, off, e, hlt, hc⟩ := h hn
  exact ⟨b, off, e, by omega, hlt, hc⟩
/-- A row of the call's own, made behind block p, as a sequence. -/
theorem OwnB.seqN {A : Option Addr} {n c : Nat} (h : OwnB E e base w (.slice A n c) l) (hn : n = l.length) (hp : p < base) : SeqN E w p A l := fun hl => by
  subst hn
  obtain ⟨b, off, e', hlt, hc⟩ := h.seq hl
  refine ⟨b, off, e', ?_, hlt, hc⟩
  rcases h.1.2 with ⟨h', h0⟩ | ⟨g, cap, cur, h', hb, _⟩
  · omega
  · injection h' with h1 _ _
    rw [h1] at e'
    injection e' with e'
    injection e' with e1 e2
    omega
end

end Go.Proofs.Ytemcflfgoelpiaa
