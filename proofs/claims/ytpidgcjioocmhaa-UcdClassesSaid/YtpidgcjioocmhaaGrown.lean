/- Rows of the call's own that grow beside other blocks of the call's own: where a row lies behind an append, and what stands beside it. -/
import Derived.Test.YtpidgcjioocmhaaLib
namespace Go.Proofs.Ytpidgcjioocmhaa
open Go.RowKit

/-- A call's end: it hands back a row of its own that reads as l. -/
def RetOwn {α : Type} (E : Enc α) (e : TypeId) (w : World) (l : List α) (end_ : Ending) (w' : World) : Prop := ∃ v, end_ = .returned v ∧ Own E e w w' v l

section
variable {P : Program} (w : World) {α : Type} {E : Enc α} {w0 : World} {e : TypeId} {v : Value} {l l' : List α} {B : Nat} {A : Option Addr} {c : Nat}
theorem run_append_seq_at (t ty : TypeId) (bytes : Nat) (he : ElemOf P t e E.k bytes) (hown : Own E e w0 w v l) (hr : SeqAt E w B A l')
    (h63 : l.length + l'.length ≤ maxLen) (hbytes : (l.length + l'.length) * bytes ≤ 140737488355328) :
    ∃ v' w', (Builtin.append_ #[t, t] ty #[v, .slice A l'.length c]).run P w = .ok v' w' ∧ Own E e w0 w' v' (l ++ l') ∧ w.grownBy w' v.ownBlock ∧ (v'.ownBlock = v.ownBlock ∨ v'.ownBlock = some w.heap.size) := by
  obtain ⟨i, z, ht, hi, hz, hsize, hby, hzs⟩ := he
  have hb := hown.2
  have hlen : (l ++ l').length = l.length + l'.length := List.length_append
  rcases A with _ | ad
  · have hm : l' = [] := by
      rcases Nat.eq_zero_or_pos l'.length with h0 | h0
      · exact List.eq_nil_of_length_eq_zero h0
      · obtain ⟨_, _, h, _⟩ := hr h0
        cases h
    subst hm
    exact ⟨v, w, run_append_none w _ t ty e i E.k ht hi v _ _ hown.1 c, by simpa using hown, World.grownBy.refl w _, .inl rfl⟩
  · have hcells : ∀ j u, (l'.flatMap E.enc)[j]? = some u → w.cell? (ad.add j) = some u := by
      intro j u hu
      have hj : j < l'.length * E.k := by rw [← E.flat_len]; exact (List.getElem?_eq_some_iff.1 hu).1
      obtain ⟨b, off, h, _, hc⟩ := hr (Nat.pos_of_ne_zero fun h => by rw [h] at hj; omega)
      injection h with h
      subst h
      rw [add_off, hc j hj, List.getD_eq_getElem?_getD, hu]; rfl
    obtain ⟨v', w', hrun, h2, h3, _, h4⟩ := run_append_own_at (P := P) w w0.heap.size t ty e i z E.k bytes ht hi hz hsize hby hzs E.pos v l.length _ hown.1 ad l'.length c (l'.flatMap E.enc) (E.flat_len l') hcells (E.flat_one l') h63 hbytes hb.size
    refine ⟨v', w', hrun, ⟨?_, hb.grown h3 hb.size (fun k hk => (hown.1.lt k hk).1)⟩, h3, h4⟩
    rw [hlen, List.flatMap_append]
    exact h2
theorem wpList_append_seq_at {ops : Array Oper} {rest : List Oper} {o : Oper} {a : Act} {Q : Exit → Act → World → Prop} (hgd : o.guard = none) (s x : Operand) (t : TypeId)
    (ho : o.op = .call { callee := .builtin .append, args := #[s, x], argTypes := #[t, t] }) (bytes : Nat) (he : ElemOf P t e E.k bytes)
    (hs : a.eval s = v) (hown : Own E e w0 w v l) (m : Nat) (hx : a.eval x = .slice A m c) (hr : SeqAt E w B A l') (hm : l'.length = m)
    (h63 : l.length + m ≤ maxLen) (hbytes : (l.length + m) * bytes ≤ 140737488355328)
    (h : ∀ v' w', Own E e w0 w' v' (l ++ l') → w.grownBy w' v.ownBlock → (v'.ownBlock = v.ownBlock ∨ v'.ownBlock = some w.heap.size) → wpList P ops Q rest (a.put o.dst v') w') : wpList P ops Q (o :: rest) a w :=
  wpList_plain hgd fun _ hK => by
    subst hm
    obtain ⟨v', w', hrun, h2, h3, h4⟩ := run_append_seq_at (P := P) w t o.type bytes he hown hr (c := c) h63 hbytes
    unfold Oper.wp execOp
    simp only [ho, resolve, invoke, builtin, Sem.run_bind, Sem.run_pure, Result.andThen_ok, List.map_toArray, List.map_cons, List.map_nil, hs, hx, hrun]
    exact hK _ _ (h v' w' h2 h3 h4)
end

/-- Since the world w0, in which a row of one's own was v0, only that row and new blocks have turned; the row is now v. -/
def Grown (v0 : Value) (w0 w : World) (v : Value) : Prop := w0.grownBy w v0.ownBlock ∧ (v.ownBlock = v0.ownBlock ∨ ∃ k, v.ownBlock = some k ∧ w0.heap.size ≤ k)
section
variable {v0 v v' : Value} {w0 w w' : World}
theorem Grown.refl (v : Value) (w : World) : Grown v w w v := ⟨World.grownBy.refl w _, .inl rfl⟩
theorem Grown.below (h : Grown v0 w0 w v) (hb : Below w.heap.size w w') : Grown v0 w0 w' v :=
  ⟨⟨hb.os.trans h.1.os, hb.tape.trans h.1.tape, hb.output.trans h.1.output, Nat.le_trans h.1.size hb.size, fun k hk hn => (hb.block k (Nat.lt_of_lt_of_le hk h.1.size)).trans (h.1.block k hk hn)⟩, h.2⟩
theorem Grown.alloc (h : Grown v0 w0 w v) (o : Obj) : Grown v0 w0 (w.alloc o) v := h.below ((Below.refl _ w).alloc (Nat.le_refl _) o)
theorem Grown.drewN (h : Grown v0 w0 w v) (n : Nat) : Grown v0 w0 (w.drewN n) v := h.below (below_drewN (Below.refl _ w) n)
theorem Grown.append (h : Grown v0 w0 w v) (hg : w.grownBy w' v.ownBlock) (ha : v'.ownBlock = v.ownBlock ∨ v'.ownBlock = some w.heap.size) : Grown v0 w0 w' v' := by
  refine ⟨⟨hg.os.trans h.1.os, hg.tape.trans h.1.tape, hg.output.trans h.1.output, Nat.le_trans h.1.size hg.size, fun k hk hn => ?_⟩, ?_⟩
  · refine (hg.block k (Nat.lt_of_lt_of_le hk h.1.size) ?_).trans (h.1.block k hk hn)
    rcases h.2 with e | ⟨j, e, hj⟩
    · rw [e]; exact hn
    · rw [e]; intro e'; injection e' with e'; omega
  · rcases ha with e | e
    · rw [e]; exact h.2
    · exact .inr ⟨_, e, h.1.size⟩
/-- A row within a longer walk: what has grown since w0 goes on growing. -/
theorem Grown.trans {v1 : Value} {w1 : World} (h : Grown v0 w0 w1 v1) (k : Grown v1 w1 w v) : Grown v0 w0 w v := by
  refine ⟨⟨k.1.os.trans h.1.os, k.1.tape.trans h.1.tape, k.1.output.trans h.1.output, Nat.le_trans h.1.size k.1.size, fun b hb hn => ?_⟩, ?_⟩
  · refine (k.1.block b (Nat.lt_of_lt_of_le hb h.1.size) ?_).trans (h.1.block b hb hn)
    rcases h.2 with e | ⟨j, e, hj⟩
    · rw [e]; exact hn
    · rw [e]; intro e'; injection e' with e'; omega
  · rcases k.2 with e | ⟨j, e, hj⟩
    · rw [e]; exact h.2
    · exact .inr ⟨j, e, Nat.le_trans h.1.size hj⟩
theorem Grown.block (h : Grown v0 w0 w v) {b : Nat} (hb : b < w0.heap.size) (hn : some b ≠ v0.ownBlock) : w.heap[b]? = w0.heap[b]? := h.1.block b hb hn
theorem Grown.cell (h : Grown v0 w0 w v) {b o : Nat} (hb : b < w0.heap.size) (hn : some b ≠ v0.ownBlock) : w.cell? ⟨b, o, none⟩ = w0.cell? ⟨b, o, none⟩ := World.cell?_of_block (h.block hb hn)
theorem Grown.size (h : Grown v0 w0 w v) : w0.heap.size ≤ w.heap.size := h.1.size
theorem Grown.ne (h : Grown v0 w0 w v) {b : Nat} (hb : b < w0.heap.size) (hn : some b ≠ v0.ownBlock) : some b ≠ v.ownBlock := by
  rcases h.2 with e | ⟨j, e, hj⟩
  · rw [e]; exact hn
  · rw [e]; intro e'; injection e' with e'; omega
end
/-- A row of a later part of the call is one of the call's own. -/
theorem Own.earlier {α : Type} {E : Enc α} {e : TypeId} {w0 w1 w : World} {v : Value} {l : List α} (hb : Below w0.heap.size w0 w1) (h : Own E e w1 w v l) : Own E e w0 w v l := by
  refine ⟨⟨h.1.1, ?_⟩, hb.trans (h.2.mono hb.size)⟩
  rcases h.1.2 with h' | ⟨g, cap, cur, h1, h2, h3⟩
  · exact .inl h'
  · exact .inr ⟨g, cap, cur, h1, Nat.le_trans hb.size h2, h3⟩
/-- A row that a later call made lies beside a row that was there. -/
theorem own_apart {α β : Type} {E : Enc α} {F : Enc β} {e f : TypeId} {w0 w w' : World} {v u : Value} {l : List α} {m : List β} (h : Own E e w0 w v l) (k : Own F f w w' u m) {b : Nat} (hb : u.ownBlock = some b) : some b ≠ v.ownBlock := by
  intro e'
  have h1 := (h.1.lt b e'.symm).2
  have h2 := (k.1.lt b hb).1
  omega
theorem own_later {α β : Type} {E : Enc α} {F : Enc β} {e f : TypeId} {w0 w w1 w' : World} {v u : Value} {l : List α} {m : List β} (h : Own E e w0 w v l) (hz : w.heap.size ≤ w1.heap.size) (k : Own F f w1 w' u m) {b : Nat} (hb : u.ownBlock = some b) : some b ≠ v.ownBlock := by
  intro e'
  have h1 := (h.1.lt b e'.symm).2
  have h2 := (k.1.lt b hb).1
  omega

end Go.Proofs.Ytpidgcjioocmhaa
