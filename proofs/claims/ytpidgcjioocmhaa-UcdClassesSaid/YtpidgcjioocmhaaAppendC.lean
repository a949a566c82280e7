/- 'append' onto a row of the call's own beside other memory: what stands, and which block the row lies in then. -/
import Derived.Test.YtpidgcjioocmhaaLib
import Derived.Maps.AppendAt
namespace Go.Proofs.Ytpidgcjioocmhaa
open Go.RowKit

section
variable {P : Program} {α : Type} {E : Enc α} {e : TypeId} {w0 w w' : World} {v v' : Value} {l l' : List α} {B : Nat} {A : Option Addr} {c : Nat}
/-- Which block a row lies in behind an append. -/
def Grew (w : World) (v v' : Value) : Prop := v'.ownBlock = v.ownBlock ∨ v'.ownBlock = some w.heap.size

theorem run_append_seqC (w : World) (t ty : TypeId) (bytes : Nat) (he : ElemOf P t e E.k bytes) (hown : Own E e w0 w v l) (hr : SeqAt E w B A l')
    (h63 : l.length + l'.length ≤ maxLen) (hbytes : (l.length + l'.length) * bytes ≤ 140737488355328) :
    ∃ v' w', (Builtin.append_ #[t, t] ty #[v, .slice A l'.length c]).run P w = .ok v' w' ∧ Own E e w0 w' v' (l ++ l') ∧ w.grownBy w' v.ownBlock ∧ Grew w v v' := by
  obtain ⟨i, z, ht, hi, hz, hsize, hby, hzs⟩ := he
  have hb := hown.2
  have hlen : (l ++ l').length = l.length + l'.length := List.length_append
  rcases A with _ | ad
  · have hm : l' = [] := by
      rcases Nat.eq_zero_or_pos l'.length with h0 | h0
      · exact List.eq_nil_of_length_eq_zero h0
      · obtain ⟨_, _, h, _⟩ := hr h0
        cases h
    subst hm
    exact ⟨v, w, run_append_none w _ t ty e i E.k ht hi v _ _ hown.1 c, by simpa using hown, World.grownBy.refl w _, .inl rfl⟩
  · have hcells : ∀ j u, (l'.flatMap E.enc)[j]? = some u → w.cell? (ad.add j) = some u := by
      intro j u hu
      have hj : j < l'.length * E.k := by rw [← E.flat_len]; exact (List.getElem?_eq_some_iff.1 hu).1
      obtain ⟨b, off, h, _, hc⟩ := hr (Nat.pos_of_ne_zero fun h => by rw [h] at hj; omega)
      injection h with h
      subst h
      rw [add_off, hc j hj, List.getD_eq_getElem?_getD, hu]; rfl
    obtain ⟨v', w', hrun, h2, h3, _, h5⟩ := run_append_own_at (P := P) w w0.heap.size t ty e i z E.k bytes ht hi hz hsize hby hzs E.pos v l.length _ hown.1 ad l'.length c (l'.flatMap E.enc) (E.flat_len l') hcells (E.flat_one l') h63 hbytes hb.size
    refine ⟨v', w', hrun, ⟨?_, hb.grown h3 hb.size (fun k hk => (hown.1.lt k hk).1)⟩, h3, h5⟩
    rw [hlen, List.flatMap_append]
    exact h2

theorem wp_append_seqC {w : World} {o : Oper} {a : Act} {K : Act → World → Prop} {Q : Exit → Act → World → Prop} (s x : Operand) (t : TypeId)
    (ho : o.op = .call { callee := .builtin .append, args := #[s, x], argTypes := #[t, t] }) (bytes : Nat) (he : ElemOf P t e E.k bytes)
    (hs : a.eval s = v) (hown : Own E e w0 w v l) (m : Nat) (hx : a.eval x = .slice A m c) (hr : SeqAt E w B A l') (hm : l'.length = m)
    (h63 : l.length + m ≤ maxLen) (hbytes : (l.length + m) * bytes ≤ 140737488355328)
    (h : ∀ v' w', Own E e w0 w' v' (l ++ l') → w.grownBy w' v.ownBlock → Grew w v v' → K (a.put o.dst v') w') : o.wp P a w K Q := by
  subst hm
  obtain ⟨v', w', hrun, h2, h3, h4⟩ := run_append_seqC (P := P) w t o.type bytes he hown hr (c := c) h63 hbytes
  unfold Oper.wp execOp
  simp only [ho, resolve, invoke, builtin, Sem.run_bind, Sem.run_pure, Result.andThen_ok, List.map_toArray, List.map_cons, List.map_nil, hs, hx, hrun]
  exact h v' w' h2 h3 h4

/-- 'out = append(out, l..)', out a row of the call's own; which block it lies in then. -/
theorem wpList_append_seqC {w : World} {ops : Array Oper} {rest : List Oper} {o : Oper} {a : Act} {Q : Exit → Act → World → Prop} (hgd : o.guard = none) (s x : Operand) (t : TypeId)
    (ho : o.op = .call { callee := .builtin .append, args := #[s, x], argTypes := #[t, t] }) (bytes : Nat) (he : ElemOf P t e E.k bytes)
    (hs : a.eval s = v) (hown : Own E e w0 w v l) (m : Nat) (hx : a.eval x = .slice A m c) (hr : SeqAt E w B A l') (hm : l'.length = m)
    (h63 : l.length + m ≤ maxLen) (hbytes : (l.length + m) * bytes ≤ 140737488355328)
    (h : ∀ v' w', Own E e w0 w' v' (l ++ l') → w.grownBy w' v.ownBlock → Grew w v v' → wpList P ops Q rest (a.put o.dst v') w') : wpList P ops Q (o :: rest) a w :=
  wpList_plain hgd fun _ hK => wp_append_seqC s x t ho bytes he hs hown m hx hr hm h63 hbytes fun v' w' h2 h3 h4 => hK _ _ (h v' w' h2 h3 h4)
end

/-- What a loop that appends lets stand: all that was there at its start (the world w1), but the row that v0 lay in. -/
structure Stand (w1 : World) (v0 : Value) (w : World) (v : Value) : Prop where
  size : w1.heap.size ≤ w.heap.size
  block : ∀ k, k < w1.heap.size → some k ≠ v0.ownBlock → w.heap[k]? = w1.heap[k]?
  own : v.ownBlock = v0.ownBlock ∨ ∀ k, v.ownBlock = some k → w1.heap.size ≤ k
theorem Stand.refl (w : World) (v : Value) : Stand w v w v := ⟨Nat.le_refl _, fun _ _ _ => rfl, .inl rfl⟩
theorem Stand.alloc {w1 w : World} {v0 v : Value} (h : Stand w1 v0 w v) (o : Obj) : Stand w1 v0 (w.alloc o) v :=
  ⟨by have := h.size; simp; omega, fun k hk hn => by rw [Below.heap_alloc w o k (by have := h.size; omega)]; exact h.block k hk hn, h.own⟩
theorem Stand.grown {w1 w w' : World} {v0 v v' : Value} (h : Stand w1 v0 w v) (hg : w.grownBy w' v.ownBlock) (h5 : Grew w v v') : Stand w1 v0 w' v' :=
  ⟨Nat.le_trans h.size hg.size, fun k hk hn => by
    rw [hg.block k (by have := h.size; omega) ?_]
    · exact h.block k hk hn
    · rcases h.own with h1 | h1
      · rw [h1]; exact hn
      · intro hh
        have := h1 k hh.symm
        omega, by
    rcases h5 with h5 | h5
    · rw [h5]; exact h.own
    · right
      intro k hk
      rw [h5] at hk
      injection hk with hk
      have := h.size
      omega⟩
theorem Stand.cell {w1 w : World} {v0 v : Value} (h : Stand w1 v0 w v) {b o : Nat} (hb : b < w1.heap.size) (hn : some b ≠ v0.ownBlock) : w.cell? ⟨b, o, none⟩ = w1.cell? ⟨b, o, none⟩ :=
  World.cell?_of_block (h.block b hb hn)

set_option maxRecDepth 100000 in
theorem info_strE : (Try.prog.info? 9).map (fun i => (i.zero, i.size, i.bytes)) = some (some (.string ⟨#[]⟩), 1, 16) := by kernel_rfl
set_option maxRecDepth 100000 in
theorem elStrE : ElemOf Try.prog 41 9 Estr.k 16 := by
  obtain ⟨i, hi, hz0, hz1, hz2⟩ := info_parts info_strE
  exact ⟨i, _, Try.underlying41, hi, hz0, hz1, hz2, rfl⟩

end Go.Proofs.Ytpidgcjioocmhaa
