/- Two lists that a walk builds side by side by append, one element of one cell at a time ('a, b = append(a, x), append(b, y)': a region that draws its order). -/
import Derived.Test.YtemcflfgoelpiaaLib
import Derived.Maps.AppendAt
namespace Go.Proofs.Ytemcflfgoelpiaa
open Go.RowKit

theorem take_nextG {α : Type} {l : List α} {k : Nat} {x d : α} (hk : k < l.length) (hr : l.getD k d = x) : l.take (k + 1) = l.take k ++ [x] := by
  rw [List.take_add_one, List.getElem?_eq_getElem hk]
  rw [List.getD_eq_getElem?_getD, List.getElem?_eq_getElem hk] at hr
  have hr' : l[k] = x := by simpa using hr
  rw [hr']; rfl
theorem own_kept2 {α : Type} {E : Enc α} {e : TypeId} {w0 w w' : World} {v : Value} {l : List α} {row : Option Nat} (h : Own E e w0 w v l) (hg : w.grownBy w' row) (hne : v.ownBlock = none ∨ v.ownBlock ≠ row) (hb : Below w0.heap.size w0 w') : Own E e w0 w' v l :=
  ⟨h.1.kept hg hne, hb⟩

structure Two {α β : Type} (E : Enc α) (e : TypeId) (E' : Enc β) (e' : TypeId) (w0 w : World) (va : Value) (la : List α) (vb : Value) (lb : List β) : Prop where
  a : Own E e w0 w va la
  b : Own E' e' w0 w vb lb
  ne : va.ownBlock = none ∨ va.ownBlock ≠ vb.ownBlock

section
variable {α β : Type} {E : Enc α} {e : TypeId} {E' : Enc β} {e' : TypeId} {w0 w w' : World} {va : Value} {la : List α} {vb : Value} {lb : List β}
theorem Two.nil_ (w : World) : Two E e E' e' w w (.slice none 0 0) [] (.slice none 0 0) [] := ⟨Own.nil_ _, Own.nil_ _, .inl rfl⟩
theorem Two.alloc (h : Two E e E' e' w0 w va la vb lb) (o : Obj) : Two E e E' e' w0 (w.alloc o) va la vb lb := ⟨h.a.alloc o, h.b.alloc o, h.ne⟩
theorem Two.drew (h : Two E e E' e' w0 w va la vb lb) : Two E e E' e' w0 w.drew va la vb lb := ⟨h.a.drew, h.b.drew, h.ne⟩
theorem Two.below (h : Two E e E' e' w0 w va la vb lb) (hb : Below w.heap.size w w') : Two E e E' e' w0 w' va la vb lb := ⟨h.a.below hb, h.b.below hb, h.ne⟩
theorem Two.swap (h : Two E e E' e' w0 w va la vb lb) : Two E' e' E e w0 w vb lb va la := ⟨h.b, h.a, by
  rcases h.ne with h | h
  · cases hv : vb.ownBlock with
    | none => exact .inl rfl
    | some k => right; rw [h]; simp
  · exact .inr (Ne.symm h)⟩
theorem Two.lt (h : Two E e E' e' w0 w va la vb lb) : (∀ k, va.ownBlock = some k → k < w.heap.size) ∧ ∀ k, vb.ownBlock = some k → k < w.heap.size := ⟨fun k hk => (h.a.1.lt k hk).2, fun k hk => (h.b.1.lt k hk).2⟩

theorem Two.run_a {P : Program} (h : Two E e E' e' w0 w va la vb lb) (hk : E.k = 1) (t ty : TypeId) (bytes : Nat) (he : ElemOf P t e E.k bytes) {x : α} {u : Value} (hx : E.enc x = [u]) {g o c : Nat} (hc : w.cell? ⟨g, o, none⟩ = some u)
    (h63 : la.length + 1 ≤ maxLen) (hbytes : (la.length + 1) * bytes ≤ 140737488355328) :
    ∃ v' w', (Builtin.append_ #[t, t] ty #[va, .slice (some ⟨g, o, none⟩) 1 c]).run P w = .ok v' w' ∧ Two E e E' e' w0 w' v' (la ++ [x]) vb lb ∧ w.grownBy w' va.ownBlock := by
  obtain ⟨i, z, ht, hi, hz, hsize, hby, hzs⟩ := he
  have hb := h.a.2
  have hnews : ∀ j y, ([u] : List Value)[j]? = some y → w.cell? ((⟨g, o, none⟩ : Addr).add j) = some y := fun j y hj => by
    cases j with
    | zero => simp at hj; subst hj; rw [add_off, Nat.add_zero]; exact hc
    | succ j => simp at hj
  have h1 : ∀ y ∈ ([u] : List Value), y.oneCell' = true := fun y hy => E.one x y (by rw [hx]; exact hy)
  obtain ⟨v', w', hrun, h2, h3, _, h5⟩ := run_append_own_at (P := P) w w0.heap.size t ty e i z E.k bytes ht hi hz hsize hby hzs E.pos va la.length _ h.a.1 ⟨g, o, none⟩ 1 c [u] (by rw [hk]; rfl) hnews h1 h63 hbytes hb.size
  have hbl := hb.grown h3 hb.size (fun k hk => (h.a.1.lt k hk).1)
  refine ⟨v', w', hrun, ⟨⟨?_, hbl⟩, own_kept2 h.b h3 h.swap.ne hbl, ?_⟩, h3⟩
  · rw [List.length_append, List.flatMap_append]
    have : ([x] : List α).flatMap E.enc = [u] := by simp [hx]
    rw [this]
    exact h2
  · rcases h5 with h5 | h5
    · rw [h5]; exact h.ne
    · right
      rw [h5]
      intro hh
      have := h.lt.2 _ hh.symm
      omega

variable {P : Program} {ops : Array Oper} {o : Oper} {a : Act} {K : Act → World → Prop} {Q : Exit → Act → World → Prop} {F : Prop}
theorem step_two_a (w : World) (hgd : o.guard = none) (s x : Operand) (t : TypeId)
    (ho : o.op = .call { callee := .builtin .append, args := #[s, x], argTypes := #[t, t] }) (bytes : Nat) (he : ElemOf P t e E.k bytes) (hk : E.k = 1)
    (hs : a.eval s = va) (h : Two E e E' e' w0 w va la vb lb) (H : Nat) (hH : ∀ k, va.ownBlock = some k → k < H) {y : α} {u : Value} (hy : E.enc y = [u]) {g oo c : Nat} (hx : a.eval x = .slice (some ⟨g, oo, none⟩) 1 c) (hc : w.cell? ⟨g, oo, none⟩ = some u)
    (h63 : la.length + 1 ≤ maxLen) (hbytes : (la.length + 1) * bytes ≤ 140737488355328)
    (k : ∀ v' w', Two E e E' e' w0 w' v' (la ++ [y]) vb lb → (∀ g o u, H ≤ g → w.cell? ⟨g, o, none⟩ = some u → w'.cell? ⟨g, o, none⟩ = some u) → K (a.put o.dst v') w') :
    if Region.wanted o (yielded ops a.tmps) = true then Oper.wp P o a w K Q else F := by
  have hw : Region.wanted o (yielded ops a.tmps) = true := by simp [Region.wanted, hgd]
  rw [if_pos hw]
  obtain ⟨v', w', hrun, h2, h3⟩ := h.run_a (P := P) hk t o.type bytes he hy (c := c) hc h63 hbytes
  unfold Oper.wp execOp
  simp only [ho, resolve, invoke, builtin, Sem.run_bind, Sem.run_pure, Result.andThen_ok, List.map_toArray, List.map_cons, List.map_nil, hs, hx, hrun]
  exact k v' w' h2 fun g o u hg hcell => h3.cell hcell (fun e => by have := hH g (by simpa using e.symm); omega)
theorem step_two_b (w : World) (hgd : o.guard = none) (s x : Operand) (t : TypeId)
    (ho : o.op = .call { callee := .builtin .append, args := #[s, x], argTypes := #[t, t] }) (bytes : Nat) (he : ElemOf P t e' E'.k bytes) (hk : E'.k = 1)
    (hs : a.eval s = vb) (h : Two E e E' e' w0 w va la vb lb) (H : Nat) (hH : ∀ k, vb.ownBlock = some k → k < H) {y : β} {u : Value} (hy : E'.enc y = [u]) {g oo c : Nat} (hx : a.eval x = .slice (some ⟨g, oo, none⟩) 1 c) (hc : w.cell? ⟨g, oo, none⟩ = some u)
    (h63 : lb.length + 1 ≤ maxLen) (hbytes : (lb.length + 1) * bytes ≤ 140737488355328)
    (k : ∀ v' w', Two E e E' e' w0 w' va la v' (lb ++ [y]) → (∀ g o u, H ≤ g → w.cell? ⟨g, o, none⟩ = some u → w'.cell? ⟨g, o, none⟩ = some u) → K (a.put o.dst v') w') :
    if Region.wanted o (yielded ops a.tmps) = true then Oper.wp P o a w K Q else F :=
  step_two_a w hgd s x t ho bytes he hk hs h.swap H hH hy hx hc h63 hbytes fun v' w' h2 h3 => k v' w' h2.swap h3
end

end Go.Proofs.Ytemcflfgoelpiaa
