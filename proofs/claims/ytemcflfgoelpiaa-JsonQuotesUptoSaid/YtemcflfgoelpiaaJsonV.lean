/- A JSON value in memory, and how it stands. -/
import Derived.Test.YtemcflfgoelpiaaJsonT2
import Derived.Maps.AppendAt
namespace Go.Proofs.Ytemcflfgoelpiaa
open Go.RowKit

/-- The four cells of a value. -/
structure Raw where
  kind : Int
  text : ByteArray
  kA : Option Addr
  kn : Nat
  kc : Nat
  jA : Option Addr
  jn : Nat
  jc : Nat
def Raw.cells (r : Raw) : List Value := [.int .i64 r.kind, .string r.text, .slice r.kA r.kn r.kc, .slice r.jA r.jn r.jc]
def Eval : Enc Raw := ⟨Raw.cells, 4, by decide, fun _ => rfl, fun a u hu => by
  simp only [Raw.cells, List.mem_cons, List.not_mem_nil, or_false] at hu
  rcases hu with rfl | rfl | rfl | rfl <;> rfl⟩
def str (l : List UInt8) : ByteArray := ⟨l.toArray⟩

/-- A sequence that lies in a block of which A holds. -/
def SeqP {α : Type} (E : Enc α) (w : World) (A : Nat → Prop) (ad : Option Addr) (l : List α) : Prop :=
  0 < l.length → ∃ b off, ad = some ⟨b, off, none⟩ ∧ A b ∧ b < w.heap.size ∧ ∀ j, j < l.length * E.k → w.cell? ⟨b, off + j, none⟩ = some ((l.flatMap E.enc).getD j undef)
/-- The blocks of which A holds stand. -/
structure Stand (A : Nat → Prop) (w w' : World) : Prop where
  size : w.heap.size ≤ w'.heap.size
  block : ∀ k, A k → k < w.heap.size → w'.heap[k]? = w.heap[k]?
section
variable {α : Type} {E : Enc α} {A A' : Nat → Prop} {w w' : World} {ad : Option Addr} {l : List α}
theorem SeqP.nil_ : SeqP E w A ad ([] : List α) := fun h => absurd h (by simp)
theorem SeqP.on (h : SeqP E w A ad l) (k : Stand A w w') : SeqP E w' A ad l := fun hn => by
  obtain ⟨b, off, e, ha, hlt, hc⟩ := h hn
  exact ⟨b, off, e, ha, Nat.lt_of_lt_of_le hlt k.size, fun j hj => (World.cell?_of_block (k.block b ha hlt)).trans (hc j hj)⟩
theorem SeqP.mono (h : SeqP E w A ad l) (k : ∀ b, A b → b < w.heap.size → A' b) : SeqP E w A' ad l := fun hn => by
  obtain ⟨b, off, e, ha, hlt, hc⟩ := h hn
  exact ⟨b, off, e, k b ha hlt, hlt, hc⟩
theorem SeqP.seq (h : SeqP E w A ad l) : SeqAt E w w.heap.size ad l := fun hn => by
  obtain ⟨b, off, e, _, hlt, hc⟩ := h hn
  exact ⟨b, off, e, hlt, hc⟩
theorem Stand.mv {p : Nat} (h : Mv p w w') (hp : ¬ A p) : Stand A w w' := ⟨h.size, fun k ha hk => h.heap hk (fun e => hp (by rw [← e]; exact ha))⟩
theorem Stand.below (h : Below w.heap.size w w') : Stand A w w' := ⟨h.size, fun k _ hk => h.block k hk⟩
theorem Stand.grown {r : Option Nat} (h : w.grownBy w' r) (hr : ∀ k, A k → some k ≠ r) : Stand A w w' := ⟨h.size, fun k ha hk => h.block k hk (hr k ha)⟩
theorem Stand.set (p : Addr) (u : Value) (hp : ¬ A p.block) : Stand A w (w.setCell p u) :=
  ⟨by simp [World.setCell], fun k ha _ => Below.heap_setCell w p u k (fun e => hp (by rw [← e]; exact ha))⟩
theorem OwnB.seqP {e : TypeId} {base n c : Nat} (h : OwnB E e base w (.slice ad n c) l) (hn : n = l.length) (hA : ∀ b, base ≤ b → A b) : SeqP E w A ad l := fun hl => by
  subst hn
  obtain ⟨b, off, e', hlt, hc⟩ := h.seq hl
  refine ⟨b, off, e', ?_, hlt, hc⟩
  rcases h.1.2 with ⟨h', h0⟩ | ⟨g, cap, cur, h', hb, _⟩
  · omega
  · injection h' with h1 _ _
    rw [h1] at e'
    injection e' with e'
    injection e' with e1 e2
    exact hA b (by omega)
theorem OwnB.seqPo {e : TypeId} {base n c : Nat} (h : OwnB E e base w (.slice ad n c) l) (hn : n = l.length) (hA : ∀ b, base ≤ b → (Value.slice ad n c).ownBlock = some b → A b) : SeqP E w A ad l := fun hl => by
  subst hn
  obtain ⟨b, off, e', hlt, hc⟩ := h.seq hl
  refine ⟨b, off, e', ?_, hlt, hc⟩
  rcases h.1.2 with ⟨h', h0⟩ | ⟨g, cap, cur, h', hb, _⟩
  · omega
  · injection h' with h1 _ _
    rw [h1] at e'
    injection e' with e'
    injection e' with e1 e2
    exact hA b (by omega) (by rw [h1]; simp [Value.ownBlock, e1])
theorem OwnB.grown {e : TypeId} {base : Nat} {v : Value} {r : Option Nat} (h : OwnB E e base w v l) (k : w.grownBy w' r) (hr : v.ownBlock = none ∨ v.ownBlock ≠ r) : OwnB E e base w' v l := ⟨h.1.kept k hr, Nat.le_trans h.2 k.size⟩
end

mutual
/-- The value with these cells lies in memory, in blocks of which A holds. -/
def Lies (w : World) (A : Nat → Prop) : JsonP.J → Raw → Prop
  | .mk k t ks js, r => r.kind = k ∧ r.text = str t ∧ r.kn = ks.length ∧ r.kn ≤ r.kc ∧ r.kc ≤ maxLen ∧ SeqP Estr w A r.kA (ks.map str) ∧ r.jn = js.length ∧ r.jn ≤ r.jc ∧ r.jc ≤ maxLen ∧
      ∃ rs : List Raw, rs.length = js.length ∧ SeqP Eval w A r.jA rs ∧ LiesL w A js rs
def LiesL (w : World) (A : Nat → Prop) : List JsonP.J → List Raw → Prop
  | [], _ => True
  | _ :: _, [] => False
  | j :: js, r :: rs => Lies w A j r ∧ LiesL w A js rs
end

mutual
theorem Lies.on {w w' : World} {A : Nat → Prop} (hm : Stand A w w') : ∀ (j : JsonP.J) (r : Raw), Lies w A j r → Lies w' A j r
  | .mk k t ks js, r => fun h => by
    unfold Lies at h ⊢
    obtain ⟨h1, h2, h3, h4, h5, h6, h7, h8, h9, rs, h10, h11, h12⟩ := h
    exact ⟨h1, h2, h3, h4, h5, h6.on hm, h7, h8, h9, rs, h10, h11.on hm, LiesL.on hm js rs h12⟩
theorem LiesL.on {w w' : World} {A : Nat → Prop} (hm : Stand A w w') : ∀ (js : List JsonP.J) (rs : List Raw), LiesL w A js rs → LiesL w' A js rs
  | [], rs => fun _ => by unfold LiesL; trivial
  | j :: js, [] => fun h => by unfold LiesL at h; exact h.elim
  | j :: js, r :: rs => fun h => by
    unfold LiesL at h ⊢
    exact ⟨Lies.on hm j r h.1, LiesL.on hm js rs h.2⟩
end
mutual
theorem Lies.mono {w : World} {A A' : Nat → Prop} (hm : ∀ b, A b → b < w.heap.size → A' b) : ∀ (j : JsonP.J) (r : Raw), Lies w A j r → Lies w A' j r
  | .mk k t ks js, r => fun h => by
    unfold Lies at h ⊢
    obtain ⟨h1, h2, h3, h4, h5, h6, h7, h8, h9, rs, h10, h11, h12⟩ := h
    exact ⟨h1, h2, h3, h4, h5, h6.mono hm, h7, h8, h9, rs, h10, h11.mono hm, LiesL.mono hm js rs h12⟩
theorem LiesL.mono {w : World} {A A' : Nat → Prop} (hm : ∀ b, A b → b < w.heap.size → A' b) : ∀ (js : List JsonP.J) (rs : List Raw), LiesL w A js rs → LiesL w A' js rs
  | [], rs => fun _ => by unfold LiesL; trivial
  | j :: js, [] => fun h => by unfold LiesL at h; exact h.elim
  | j :: js, r :: rs => fun h => by
    unfold LiesL at h ⊢
    exact ⟨Lies.mono hm j r h.1, LiesL.mono hm js rs h.2⟩
end
theorem LiesL.snoc {w : World} {A : Nat → Prop} {j : JsonP.J} {r : Raw} (h : Lies w A j r) : ∀ (js : List JsonP.J) (rs : List Raw), rs.length = js.length → LiesL w A js rs → LiesL w A (js ++ [j]) (rs ++ [r])
  | [], [] => fun _ _ => by
    show LiesL w A [j] [r]
    unfold LiesL
    exact ⟨h, by unfold LiesL; trivial⟩
  | [], _ :: _ => fun hl _ => by simp at hl
  | _ :: _, [] => fun hl _ => by simp at hl
  | j' :: js, r' :: rs => fun hl hh => by
    unfold LiesL at hh
    show LiesL w A (j' :: (js ++ [j])) (r' :: (rs ++ [r]))
    unfold LiesL
    exact ⟨hh.1, LiesL.snoc h js rs (by simpa using hl) hh.2⟩
theorem LiesL.at_ {w : World} {A : Nat → Prop} : ∀ (js : List JsonP.J) (rs : List Raw) (i : Nat) (hi : i < js.length) (hr : i < rs.length), LiesL w A js rs → Lies w A js[i] rs[i]
  | [], _ => fun i hi => absurd hi (Nat.not_lt_zero _)
  | _ :: _, [] => fun i _ hr => absurd hr (Nat.not_lt_zero _)
  | j :: js, r :: rs => fun i hi hr h => by
    unfold LiesL at h
    cases i with
    | zero => exact h.1
    | succ i => exact LiesL.at_ js rs i (by simpa using hi) (by simpa using hr) h.2

def leafRaw (k : Int) (t : ByteArray) : Raw := ⟨k, t, none, 0, 0, none, 0, 0⟩
theorem Lies.leaf (w : World) (A : Nat → Prop) (k : Nat) (t : List UInt8) : Lies w A (.mk k t [] []) (leafRaw k (str t)) := by
  unfold Lies
  exact ⟨rfl, rfl, rfl, Nat.le_refl _, Nat.zero_le _, SeqP.nil_, rfl, Nat.le_refl _, Nat.zero_le _, [], rfl, SeqP.nil_, by unfold LiesL; trivial⟩

/-- In a region that draws its order: 'out = append(out, x)', and where the new row lies. -/
theorem step_append_one {P : Program} {ops : Array Oper} {α : Type} {E : Enc α} {e : TypeId} {base : Nat} {v : Value} {l : List α} {o : Oper} {a : Act} {K : Act → World → Prop} {Q : Exit → Act → World → Prop} {F : Prop} {w : World} (x : α) (ad : Addr) (c : Nat) (hgd : o.guard = none) (s xo : Operand) (t : TypeId)
    (ho : o.op = .call { callee := .builtin .append, args := #[s, xo], argTypes := #[t, t] }) (bytes : Nat) (he : ElemOf P t e E.k bytes)
    (hs : a.eval s = v) (hown : OwnB E e base w v l) (hx : a.eval xo = .slice (some ad) 1 c) (hnews : ∀ j u, (E.enc x)[j]? = some u → w.cell? (ad.add j) = some u)
    (h63 : l.length + 1 ≤ maxLen) (hbytes : (l.length + 1) * bytes ≤ 140737488355328)
    (h : ∀ v' w', OwnB E e base w' v' (l ++ [x]) → w.grownBy w' v.ownBlock → (v'.ownBlock = v.ownBlock ∨ v'.ownBlock = some w.heap.size) → K (a.put o.dst v') w') : if Region.wanted o (yielded ops a.tmps) = true then Oper.wp P o a w K Q else F := by
  rw [if_pos (by simp [Region.wanted, hgd])]
  obtain ⟨i, z, ht, hi, hz, hsize, hby, hzs⟩ := he
  obtain ⟨v', w', hr, h2, h3, _, h5⟩ := run_append_own_at (P := P) w base t o.type e i z E.k bytes ht hi hz hsize hby hzs E.pos v l.length (l.flatMap E.enc) hown.1 ad 1 c (E.enc x) (by rw [E.len, Nat.one_mul]) hnews (E.one x) h63 hbytes hown.2
  have hO : OwnB E e base w' v' (l ++ [x]) := ⟨by
    have := h2
    rw [List.length_append, List.flatMap_append, List.flatMap_singleton, List.length_singleton]
    exact this, Nat.le_trans hown.2 h3.size⟩
  unfold Oper.wp execOp
  simp only [ho, resolve, invoke, builtin, Sem.run_bind, Sem.run_pure, Result.andThen_ok, List.map_toArray, List.map_cons, List.map_nil, hs, hx, hr]
  exact h v' w' hO h3 h5

/-- In a plain region: 'out = append(out, x)', and where the new row lies. -/
theorem wpList_append_one {P : Program} {ops : Array Oper} {rest : List Oper} {α : Type} {E : Enc α} {e : TypeId} {base : Nat} {v : Value} {l : List α} {o : Oper} {a : Act} {Q : Exit → Act → World → Prop} {w : World} (x : α) (ad : Addr) (c : Nat) (hgd : o.guard = none) (s xo : Operand) (t : TypeId)
    (ho : o.op = .call { callee := .builtin .append, args := #[s, xo], argTypes := #[t, t] }) (bytes : Nat) (he : ElemOf P t e E.k bytes)
    (hs : a.eval s = v) (hown : OwnB E e base w v l) (hx : a.eval xo = .slice (some ad) 1 c) (hnews : ∀ j u, (E.enc x)[j]? = some u → w.cell? (ad.add j) = some u)
    (h63 : l.length + 1 ≤ maxLen) (hbytes : (l.length + 1) * bytes ≤ 140737488355328)
    (h : ∀ v' w', OwnB E e base w' v' (l ++ [x]) → w.grownBy w' v.ownBlock → (v'.ownBlock = v.ownBlock ∨ v'.ownBlock = some w.heap.size) → wpList P ops Q rest (a.put o.dst v') w') : wpList P ops Q (o :: rest) a w := by
  refine wpList_plain hgd fun K hK => ?_
  have := step_append_one (P := P) (ops := ops) (K := K) (Q := Q) (F := True) x ad c hgd s xo t ho bytes he hs hown hx hnews h63 hbytes (fun v' w' h1 h2 h3 => hK _ _ (h v' w' h1 h2 h3))
  rwa [if_pos (by simp [Region.wanted, hgd])] at this

end Go.Proofs.Ytemcflfgoelpiaa
