/- Chapter 10: the parser of patterns: the open brackets and the flags in memory, as brackets turn them.
  Chapter 10: the parser of patterns: what brackets hold: their result's box, the flags ahead of them, their node.
  Chapter 10: the last node of a row of the call's own, stored anew. -/
import Derived.Test.YtblkejnckbeieaaGreatDoorZk11
import Derived.Test.YtblkejnckbeieaaGreatDoorZk10
import Derived.WalkSmall
namespace Go.Proofs.YtblkejnckbeieaaGreatDoor
open Go.RowKit SetPure

section
variable {w : World} {X : Cx} {p : Pv} {s : SynP.St}
/-- The last open bracket: where its number lies. -/
theorem PS.last_open (h : PS w X p s) {l : List Nat} {k : Nat} (hl : s.opn = l ++ [k]) : ∃ g c, p.op = .slice (some ⟨g, 0, none⟩) (l.length + 1) c ∧ l.length + 1 ≤ c ∧ w.cell? ⟨g, l.length, none⟩ = some (.int .i64 k) ∧ g ≠ X.b ∧ g < w.heap.size ∧ k ≤ X.rs.length ∧
    OwnB Eint 3 X.B w (.slice (some ⟨g, 0, none⟩) l.length c) (l.map fun k : Nat => (k : Int)) := by
  have ho := h.opn
  rw [hl, List.map_append, List.map_cons, List.map_nil] at ho
  have hk : k ≤ X.rs.length := h.opk k (by rw [hl]; simp)
  have hn : (l.map (fun k : Nat => (k : Int)) ++ [(k : Int)]).length = l.length + 1 := by simp
  rcases ho.1.2 with ⟨_, hh⟩ | ⟨g, c, cur, hv, hb, hg, hc, _⟩
  · rw [hn] at hh; omega
  · rw [hn] at hv hc
    have h1 := ho.1
    rw [hv, hn] at h1
    have hfl : (l.map (fun k : Nat => (k : Int)) ++ [(k : Int)]).flatMap Eint.enc = (l.map fun k : Nat => (k : Int)).flatMap Eint.enc ++ [.int .i64 k] := by simp [Eint]
    have hLn : ((l.map fun k : Nat => (k : Int)).flatMap Eint.enc).length = l.length * 1 := by rw [Eint.flat_len, List.length_map]; rfl
    rw [hfl] at h1
    refine ⟨g, c, hv, hc, ?_, ?_, (Array.getElem?_eq_some_iff.1 hg).1, hk, ⟨?_, ho.2⟩⟩
    · rw [h1.cellAt l.length (by show l.length < (l.length + 1) * 1; omega), List.getElem?_append_right (by omega), hLn, show l.length - l.length * 1 = 0 by omega]
      rfl
    · rintro rfl
      have := h.at_.blk
      rw [hg] at this
      injection this with this
      injection this with _ this
      exact absurd this (by decide)
    · rw [List.length_map]
      exact ownsRow_pop (size := Eint.k) hLn h1
/-- 'p.open = p.open[:len(p.open)-1]'. -/
theorem PS.pop (h : PS w X p s) {l : List Nat} {k : Nat} (hl : s.opn = l ++ [k]) {v : Value} (ho : OwnB Eint 3 X.B w v (l.map fun k : Nat => (k : Int))) : PS (w.setCell ⟨X.b, 5, none⟩ v) X { p with op := v } { s with opn := l } := by
  have hm := mv_cell w X 5 v
  refine ⟨h.at_.setOp v, h.fl, ho.mvT h.at_ hm (by decide), h.nms.mvT h.at_ hm (by decide), ?_, fun q hq => h.opk q (by rw [hl]; exact List.mem_append_left _ hq), h.nml⟩
  have := h.opl
  rw [hl, List.length_append] at this
  show l.length ≤ 32
  omega
/-- 'p.open = append(p.open, k)', behind the append. -/
theorem PS.push (h : PS w X p s) {k : Nat} (hk : k ≤ X.rs.length) (hn : s.opn.length < 32) {v : Value} (ho : OwnB Eint 3 X.B w v ((s.opn ++ [k]).map fun k : Nat => (k : Int))) : PS (w.setCell ⟨X.b, 5, none⟩ v) X { p with op := v } { s with opn := s.opn ++ [k] } := by
  have hm := mv_cell w X 5 v
  refine ⟨h.at_.setOp v, h.fl, ho.mvT h.at_ hm (by decide), h.nms.mvT h.at_ hm (by decide), ?_, fun q hq => ?_, h.nml⟩
  · show (s.opn ++ [k]).length ≤ 32
    rw [List.length_append, List.length_singleton]
    omega
  · rcases List.mem_append.1 hq with hq | hq
    · exact h.opk q hq
    · rw [List.mem_singleton.1 hq]; exact hk
/-- 'p.Flags = f'. -/
theorem PS.setFl (h : PS w X p s) (f : SynP.Fl) : PS ((((w.setCell ⟨X.b, 7, none⟩ (.bool f.fold)).setCell ⟨X.b, 8, none⟩ (.bool f.lines)).setCell ⟨X.b, 9, none⟩ (.bool f.dot)).setCell ⟨X.b, 10, none⟩ (.bool f.lazy)) X { p with f := f } { s with fl := f } := by
  obtain ⟨h1, h2⟩ := h.at_.setFl f
  exact ⟨h1, rfl, h.opn.mvT h.at_ h2 (by decide), h.nms.mvT h.at_ h2 (by decide), h.opl, h.opk, h.nml⟩
end

end Go.Proofs.YtblkejnckbeieaaGreatDoor

namespace Go.Proofs.YtblkejnckbeieaaGreatDoor
open Go.RowKit SetPure

/-- A group, behind its first sign: the alternatives in it, and its end. -/
def bodyS (rs : List Int) (m : Nat) (from_ : Nat) (g : Option (Nat × List UInt8)) (was : SynP.Fl) (s1 : SynP.St) : SynP.R (Option SynP.Nd × SynP.St) :=
  match goS rs m (.alts []) { s1 with opn := s1.opn ++ [from_] } with
  | .bad e k => .bad e k
  | .ok (x, s2) => if SynP.pk rs s2.at_ ≠ 41 then .bad 25 (s2.opn.getLast?.getD 0)
    else .ok ((match g with | none => x | some (cap, nm) => x.map (SynP.Nd.grp cap nm)), { s2 with at_ := s2.at_ + 1, opn := s2.opn.dropLast, fl := was })
theorem goS_brk (rs : List Int) (m : Nat) (s : SynP.St) (h : SynP.pk rs s.at_ = 40) : goS rs (m + 1) .atom s =
    if 32 ≤ s.opn.length then .bad 21 s.at_
    else if SynP.pk rs (s.at_ + 1) = 63 then
      if SynP.pk rs (s.at_ + 2) = 80 then
        match SynP.name rs s.names s.at_ (s.at_ + 3) with
        | .bad e k => .bad e k
        | .ok (nm, j) => bodyS rs m s.at_ (some (s.names.length, nm)) s.fl { s with at_ := j, names := s.names ++ [nm] }
      else
        match SynP.flags rs s.at_ (rs.length + 1) true false s.fl [] [] (s.at_ + 2) with
        | .bad e k => .bad e k
        | .ok (false, f, j) => .ok (none, { s with at_ := j, fl := f })
        | .ok (true, f, j) => bodyS rs m s.at_ none s.fl { s with at_ := j, fl := f }
    else bodyS rs m s.at_ (some (s.names.length, [])) s.fl { s with at_ := s.at_ + 1, names := s.names ++ [[]] } := by
  unfold goS bodyS goS
  rw [SynP.go]
  simp only [h, if_true]
  rfl

/-- What brackets hold. -/
structure BrkS (w wr : World) (V : Nat) (X : Cx) (p : Pv) (s : SynP.St) (was : SynP.Fl) (cs : Array Value) : Prop where
  hV : w.heap.size = V
  hB : X.B ≤ V
  pm : Pm w wr X
  ps : PS wr X p s
  box : BoxN wr V zeroA
  fb : wr.heap[V + 1]? = some (.cells (flA was) 39 (0, 0))
  nb : BoxN wr (V + 2) cs
section
variable {w wr wx : World} {V : Nat} {X : Cx} {p p' : Pv} {s s' : SynP.St} {was : SynP.Fl} {cs : Array Value}
theorem BrkS.lt (h : BrkS w wr V X p s was cs) : V + 2 < wr.heap.size := h.nb.lt
theorem BrkS.step (h : BrkS w wr V X p s was cs) (k : Pm wr wx X) (hp : PS wx X p' s') : BrkS w wx V X p' s' was cs :=
  ⟨h.hV, h.hB, h.pm.step k, hp, (k.keep V _ _ _ h.box (by decide) (by decide) (by decide)).trans h.box, (k.keep (V + 1) _ _ _ h.fb (by decide) (by decide) (by decide)).trans h.fb, (k.keep (V + 2) _ _ _ h.nb (by decide) (by decide) (by decide)).trans h.nb⟩
theorem BrkS.below (h : BrkS w wr V X p s was cs) (k : Below wr.heap.size wr wx) : BrkS w wx V X p s was cs := h.step (Pm.below h.ps.lo k) (h.ps.below k)
theorem BrkS.mv (h : BrkS w wr V X p s was cs) (k : Mv X.b wr wx) {j : Nat} (ha : At wx X p j) (hj : s.at_ ≤ j) : BrkS w wx V X p { s with at_ := j } was cs := h.step (Pm.mv h.ps.at_ k) (h.ps.mv k ha hj)
/-- A field of the node is stored. -/
theorem BrkS.field (h : BrkS w wr V X p s was cs) (o : Nat) (u : Value) : BrkS w (wr.setCell ⟨V + 2, o, none⟩ u) V X p s was (cs.setIfInBounds o u) := by
  have hV := h.hV
  have hB := h.hB
  have hlt := h.lt
  have hbel : Below V wr (wr.setCell ⟨V + 2, o, none⟩ u) := (Below.refl _ wr).setCell (p := ⟨V + 2, o, none⟩) (by show V ≤ V + 2; omega) u
  have hne : X.b ≠ V + 2 := by
    intro e
    have := h.ps.at_.blk
    rw [e, h.nb] at this
    injection this with this
    injection this with _ this
    exact absurd this (by decide)
  have hg : wr.grownBy (wr.setCell ⟨V + 2, o, none⟩ u) (some (V + 2)) := ⟨rfl, rfl, rfl, by simp [World.setCell], fun k _ hk => Below.heap_setCell wr ⟨V + 2, o, none⟩ u k (fun e => hk (congrArg some e))⟩
  have hown : ∀ {α : Type} {E : Enc α} {e : TypeId} {v : Value} {l : List α}, OwnB E e X.B wr v l → 29 ≠ e → OwnB E e X.B (wr.setCell ⟨V + 2, o, none⟩ u) v l := fun ho he => ho.kept_ hg (.inr (ho.ne_ h.nb he))
  refine ⟨hV, hB, h.pm.of_new (by rw [hV]; exact hbel) (by omega), ⟨h.ps.at_.mv_ (hbel.mono hB) (hg.block X.b h.ps.at_.lt (fun e => hne (Option.some.inj e))), h.ps.fl, hown h.ps.opn (by decide), hown h.ps.nms (by decide), h.ps.opl, h.ps.opk, h.ps.nml⟩, (hg.block V (by omega) (fun e => by have := Option.some.inj e; omega)).trans h.box, (hg.block (V + 1) (by omega) (fun e => by have := Option.some.inj e; omega)).trans h.fb, ?_⟩
  have := h.nb
  unfold BoxN at this ⊢
  simp only [World.setCell, Array.getElem?_modify, if_true, this, Option.map_some]
  rfl
/-- The node is stored anew, whole. -/
theorem BrkS.whole (h : BrkS w wr V X p s was cs) (cs' : Array Value) : BrkS w (wr.setRow (V + 2) cs') V X p s was cs' := by
  have hV := h.hV
  have hB := h.hB
  have hlt := h.lt
  have hbel : Below V wr (wr.setRow (V + 2) cs') := below_setRow_ (Below.refl _ _) (by omega) _
  have hne : X.b ≠ V + 2 := by
    intro e
    have := h.ps.at_.blk
    rw [e, h.nb] at this
    injection this with this
    injection this with _ this
    exact absurd this (by decide)
  have hg : wr.grownBy (wr.setRow (V + 2) cs') (some (V + 2)) := ⟨rfl, rfl, rfl, by simp, fun k _ hk => setRow_other _ _ _ _ (fun e => hk (by rw [e]))⟩
  have hown : ∀ {α : Type} {E : Enc α} {e : TypeId} {v : Value} {l : List α}, OwnB E e X.B wr v l → 29 ≠ e → OwnB E e X.B (wr.setRow (V + 2) cs') v l := fun ho he => ho.kept_ hg (.inr (ho.ne_ h.nb he))
  exact ⟨hV, hB, h.pm.of_new (by rw [hV]; exact hbel) (by omega), ⟨h.ps.at_.mv_ (hbel.mono hB) (hg.block X.b h.ps.at_.lt (fun e => hne (Option.some.inj e))), h.ps.fl, hown h.ps.opn (by decide), hown h.ps.nms (by decide), h.ps.opl, h.ps.opk, h.ps.nml⟩, (hg.block V (by omega) (fun e => by have := Option.some.inj e; omega)).trans h.box, (hg.block (V + 1) (by omega) (fun e => by have := Option.some.inj e; omega)).trans h.fb, setRow_heap _ _ _ _ _ _ h.nb⟩
end

end Go.Proofs.YtblkejnckbeieaaGreatDoor

namespace Go.Proofs.YtblkejnckbeieaaGreatDoor
open Go.RowKit SetPure

theorem set_tail {α : Type} (F T : List α) (k : Nat) (x : α) : (F ++ T).set (F.length + k) x = F ++ T.set k x := by
  rw [List.set_append_right _ _ (Nat.le_add_right _ _), Nat.add_sub_cancel_left]
/-- The nine cells of a node, stored. -/
def put9 (w : World) (g b : Nat) (q : RawN) : World :=
  ((((((((w.setCell ⟨g, b, none⟩ (.int .i64 q.kind)).setCell ⟨g, b + 1, none⟩ (.slice q.sA q.sn q.sc)).setCell ⟨g, b + 2, none⟩ (.bool q.fold)).setCell ⟨g, b + 3, none⟩ (.int .i64 q.mn)).setCell ⟨g, b + 4, none⟩ (.int .i64 q.mx)).setCell ⟨g, b + 5, none⟩ (.bool q.lazy)).setCell ⟨g, b + 6, none⟩ (.int .i64 q.cap)).setCell ⟨g, b + 7, none⟩ (.string q.name)).setCell ⟨g, b + 8, none⟩ (.slice q.kA q.kn q.kc)
theorem grown_cell9 (w : World) (g b : Nat) (q : RawN) : w.grownBy (put9 w g b q) (some g) := by
  have h1 : ∀ (w : World) (o : Nat) (v : Value), w.grownBy (w.setCell ⟨g, o, none⟩ v) (some g) := fun w o v =>
    ⟨rfl, rfl, rfl, by simp [World.setCell], fun k _ hne => by simp only [World.setCell, Array.getElem?_modify]; rw [if_neg (fun e => hne (by rw [e]))]⟩
  have tr : ∀ {a b c : World}, a.grownBy b (some g) → b.grownBy c (some g) → a.grownBy c (some g) := fun h k => Mv.step h k
  exact tr (tr (tr (tr (tr (tr (tr (tr (h1 _ _ _) (h1 _ _ _)) (h1 _ _ _)) (h1 _ _ _)) (h1 _ _ _)) (h1 _ _ _)) (h1 _ _ _)) (h1 _ _ _)) (h1 _ _ _)
theorem own_node {base : Nat} {w : World} {v : Value} {rs0 : List RawN} {r : RawN} (h : OwnB Enode 29 base w v (rs0 ++ [r])) : ∃ g c, v = .slice (some ⟨g, 0, none⟩) (rs0.length + 1) c ∧ base ≤ g ∧ g < w.heap.size ∧
    (∀ o, o < 9 → w.cell? ⟨g, rs0.length * 9 + o, none⟩ = r.cells[o]?) ∧ (∀ j, w.frozen? ⟨g, j, none⟩ = false) ∧ ∀ q : RawN, OwnB Enode 29 base (put9 w g (rs0.length * 9) q) v (rs0 ++ [q]) := by
  have h0 := h
  rcases h.1.2 with ⟨_, hh⟩ | ⟨g, c, cur, rfl, hb, hg, _⟩
  · simp at hh
  have hL : (rs0.flatMap Enode.enc).length = rs0.length * 9 := Enode.flat_len rs0
  have hn : (rs0 ++ [r]).length = rs0.length + 1 := by simp
  refine ⟨g, c, by rw [hn], hb, (Array.getElem?_eq_some_iff.1 hg).1, fun o ho => ?_, fun j => h.1.frozenAt j, fun q => ?_⟩
  · have hl : o < r.cells.length := ho
    have hf : (rs0 ++ [r]).flatMap Enode.enc = rs0.flatMap Enode.enc ++ r.cells := by simp [Enode]
    rw [h.1.cellAt _ (by rw [hn]; show _ < (rs0.length + 1) * 9; omega), hf, List.getElem?_append_right (by omega), hL, Nat.add_sub_cancel_left]
  · obtain ⟨h1, h2⟩ := h
    have hf : (rs0 ++ [r]).flatMap Enode.enc = rs0.flatMap Enode.enc ++ r.cells := by simp [Enode]
    have hfq : (rs0 ++ [q]).flatMap Enode.enc = rs0.flatMap Enode.enc ++ q.cells := by simp [Enode]
    have hnq : (rs0 ++ [q]).length = (rs0 ++ [r]).length := by simp
    rw [hf] at h1
    have s0 := (h1.stored (rs0.length * 9) (.int .i64 q.kind)).1
    have s1 := (s0.stored (rs0.length * 9 + 1) (.slice q.sA q.sn q.sc)).1
    have s2 := (s1.stored (rs0.length * 9 + 2) (.bool q.fold)).1
    have s3 := (s2.stored (rs0.length * 9 + 3) (.int .i64 q.mn)).1
    have s4 := (s3.stored (rs0.length * 9 + 4) (.int .i64 q.mx)).1
    have s5 := (s4.stored (rs0.length * 9 + 5) (.bool q.lazy)).1
    have s6 := (s5.stored (rs0.length * 9 + 6) (.int .i64 q.cap)).1
    have s7 := (s6.stored (rs0.length * 9 + 7) (.string q.name)).1
    have s8 := (s7.stored (rs0.length * 9 + 8) (.slice q.kA q.kn q.kc)).1
    refine ⟨?_, Nat.le_trans h2 (grown_cell9 w g _ q).size⟩
    rw [hfq, hnq]
    have e0 := set_tail (rs0.flatMap Enode.enc) r.cells 0 (.int .i64 q.kind)
    rw [hL, Nat.add_zero] at e0
    rw [e0] at s8
    have ek : ∀ (T : List Value) (k : Nat) (x : Value), (rs0.flatMap Enode.enc ++ T).set (rs0.length * 9 + k) x = rs0.flatMap Enode.enc ++ T.set k x := fun T k x => by rw [← hL]; exact set_tail _ T k x
    rw [ek, ek, ek, ek, ek, ek, ek, ek] at s8
    exact s8
theorem LiesL.split {w : World} {A : Nat → Prop} {nd : SynP.Nd} {r : RawN} : ∀ (l : List SynP.Nd) (rs : List RawN), rs.length = l.length → LiesL w A (l ++ [nd]) (rs ++ [r]) → LiesL w A l rs ∧ Lies w A nd r
  | [], [], _, h => ⟨by unfold LiesL; trivial, LiesL.of_one h⟩
  | [], _ :: _, hl, _ => by simp at hl
  | _ :: _, [], hl, _ => by simp at hl
  | j :: l, q :: rs, hl, h => by
    have h' : LiesL w A (j :: (l ++ [nd])) (q :: (rs ++ [r])) := h
    unfold LiesL at h'
    obtain ⟨h1, h2⟩ := LiesL.split l rs (by simpa using hl) h'.2
    exact ⟨by unfold LiesL; exact ⟨h'.1, h1⟩, h2⟩

section
variable {w wr : World} {V : Nat} {X : Cx} {p : Pv} {s : SynP.St} {l : List SynP.Nd} {rs0 : List RawN} {r q : RawN} {v : Value} {nd nd2 : SynP.Nd} {g c : Nat}
/-- The last node is stored anew. -/
theorem NdS.last (h : NdS w wr V X p s (l ++ [nd]) (rs0 ++ [r]) v) (hv : v = .slice (some ⟨g, 0, none⟩) (rs0.length + 1) c) (hq : Lies wr (fun k => V + 1 ≤ k ∧ v.ownBlock ≠ some k) nd2 q) : NdS w (put9 wr g (rs0.length * 9) q) V X p s (l ++ [nd2]) (rs0 ++ [q]) v := by
  obtain ⟨g', c', hv', hb, hlt, _, _, ho⟩ := own_node h.own
  have hgg : g = g' := Option.some.inj (congrArg Value.ownBlock (hv.symm.trans hv'))
  subst hgg
  have hV := h.hV
  have hB := h.hB
  have hVl := h.lt
  have hown : v.ownBlock = some g := by rw [hv]; rfl
  have hg := grown_cell9 wr g (rs0.length * 9) q
  have hoq := ho q
  generalize put9 wr g (rs0.length * 9) q = W at hg hoq ⊢
  have hg2 := hg
  rw [← hown] at hg2
  have hst : StandN (fun k => V + 1 ≤ k ∧ v.ownBlock ≠ some k) wr W := StandN.grown h.own hg2 (fun k hk => hk.2)
  have hbel : Below (V + 1) wr W := ⟨hg.os, hg.tape, hg.output, hg.size, fun k hk => hg.block k (by omega) (fun e => by injection e; omega)⟩
  have hpb : W.heap[X.b]? = wr.heap[X.b]? := hg2.block X.b h.ps.at_.lt (fun e => h.own.ne_ h.ps.at_.blk (by decide) e.symm)
  have hll : rs0.length = l.length := by have := h.len; simpa using this
  obtain ⟨l1, _⟩ := LiesL.split l rs0 hll h.lies
  exact ⟨hV, hB, h.pm.of_new (hbel.mono (by omega)) (by omega), ⟨h.ps.at_.mv_ (hbel.mono (by omega)) hpb, h.ps.fl, h.ps.opn.kept_ hg2 (h.ps.opn.apart h.own (by decide)), h.ps.nms.kept_ hg2 (h.ps.nms.apart h.own (by decide)), h.ps.opl, h.ps.opk, h.ps.nml⟩, (hbel.block V (by omega)).trans h.box, hoq, by simp [hll], LiesL.on hst _ _ (LiesL.app l rs0 [nd2] [q] hll l1 (LiesL.one hq))⟩
end
/-- A quantifier's node over a fresh row of one. -/
def repN (a b : Int) (lazy : Bool) (g : Nat) : RawN := ⟨10, none, 0, 0, false, a, b, lazy, 0, ⟨#[]⟩, some ⟨g, 0, none⟩, 1, 1⟩
theorem Lies.rep {w : World} {A : Nat → Prop} {a b : Int} {lazy : Bool} {g : Nat} {nd : SynP.Nd} {r : RawN} (hA : A g) (hg : w.heap[g]? = some (.cells r.cells.toArray 29 (0, 0))) (h : Lies w A nd r) : Lies w A (SynP.Nd.rep a b lazy nd) (repN a b lazy g) := by
  unfold SynP.Nd.rep Lies
  refine ⟨rfl, rfl, rfl, rfl, rfl, rfl, rfl, rfl, rfl, Nat.le_refl _, by show 1 ≤ maxLen; decide, [r], rfl, fun _ => ⟨g, 0, rfl, hA, ⟨_, _, hg⟩, fun j hj => ?_⟩, LiesL.one h⟩
  rw [Nat.zero_add, cell_of_row w g j _ _ (0, 0) hg, List.getElem?_toArray]
  have hl : j < r.cells.length := by
    have h9 : [r].length * 9 = 9 := rfl
    show j < 9
    omega
  show r.cells[j]? = some (([r].flatMap Enode.enc).getD j undef)
  have : [r].flatMap Enode.enc = r.cells := by simp [Enode]
  rw [this, List.getD_eq_getElem?_getD, List.getElem?_eq_getElem hl]
  rfl

theorem NdS.lastcell {w wr : World} {V : Nat} {X : Cx} {p : Pv} {s : SynP.St} {l : List SynP.Nd} {rs0 : List RawN} {r : RawN} {g n c : Nat} (h : NdS w wr V X p s l (rs0 ++ [r]) (.slice (some ⟨g, 0, none⟩) n c)) : (∀ o, o < 9 → wr.cell? ⟨g, rs0.length * 9 + o, none⟩ = r.cells[o]?) ∧ (∀ j, wr.frozen? ⟨g, j, none⟩ = false) ∧ V + 1 ≤ g ∧ g < wr.heap.size := by
  obtain ⟨g', c', hv', hb, hlt, h1, h2, _⟩ := own_node h.own
  have hgg : g = g' := Option.some.inj (congrArg Value.ownBlock hv')
  subst hgg
  exact ⟨h1, h2, hb, hlt⟩

theorem put9_alloc (w : World) (o : Obj) (g b : Nat) (q : RawN) (hg : g < w.heap.size) : put9 (w.alloc o) g b q = (put9 w g b q).alloc o := by
  unfold put9
  rw [World.setCell_alloc_past _ _ _ _ hg]
  repeat rw [World.setCell_alloc_past _ _ _ _ (by simpa [World.setCell] using hg)]
/-- The last node under a quantifier: the old one lies in a fresh row of one. -/
theorem NdS.quant {w wr : World} {V : Nat} {X : Cx} {p : Pv} {s : SynP.St} {l : List SynP.Nd} {rs0 : List RawN} {r : RawN} {nd : SynP.Nd} {g c k : Nat} (h : NdS w wr V X p s (l ++ [nd]) (rs0 ++ [r]) (.slice (some ⟨g, 0, none⟩) (rs0.length + 1) c)) (hk : wr.heap[k]? = some (.cells r.cells.toArray 29 (0, 0))) (hkV : V + 1 ≤ k) (hkg : k ≠ g) (a b : Int) (lz : Bool) :
    NdS w (put9 wr g (rs0.length * 9) (repN a b lz k)) V X p s (l ++ [SynP.Nd.rep a b lz nd]) (rs0 ++ [repN a b lz k]) (.slice (some ⟨g, 0, none⟩) (rs0.length + 1) c) := by
  have hll : rs0.length = l.length := by have := h.len; simpa using this
  have hs := (LiesL.split l rs0 hll h.lies).2
  exact h.last rfl (Lies.rep ⟨hkV, fun e => hkg (Option.some.inj e).symm⟩ hk hs)

end Go.Proofs.YtblkejnckbeieaaGreatDoor
