/- Chapter 10: the parser of patterns: behind each call the same brackets stand open.
  Chapter 10: the parser of patterns: "?P", what brackets hold at the start and at the end; a group's node. -/
import Derived.Test.YtblkejnckbeieaaGreatDoorZk1
import Derived.Test.YtblkejnckbeieaaGreatDoorZk12
import Derived.Test.YtblkejnckbeieaaGreatDoorZk13
import Derived.StillTailTactics
namespace Go.Proofs.YtblkejnckbeieaaGreatDoor.SynP

section
variable {rs : List Int} {cls : List UInt8 → Option (Int → Bool)} {perl : Int → Option (Int → Bool)}
theorem go_opn : ∀ (n : Nat) (q : Q) (s : St) {x : Option Nd} {s1 : St}, go rs cls perl n q s = .ok (x, s1) → s1.opn = s.opn
  | 0, _, _, _, _, h => by cases h
  | n + 1, .alts l, s, x, s1, h => by
    rw [go] at h
    split at h
    · cases h
    · rename_i y s2 hy
      have h1 := go_opn n _ _ hy
      simp only [] at h
      split at h
      · have h2 := go_opn n _ _ h
        exact h2.trans h1
      · injection R.eq_ok h with _ e
        subst e
        exact h1
  | n + 1, .row l some_, s, x, s1, h => by
    rw [go] at h
    simp only [] at h
    split at h
    · injection R.eq_ok h with _ e
      subst e
      rfl
    · split at h
      · split at h
        · cases h
        · injection R.eq_ok h with _ e
          subst e
          rfl
      · split at h
        · split at h
          · cases h
          split at h
          · cases h
          have h2 := go_opn n _ _ h
          exact h2
        · split at h
          · cases h
          · rename_i y s2 hy
            exact (go_opn n _ _ h).trans (go_opn n _ _ hy)
  | n + 1, .atom, s, x, s1, h => by
    have key : ∀ (g : Option (Nat × List UInt8)) (was : Fl) (s2 : St) {x : Option Nd} {s1 : St},
        (match go rs cls perl n (.alts []) { s2 with opn := s2.opn ++ [s.at_] } with
          | .bad e k => R.bad e k
          | .ok (x, s3) => if pk rs s3.at_ ≠ 41 then .bad 25 (s3.opn.getLast?.getD 0)
            else .ok ((match g with | none => x | some (cap, nm) => x.map (Nd.grp cap nm)), { s3 with at_ := s3.at_ + 1, opn := s3.opn.dropLast, fl := was })) = R.ok (x, s1) → s1.opn = s2.opn := by
      intro g was s2 x s1 h
      split at h
      · cases h
      · rename_i y s3 hy
        have h1 := go_opn n _ _ hy
        split at h
        · cases h
        · injection R.eq_ok h with _ e
          subst e
          show s3.opn.dropLast = s2.opn
          rw [h1]
          exact List.dropLast_concat
    rw [go] at h
    simp only [] at h
    split at h
    · split at h
      · cases h
      split at h
      · split at h
        · split at h
          · cases h
          · rename_i nm j hn
            have h2 := key (some (s.names.length, nm)) s.fl { s with at_ := j, names := s.names ++ [nm] } h
            exact h2
        · split at h
          · cases h
          · injection R.eq_ok h with _ e
            subst e
            rfl
          · rename_i f j hf
            have h2 := key none s.fl { s with at_ := j, fl := f } h
            exact h2
      · have h2 := key (some (s.names.length, [])) s.fl { s with at_ := s.at_ + 1, names := s.names ++ [[]] } h
        exact h2
    split at h
    · injection R.eq_ok h with _ e
      subst e
      rfl
    split at h
    · injection R.eq_ok h with _ e
      subst e
      rfl
    split at h
    · injection R.eq_ok h with _ e
      subst e
      rfl
    split at h
    · split at h
      · cases h
      · injection R.eq_ok h with _ e
        subst e
        rfl
    split at h
    · split at h
      · injection R.eq_ok h with _ e
        subst e
        rfl
      · split at h
        · cases h
        · injection R.eq_ok h with _ e
          subst e
          rfl
    · injection R.eq_ok h with _ e
      subst e
      rfl
end
end Go.Proofs.YtblkejnckbeieaaGreatDoor.SynP

namespace Go.Proofs.YtblkejnckbeieaaGreatDoor
open Go.RowKit SetPure

section
variable (w : World) (X : Cx) (p : Pv) (i : Nat) (h : At w X p i)
include h
theorem has2_no (h1 : SynP.pk X.rs i ≠ 63) : Calls Tryz.prog 66 #[.pointer (some ⟨X.b, 0, none⟩), .string ⟨#[63, 80]⟩] w fun e w' => Went w X p (.bool false) i e w' := by
  have := hasP_any ⟨#[63, 80]⟩ (by decide) w X p i h
  unfold HasEnd at this
  have hb : hasB X.rs [63, 80] i = false := by rw [hasB_cons, decide_eq_false (by simp only [UInt8.reduceToNat]; omega)]; rfl
  rw [show (ByteArray.mk #[63, 80]).data.toList = [63, 80] from rfl, hb] at this
  exact this
theorem has2_half (h1 : SynP.pk X.rs i = 63) (h2 : SynP.pk X.rs (i + 1) ≠ 80) : Calls Tryz.prog 66 #[.pointer (some ⟨X.b, 0, none⟩), .string ⟨#[63, 80]⟩] w fun e w' => Went w X p (.bool false) i e w' := by
  have := hasP_any ⟨#[63, 80]⟩ (by decide) w X p i h
  unfold HasEnd at this
  have hb : hasB X.rs [63, 80] i = false := by rw [hasB_cons, hasB_cons, decide_eq_true (by simp only [UInt8.reduceToNat]; omega), decide_eq_false (by simp only [UInt8.reduceToNat]; omega)]; rfl
  rw [show (ByteArray.mk #[63, 80]).data.toList = [63, 80] from rfl, hb] at this
  exact this
theorem has2_yes (h1 : SynP.pk X.rs i = 63) (h2 : SynP.pk X.rs (i + 1) = 80) : Calls Tryz.prog 66 #[.pointer (some ⟨X.b, 0, none⟩), .string ⟨#[63, 80]⟩] w fun e w' => Went w X p (.bool true) (i + 2) e w' := by
  have := hasP_any ⟨#[63, 80]⟩ (by decide) w X p i h
  unfold HasEnd at this
  have hb : hasB X.rs [63, 80] i = true := by rw [hasB_cons, hasB_cons, decide_eq_true (by simp only [UInt8.reduceToNat]; omega), decide_eq_true (by simp only [UInt8.reduceToNat]; omega)]; rfl
  rw [show (ByteArray.mk #[63, 80]).data.toList = [63, 80] from rfl, hb] at this
  exact this
end
theorem BrkS.start {w : World} {X : Cx} {p : Pv} {s : SynP.St} {V : Nat} (h : PS w X p s) (hV : w.heap.size = V) : BrkS w (((w.alloc (.cells zeroA 29)).alloc (.cells (flA p.f) 39)).alloc (.cells (leafN 11).cells.toArray 29)) V X p s p.f (leafN 11).cells.toArray := by
  subst hV
  have hb : Below w.heap.size w (((w.alloc (.cells zeroA 29)).alloc (.cells (flA p.f) 39)).alloc (.cells (leafN 11).cells.toArray 29)) := (((Below.refl _ w).alloc (Nat.le_refl _) _).alloc (by simp) _).alloc (by simp; omega) _
  refine ⟨rfl, h.lo, Pm.below h.lo hb, h.below hb, ?_, ?_, ?_⟩
  · exact (Below.heap_alloc _ _ _ (by simp; omega)).trans ((Below.heap_alloc _ _ _ (by simp)).trans (heap_alloc_new w _))
  · have := heap_alloc_new (w.alloc (.cells zeroA 29)) (.cells (flA p.f) 39)
    rw [World.size_alloc] at this
    exact (Below.heap_alloc _ _ _ (by simp)).trans this
  · have := heap_alloc_new ((w.alloc (.cells zeroA 29)).alloc (.cells (flA p.f) 39)) (.cells (leafN 11).cells.toArray 29)
    rw [World.size_alloc, World.size_alloc] at this
    exact this
/-- A group's node. -/
def grpA (cap : Nat) (nm : List UInt8) (k : Value) : Array Value := #[.int .i64 11, .slice none 0 0, .bool false, .int .i64 0, .int .i64 0, .bool false, .int .i64 cap, .string (str nm), k]
theorem BrkS.ncell {w wr : World} {V : Nat} {X : Cx} {p : Pv} {s : SynP.St} {was : SynP.Fl} {cs : Array Value} (h : BrkS w wr V X p s was cs) (o : Nat) : wr.cell? ⟨V + 2, o, none⟩ = cs[o]? := Lib.cell_of_heap h.nb o
theorem BrkS.nfroz {w wr : World} {V : Nat} {X : Cx} {p : Pv} {s : SynP.St} {was : SynP.Fl} {cs : Array Value} (h : BrkS w wr V X p s was cs) (o : Nat) : wr.frozen? ⟨V + 2, o, none⟩ = false := Lib.frozen_of_heap h.nb o
/-- A group's node over a fresh row of one. -/
def grpN (cap : Nat) (nm : List UInt8) (g : Nat) : RawN := ⟨11, none, 0, 0, false, 0, 0, false, cap, str nm, some ⟨g, 0, none⟩, 1, 1⟩
theorem Lies.grp {w : World} {A : Nat → Prop} {cap : Nat} {nm : List UInt8} {g : Nat} {nd : SynP.Nd} {r : RawN} (hA : A g) (hg : w.heap[g]? = some (.cells r.cells.toArray 29 (0, 0))) (h : Lies w A nd r) : Lies w A (SynP.Nd.grp cap nm nd) (grpN cap nm g) := by
  unfold SynP.Nd.grp Lies
  refine ⟨rfl, rfl, rfl, rfl, rfl, rfl, rfl, rfl, rfl, Nat.le_refl _, by show 1 ≤ maxLen; decide, [r], rfl, fun _ => ⟨g, 0, rfl, hA, ⟨_, _, hg⟩, fun j hj => ?_⟩, LiesL.one h⟩
  rw [Nat.zero_add, cell_of_row w g j _ _ (0, 0) hg, List.getElem?_toArray]
  have hl : j < r.cells.length := by
    have h9 : [r].length * 9 = 9 := rfl
    show j < 9
    omega
  show r.cells[j]? = some (([r].flatMap Enode.enc).getD j undef)
  have : [r].flatMap Enode.enc = r.cells := by simp [Enode]
  rw [this, List.getD_eq_getElem?_getD, List.getElem?_eq_getElem hl]
  rfl
theorem heap_setCell_other (w : World) (p : Addr) (u : Value) {k : Nat} (h : k ≠ p.block) : (w.setCell p u).heap[k]? = w.heap[k]? := Below.heap_setCell w p u k h
theorem StandN.setCell {w : World} {A : Nat → Prop} {V o : Nat} {cs : Array Value} {fz : Nat × Nat} (u : Value) (hV : w.heap[V]? = some (.cells cs 29 fz)) (hA : ¬ A V) : StandN A w (w.setCell ⟨V, o, none⟩ u) :=
  ⟨⟨by simp [World.setCell], fun k cs' fz' e => heap_setCell_other w _ u (by
    rintro rfl
    rw [hV] at e
    injection e with e
    injection e with _ e
    exact absurd e (by decide))⟩, fun k _ _ ha _ => heap_setCell_other w _ u (by rintro rfl; exact hA ha)⟩
theorem size_setCell_ (w : World) (p : Addr) (u : Value) : (w.setCell p u).heap.size = w.heap.size := by simp [World.setCell]
section
variable {w wr : World} {V : Nat} {X : Cx} {p : Pv} {s : SynP.St} {was : SynP.Fl} {cs : Array Value}
/-- The result's box is stored. -/
theorem BrkS.ret0 (h : BrkS w wr V X p s was cs) (c : Array Value) : Pm w (wr.setRow V c) X ∧ PS (wr.setRow V c) X p s ∧ StandN (fun k => V + 1 ≤ k) wr (wr.setRow V c) := by
  have hV := h.hV
  have hB := h.hB
  have hbel : Below V wr (wr.setRow V c) := below_setRow_ (Below.refl _ _) (Nat.le_refl _) _
  have hne : X.b ≠ V := by
    rintro rfl
    have := h.ps.at_.blk
    rw [h.box] at this
    injection this with this
    injection this with _ this
    exact absurd this (by decide)
  have hpb : (wr.setRow V c).heap[X.b]? = wr.heap[X.b]? := setRow_other _ _ _ _ hne
  have hown : ∀ {α : Type} {E : Enc α} {e : TypeId} {v : Value} {l : List α}, OwnB E e X.B wr v l → 29 ≠ e → OwnB E e X.B (wr.setRow V c) v l := fun ho he => by
    have hg : wr.grownBy (wr.setRow V c) (some V) := ⟨rfl, rfl, rfl, by simp, fun k _ hk => setRow_other _ _ _ _ (fun e => hk (by rw [e]))⟩
    exact ho.kept_ hg (.inr (ho.ne_ h.box he))
  exact ⟨h.pm.of_new (by rw [hV]; exact hbel) (by omega), ⟨h.ps.at_.mv_ (hbel.mono hB) hpb, h.ps.fl, hown h.ps.opn (by decide), hown h.ps.nms (by decide), h.ps.opl, h.ps.opk, h.ps.nml⟩, StandN.setRow _ h.box (by omega)⟩
/-- The end of brackets: their node is the result. -/
theorem BrkS.fin (h : BrkS w wr V X p s was cs) {nd : SynP.Nd} {r : RawN} (hl : Lies wr (fun k => V + 1 ≤ k) nd r) :
    AtomEnd w X (.ok (some nd, s)) (.returned (.tuple #[.agg r.cells.toArray, .bool true])) (wr.setRow V r.cells.toArray) := by
  obtain ⟨h1, h2, h3⟩ := h.ret0 r.cells.toArray
  have hV := h.hV
  exact ⟨r, p, rfl, h1, h2, Lies.mono (fun b hb _ => by omega) _ _ (Lies.on h3 _ _ hl)⟩
/-- The last open bracket is shut. -/
theorem BrkS.popped (h : BrkS w wr V X p s was cs) {l : List Nat} {k : Nat} (hl : s.opn = l ++ [k]) {v : Value} (ho : OwnB Eint 3 X.B wr v (l.map fun k : Nat => (k : Int))) :
    BrkS w (wr.setCell ⟨X.b, 5, none⟩ v).drew V X { p with op := v } { s with opn := l } was cs ∧ Pm wr (wr.setCell ⟨X.b, 5, none⟩ v).drew X := by
  have hm := mv_cell wr X 5 v
  have hp7 := h.ps.pop hl ho
  exact ⟨(h.step (Pm.mv h.ps.at_ hm) hp7).mv ((Mv.rfl_ _ _).drew) (hp7.at_.drewN 1) (Nat.le_refl _), Pm.mv h.ps.at_ hm.drew⟩
/-- The flags are set back. -/
theorem BrkS.setFl (h : BrkS w wr V X p s was cs) (f : SynP.Fl) : BrkS w ((((wr.setCell ⟨X.b, 7, none⟩ (.bool f.fold)).setCell ⟨X.b, 8, none⟩ (.bool f.lines)).setCell ⟨X.b, 9, none⟩ (.bool f.dot)).setCell ⟨X.b, 10, none⟩ (.bool f.lazy)) V X { p with f := f } { s with fl := f } was cs ∧
    Pm wr ((((wr.setCell ⟨X.b, 7, none⟩ (.bool f.fold)).setCell ⟨X.b, 8, none⟩ (.bool f.lines)).setCell ⟨X.b, 9, none⟩ (.bool f.dot)).setCell ⟨X.b, 10, none⟩ (.bool f.lazy)) X := by
  have hpm := Pm.mv h.ps.at_ (h.ps.at_.setFl f).2
  exact ⟨h.step hpm (h.ps.setFl f), hpm⟩
end

end Go.Proofs.YtblkejnckbeieaaGreatDoor
