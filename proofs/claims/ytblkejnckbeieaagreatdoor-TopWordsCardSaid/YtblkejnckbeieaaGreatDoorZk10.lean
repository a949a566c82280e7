/- Chapter 10: the parser of patterns: what a row of pieces, or of alternatives, holds; alternatives by the contract of a row.
  Chapter 10: the parser of patterns: alternatives, by the contract of a row. -/
import Derived.Test.YtblkejnckbeieaaGreatDoorZk9
namespace Go.Proofs.YtblkejnckbeieaaGreatDoor
open Go.RowKit SetPure

/-- The end of a row and of alternatives. -/
def NodeEnd (w : World) (X : Cx) : SynP.R (Option SynP.Nd × SynP.St) → Ending → World → Prop
  | .ok (some nd, s), e, w' => ∃ (r : RawN) (p : Pv), e = .returned (.agg r.cells.toArray) ∧ Pm w w' X ∧ PS w' X p s ∧ Lies w' (fun k => w.heap.size ≤ k) nd r
  | .ok (none, _), _, _ => False
  | .bad c k, e, w' => Pm w w' X ∧ e = thrown X c k
def LiesO (w : World) (A : Nat → Prop) : Option SynP.Nd → RawN → Prop
  | some nd, r => Lies w A nd r
  | none, _ => True
/-- An atom's end. -/
def AtomEnd (w : World) (X : Cx) : SynP.R (Option SynP.Nd × SynP.St) → Ending → World → Prop
  | .ok (x, s), e, w' => ∃ (r : RawN) (p : Pv), e = .returned (.tuple #[.agg r.cells.toArray, .bool x.isSome]) ∧ Pm w w' X ∧ PS w' X p s ∧ LiesO w' (fun k => w.heap.size ≤ k) x r
  | .bad c k, e, w' => Pm w w' X ∧ e = thrown X c k
def goS (rs : List Int) (n : Nat) (q : SynP.Q) (s : SynP.St) : SynP.R (Option SynP.Nd × SynP.St) := SynP.go rs clsT perlT n q s
def AltsC (n : Nat) : Prop := ∀ (s : SynP.St) (w : World) (X : Cx) (p : Pv), Scal X.rs → PS w X p s → s.at_ ≤ X.rs.length → 3 * (X.rs.length - s.at_) + 2 ≤ n →
  Calls Tryz.prog 31 #[.pointer (some ⟨X.b, 0, none⟩)] w (NodeEnd w X (goS X.rs n (.alts []) s))
def RowC (n : Nat) : Prop := ∀ (s : SynP.St) (w : World) (X : Cx) (p : Pv), Scal X.rs → PS w X p s → s.at_ ≤ X.rs.length → 3 * (X.rs.length - s.at_) + 1 ≤ n →
  Calls Tryz.prog 65 #[.pointer (some ⟨X.b, 0, none⟩)] w (NodeEnd w X (goS X.rs n (.row [] false) s))
def AtomC (n : Nat) : Prop := ∀ (s : SynP.St) (w : World) (X : Cx) (p : Pv), Scal X.rs → PS w X p s → s.at_ < X.rs.length → 3 * (X.rs.length - s.at_) ≤ n →
  Calls Tryz.prog 103 #[.pointer (some ⟨X.b, 0, none⟩)] w (AtomEnd w X (goS X.rs n .atom s))

theorem OwnB.pm {E : Enc RawN} {base : Nat} {w w' : World} {X : Cx} {v : Value} {l : List RawN} (h : OwnB E 29 base w v l) (k : Pm w w' X) : OwnB E 29 base w' v l := by
  obtain ⟨⟨h0, h1⟩, h2⟩ := h
  refine ⟨⟨h0, ?_⟩, Nat.le_trans h2 k.bel.size⟩
  rcases h1 with h1 | ⟨g, cap, cur, hv, hb, hg, hr⟩
  · exact .inl h1
  · exact .inr ⟨g, cap, cur, hv, hb, (k.keep g cur _ _ hg (by decide) (by decide) (by decide)).trans hg, hr⟩
theorem Pm.of_new {w a b : World} {X : Cx} (h : Pm w a X) (k : Below w.heap.size a b) (hB : X.B ≤ w.heap.size) : Pm w b X :=
  ⟨h.bel.trans (k.mono hB), fun n cs t fz e h1 h2 h3 => (k.block n (Array.getElem?_eq_some_iff.1 e).1).trans (h.keep n cs t fz e h1 h2 h3)⟩

/-- What a row holds: its result's box, the nodes so far. -/
structure NdS (w wr : World) (V : Nat) (X : Cx) (p : Pv) (s : SynP.St) (l : List SynP.Nd) (rs : List RawN) (v : Value) : Prop where
  hV : w.heap.size = V
  hB : X.B ≤ V
  pm : Pm w wr X
  ps : PS wr X p s
  box : BoxN wr V zeroA
  own : OwnB Enode 29 (V + 1) wr v rs
  len : rs.length = l.length
  lies : LiesL wr (fun k => V + 1 ≤ k ∧ v.ownBlock ≠ some k) l rs
section
variable {w wr wx : World} {V : Nat} {X : Cx} {p p' : Pv} {s s' : SynP.St} {l : List SynP.Nd} {rs : List RawN} {v : Value}
theorem NdS.start (h : PS w X p s) (hV : w.heap.size = V) : NdS w (w.alloc (.cells zeroA 29)) V X p s [] [] (.slice none 0 0) := by
  subst hV
  have hb : Below w.heap.size w (w.alloc (.cells zeroA 29)) := (Below.refl _ w).alloc (Nat.le_refl _) _
  exact ⟨rfl, h.lo, Pm.below h.lo hb, h.below hb, BoxN.new w, OwnB.nil_ (by simp), rfl, by unfold LiesL; trivial⟩
theorem NdS.lt (h : NdS w wr V X p s l rs v) : V < wr.heap.size := h.box.lt
theorem NdS.step (h : NdS w wr V X p s l rs v) (k : Pm wr wx X) (hp : PS wx X p' s') : NdS w wx V X p' s' l rs v :=
  ⟨h.hV, h.hB, h.pm.step k, hp, (k.keep V _ _ _ h.box (by decide) (by decide) (by decide)).trans h.box, h.own.pm k, h.len, LiesL.on (StandN.pm k) _ _ h.lies⟩
theorem NdS.below (h : NdS w wr V X p s l rs v) (k : Below wr.heap.size wr wx) : NdS w wx V X p s l rs v := h.step (Pm.below h.ps.lo k) (h.ps.below k)
theorem NdS.mv (h : NdS w wr V X p s l rs v) (k : Mv X.b wr wx) {j : Nat} (ha : At wx X p j) (hj : s.at_ ≤ j) : NdS w wx V X p { s with at_ := j } l rs v := h.step (Pm.mv h.ps.at_ k) (h.ps.mv k ha hj)
/-- The row has grown by one node. -/
theorem NdS.push (h : NdS w wr V X p s l rs v) {v2 : Value} {nd : SynP.Nd} {r : RawN} (ho : OwnB Enode 29 (V + 1) wx v2 (rs ++ [r])) (hg : wr.grownBy wx v.ownBlock) (hat : v2.ownBlock = v.ownBlock ∨ v2.ownBlock = some wr.heap.size)
    (hl : Lies wr (fun k => V + 1 ≤ k ∧ v.ownBlock ≠ some k) nd r) : NdS w wx V X p s (l ++ [nd]) (rs ++ [r]) v2 := by
  have hV := h.hV
  have hB := h.hB
  have hlt := h.lt
  have hr := fun k (hk : v.ownBlock = some k) => h.own.lt k hk
  have hst : StandN (fun k => V + 1 ≤ k ∧ v.ownBlock ≠ some k) wr wx := StandN.grown h.own hg (fun k hk => hk.2)
  have hbel : Below (V + 1) wr wx := ⟨hg.os, hg.tape, hg.output, hg.size, fun k hk => hg.block k (by omega) (fun e => by have := (hr k e.symm).1; omega)⟩
  have hpb : wx.heap[X.b]? = wr.heap[X.b]? := hg.block X.b h.ps.at_.lt (fun e => h.own.ne_ h.ps.at_.blk (by decide) e.symm)
  have hmono : ∀ b, (V + 1 ≤ b ∧ v.ownBlock ≠ some b) → b < wr.heap.size → (V + 1 ≤ b ∧ v.ownBlock ≠ some b ∧ v2.ownBlock ≠ some b) := fun b hb hlt => ⟨hb.1, hb.2, by
    rcases hat with e | e
    · rw [e]; exact hb.2
    · rw [e]; intro e2; injection e2 with e2; omega⟩
  have hst2 : StandN (fun k => V + 1 ≤ k ∧ v.ownBlock ≠ some k ∧ v2.ownBlock ≠ some k) wr wx := ⟨hst.keep, fun k cs fz ha e => hst.row k cs fz ⟨ha.1, ha.2.1⟩ e⟩
  refine ⟨hV, hB, h.pm.of_new (hbel.mono (by omega)) (by omega), ⟨h.ps.at_.mv_ (hbel.mono (by omega)) hpb, h.ps.fl, h.ps.opn.kept_ hg (h.ps.opn.apart h.own (by decide)), h.ps.nms.kept_ hg (h.ps.nms.apart h.own (by decide)), h.ps.opl, h.ps.opk, h.ps.nml⟩, (hbel.block V (by omega)).trans h.box, ho, by rw [List.length_append, List.length_append, h.len]; rfl, ?_⟩
  have h1 := LiesL.app l rs [nd] [r] h.len h.lies (LiesL.one hl)
  exact LiesL.mono (fun b hb _ => ⟨hb.1, hb.2.2⟩) _ _ (LiesL.on hst2 _ _ (LiesL.mono hmono _ _ h1))
/-- What a call has laid behind the row's box is none of the row's own. -/
theorem NdS.aside {wy : World} {nd : SynP.Nd} {r : RawN} (h : NdS w wr V X p s l rs v) (hl : Lies wy (fun k => wr.heap.size ≤ k) nd r) : Lies wy (fun k => V + 1 ≤ k ∧ v.ownBlock ≠ some k) nd r :=
  Lies.mono (fun b hb _ => ⟨by have := h.lt; omega, fun e => by have := (h.own.lt b e).2; omega⟩) _ _ hl
theorem KidsAt.own {P : Nat → Prop} {A : Option Addr} {c : Nat} (h : OwnB Enode 29 (V + 1) wr (.slice A rs.length c) rs) (hP : ∀ b, V + 1 ≤ b → P b) : KidsAt wr P A rs := fun hn => by
  rcases h.1.2 with ⟨h', h0⟩ | ⟨g, cap, cur, h', hb, hg, _⟩
  · omega
  · obtain ⟨b, off, e, hlt, hc⟩ := h.seq hn
    injection h' with h1 _ _
    rw [h1] at e
    injection e with e
    injection e with e1 e2
    subst e1; subst e2
    exact ⟨g, 0, h1, hP g hb, ⟨cur, _, hg⟩, hc⟩
/-- Behind the call of whole: the result's box is stored. -/
theorem NdS.ret {wy : World} {nd : SynP.Nd} {r : RawN} (h : NdS w wr V X p s l rs v) (hb : Below wr.heap.size wr wy) (hl : Lies wy (fun k => V + 1 ≤ k) nd r) :
    Pm w (wy.setRow V r.cells.toArray) X ∧ PS (wy.setRow V r.cells.toArray) X p s ∧ Lies (wy.setRow V r.cells.toArray) (fun k => w.heap.size ≤ k) nd r := by
  have hV := h.hV
  have hB := h.hB
  have h2 := h.below hb
  have hbel : Below V wy (wy.setRow V r.cells.toArray) := below_setRow_ (Below.refl _ _) (Nat.le_refl _) _
  have hne : X.b ≠ V := by
    rintro rfl
    have := h2.ps.at_.blk
    rw [h2.box] at this
    injection this with this
    injection this with _ this
    exact absurd this (by decide)
  have hpb : (wy.setRow V r.cells.toArray).heap[X.b]? = wy.heap[X.b]? := setRow_other _ _ _ _ hne
  have hown : ∀ {α : Type} {E : Enc α} {e : TypeId} {v : Value} {l : List α}, OwnB E e X.B wy v l → 29 ≠ e → OwnB E e X.B (wy.setRow V r.cells.toArray) v l := fun ho he => by
    have hg : wy.grownBy (wy.setRow V r.cells.toArray) (some V) := ⟨rfl, rfl, rfl, by simp, fun k _ hk => setRow_other _ _ _ _ (fun e => hk (by rw [e]))⟩
    exact ho.kept_ hg (.inr (ho.ne_ h2.box he))
  have hst : StandN (fun k => V + 1 ≤ k) wy (wy.setRow V r.cells.toArray) := StandN.setRow _ h2.box (by omega)
  refine ⟨h2.pm.of_new (by rw [hV]; exact hbel) (by omega), ⟨h2.ps.at_.mv_ (hbel.mono hB) hpb, h2.ps.fl, hown h2.ps.opn (by decide), hown h2.ps.nms (by decide), h2.ps.opl, h2.ps.opk, h2.ps.nml⟩, ?_⟩
  exact Lies.mono (fun b hb _ => by omega) _ _ (Lies.on hst _ _ hl)
end

end Go.Proofs.YtblkejnckbeieaaGreatDoor

namespace Go.Proofs.YtblkejnckbeieaaGreatDoor
open Go.RowKit SetPure

theorem goS_alts (rs : List Int) (m : Nat) (l : List SynP.Nd) (s : SynP.St) : goS rs (m + 1) (.alts l) s = match goS rs m (.row [] false) s with
    | .bad e k => .bad e k
    | .ok (x, s1) => if SynP.pk rs s1.at_ = 124 then goS rs m (.alts (l ++ x.toList)) { s1 with at_ := s1.at_ + 1 } else .ok (some (SynP.whole 9 (l ++ x.toList)), s1) := by
  unfold goS
  rw [SynP.go]
  cases SynP.go rs clsT perlT m (.row [] false) s <;> rfl

set_option maxRecDepth 100000 in
set_option maxHeartbeats 6400000 in
theorem alts_any (n : Nat) (hr : ∀ m, m < n → RowC m) : AltsC n := by
  intro s w X p hsc hps hat hn
  have HSc := Lib.hid hsc
  have hfew := hps.at_.few
  have HRw := Lib.hid hr
  obtain ⟨R, hR⟩ : ∃ R, goS X.rs n (.alts []) s = R := ⟨_, rfl⟩
  rw [hR]
  have HR0 := Lib.hid hR
  obtain ⟨V, hV⟩ : ∃ V, w.heap.size = V := ⟨_, rfl⟩
  have HVe := Lib.hid hV
  have HK0 := Lib.hid (NdS.start hps hV)
  clear hsc hr hR hV hps
  go_enter Tryz.func31, Tryz.ntmps31
  go_upto_region 2 with fail
  rw [HVe.out]
  unfold zeroA at HK0
  generalize w.alloc (.cells #[.int .i64 0, .slice none 0 0, .bool false, .int .i64 0, .int .i64 0, .bool false, .int .i64 0, .string ⟨#[]⟩, .slice none 0 0] 29) = W0 at HK0 ⊢
  go_loopg [3] n (fun k s3 wr => ∃ (l : List SynP.Nd) (rs : List RawN) (p : Pv) (s : SynP.St), Hid (goS X.rs k (.alts l) s = R) ∧ Hid (NdS w wr V X p s l rs s3) ∧ s.at_ ≤ X.rs.length ∧ 3 * (X.rs.length - s.at_) + 2 ≤ k ∧ rs.length ≤ s.at_ ∧ k ≤ n)
  case atStart => exact ⟨[], [], p, s, HR0, HK0, hat, hn, by simp, Nat.le_refl _⟩
  case round =>
    clear HR0 HK0 hat hn
    obtain ⟨l, rs, p, s, HE, HK, hat, hk, hrs, hkn⟩ := hrel
    obtain ⟨m, rfl⟩ : ∃ m, gk = m + 1 := ⟨gk - 1, by omega⟩
    obtain ⟨A0, c0, rfl, hc0, hm0⟩ := HK.out.own.form
    have hE := HE.out
    rw [goS_alts] at hE
    have HC := Lib.hid (HRw.out m (by omega) s wr X p HSc.out HK.out.ps hat (by omega))
    cases hrow : goS X.rs m (.row [] false) s with
    | bad ec kk =>
      rw [hrow] at HC hE
      have HR := Lib.hid hE
      clear hrow hE
      go_wp2_with (go_at_call 65; refine HC.out.mono ?_; rintro e w1 ⟨hpm, he1⟩; unfold thrown at he1; subst he1; have HP := Lib.hid (HK.out.pm.step hpm); clear hpm)
      rw [← HR.out]; exact ⟨rfl, HP.out, rfl⟩
    | ok x =>
      obtain ⟨x, s1⟩ := x
      have hat1 := SynP.go_at m (.row [] false) s hrow hat (fun e => by cases e)
      obtain ⟨hat1, hat2, _⟩ := hat1
      rw [hrow] at HC hE
      simp only at hE
      cases x with
      | none =>
        clear hrow hE
        go_wp2_with (go_at_call 65; refine HC.out.mono ?_; rintro e w1 h; exact h.elim)
      | some nd =>
        have HE2 := Lib.hid hE
        clear hrow hE
        have hrl : rs.length + 1 ≤ 100000 := by omega
        go_upto_region 3 with (first
          | (go_at_call 65; refine HC.out.mono ?_; rintro e w1 ⟨r, p1, rfl, hpm, hps1, hl1⟩; obtain ⟨r0, r1, r2, r3, r4, r5, r6, r7, r8, r9, ra, rb, rc⟩ := r; simp only [RawN.cells]; have HK1 := Lib.hid (HK.out.step hpm hps1); have HL1 := Lib.hid (HK.out.aside hl1); clear hpm hps1 hl1)
          | (at_builtin; refine wpList_append_one (E := Enode) (base := V + 1) (l := rs) ⟨r0, r1, r2, r3, r4, r5, r6, r7, r8, r9, ra, rb, rc⟩ ⟨w1.heap.size, 0, none⟩ 1 rfl (.tmp 4) (.tmp 7) 27 (by rfl) 112 elNode (by rfl) (HK1.out.own.alloc _) (by rfl) (by exact news_new w1 _ _ _ rfl) (by unfold maxLen; omega) (by omega) ?_; intro v2 w2 ho2 hg2 hat3; have hba := (Below.refl w1.heap.size w1).alloc (Nat.le_refl _) (.cells #[.int .i64 r0, .slice r1 r2 r3, .bool r4, .int .i64 r5, .int .i64 r6, .bool r7, .int .i64 r8, .string r9, .slice ra rb rc] 29); have hk2 := (HK1.out.below hba).push ho2 hg2 hat3 (Lies.on (StandN.below hba) _ _ HL1.out); obtain ⟨A2, c2, hv2, hcc, hcm⟩ := ho2.form; rw [List.length_append, List.length_singleton] at hv2 hcc; subst hv2; have HK2 := Lib.hid hk2; clear ho2 hg2 hat3 hk2 hba))
        obtain ⟨rs2, hrs2⟩ : ∃ rs2, rs ++ [(⟨r0, r1, r2, r3, r4, r5, r6, r7, r8, r9, ra, rb, rc⟩ : RawN)] = rs2 := ⟨_, rfl⟩
        have hl2 : rs.length + 1 = rs2.length := by rw [← hrs2, List.length_append, List.length_singleton]
        rw [hrs2, hl2] at HK2
        rw [hl2] at hcc ⊢
        have hE2 := HE2.out
        simp only [Option.toList_some] at hE2
        obtain ⟨l2, hl2e⟩ : ∃ l2, l ++ [nd] = l2 := ⟨_, rfl⟩
        rw [hl2e] at HK2 hE2
        clear hrs2 HC HK HE HE2 HL1 HK1 hl2e
        by_cases h124 : SynP.pk X.rs s1.at_ = 124
        · have hin := pk_in (rs := X.rs) (i := s1.at_) (by omega)
          rw [if_pos h124] at hE2
          have HE3 := Lib.hid hE2
          clear hE2
          go_wp2_with (go_at_call 66; refine (has_yes _ _ X p1 _ HK2.out.ps.at_ (by simp only [UInt8.reduceToNat]; omega)).mono ?_; rintro e w3 ⟨rfl, hm3, ha3⟩; have HK3 := Lib.hid (HK2.out.mv hm3 ha3 (by omega)); clear hm3 ha3)
          go_roundg m
          case measure => omega
          case rel => exact ⟨l2, rs2, p1, _, HE3, HK3, by show s1.at_ + 1 ≤ _; omega, by show 3 * (_ - (s1.at_ + 1)) + 2 ≤ _; omega, by show _ ≤ s1.at_ + 1; omega, by omega⟩
        · rw [if_neg h124] at hE2
          have HR := Lib.hid hE2
          have HLn := Lib.hid HK2.out.len
          clear hE2
          go_wp2_with (first
            | (go_at_call 66; refine (has_no _ _ X p1 _ HK2.out.ps.at_ (by simp only [UInt8.reduceToNat]; omega)).mono ?_; rintro e w3 ⟨rfl, hm3, ha3⟩; have HK3 := Lib.hid (HK2.out.mv hm3 ha3 (Nat.le_refl _)); clear hm3 ha3)
            | (go_at_call 67; refine (whole_any 9 (fun k => V + 1 ≤ k) l2 rs2 A2 c2 _ HLn.out hcc hcm (KidsAt.own HK3.out.own (fun _ h => h)) (LiesL.mono (fun _ h _ => h.1) _ _ HK3.out.lies)).mono ?_; rintro e w4 ⟨rw4, rfl, hb4, hl4⟩; have HB4 := Lib.hid hb4; have HL4 := Lib.hid hl4; clear hb4 hl4)
            | (refine wpList_store_row rfl 29 (.tmp 2) (.tmp 13) rfl V rw4.cells.toArray rfl rfl 29 zeroA (HK3.out.below HB4.out).box sizeN rfl (cellsN_one _) ?_))
          refine retN rfl rw4 rfl (setRow_heap _ _ _ _ _ _ (HK3.out.below HB4.out).box) rfl ?_
          obtain ⟨e1, e2, e3⟩ := HK3.out.ret HB4.out HL4.out
          rw [← HR.out]
          exact ⟨rw4, p1, rfl, e1, e2, e3⟩

end Go.Proofs.YtblkejnckbeieaaGreatDoor
