/- Chapter 10: the groups of a pattern's tree, in the order in which they begin: in plain Lean.
  Chapter 10: the law SyntaxGroups: the walk over a tree.
  Chapter 10: one byte behind a stroke: in plain Lean.
  Chapter 10: a set's size and members; what a law holds behind Parse.
  Chapter 10: a set's size in the parser's tree.
  Chapter 10: a set's size and members; the walk of the law SyntaxEscapes.
  Chapter 10: numbers by sixteen digits in a pattern: in plain Lean.
  A number's digits of sixteen, in bytes.
  Chapter 10: the law's digits of sixteen; the walk of the law SyntaxRanges.
  An argument that is a slice of arrays of two ints ('[][2]int'), opened. -/
import Derived.Test.YtaodcmppbacfbaaZs26
import Derived.StillTailTactics
import Derived.Deep.RegionWith
import Derived.OpenShut
namespace Go.Proofs.Ytaodcmppbacfbaa.SynP

mutual
/-- The groups of a tree, in the order of a walk. -/
def capsN : Nd → List (Nat × List UInt8)
  | .mk kind _ _ _ _ _ cap name kids => (if kind = 11 then [(cap, name)] else []) ++ capsL kids
def capsL : List Nd → List (Nat × List UInt8)
  | [] => []
  | x :: l => capsN x ++ capsL l
end
theorem capsL_app : ∀ (l m : List Nd), capsL (l ++ m) = capsL l ++ capsL m
  | [], m => by simp [capsL]
  | x :: l, m => by simp [capsL, capsL_app l m]
theorem caps_whole (k : Nat) (hk : k ≠ 11) (l : List Nd) : capsN (whole k l) = capsL l := by
  unfold whole
  split
  · simp [Nd.leaf, capsN, capsL]
  · simp [capsL]
  · simp [capsN, hk]
theorem caps_leaf (k : Nat) (hk : k ≠ 11) : capsN (.leaf k) = [] := by simp [Nd.leaf, capsN, capsL, hk]
theorem caps_cls (f : Int → Bool) (b : Bool) : capsN (.cls f b) = [] := by simp [Nd.cls, capsN, capsL]
theorem caps_rep (a b : Int) (z : Bool) (x : Nd) : capsN (.rep a b z x) = capsN x := by simp [Nd.rep, capsN, capsL]
theorem caps_grp (c : Nat) (nm : List UInt8) (x : Nd) : capsN (.grp c nm x) = (c, nm) :: capsN x := by simp [Nd.grp, capsN, capsL]

/-- Names with their numbers from k on. -/
def nums_ : Nat → List (List UInt8) → List (Nat × List UInt8)
  | _, [] => []
  | k, a :: l => (k, a) :: nums_ (k + 1) l
theorem nums_app : ∀ (k : Nat) (l m : List (List UInt8)), nums_ k (l ++ m) = nums_ k l ++ nums_ (k + l.length) m
  | k, [], m => by simp [nums_]
  | k, a :: l, m => by
    have e : k + 1 + l.length = k + (l.length + 1) := by omega
    simp [nums_, nums_app (k + 1) l m, e]

def capsO (x : Option Nd) : List (Nat × List UInt8) := capsL x.toList
theorem capsO_some (x : Nd) : capsO (some x) = capsN x := by simp [capsO, capsL]
theorem capsO_none : capsO none = [] := by simp [capsO, capsL]
def before : Q → List (Nat × List UInt8)
  | .alts l => capsL l
  | .row l _ => capsL l
  | .atom => []

variable {rs : List Int} {cls : List UInt8 → Option (Int → Bool)} {perl : Int → Option (Int → Bool)}

theorem capsL_last (a b : Int) (z : Bool) (l : List Nd) : capsL (l.dropLast ++ (l.getLast?.map (Nd.rep a b z)).toList) = capsL l := by
  rcases List.eq_nil_or_concat l with rfl | ⟨m, x, rfl⟩
  · simp [capsL]
  · simp [capsL_app, capsL, caps_rep]

theorem alts_some : ∀ (n : Nat) (l : List Nd) (s : St) {x : Option Nd} {s1 : St}, go rs cls perl n (.alts l) s = .ok (x, s1) → ∃ y, x = some y
  | 0, _, _, _, _, h => by cases h
  | n + 1, l, s, x, s1, h => by
    rw [go] at h
    split at h
    · cases h
    · simp only [] at h
      split at h
      · exact alts_some n _ _ h
      · injection R.ok.inj h with e3 e4
        exact ⟨_, e3.symm⟩
/-- The groups that a call finds are the names that it takes, numbered on. -/
theorem go_caps : ∀ (n : Nat) (q : Q) (s : St) {x : Option Nd} {s1 : St}, go rs cls perl n q s = .ok (x, s1) →
    ∃ new, s1.names = s.names ++ new ∧ capsO x = before q ++ nums_ s.names.length new
  | 0, _, _, _, _, h => by cases h
  | n + 1, .alts l, s, x, s1, h => by
    rw [go] at h
    split at h
    · cases h
    · rename_i y s2 hy
      obtain ⟨w1, e1, c1⟩ := go_caps n _ _ hy
      simp only [] at h
      split at h
      · obtain ⟨w2, e2, c2⟩ := go_caps n _ _ h
        refine ⟨w1 ++ w2, by rw [e2, e1, List.append_assoc], ?_⟩
        rw [c2]
        simp only [before, capsL_app, nums_app, e1, List.length_append] at c1 ⊢
        rw [← capsO, c1]
        simp [capsL]
      · have := (R.ok.inj h)
        injection this with e3 e4
        subst e3
        subst e4
        refine ⟨w1, e1, ?_⟩
        rw [capsO_some, caps_whole 9 (by decide), capsL_app, ← capsO, c1]
        simp [before, capsL]
  | n + 1, .row l some_, s, x, s1, h => by
    rw [go] at h
    simp only [] at h
    split at h
    · injection R.ok.inj h with e3 e4
      subst e3
      subst e4
      exact ⟨[], by simp, by simp [capsO_some, caps_whole, before, nums_]⟩
    · split at h
      · split at h
        · cases h
        · injection R.ok.inj h with e3 e4
          subst e3
          subst e4
          exact ⟨[], by simp, by simp [capsO_some, caps_whole, before, nums_]⟩
      · split at h
        · split at h
          · cases h
          split at h
          · cases h
          obtain ⟨w2, e2, c2⟩ := go_caps n _ _ h
          refine ⟨w2, e2, ?_⟩
          rw [c2]
          simp only [before, capsL_last]
        · split at h
          · cases h
          · rename_i y s2 hy
            obtain ⟨w1, e1, c1⟩ := go_caps n _ _ hy
            obtain ⟨w2, e2, c2⟩ := go_caps n _ _ h
            refine ⟨w1 ++ w2, by rw [e2, e1, List.append_assoc], ?_⟩
            rw [c2]
            simp only [before, capsL_app, nums_app, e1, List.length_append, List.nil_append] at c1 ⊢
            rw [← capsO, c1, List.append_assoc]
  | n + 1, .atom, s, x, s1, h => by
    have key : ∀ (g : Option (Nat × List UInt8)) (was : Fl) (s2 : St) {x : Option Nd} {s1 : St},
        (match go rs cls perl n (.alts []) { s2 with opn := s2.opn ++ [s.at_] } with
          | .bad e k => R.bad e k
          | .ok (x, s3) => if pk rs s3.at_ ≠ 41 then .bad 25 (s3.opn.getLast?.getD 0)
            else .ok ((match g with | none => x | some (cap, nm) => x.map (Nd.grp cap nm)), { s3 with at_ := s3.at_ + 1, opn := s3.opn.dropLast, fl := was })) = R.ok (x, s1) →
        ∃ (y : Option Nd) (new : List (List UInt8)), x = (match g with | none => y | some (cap, nm) => y.map (Nd.grp cap nm)) ∧ s1.names = s2.names ++ new ∧ capsO y = nums_ s2.names.length new ∧ ∃ t, y = some t := by
      intro g was s2 x s1 h
      split at h
      · cases h
      · rename_i y s3 hy
        obtain ⟨w1, e1, c1⟩ := go_caps n _ _ hy
        split at h
        · cases h
        · injection R.ok.inj h with e3 e4
          subst e3
          subst e4
          exact ⟨y, w1, rfl, e1, by simpa [before, capsL] using c1, alts_some n _ _ hy⟩
    have none_ : ∀ {x' : Option Nd} {s' : St}, capsO x' = [] → s'.names = s.names → ∃ new, s'.names = s.names ++ new ∧ capsO x' = before .atom ++ nums_ s.names.length new := fun h1 h2 => ⟨[], by simp [h2], by simp [h1, before, nums_]⟩
    rw [go] at h
    simp only [] at h
    split at h
    · split at h
      · cases h
      split at h
      · split at h
        · split at h
          · cases h
          · rename_i nm j hn
            obtain ⟨y, new, e1, e2, c1, t, rfl⟩ := key (some (s.names.length, nm)) s.fl { s with at_ := j, names := s.names ++ [nm] } h
            subst e1
            refine ⟨nm :: new, by rw [e2]; simp, ?_⟩
            rw [capsO_some] at c1
            simp only [Option.map_some, capsO_some, caps_grp, c1, before, nums_, List.length_append, List.length_cons, List.length_nil, List.nil_append]
        · split at h
          · cases h
          · injection R.ok.inj h with e3 e4
            subst e3
            subst e4
            exact none_ capsO_none rfl
          · rename_i f j hf
            obtain ⟨y, new, e1, e2, c1, _⟩ := key none s.fl { s with at_ := j, fl := f } h
            subst e1
            exact ⟨new, e2, by rw [c1]; simp [before]⟩
      · obtain ⟨y, new, e1, e2, c1, t, rfl⟩ := key (some (s.names.length, [])) s.fl { s with at_ := s.at_ + 1, names := s.names ++ [[]] } h
        subst e1
        refine ⟨[] :: new, by rw [e2]; simp, ?_⟩
        rw [capsO_some] at c1
        simp only [Option.map_some, capsO_some, caps_grp, c1, before, nums_, List.length_append, List.length_cons, List.length_nil, List.nil_append]
    split at h
    · injection R.ok.inj h with e3 e4
      subst e3
      subst e4
      exact none_ (by rw [capsO_some, caps_cls]) rfl
    split at h
    · injection R.ok.inj h with e3 e4
      subst e3
      subst e4
      exact none_ (by rw [capsO_some, caps_leaf]; split <;> decide) rfl
    split at h
    · injection R.ok.inj h with e3 e4
      subst e3
      subst e4
      exact none_ (by rw [capsO_some, caps_leaf]; split <;> decide) rfl
    split at h
    · split at h
      · cases h
      · injection R.ok.inj h with e3 e4
        subst e3
        subst e4
        exact none_ (by rw [capsO_some, caps_cls]) rfl
    split at h
    · split at h
      · rename_i k hk
        injection R.ok.inj h with e3 e4
        subst e3
        subst e4
        refine none_ ?_ rfl
        rw [capsO_some, caps_leaf]
        rintro rfl
        unfold signs at hk
        repeat' split at hk
        all_goals simp at hk
      · split at h
        · cases h
        · injection R.ok.inj h with e3 e4
          subst e3
          subst e4
          exact none_ (by rw [capsO_some, caps_cls]) rfl
    · injection R.ok.inj h with e3 e4
      subst e3
      subst e4
      exact none_ (by rw [capsO_some, caps_cls]) rfl
/-- The whole: the groups are numbered 1, 2 .. in the order in which they begin, by their names. -/
theorem parse_caps {f : Fl} {x : Option Nd} {s1 : St} (h : parse rs cls perl f = .ok (x, s1)) : ∃ (t : Nd) (new : List (List UInt8)), x = some t ∧ s1.names = [] :: new ∧ capsN t = nums_ 1 new := by
  obtain ⟨t, rfl⟩ := alts_some _ _ _ h
  obtain ⟨new, e, c⟩ := go_caps _ _ _ h
  exact ⟨t, new, rfl, e, by simpa [capsO_some, before, capsL] using c⟩
end Go.Proofs.Ytaodcmppbacfbaa.SynP

namespace Go.Proofs.Ytaodcmppbacfbaa
open Go.RowKit

/-- Names with their numbers, split. -/
theorem nums_split : ∀ (x : List (Nat × List UInt8)) (k : Nat) (l : List (List UInt8)) (y : List (Nat × List UInt8)), SynP.nums_ k l = x ++ y → ∃ la lb, l = la ++ lb ∧ x = SynP.nums_ k la ∧ y = SynP.nums_ (k + la.length) lb
  | [], k, l, y, h => ⟨[], l, rfl, rfl, by simpa using h.symm⟩
  | a :: x, k, [], y, h => by simp [SynP.nums_] at h
  | a :: x, k, b :: l, y, h => by
    unfold SynP.nums_ at h
    rw [List.cons_append] at h
    injection h with h1 h2
    obtain ⟨la, lb, e1, e2, e3⟩ := nums_split x (k + 1) l y h2
    refine ⟨b :: la, lb, by rw [e1]; rfl, by unfold SynP.nums_; rw [h1, ← e2], ?_⟩
    rw [e3, List.length_cons]
    congr 1
    omega
/-- What the walk may turn: the count and the mark. -/
structure Wk (N : Nat) (w w' : World) : Prop where
  os : w'.os = w.os
  tape : w'.tape = w.tape
  output : w'.output = w.output
  size : w.heap.size ≤ w'.heap.size
  block : ∀ k, k < w.heap.size → k ≠ N → k ≠ N + 1 → w'.heap[k]? = w.heap[k]?
theorem Wk.rfl_ (N : Nat) (w : World) : Wk N w w := ⟨rfl, rfl, rfl, Nat.le_refl _, fun _ _ _ _ => rfl⟩
theorem Wk.step {N : Nat} {a b c : World} (h : Wk N a b) (k : Wk N b c) : Wk N a c :=
  ⟨k.os.trans h.os, k.tape.trans h.tape, k.output.trans h.output, Nat.le_trans h.size k.size, fun n h1 h2 h3 => (k.block n (Nat.lt_of_lt_of_le h1 h.size) h2 h3).trans (h.block n h1 h2 h3)⟩
theorem Wk.below {N : Nat} {a b : World} (h : Below a.heap.size a b) : Wk N a b := ⟨h.os, h.tape, h.output, h.size, fun k hk _ _ => h.block k hk⟩
theorem Wk.set {N : Nat} (w : World) (B o : Nat) (u : Value) (h : B = N ∨ B = N + 1) : Wk N w (w.setCell ⟨B, o, none⟩ u) :=
  ⟨rfl, rfl, rfl, by simp [World.setCell], fun k _ h1 h2 => Below.heap_setCell w ⟨B, o, none⟩ u k (by rcases h with rfl | rfl <;> assumption)⟩
theorem Wk.drew {N : Nat} {a b : World} (h : Wk N a b) : Wk N a b.drew := ⟨h.os, h.tape, h.output, h.size, h.block⟩
/-- What the walk holds: a tree, the names, the count, the mark; a block that is the tree's box. -/
structure GrS (N : Nat) (w wr : World) (nd : SynP.Nd) (r : RawN) (A : Option Addr) (ns : List ByteArray) (k : Nat) (V : Nat) : Prop where
  wk : Wk N w wr
  cN : wr.heap[N]? = some (.cells #[.int .i64 k] 3)
  cO : wr.heap[N + 1]? = some (.cells #[.bool true] 4)
  lies : Lies wr (fun b => b < N) nd r
  nms : SeqAt Estr wr N A ns
  box : wr.heap[V]? = some (.cells r.cells.toArray 28)
  hV : N + 1 < V
section
variable {N : Nat} {w wr wx : World} {nd : SynP.Nd} {r : RawN} {A : Option Addr} {ns : List ByteArray} {k k' : Nat} {V : Nat}
theorem StandN.wk (h : Wk N wr wx) (hc : ∃ cs, wr.heap[N]? = some (.cells cs 3)) (ho : ∃ cs, wr.heap[N + 1]? = some (.cells cs 4)) : StandN (fun b => b < N) wr wx := by
  obtain ⟨c1, hc⟩ := hc
  obtain ⟨c2, ho⟩ := ho
  have hne : ∀ {b : Nat} {cs : Array Value} {t : TypeId} {fz : Nat × Nat}, wr.heap[b]? = some (.cells cs t fz) → t ≠ 3 → t ≠ 4 → b ≠ N ∧ b ≠ N + 1 := by
    intro b cs t fz e h1 h2
    constructor
    · rintro rfl
      rw [hc] at e
      injection e with e
      injection e with _ e
      exact h1 e.symm
    · rintro rfl
      rw [ho] at e
      injection e with e
      injection e with _ e
      exact h2 e.symm
  exact ⟨⟨h.size, fun b cs fz e => h.block b (Array.getElem?_eq_some_iff.1 e).1 (hne e (by decide) (by decide)).1 (hne e (by decide) (by decide)).2⟩, fun b cs fz _ e => h.block b (Array.getElem?_eq_some_iff.1 e).1 (hne e (by decide) (by decide)).1 (hne e (by decide) (by decide)).2⟩
/-- A step of the walk: the count and the mark as they stand behind it. -/
theorem GrS.step (h : GrS N w wr nd r A ns k V) (g : Wk N wr wx) (hc : wx.heap[N]? = some (.cells #[.int .i64 k'] 3)) (ho : wx.heap[N + 1]? = some (.cells #[.bool true] 4)) : GrS N w wx nd r A ns k' V := by
  have hV := h.hV
  have hs := StandN.wk g ⟨_, h.cN⟩ ⟨_, h.cO⟩
  refine ⟨h.wk.step g, hc, ho, Lies.on hs _ _ h.lies, h.nms.keep fun b o hb => ?_, (g.block V (Array.getElem?_eq_some_iff.1 h.box).1 (by omega) (by omega)).trans h.box, hV⟩
  by_cases hlt : b < wr.heap.size
  · exact World.cell?_of_block (g.block b hlt (by omega) (by omega))
  · have := (Array.getElem?_eq_some_iff.1 h.cN).1
    omega
theorem GrS.setC (h : GrS N w wr nd r A ns k V) (x : Int) (hx : x = k') : GrS N w (wr.setCell ⟨N, 0, none⟩ (.int .i64 x)) nd r A ns k' V := by
  subst hx
  refine h.step (Wk.set _ _ _ _ (.inl rfl)) ?_ ((Below.heap_setCell _ ⟨N, 0, none⟩ _ _ (by show ¬ N + 1 = N; omega)).trans h.cO)
  simp only [World.setCell, Array.getElem?_modify, if_true, h.cN, Option.map_some]
  rfl
theorem GrS.setO (h : GrS N w wr nd r A ns k V) : GrS N w (wr.setCell ⟨N + 1, 0, none⟩ (.bool true)) nd r A ns k V := by
  refine h.step (Wk.set _ _ _ _ (.inr rfl)) ((Below.heap_setCell _ ⟨N + 1, 0, none⟩ _ _ (by show ¬ N = N + 1; omega)).trans h.cN) ?_
  simp only [World.setCell, Array.getElem?_modify, if_true, h.cO, Option.map_some]
  rfl
theorem GrS.drew (h : GrS N w wr nd r A ns k V) : GrS N w wr.drew nd r A ns k V := h.step (Wk.rfl_ N wr).drew h.cN h.cO
end
/-- The end of the walk. -/
def WalkEnd (N : Nat) (w : World) (k : Nat) (e : Ending) (w' : World) : Prop := e = .returned (.tuple #[]) ∧ Wk N w w' ∧ w'.heap[N]? = some (.cells #[.int .i64 k] 3) ∧ w'.heap[N + 1]? = some (.cells #[.bool true] 4)

set_option maxRecDepth 100000 in
set_option maxHeartbeats 6400000 in
theorem walk_all (n : Nat) : ∀ (nd : SynP.Nd), SizeOf.sizeOf nd ≤ n → ∀ (r : RawN) (N k : Nat) (A : Option Addr) (c : Nat) (ns : List (List UInt8)) (pre l post : List (List UInt8)) (w : World),
    Lies w (fun b => b < N) nd r → SeqAt Estr w N A (ns.map str) → w.heap[N]? = some (.cells #[.int .i64 k] 3) → w.heap[N + 1]? = some (.cells #[.bool true] 4) →
    ns = pre ++ l ++ post → pre.length = k + 1 → SynP.capsN nd = SynP.nums_ (k + 1) l → ns.length ≤ 9223372036854775807 →
    Calls Try.prog 10 #[.agg r.cells.toArray, .slice A ns.length c, .pointer (some ⟨N, 0, none⟩), .pointer (some ⟨N + 1, 0, none⟩)] w (WalkEnd N w (k + l.length)) := by
  induction n with
  | zero => intro nd hj; cases nd; simp at hj
  | succ n ih =>
    intro nd hj r N k A c ns pre l post w hl hn hcN hcO hns hpre hcap hlen
    have IH := Lib.hid ih
    clear ih
    obtain ⟨kind, set, fold, least, most, lazy, cap, name, kids⟩ := nd
    have hNw : N + 1 < w.heap.size := (Array.getElem?_eq_some_iff.1 hcO).1
    have hS0 : GrS N w (w.alloc (.cells r.cells.toArray 28)) (.mk kind set fold least most lazy cap name kids) r A (ns.map str) k w.heap.size := by
      have hb : Below w.heap.size w (w.alloc (.cells r.cells.toArray 28)) := (Below.refl _ w).alloc (Nat.le_refl _) _
      exact ⟨Wk.below hb, (hb.block N (by omega)).trans hcN, (hb.block _ hNw).trans hcO, Lies.on (StandN.below hb) _ _ hl, hn.keep fun b o hb2 => hb.cell (p := ⟨b, o, none⟩) (by show b < _; omega), heap_alloc_new w _, hNw⟩
    have HJ : Hid (∀ x ∈ kids, SizeOf.sizeOf x ≤ n) := Lib.hid fun x hx => by
      have := List.sizeOf_lt_of_mem hx
      simp at hj
      omega
    have HS0 := Lib.hid hS0
    have hl2 := hl
    unfold Lies at hl2
    obtain ⟨e1, -, -, -, -, -, e7, e8, e9, e10, e11, -⟩ := hl2
    obtain ⟨r0, r1, r2, r3, r4, r5, r6, r7, r8, r9, ra, rb, rc⟩ := r
    simp only at e1 e7 e8 e9 e10 e11
    subst e1; subst e7; subst e8; subst e9
    obtain ⟨kn, hkn⟩ : ∃ kn, kids.length = kn := ⟨_, rfl⟩
    have HKn := Lib.hid hkn
    rw [hkn] at HS0 e10 ⊢
    have hkb : (kn : Int) ≤ 9223372036854775807 := by unfold maxLen at *; omega
    obtain ⟨V, hV⟩ : ∃ V, w.heap.size = V := ⟨_, rfl⟩
    have HVe := Lib.hid hV
    rw [hV] at HS0
    simp only [RawN.cells] at HS0 ⊢
    have HNs := Lib.hid hns
    have HPre := Lib.hid hpre
    have HCap := Lib.hid hcap
    clear hl hn hcN hcO hj hkn hS0 hV e10 e11 hns hpre hcap
    go_enter Try.func10, Try.ntmps10
    go_upto_region 1 with fail
    rw [HVe.out]
    generalize w.alloc (.cells #[.int .i64 (kind : Int), .slice r1 r2 r3, .bool r4, .int .i64 r5, .int .i64 r6, .bool r7, .int .i64 (cap : Int), .string (str name), .slice ra kn rc] 28) = W at HS0 ⊢
    have hcB : ∀ o, W.cell? ⟨V, o, none⟩ = (#[.int .i64 (kind : Int), .slice r1 r2 r3, .bool r4, .int .i64 r5, .int .i64 r6, .bool r7, .int .i64 (cap : Int), .string (str name), .slice ra kn rc] : Array Value)[o]? := fun o => Lib.cell_of_heap HS0.out.box o
    have hcN : W.cell? ⟨N, 0, none⟩ = some (.int .i64 (k : Int)) := Lib.cell_of_heap HS0.out.cN 0
    have hzN := Lib.frozen_of_heap HS0.out.cN 0
    have hcO : W.cell? ⟨N + 1, 0, none⟩ = some (.bool true) := Lib.cell_of_heap HS0.out.cO 0
    have hzO := Lib.frozen_of_heap HS0.out.cO 0
    have hVN := HS0.out.hV
    have hV1 : ¬ V = N := by omega
    have hV2 : ¬ V = N + 1 := by omega
    by_cases hk : kind = 11
    · subst hk
      obtain ⟨l1, h1, h2, h3⟩ : ∃ l1, l = name :: l1 ∧ cap = k + 1 ∧ SynP.capsL kids = SynP.nums_ (k + 1 + 1) l1 := by
        have hc := HCap.out
        simp only [SynP.capsN, if_true, List.singleton_append] at hc
        cases l with
        | nil => simp [SynP.nums_] at hc
        | cons x l1 =>
          unfold SynP.nums_ at hc
          injection hc with h1 h2
          injection h1 with h1 h3
          exact ⟨l1, by rw [h3], h1, h2⟩
      obtain ⟨k1, hk1⟩ : ∃ k1, k + 1 = k1 := ⟨_, rfl⟩
      rw [hk1] at h2 h3
      have hin : k1 < ns.length := by
        rw [HNs.out, h1]
        have := HPre.out
        simp only [List.length_append, List.length_cons]
        omega
      have hnm : ns[k1] = name := by
        simp only [HNs.out, h1]
        rw [List.getElem_append_left (by rw [List.length_append, List.length_cons, HPre.out]; omega), List.getElem_append_right (by rw [HPre.out]; omega)]
        simp [HPre.out, hk1]
      have hsum : (k : Int) + 1 = (k1 : Int) := by omega
      have hwr : IntKind.i64.wrap (k1 : Int) = (k1 : Int) := by rw [IntKind.wrap_i64]; omega
      have HL1 := Lib.hid h1
      have HL3 := Lib.hid h3
      have HK1 := Lib.hid hk1
      subst h2
      clear h1 h3 hk1
      go_upto_region 3 with fail
      have hs2 := HS0.out.setC (cap : Int) rfl
      generalize W.setCell ⟨N, 0, none⟩ (.int .i64 (cap : Int)) = W2 at hs2 ⊢
      have HS2 := Lib.hid hs2
      clear hs2 hcB hcN hzN hcO hzO hwr hsum
      have hcB : ∀ o, W2.cell? ⟨V, o, none⟩ = (#[.int .i64 (11 : Int), .slice r1 r2 r3, .bool r4, .int .i64 r5, .int .i64 r6, .bool r7, .int .i64 (cap : Int), .string (str name), .slice ra kn rc] : Array Value)[o]? := fun o => Lib.cell_of_heap HS2.out.box o
      have hcN : W2.cell? ⟨N, 0, none⟩ = some (.int .i64 (cap : Int)) := Lib.cell_of_heap HS2.out.cN 0
      have hcO : W2.cell? ⟨N + 1, 0, none⟩ = some (.bool true) := Lib.cell_of_heap HS2.out.cO 0
      have hzO := Lib.frozen_of_heap HS2.out.cO 0
      obtain ⟨b, off, rfl, hb, hx⟩ := HS2.out.nms.at_ (i := cap) (by rw [List.length_map]; exact hin)
      have hx0 : W2.cell? ⟨b, off + cap, none⟩ = some (.string (str name)) := by
        have := hx 0 (by decide)
        rw [List.getElem_map, hnm] at this
        rw [show off + cap = off + (cap * Estr.k + 0) by show _ = off + (cap * 1 + 0); omega]
        exact this
      have hi0 : (0 : Int) ≤ (cap : Int) := by omega
      have hi1 : (cap : Int) < (ns.length : Int) := by omega
      have HNm := Lib.hid hnm
      clear hx hnm
      go_still_tail 30, (by kernel_rfl)
      go_upto_region 4 with fail
      have hs3 := HS2.out.setO.drew
      generalize (W2.setCell ⟨N + 1, 0, none⟩ (.bool true)).drew = W3 at hs3 ⊢
      have HS3 := Lib.hid hs3
      clear hs3 hcB hcN hcO hzO hx0 hi0 hi1 HS2 HS0
      have HM : Hid (ns = (pre ++ [name]) ++ l1 ++ post ∧ (pre ++ [name]).length = cap + 1 ∧ SynP.capsL (kids.drop 0) = SynP.nums_ (cap + 1) l1 ∧ cap + l1.length = k + l.length) := Lib.hid ⟨by rw [HNs.out, HL1.out]; simp, by rw [List.length_append, HPre.out, HK1.out]; rfl, HL3.out, by rw [HL1.out, List.length_cons, ← HK1.out]; omega⟩
      clear HCap HNs HPre HL1 HL3 HNm hin hb
      go_wp2_with fail
      go_loopw [8] (fun s8 wr => ∃ i : Nat, i ≤ kn ∧ s8 = .int .i64 i ∧ ∃ (kc : Nat) (l2 pre2 : List (List UInt8)), Hid (GrS N w wr (.mk 11 set fold least most lazy cap name kids) ⟨11, r1, r2, r3, r4, r5, r6, r7, cap, str name, ra, kn, rc⟩ (some ⟨b, off, none⟩) (ns.map str) kc V) ∧ Hid (ns = pre2 ++ l2 ++ post ∧ pre2.length = kc + 1 ∧ SynP.capsL (kids.drop i) = SynP.nums_ (kc + 1) l2 ∧ kc + l2.length = k + l.length)) (fun s8 _ => kn + 1 - (intOf s8).toNat)
      case atStart => exact ⟨0, Nat.zero_le _, rfl, cap, _, _, HS3, HM⟩
      case round =>
        obtain ⟨i, hi, rfl, kc, l2, pre2, HS, HM2⟩ := hrel
        clear HS3 HM
        have hcB : ∀ o, wr.cell? ⟨V, o, none⟩ = (#[.int .i64 (11 : Int), .slice r1 r2 r3, .bool r4, .int .i64 r5, .int .i64 r6, .bool r7, .int .i64 (cap : Int), .string (str name), .slice ra kn rc] : Array Value)[o]? := fun o => Lib.cell_of_heap HS.out.box o
        by_cases hlt : i < kn
        · have hii : (i : Int) < (kn : Int) := by omega
          have hi0 : (0 : Int) ≤ (i : Int) := by omega
          obtain ⟨-, rs, hrs, hkids, hls⟩ := HS.out.lies.kids
          have hik : i < kids.length := by rw [HKn.out]; exact hlt
          have hir : i < rs.length := by rw [hrs]; exact hik
          obtain ⟨b2, off2, e2, hb2, hx2⟩ := hkids.nth (by omega)
          simp only at e2
          subst e2
          have hkl := LiesL.nth _ _ hrs hls i hik hir
          have hx3 := fun o ho => hx2 i hir o ho
          obtain ⟨r', hr'⟩ : ∃ r', rs[i] = r' := ⟨_, rfl⟩
          rw [hr'] at hkl hx3
          clear hx2 hr'
          obtain ⟨q0, q1, q2, q3, q4, q5, q6, q7, q8, q9, qa, qb, qc⟩ := r'
          obtain ⟨m1, m2, m3, m4⟩ := HM2.out
          rw [List.drop_eq_getElem_cons hik] at m3
          unfold SynP.capsL at m3
          obtain ⟨la, lb, s1, s2, s3⟩ := nums_split _ _ _ _ m3.symm
          subst s1
          have HW := Lib.hid (IH.out kids[i] (HJ.out _ (List.getElem_mem hik)) _ N kc _ c ns pre2 la (lb ++ post) wr hkl HS.out.nms HS.out.cN HS.out.cO (by rw [m1]; simp) m2 s2 hlen)
          have HM3 : Hid (ns = (pre2 ++ la) ++ lb ++ post ∧ (pre2 ++ la).length = (kc + la.length) + 1 ∧ SynP.capsL (kids.drop (i + 1)) = SynP.nums_ ((kc + la.length) + 1) lb ∧ (kc + la.length) + lb.length = k + l.length) := Lib.hid ⟨by rw [m1]; simp, by rw [List.length_append, m2]; omega, by rw [s3]; congr 1; omega, by rw [← m4, List.length_append]; omega⟩
          have c0 : wr.cell? ⟨b2, off2 + i * 9, none⟩ = some (.int .i64 q0) := by rw [show off2 + i * 9 = off2 + (i * 9 + 0) by omega]; exact hx3 0 (by decide)
          have c1 : wr.cell? ⟨b2, off2 + i * 9 + 1, none⟩ = some (.slice q1 q2 q3) := by rw [show off2 + i * 9 + 1 = off2 + (i * 9 + 1) by omega]; exact hx3 1 (by decide)
          have c2 : wr.cell? ⟨b2, off2 + i * 9 + 2, none⟩ = some (.bool q4) := by rw [show off2 + i * 9 + 2 = off2 + (i * 9 + 2) by omega]; exact hx3 2 (by decide)
          have c3 : wr.cell? ⟨b2, off2 + i * 9 + 3, none⟩ = some (.int .i64 q5) := by rw [show off2 + i * 9 + 3 = off2 + (i * 9 + 3) by omega]; exact hx3 3 (by decide)
          have c4 : wr.cell? ⟨b2, off2 + i * 9 + 4, none⟩ = some (.int .i64 q6) := by rw [show off2 + i * 9 + 4 = off2 + (i * 9 + 4) by omega]; exact hx3 4 (by decide)
          have c5 : wr.cell? ⟨b2, off2 + i * 9 + 5, none⟩ = some (.bool q7) := by rw [show off2 + i * 9 + 5 = off2 + (i * 9 + 5) by omega]; exact hx3 5 (by decide)
          have c6 : wr.cell? ⟨b2, off2 + i * 9 + 6, none⟩ = some (.int .i64 q8) := by rw [show off2 + i * 9 + 6 = off2 + (i * 9 + 6) by omega]; exact hx3 6 (by decide)
          have c7 : wr.cell? ⟨b2, off2 + i * 9 + 7, none⟩ = some (.string q9) := by rw [show off2 + i * 9 + 7 = off2 + (i * 9 + 7) by omega]; exact hx3 7 (by decide)
          have c8 : wr.cell? ⟨b2, off2 + i * 9 + 8, none⟩ = some (.slice qa qb qc) := by rw [show off2 + i * 9 + 8 = off2 + (i * 9 + 8) by omega]; exact hx3 8 (by decide)
          clear hx3 hkl hls hkids m1 m2 m3 m4 s2 s3 hrs hik hir
          simp only [RawN.cells] at HW
          go_wp2_with (go_at_call 10; refine HW.out.mono ?_; rintro e w4 ⟨rfl, hw4, hc4, ho4⟩; have HS4 := Lib.hid (HS.out.step hw4 hc4 ho4); clear hw4 hc4 ho4)
          go_roundw
          case rel => exact ⟨i + 1, by omega, by go_num, kc + la.length, lb, pre2 ++ la, HS4, HM3⟩
          case measure => simp only [intOf]; omega
        · obtain rfl : i = kn := by omega
          have hii : ¬ (i : Int) < (i : Int) := by omega
          obtain ⟨m1, m2, m3, m4⟩ := HM2.out
          rw [List.drop_of_length_le (by rw [HKn.out]; exact Nat.le_refl _)] at m3
          have hl2 : l2 = [] := by
            cases l2 with
            | nil => rfl
            | cons x l2 => unfold SynP.capsL SynP.nums_ at m3; cases m3
          subst hl2
          have HE : Hid (kc = k + l.length) := Lib.hid m4
          clear m1 m2 m3 m4
          go_wp2
          go_end0
          exact ⟨rfl, HS.out.wk, by rw [← HE.out]; exact HS.out.cN, HS.out.cO⟩
    · have HS3 := HS0
      have HM : Hid (ns = pre ++ l ++ post ∧ pre.length = k + 1 ∧ SynP.capsL (kids.drop 0) = SynP.nums_ (k + 1) l ∧ k + l.length = k + l.length) := Lib.hid ⟨HNs.out, HPre.out, by have := HCap.out; simp only [SynP.capsN, if_neg hk, List.nil_append] at this; exact this, rfl⟩
      have hk2 : ((kind : Int) == 11) = false := beq_eq_false_iff_ne.2 (by omega)
      clear HCap HNs HPre hcN hzN hcO hzO HS0
      go_upto_region 4 with fail
      go_wp2_with fail
      go_loopw [8] (fun s8 wr => ∃ i : Nat, i ≤ kn ∧ s8 = .int .i64 i ∧ ∃ (kc : Nat) (l2 pre2 : List (List UInt8)), Hid (GrS N w wr (.mk kind set fold least most lazy cap name kids) ⟨kind, r1, r2, r3, r4, r5, r6, r7, cap, str name, ra, kn, rc⟩ A (ns.map str) kc V) ∧ Hid (ns = pre2 ++ l2 ++ post ∧ pre2.length = kc + 1 ∧ SynP.capsL (kids.drop i) = SynP.nums_ (kc + 1) l2 ∧ kc + l2.length = k + l.length)) (fun s8 _ => kn + 1 - (intOf s8).toNat)
      case atStart => exact ⟨0, Nat.zero_le _, rfl, k, l, pre, HS3, Lib.hid ⟨HM.out.1, HM.out.2.1, HM.out.2.2.1, rfl⟩⟩
      case round =>
        obtain ⟨i, hi, rfl, kc, l2, pre2, HS, HM2⟩ := hrel
        clear HS3 HM
        have hcB : ∀ o, wr.cell? ⟨V, o, none⟩ = (#[.int .i64 (kind : Int), .slice r1 r2 r3, .bool r4, .int .i64 r5, .int .i64 r6, .bool r7, .int .i64 (cap : Int), .string (str name), .slice ra kn rc] : Array Value)[o]? := fun o => Lib.cell_of_heap HS.out.box o
        by_cases hlt : i < kn
        · have hii : (i : Int) < (kn : Int) := by omega
          have hi0 : (0 : Int) ≤ (i : Int) := by omega
          obtain ⟨-, rs, hrs, hkids, hls⟩ := HS.out.lies.kids
          have hik : i < kids.length := by rw [HKn.out]; exact hlt
          have hir : i < rs.length := by rw [hrs]; exact hik
          obtain ⟨b2, off2, e2, hb2, hx2⟩ := hkids.nth (by omega)
          simp only at e2
          subst e2
          have hkl := LiesL.nth _ _ hrs hls i hik hir
          have hx3 := fun o ho => hx2 i hir o ho
          obtain ⟨r', hr'⟩ : ∃ r', rs[i] = r' := ⟨_, rfl⟩
          rw [hr'] at hkl hx3
          clear hx2 hr'
          obtain ⟨q0, q1, q2, q3, q4, q5, q6, q7, q8, q9, qa, qb, qc⟩ := r'
          obtain ⟨m1, m2, m3, m4⟩ := HM2.out
          rw [List.drop_eq_getElem_cons hik] at m3
          unfold SynP.capsL at m3
          obtain ⟨la, lb, s1, s2, s3⟩ := nums_split _ _ _ _ m3.symm
          subst s1
          have HW := Lib.hid (IH.out kids[i] (HJ.out _ (List.getElem_mem hik)) _ N kc _ c ns pre2 la (lb ++ post) wr hkl HS.out.nms HS.out.cN HS.out.cO (by rw [m1]; simp) m2 s2 hlen)
          have HM3 : Hid (ns = (pre2 ++ la) ++ lb ++ post ∧ (pre2 ++ la).length = (kc + la.length) + 1 ∧ SynP.capsL (kids.drop (i + 1)) = SynP.nums_ ((kc + la.length) + 1) lb ∧ (kc + la.length) + lb.length = k + l.length) := Lib.hid ⟨by rw [m1]; simp, by rw [List.length_append, m2]; omega, by rw [s3]; congr 1; omega, by rw [← m4, List.length_append]; omega⟩
          have c0 : wr.cell? ⟨b2, off2 + i * 9, none⟩ = some (.int .i64 q0) := by rw [show off2 + i * 9 = off2 + (i * 9 + 0) by omega]; exact hx3 0 (by decide)
          have c1 : wr.cell? ⟨b2, off2 + i * 9 + 1, none⟩ = some (.slice q1 q2 q3) := by rw [show off2 + i * 9 + 1 = off2 + (i * 9 + 1) by omega]; exact hx3 1 (by decide)
          have c2 : wr.cell? ⟨b2, off2 + i * 9 + 2, none⟩ = some (.bool q4) := by rw [show off2 + i * 9 + 2 = off2 + (i * 9 + 2) by omega]; exact hx3 2 (by decide)
          have c3 : wr.cell? ⟨b2, off2 + i * 9 + 3, none⟩ = some (.int .i64 q5) := by rw [show off2 + i * 9 + 3 = off2 + (i * 9 + 3) by omega]; exact hx3 3 (by decide)
          have c4 : wr.cell? ⟨b2, off2 + i * 9 + 4, none⟩ = some (.int .i64 q6) := by rw [show off2 + i * 9 + 4 = off2 + (i * 9 + 4) by omega]; exact hx3 4 (by decide)
          have c5 : wr.cell? ⟨b2, off2 + i * 9 + 5, none⟩ = some (.bool q7) := by rw [show off2 + i * 9 + 5 = off2 + (i * 9 + 5) by omega]; exact hx3 5 (by decide)
          have c6 : wr.cell? ⟨b2, off2 + i * 9 + 6, none⟩ = some (.int .i64 q8) := by rw [show off2 + i * 9 + 6 = off2 + (i * 9 + 6) by omega]; exact hx3 6 (by decide)
          have c7 : wr.cell? ⟨b2, off2 + i * 9 + 7, none⟩ = some (.string q9) := by rw [show off2 + i * 9 + 7 = off2 + (i * 9 + 7) by omega]; exact hx3 7 (by decide)
          have c8 : wr.cell? ⟨b2, off2 + i * 9 + 8, none⟩ = some (.slice qa qb qc) := by rw [show off2 + i * 9 + 8 = off2 + (i * 9 + 8) by omega]; exact hx3 8 (by decide)
          clear hx3 hkl hls hkids m1 m2 m3 m4 s2 s3 hrs hik hir
          simp only [RawN.cells] at HW
          go_wp2_with (go_at_call 10; refine HW.out.mono ?_; rintro e w4 ⟨rfl, hw4, hc4, ho4⟩; have HS4 := Lib.hid (HS.out.step hw4 hc4 ho4); clear hw4 hc4 ho4)
          go_roundw
          case rel => exact ⟨i + 1, by omega, by go_num, kc + la.length, lb, pre2 ++ la, HS4, HM3⟩
          case measure => simp only [intOf]; omega
        · obtain rfl : i = kn := by omega
          have hii : ¬ (i : Int) < (i : Int) := by omega
          obtain ⟨m1, m2, m3, m4⟩ := HM2.out
          rw [List.drop_of_length_le (by rw [HKn.out]; exact Nat.le_refl _)] at m3
          have hl2 : l2 = [] := by
            cases l2 with
            | nil => rfl
            | cons x l2 => unfold SynP.capsL SynP.nums_ at m3; cases m3
          subst hl2
          have HE : Hid (kc = k + l.length) := Lib.hid m4
          clear m1 m2 m3 m4
          go_wp2
          go_end0
          exact ⟨rfl, HS.out.wk, by rw [← HE.out]; exact HS.out.cN, HS.out.cO⟩

theorem parseT_ok {d : ByteArray} {f : SynP.Fl} {nd : SynP.Nd} {ns : List (List UInt8)} (h : parseT d f = .ok nd ns) : ∃ new, ns = [] :: new ∧ SynP.capsN nd = SynP.nums_ 1 new := by
  unfold parseT at h
  split at h
  · cases h
  split at h
  · cases h
  unfold resR at h
  split at h
  · cases h
  · rename_i nd2 s hp
    injection h with e1 e2
    obtain ⟨t, new, e3, e4, e5⟩ := SynP.parse_caps hp
    injection e3 with e3
    subst e1; subst e3
    exact ⟨new, by rw [← e2]; exact e4, e5⟩
  · cases h
theorem parseT_bad {d : ByteArray} {f : SynP.Fl} {c p : Int} (h : parseT d f = .bad c p) : c ≠ 0 := by
  unfold parseT at h
  split at h
  · injection h with e1 e2; omega
  split at h
  · injection h with e1 e2; omega
  unfold resR at h
  split at h
  · rename_i c2 k hp
    have := SynP.parse_code hp
    injection h with e1 e2
    omega
  · cases h
  · rename_i s hp
    obtain ⟨t, new, e3, _⟩ := SynP.parse_caps hp
    cases e3

set_option maxRecDepth 100000 in
set_option maxHeartbeats 3200000 in
theorem law_groups (s : ByteArray) (w : World) : Calls Try.prog 4 #[.string s] w fun e w' => e = .returned (.bool true) ∧ Below w.heap.size w w' := by
  have HP := Lib.hid (fun w => parse_any s f0 w)
  cases hR : parseT s f0 with
  | bad c p =>
    rw [hR] at HP
    have hc := parseT_bad hR
    have hfe := faultEq_code (b := p) (d := 0) hc
    clear hR hc
    go_enter Try.func4, Try.ntmps4
    go_wp2_with (first
      | (go_at_call 7; refine (speaks_any _).mono ?_; rintro e w1 ⟨rfl, hb1⟩; have HB1 := Lib.hid hb1; clear hb1)
      | (go_at_call 9; refine (HP.out _).mono ?_; rintro e w2 ⟨hb2, rfl⟩; have HB2 := Lib.hid (HB1.out.trans (hb2.mono HB1.out.size)); clear hb2))
    go_ret
    exact ⟨rfl, (HB2.out.alloc HB2.out.size _).alloc (Nat.le_trans HB2.out.size (by simp)) _⟩
  | ok nd ns =>
    rw [hR] at HP
    obtain ⟨new, hns, hcap⟩ := parseT_ok hR
    have hfe := faultEq_same 0 0
    have HNs := Lib.hid hns
    have HCap := Lib.hid hcap
    clear hR hns hcap
    go_enter Try.func4, Try.ntmps4
    go_upto_region 4 with (first
      | (go_at_call 7; refine (speaks_any _).mono ?_; rintro e w1 ⟨rfl, hb1⟩; have HB1 := Lib.hid hb1; clear hb1)
      | (go_at_call 9; refine (HP.out _).mono ?_; rintro e w2 ⟨hb2, r, A, c, rfl, hl2, hn2, hnc, hcm⟩; obtain ⟨r0, r1, r2, r3, r4, r5, r6, r7, r8, r9, ra, rb, rc⟩ := r; simp only [RawN.cells, List.cons_append, List.nil_append]; have HB2 := Lib.hid (HB1.out.trans (hb2.mono HB1.out.size)); have HL2 := Lib.hid hl2; have HN2 := Lib.hid hn2; clear hb2 hl2 hn2))
    obtain ⟨P, hP⟩ : ∃ P, w2.heap.size = P := ⟨_, rfl⟩
    have hbel : Below w2.heap.size w2 ((w2.alloc (.cells #[.int .i64 r0, .slice r1 r2 r3, .bool r4, .int .i64 r5, .int .i64 r6, .bool r7, .int .i64 r8, .string r9, .slice ra rb rc, .slice A ns.length c] 31)).alloc (.cells #[.int .i64 0, .int .i64 0] 34)) := ((Below.refl _ w2).alloc (Nat.le_refl _) _).alloc (by simp) _
    have hpc : ((w2.alloc (.cells #[.int .i64 r0, .slice r1 r2 r3, .bool r4, .int .i64 r5, .int .i64 r6, .bool r7, .int .i64 r8, .string r9, .slice ra rb rc, .slice A ns.length c] 31)).alloc (.cells #[.int .i64 0, .int .i64 0] 34)).heap[P]? = some (.cells #[.int .i64 r0, .slice r1 r2 r3, .bool r4, .int .i64 r5, .int .i64 r6, .bool r7, .int .i64 r8, .string r9, .slice ra rb rc, .slice A ns.length c] 31) := by
      rw [← hP]
      exact (Below.heap_alloc _ _ _ (by simp)).trans (heap_alloc_new w2 _)
    have hfc : ((w2.alloc (.cells #[.int .i64 r0, .slice r1 r2 r3, .bool r4, .int .i64 r5, .int .i64 r6, .bool r7, .int .i64 r8, .string r9, .slice ra rb rc, .slice A ns.length c] 31)).alloc (.cells #[.int .i64 0, .int .i64 0] 34)).heap[P + 1]? = some (.cells #[.int .i64 0, .int .i64 0] 34) := by
      have := heap_alloc_new (w2.alloc (.cells #[.int .i64 r0, .slice r1 r2 r3, .bool r4, .int .i64 r5, .int .i64 r6, .bool r7, .int .i64 r8, .string r9, .slice ra rb rc, .slice A ns.length c] 31)) (.cells #[.int .i64 0, .int .i64 0] 34)
      rw [World.size_alloc, hP] at this
      exact this
    have hsz : ((w2.alloc (.cells #[.int .i64 r0, .slice r1 r2 r3, .bool r4, .int .i64 r5, .int .i64 r6, .bool r7, .int .i64 r8, .string r9, .slice ra rb rc, .slice A ns.length c] 31)).alloc (.cells #[.int .i64 0, .int .i64 0] 34)).heap.size = P + 2 := by simp [hP]
    have hl3 := Lies.on (StandN.below hbel) _ _ HL2.out
    have hn3 := HN2.out.below hbel
    have hb3 := HB2.out.trans (hbel.mono HB2.out.size)
    rw [hP] at hn3 ⊢
    generalize (w2.alloc (.cells #[.int .i64 r0, .slice r1 r2 r3, .bool r4, .int .i64 r5, .int .i64 r6, .bool r7, .int .i64 r8, .string r9, .slice ra rb rc, .slice A ns.length c] 31)).alloc (.cells #[.int .i64 0, .int .i64 0] 34) = W3 at hpc hfc hsz hl3 hn3 hb3 hbel ⊢
    clear hbel HB1 HB2 HL2 HN2 hP
    have hcP := fun o => Lib.cell_of_heap hpc o
    have hcF := fun o => Lib.cell_of_heap hfc o
    have HB3 := Lib.hid hb3
    have HL3 := Lib.hid hl3
    have HN3 := Lib.hid hn3
    have hsz2 : P + 1 < W3.heap.size := by omega
    have hsz3 : P < W3.heap.size := by omega
    have HPc := Lib.hid hpc
    clear hb3 hl3 hn3 hpc hfc
    go_upto_region 8 with fail
    obtain ⟨N, hN⟩ : ∃ N, P + 2 = N := ⟨_, rfl⟩
    have hbel : Below W3.heap.size W3 ((W3.alloc (.cells #[.int .i64 0] 3)).alloc (.cells #[.bool true] 4)) := ((Below.refl _ W3).alloc (Nat.le_refl _) _).alloc (by simp) _
    have hcN : ((W3.alloc (.cells #[.int .i64 0] 3)).alloc (.cells #[.bool true] 4)).heap[N]? = some (.cells #[.int .i64 0] 3) := by
      rw [← hN, ← hsz]
      exact (Below.heap_alloc _ _ _ (by simp)).trans (heap_alloc_new W3 _)
    have hcO : ((W3.alloc (.cells #[.int .i64 0] 3)).alloc (.cells #[.bool true] 4)).heap[N + 1]? = some (.cells #[.bool true] 4) := by
      have := heap_alloc_new (W3.alloc (.cells #[.int .i64 0] 3)) (.cells #[.bool true] 4)
      rw [World.size_alloc, hsz, hN] at this
      exact this
    have hl4 := Lies.on (StandN.below hbel) _ _ (Lies.mono (A' := fun b => b < N) (fun b _ hb => by omega) _ _ HL3.out)
    have hn4 := (HN3.out.more (show P ≤ W3.heap.size by omega)).below hbel
    have hpc4 := (hbel.block P hsz3).trans HPc.out
    have hb4 := HB3.out.trans (hbel.mono HB3.out.size)
    have hs4 : ((W3.alloc (.cells #[.int .i64 0] 3)).alloc (.cells #[.bool true] 4)).heap.size = N + 2 := by simp [hsz]; omega
    rw [hsz, hN] at hn4
    rw [hN]
    generalize (W3.alloc (.cells #[.int .i64 0] 3)).alloc (.cells #[.bool true] 4) = W4 at hcN hcO hl4 hn4 hpc4 hb4 hs4 hbel ⊢
    have hlen : ns.length ≤ 9223372036854775807 := by unfold maxLen at hcm; omega
    have hcap := HCap.out
    have HW := Lib.hid (walk_all _ nd (Nat.le_refl _) _ N 0 A c ns [[]] new [] W4 hl4 hn4 hcN hcO (by rw [HNs.out]; simp) rfl hcap hlen)
    have hnl : ns.length = new.length + 1 := by rw [HNs.out]; rfl
    obtain ⟨b, off, rfl, hb, hx⟩ := hn4.at_ (i := 0) (by rw [List.length_map, hnl]; omega)
    have hx0 : W4.cell? ⟨b, off, none⟩ = some (.string ⟨#[]⟩) := by
      have h0 := hx 0 (by decide)
      simp only [HNs.out, List.map_cons, List.getElem_cons_zero] at h0
      exact h0
    have hcP := fun o => Lib.cell_of_heap hpc4 o
    have HB4 := Lib.hid hb4
    have HX0 := Lib.hid hx0
    have HPc4 := Lib.hid hpc4
    have HS4 := Lib.hid hs4
    have hwN : w.heap.size ≤ N := by have := HB3.out.size; omega
    clear hx hx0 hcap hl4 hn4 hpc4 hb4 hbel hcN hcO hs4 HB3 HL3 HN3 HPc hcF
    simp only [RawN.cells] at HW
    rw [Nat.zero_add] at HW
    obtain ⟨m, hm⟩ : ∃ m, new.length = m := ⟨_, rfl⟩
    rw [hm] at hnl HW
    rw [hnl] at hcP HW HPc4 ⊢
    go_upto_region 9 with (go_at_call 10; refine HW.out.mono ?_; rintro e w5 ⟨rfl, hw5, hc5, ho5⟩; have HW5 := Lib.hid hw5; have HC5 := Lib.hid hc5; have HO5 := Lib.hid ho5; clear hw5 hc5 ho5)
    have hNlt := HS4.out
    have d0 : w5.cell? ⟨N, 0, none⟩ = some (.int .i64 m) := Lib.cell_of_heap HC5.out 0
    have d1 : w5.cell? ⟨N + 1, 0, none⟩ = some (.bool true) := Lib.cell_of_heap HO5.out 0
    have d2 : ∀ o, w5.cell? ⟨P, o, none⟩ = (#[.int .i64 r0, .slice r1 r2 r3, .bool r4, .int .i64 r5, .int .i64 r6, .bool r7, .int .i64 r8, .string r9, .slice ra rb rc, .slice (some ⟨b, off, none⟩) (m + 1) c] : Array Value)[o]? := fun o => Lib.cell_of_heap ((HW5.out.block P (by omega) (by omega) (by omega)).trans HPc4.out) o
    have d3 : w5.cell? ⟨b, off, none⟩ = some (.string ⟨#[]⟩) := (World.cell?_of_block (HW5.out.block b (by omega) (by omega) (by omega))).trans HX0.out
    have q1 : IntKind.i64.wrap (m : Int) = m := by rw [IntKind.wrap_i64]; omega
    have q2 : (0 : Int) < (m : Int) + 1 := by omega
    clear hcP
    go_wp2_with fail
    go_ret
    refine ⟨rfl, ?_⟩
    have hw := HW5.out
    have hb := HB4.out
    exact ⟨hw.os.trans hb.os, hw.tape.trans hb.tape, hw.output.trans hb.output, Nat.le_trans hb.size hw.size, fun k hk => (hw.block k (Nat.lt_of_lt_of_le hk hb.size) (by omega) (by omega)).trans (hb.block k hk)⟩

end Go.Proofs.Ytaodcmppbacfbaa

namespace Go.Proofs.Ytaodcmppbacfbaa.SynP

variable {cls : List UInt8 → Option (Int → Bool)} {perl : Int → Option (Int → Bool)}

def f0 : Fl := ⟨false, false, false, false⟩
theorem esc_parse (b : Int) : parse [92, b] cls perl f0 = match signs b with
    | some k => .ok (some (.leaf k), ⟨2, [], [[]], f0⟩)
    | none => match escape [92, b] cls perl 0 1 with
      | .bad e k => .bad e k
      | .ok (g, _, _) => .ok (some (.cls g false), ⟨2, [], [[]], f0⟩) := by
  have p0 : pk [92, b] 0 = 92 := rfl
  have p1 : pk [92, b] 1 = b := rfl
  have p2 : pk [92, b] 2 = -1 := rfl
  have t0 : times [92, b] 0 = none := by unfold times; simp [p0]
  have hrow : ∀ (l : List Nd) (some_ : Bool), go [92, b] cls perl 14 (.row l some_) ⟨2, [], [[]], f0⟩ = .ok (some (whole 8 l), ⟨2, [], [[]], f0⟩) := by
    intro l some_
    rw [go]
    simp [p2]
  have hatom : go [92, b] cls perl 14 .atom ⟨0, [], [[]], f0⟩ = match signs b with
      | some k => .ok (some (.leaf k), ⟨2, [], [[]], f0⟩)
      | none => match escape [92, b] cls perl 0 1 with
        | .bad e k => .bad e k
        | .ok (g, _, _) => .ok (some (.cls g false), ⟨2, [], [[]], f0⟩) := by
    rw [go]
    simp only [p0, Nat.zero_add, p1]
    rw [if_neg (by decide), if_neg (by decide), if_neg (by decide), if_neg (by decide), if_neg (by decide), if_pos trivial]
    cases signs b with
    | some k => rfl
    | none =>
      simp only []
      cases he : escape [92, b] cls perl 0 1 with
      | bad e k => rfl
      | ok x =>
        obtain ⟨g, r, j⟩ := x
        have := escape_at he
        have hj : j = 2 := by simp at this; omega
        subst hj
        rfl
  have hrow0 : go [92, b] cls perl 15 (.row [] false) ⟨0, [], [[]], f0⟩ = match signs b with
      | some k => .ok (some (.leaf k), ⟨2, [], [[]], f0⟩)
      | none => match escape [92, b] cls perl 0 1 with
        | .bad e k => .bad e k
        | .ok (g, _, _) => .ok (some (.cls g false), ⟨2, [], [[]], f0⟩) := by
    rw [go]
    simp only [p0, t0, hatom]
    rw [if_neg (by decide), if_neg (by decide)]
    cases signs b with
    | some k => simp [hrow, whole]
    | none =>
      simp only []
      cases escape [92, b] cls perl 0 1 with
      | bad e k => rfl
      | ok x => simp [hrow, whole]
  unfold parse
  show go [92, b] cls perl 16 (.alts []) ⟨0, [], [[]], f0⟩ = _
  rw [go, hrow0]
  cases signs b with
  | some k => simp [p2, whole]
  | none =>
    simp only []
    cases escape [92, b] cls perl 0 1 with
    | bad e k => rfl
    | ok x => simp [p2, whole]

/-- Those that stand for something. -/
def knownB (b : Int) : Bool := [65, 66, 68, 83, 87, 98, 100, 102, 110, 114, 115, 116, 118, 119, 122].contains b
/-- The plain law of SyntaxEscapes, of a byte below 128. -/
theorem esc_law (b : Int) (hb : 0 ≤ b ∧ b < 128) (hp : ∀ c, (perl c).isSome = [68, 83, 87, 100, 115, 119].contains c) :
    (32 < b ∧ b < 127 ∧ ¬ (97 ≤ b ∧ b ≤ 122) ∧ ¬ (65 ≤ b ∧ b ≤ 90) ∧ ¬ (48 ≤ b ∧ b ≤ 57) → parse [92, b] cls perl f0 = .ok (some (.cls (one b) false), ⟨2, [], [[]], f0⟩)) ∧
    (¬ (32 < b ∧ b < 127 ∧ ¬ (97 ≤ b ∧ b ≤ 122) ∧ ¬ (65 ≤ b ∧ b ≤ 90) ∧ ¬ (48 ≤ b ∧ b ≤ 57)) → if knownB b = true then ∃ x s, parse [92, b] cls perl f0 = .ok (x, s) else ∃ e k, parse [92, b] cls perl f0 = .bad e k) := by
  have p1 : pk [92, b] 1 = b := rfl
  have p2 : pk [92, b] 2 = -1 := rfl
  have hnamed : named [92, b] cls 0 2 = .bad 24 0 := by unfold named; rw [if_pos (by rw [p2]; decide)]
  have hnum : number [92, b] 0 2 = .bad 20 0 := by
    unfold number
    rw [if_neg (by rw [p2]; decide)]
    rfl
  refine ⟨fun h => ?_, fun h => ?_⟩
  · rw [esc_parse]
    have hs : signs b = none := by
      unfold signs
      rw [if_neg (by omega), if_neg (by omega), if_neg (by omega), if_neg (by omega)]
    have hpl : plainEsc b = none := by
      unfold plainEsc
      rw [if_neg (by omega), if_neg (by omega), if_neg (by omega), if_neg (by omega), if_neg (by omega)]
    have hpe : perl b = none := by
      have := hp b
      cases hx : perl b with
      | none => rfl
      | some g =>
        rw [hx] at this
        have h2 := List.contains_iff_mem.1 this.symm
        simp at h2
        omega
    rw [hs]
    simp only []
    have : escape [92, b] cls perl 0 1 = .ok (one b, b, 2) := by
      unfold escape
      simp only [p1]
      rw [if_neg (by omega), if_neg (by omega), if_neg (by omega), hpe, hpl]
      simp only []
      rw [if_neg (by omega)]
    rw [this]
  · have hperl : ∀ g, perl b = some g → b = 68 ∨ b = 83 ∨ b = 87 ∨ b = 100 ∨ b = 115 ∨ b = 119 := fun g hx => by
      have := hp b
      rw [hx] at this
      have h2 := List.contains_iff_mem.1 this.symm
      simpa using h2
    have hperl2 : (b = 68 ∨ b = 83 ∨ b = 87 ∨ b = 100 ∨ b = 115 ∨ b = 119) → ∃ g, perl b = some g := fun hx => by
      have := hp b
      have h2 : [68, 83, 87, 100, 115, 119].contains b = true := List.contains_iff_mem.2 (by simpa using hx)
      rw [h2] at this
      exact Option.isSome_iff_exists.1 this
    rw [esc_parse]
    cases hs : signs b with
    | some k =>
      have hk : knownB b = true := by
        unfold signs at hs
        split at hs
        · rename_i e; rw [e]; rfl
        split at hs
        · rename_i e; rw [e]; rfl
        split at hs
        · rename_i e; rw [e]; rfl
        split at hs
        · rename_i e; rw [e]; rfl
        · cases hs
      rw [hk]
      exact ⟨_, _, rfl⟩
    | none =>
      simp only []
      have hn : b ≠ 65 ∧ b ≠ 122 ∧ b ≠ 98 ∧ b ≠ 66 := by
        refine ⟨?_, ?_, ?_, ?_⟩ <;> (rintro rfl; simp [signs] at hs)
      unfold escape
      simp only [p1]
      by_cases h1 : b < 33 ∨ 126 < b
      · rw [if_pos h1]
        have hk : knownB b = false := by
          cases hx : knownB b with
          | false => rfl
          | true =>
            have h2 := List.contains_iff_mem.1 hx
            simp at h2
            omega
        rw [hk]
        exact ⟨_, _, rfl⟩
      · rw [if_neg h1]
        by_cases h2 : b = 112 ∨ b = 80
        · rw [if_pos h2, hnamed]
          rcases h2 with rfl | rfl <;> exact ⟨_, _, rfl⟩
        · rw [if_neg h2]
          by_cases h3 : b = 120
          · rw [if_pos h3, hnum]
            subst h3
            exact ⟨_, _, rfl⟩
          · rw [if_neg h3]
            cases hx : perl b with
            | some g =>
              have hk : knownB b = true := by rcases hperl g hx with rfl | rfl | rfl | rfl | rfl | rfl <;> rfl
              rw [hk]
              exact ⟨_, _, rfl⟩
            | none =>
              have hno : ¬ (b = 68 ∨ b = 83 ∨ b = 87 ∨ b = 100 ∨ b = 115 ∨ b = 119) := fun e => by
                obtain ⟨g, hg⟩ := hperl2 e
                rw [hx] at hg
                cases hg
              simp only []
              cases hpl : plainEsc b with
              | some r =>
                have hk : knownB b = true := by
                  unfold plainEsc at hpl
                  split at hpl
                  · rename_i e; rw [e]; rfl
                  split at hpl
                  · rename_i e; rw [e]; rfl
                  split at hpl
                  · rename_i e; rw [e]; rfl
                  split at hpl
                  · rename_i e; rw [e]; rfl
                  split at hpl
                  · rename_i e; rw [e]; rfl
                  · cases hpl
                rw [hk]
                exact ⟨_, _, rfl⟩
              | none =>
                have hn2 : b ≠ 110 ∧ b ≠ 116 ∧ b ≠ 114 ∧ b ≠ 102 ∧ b ≠ 118 := by
                  refine ⟨?_, ?_, ?_, ?_, ?_⟩ <;> (rintro rfl; simp [plainEsc] at hpl)
                simp only []
                rw [if_pos (show 48 ≤ b ∧ b ≤ 57 ∨ 97 ≤ b ∧ b ≤ 122 ∨ 65 ≤ b ∧ b ≤ 90 by omega)]
                have hk : knownB b = false := by
                  cases hx : knownB b with
                  | false => rfl
                  | true =>
                    have h2 := List.contains_iff_mem.1 hx
                    simp at h2
                    omega
                rw [hk]
                exact ⟨_, _, rfl⟩
end Go.Proofs.Ytaodcmppbacfbaa.SynP

namespace Go.Proofs.Ytaodcmppbacfbaa
open Go.RowKit SetPure

/-- What a law holds behind Parse: the pattern's box and the fault's. -/
structure PatS (w W : World) (P : Nat) (pc fc : Array Value) : Prop where
  bel : Below w.heap.size w W
  pat : W.heap[P]? = some (.cells pc 31)
  flt : W.heap[P + 1]? = some (.cells fc 34)
  hP : w.heap.size ≤ P
theorem PatS.start {w w2 : World} {P : Nat} {pc fc : Array Value} (hb : Below w.heap.size w w2) (hP : w2.heap.size = P) : PatS w ((w2.alloc (.cells pc 31)).alloc (.cells fc 34)) P pc fc := by
  subst hP
  refine ⟨(hb.alloc hb.size _).alloc (Nat.le_trans hb.size (by simp)) _, (Below.heap_alloc _ _ _ (by simp)).trans (heap_alloc_new w2 _), ?_, hb.size⟩
  have := heap_alloc_new (w2.alloc (.cells pc 31)) (.cells fc 34)
  rw [World.size_alloc] at this
  exact this
theorem PatS.below {w W W' : World} {P : Nat} {pc fc : Array Value} (h : PatS w W P pc fc) (k : Below W.heap.size W W') : PatS w W' P pc fc :=
  ⟨h.bel.trans (k.mono h.bel.size), (k.block P (Array.getElem?_eq_some_iff.1 h.pat).1).trans h.pat, (k.block _ (Array.getElem?_eq_some_iff.1 h.flt).1).trans h.flt, h.hP⟩
theorem PatS.pcell {w W : World} {P : Nat} {pc fc : Array Value} (h : PatS w W P pc fc) (o : Nat) : W.cell? ⟨P, o, none⟩ = pc[o]? := Lib.cell_of_heap h.pat o
theorem PatS.fcell {w W : World} {P : Nat} {pc fc : Array Value} (h : PatS w W P pc fc) (o : Nat) : W.cell? ⟨P + 1, o, none⟩ = fc[o]? := Lib.cell_of_heap h.flt o
theorem below_two (w2 : World) (x y : Obj) : Below w2.heap.size w2 ((w2.alloc x).alloc y) := ((Below.refl _ w2).alloc (Nat.le_refl _) _).alloc (by simp) _
theorem SetV.has_ {w : World} {v : Value} {f : Int → Bool} (h : SetV w v f) (r : Int) (x : Bool) (hx : (inR r && f r) = x) : Calls Try.prog 12 #[v, .int .i64 r] w fun e w' => e = .returned (.bool x) ∧ Below w.heap.size w w' :=
  (hold_has_eq h.hold (List.Mem.head _) r x hx).mono fun _ _ h => ⟨h.1, h.2.1⟩
section
variable {w W V : World} {P : Nat} {pc fc : Array Value}
theorem PatS.setP (h : PatS w W P pc fc ∧ KeepR V W) (o : Nat) (u : Value) : PatS w (W.setCell ⟨P, o, none⟩ u) P (pc.setIfInBounds o u) fc ∧ KeepR V (W.setCell ⟨P, o, none⟩ u) := by
  obtain ⟨h, k⟩ := h
  refine ⟨⟨h.bel.setCell (p := ⟨P, o, none⟩) h.hP _, ?_, (Below.heap_setCell _ ⟨P, o, none⟩ _ _ (by show ¬ P + 1 = P; omega)).trans h.flt, h.hP⟩, k.step (StandN.other (A := fun _ => False) o u h.pat (by decide) (by decide)).keep⟩
  simp only [World.setCell, Array.getElem?_modify, if_true, h.pat, Option.map_some]
  rfl
theorem PatS.setF (h : PatS w W P pc fc ∧ KeepR V W) (o : Nat) (u : Value) : PatS w (W.setCell ⟨P + 1, o, none⟩ u) P pc (fc.setIfInBounds o u) ∧ KeepR V (W.setCell ⟨P + 1, o, none⟩ u) := by
  obtain ⟨h, k⟩ := h
  refine ⟨⟨h.bel.setCell (p := ⟨P + 1, o, none⟩) (Nat.le_trans h.hP (Nat.le_succ _)) _, (Below.heap_setCell _ ⟨P + 1, o, none⟩ _ _ (by show ¬ P = P + 1; omega)).trans h.pat, ?_, h.hP⟩, k.step (StandN.other (A := fun _ => False) o u h.flt (by decide) (by decide)).keep⟩
  simp only [World.setCell, Array.getElem?_modify, if_true, h.flt, Option.map_some]
  rfl
/-- The pattern's box and the fault's are stored anew. -/
theorem PatS.all {a0 a1 a2 a3 a4 a5 a6 a7 a8 a9 c0 c1 : Value} (h : PatS w W P #[a0, a1, a2, a3, a4, a5, a6, a7, a8, a9] #[c0, c1]) (b0 b1 b2 b3 b4 b5 b6 b7 b8 b9 d0 d1 : Value) : PatS w ((((((((((((W.setCell ⟨P, 0, none⟩ b0).setCell ⟨P, 1, none⟩ b1).setCell ⟨P, 2, none⟩ b2).setCell ⟨P, 3, none⟩ b3).setCell ⟨P, 4, none⟩ b4).setCell ⟨P, 5, none⟩ b5).setCell ⟨P, 6, none⟩ b6).setCell ⟨P, 7, none⟩ b7).setCell ⟨P, 8, none⟩ b8).setCell ⟨P, 9, none⟩ b9).setCell ⟨P + 1, 0, none⟩ d0).setCell ⟨P + 1, 1, none⟩ d1) P #[b0, b1, b2, b3, b4, b5, b6, b7, b8, b9] #[d0, d1] ∧ KeepR W ((((((((((((W.setCell ⟨P, 0, none⟩ b0).setCell ⟨P, 1, none⟩ b1).setCell ⟨P, 2, none⟩ b2).setCell ⟨P, 3, none⟩ b3).setCell ⟨P, 4, none⟩ b4).setCell ⟨P, 5, none⟩ b5).setCell ⟨P, 6, none⟩ b6).setCell ⟨P, 7, none⟩ b7).setCell ⟨P, 8, none⟩ b8).setCell ⟨P, 9, none⟩ b9).setCell ⟨P + 1, 0, none⟩ d0).setCell ⟨P + 1, 1, none⟩ d1) := by
  have h2 := (PatS.setF (PatS.setF (PatS.setP (PatS.setP (PatS.setP (PatS.setP (PatS.setP (PatS.setP (PatS.setP (PatS.setP (PatS.setP (PatS.setP ⟨h, KeepR.rfl_ W⟩ 0 b0) 1 b1) 2 b2) 3 b3) 4 b4) 5 b5) 6 b6) 7 b7) 8 b8) 9 b9) 0 d0) 1 d1)
  simp only [List.setIfInBounds_toArray, List.set_cons_zero, List.set_cons_succ] at h2
  exact h2
end
end Go.Proofs.Ytaodcmppbacfbaa

namespace Go.Proofs.Ytaodcmppbacfbaa
open Go.RowKit SetPure

theorem SetV.size_ {w : World} {v : Value} {f : Int → Bool} (h : SetV w v f) (n : Int) (hn : (cntF (fun z => inR z && f z) : Int) = n) : Calls Try.prog 11 #[v] w fun e w' => e = .returned (.int .i64 n) ∧ Below w.heap.size w w' :=
  (hold_size h.hold (List.Mem.head _)).mono fun _ _ h => ⟨by rw [← hn]; exact h.1, h.2.1⟩
theorem cntF_range (a b : Int) (h0 : 0 ≤ a) (h1 : a ≤ b) (h2 : b ≤ 1114111) : (cntF (fun z => inR z && decide (a ≤ z ∧ z ≤ b)) : Int) = b - a + 1 := by
  obtain ⟨m, hm⟩ : ∃ m : Nat, a = m := ⟨a.toNat, by omega⟩
  obtain ⟨n, hn⟩ : ∃ n : Nat, b - a + 1 = n := ⟨(b - a + 1).toNat, by omega⟩
  unfold cntF
  rw [show 1114112 = m + (n + (1114112 - m - n)) by omega, cnt_add, cnt_add, cnt_none (lo := 0), cnt_all, cnt_none]
  · omega
  · intro x h3 h4
    rw [decide_eq_false (by omega), Bool.and_false]
  · intro x h3 h4
    rw [decide_eq_true (by omega), (inR_iff x).2 (by omega)]
    rfl
  · intro x h3 h4
    rw [decide_eq_false (by omega), Bool.and_false]
theorem cntF_one (b : Int) (h0 : 0 ≤ b) (h2 : b ≤ 1114111) : cntF (fun z => inR z && SynP.one b z) = 1 := by
  have h := cntF_range b b h0 (Int.le_refl _) h2
  have e : cntF (fun z => inR z && SynP.one b z) = cntF (fun z => inR z && decide (b ≤ z ∧ z ≤ b)) := cntF_congr fun z _ => by
    show (inR z && decide (z = b)) = _
    congr 1
    rw [decide_eq_decide]
    omega
  rw [e]
  omega


end Go.Proofs.Ytaodcmppbacfbaa

namespace Go.Proofs.Ytaodcmppbacfbaa
open Go.RowKit SetPure

/-- 'string([]byte{92, b})'. -/
theorem conv_two (w : World) (b : Int) : (convert 44 9 (.slice (some ⟨w.heap.size, 0, none⟩) 2 2)).run Try.prog (w.alloc (.cells #[.int .u8 92, .int .u8 b] 5)) = .ok (.string (strOfNums [92, b])) (w.alloc (.cells #[.int .u8 92, .int .u8 b] 5)) := conv_new w [92, b] 2 rfl
def escS (b : Int) : ByteArray := strOfNums [92, b]
theorem escS_str (b : Int) : escS b = str [92, UInt8.ofNat b.toNat] := rfl
theorem nat_esc (b : Int) (h : 0 ≤ b ∧ b < 256) : nat_ [92, UInt8.ofNat b.toNat] = [92, b] := by
  unfold nat_
  simp only [List.map_cons, List.map_nil, UInt8.toNat_ofNat']
  congr 1
  congr 1
  omega
theorem perl_some (c : Int) : (perlT c).isSome = [68, 83, 87, 100, 115, 119].contains c := by
  unfold perlT
  by_cases h1 : c = 100
  · subst h1; rfl
  by_cases h2 : c = 68
  · subst h2; rfl
  by_cases h3 : c = 115
  · subst h3; rfl
  by_cases h4 : c = 83
  · subst h4; rfl
  by_cases h5 : c = 119
  · subst h5; rfl
  by_cases h6 : c = 87
  · subst h6; rfl
  rw [if_neg h1, if_neg h2, if_neg h3, if_neg h4, if_neg h5, if_neg h6]
  symm
  show _ = false
  rw [Bool.eq_false_iff]
  intro h
  have h7 := List.contains_iff_mem.1 h
  simp at h7
  omega
/-- Is it a sign that stands for itself? -/
def selfB (b : Int) : Prop := 32 < b ∧ b < 127 ∧ ¬ (97 ≤ b ∧ b ≤ 122) ∧ ¬ (65 ≤ b ∧ b ≤ 90) ∧ ¬ (48 ≤ b ∧ b ≤ 57)
theorem esc_self (b : Int) (hb : selfB b) (w : World) : Calls Try.prog 9 #[.string (escS b), .agg #[.bool false, .bool false, .bool false, .bool false]] w fun e w' => Below w.heap.size w w' ∧
    ∃ (a : Option Addr) (n c : Nat) (r4 : Bool) (r5 r6 : Int) (r7 : Bool) (r8 : Int) (r9 : ByteArray) (ra : Option Addr) (rb rc : Nat) (A : Option Addr) (k : Nat), e = .returned (.tuple #[.agg #[.int .i64 1, .slice a n c, .bool r4, .int .i64 r5, .int .i64 r6, .bool r7, .int .i64 r8, .string r9, .slice ra rb rc, .slice A 1 k], .agg #[.int .i64 0, .int .i64 0]]) ∧ SetV w' (.slice a n c) (SynP.one b) := by
  unfold selfB at hb
  rw [escS_str]
  refine (parse_any _ f0 w).mono fun e w' h => ?_
  rw [parseT_asc _ _ (by
    intro c hc
    simp only [List.mem_cons, List.not_mem_nil, or_false] at hc
    rcases hc with rfl | rfl
    · decide
    · rw [UInt8.toNat_ofNat']; omega) (by simp), nat_esc b (by omega), show f0 = SynP.f0 from rfl, (SynP.esc_law b (by omega) perl_some).1 hb] at h
  obtain ⟨hb, r, A, c, rfl, hl, _, _, _⟩ := h
  refine ⟨hb, ?_⟩
  unfold SynP.Nd.cls Lies at hl
  obtain ⟨e1, e2, _⟩ := hl
  obtain ⟨r0, r1, r2, r3, r4, r5, r6, r7, r8, r9, ra, rb, rc⟩ := r
  simp only at e1 e2
  subst e1
  exact ⟨_, _, _, _, _, _, _, _, _, _, _, _, _, _, rfl, e2⟩
theorem esc_other (b : Int) (h : 0 ≤ b ∧ b < 256) (hb : ¬ selfB b) (w : World) : Calls Try.prog 9 #[.string (escS b), .agg #[.bool false, .bool false, .bool false, .bool false]] w fun e w' => Below w.heap.size w w' ∧
    ∃ (r0 : Int) (a : Option Addr) (n c : Nat) (r4 : Bool) (r5 r6 : Int) (r7 : Bool) (r8 : Int) (r9 : ByteArray) (ra : Option Addr) (rb rc : Nat) (A : Option Addr) (m k : Nat) (ec p : Int), e = .returned (.tuple #[.agg #[.int .i64 r0, .slice a n c, .bool r4, .int .i64 r5, .int .i64 r6, .bool r7, .int .i64 r8, .string r9, .slice ra rb rc, .slice A m k], .agg #[.int .i64 ec, .int .i64 p]]) ∧ faultEq ec p 0 0 = SynP.knownB b := by
  rw [escS_str]
  refine (parse_any _ f0 w).mono fun e w' h2 => ?_
  by_cases h128 : b < 128
  · rw [parseT_asc _ _ (by
      intro c hc
      simp only [List.mem_cons, List.not_mem_nil, or_false] at hc
      rcases hc with rfl | rfl
      · decide
      · rw [UInt8.toNat_ofNat']; omega) (by simp), nat_esc b h, show f0 = SynP.f0 from rfl] at h2
    have hl := (SynP.esc_law (cls := clsT) b (by omega) perl_some).2 hb
    by_cases hk : SynP.knownB b = true
    · rw [if_pos hk] at hl
      obtain ⟨x, s, hp⟩ := hl
      rw [hp] at h2
      obtain ⟨t, new, e3, _⟩ := SynP.parse_caps hp
      subst e3
      obtain ⟨hb2, r, A, c, rfl, _⟩ := h2
      obtain ⟨r0, r1, r2, r3, r4, r5, r6, r7, r8, r9, ra, rb, rc⟩ := r
      exact ⟨hb2, _, _, _, _, _, _, _, _, _, _, _, _, _, _, _, _, 0, 0, rfl, hk.symm⟩
    · rw [if_neg hk] at hl
      obtain ⟨ec, k, hp⟩ := hl
      rw [hp] at h2
      have hc := SynP.parse_code hp
      obtain ⟨hb2, rfl⟩ := h2
      refine ⟨hb2, _, _, _, _, _, _, _, _, _, _, _, _, _, _, _, _, _, _, rfl, ?_⟩
      rw [faultEq_code (by omega), Bool.eq_false_iff.2 hk]
  · have hbad : parseT (str [92, UInt8.ofNat b.toNat]) f0 = .bad 17 1 := by
      obtain ⟨k, hk⟩ : ∃ k : Fin 128, b = (128 + k.val : Nat) := ⟨⟨(b - 128).toNat, by omega⟩, by show b = ((128 + (b - 128).toNat : Nat) : Int); omega⟩
      subst hk
      have hm : markN (str [92, UInt8.ofNat ((128 + k.val : Nat) : Int).toNat]) = 0 := rfl
      have hB : patB (str [92, UInt8.ofNat ((128 + k.val : Nat) : Int).toNat]) = [92, UInt8.ofNat ((128 + k.val : Nat) : Int).toNat] := by unfold patB; rw [hm]; rfl
      unfold parseT
      rw [hB, hm, if_neg (by show ¬ 1024 < 2; decide), DecP.badAt_good (List.cons_ne_nil _ _) (by rw [DecP.one_ascii _ (by decide)]; decide)]
      have h2 : ∀ k : Fin 128, (DecP.one [UInt8.ofNat ((128 + k.val : Nat) : Int).toNat]).1 < 0 := by decide +kernel
      have h3 : List.drop (DecP.one [92, UInt8.ofNat ((128 + k.val : Nat) : Int).toNat]).2 [92, UInt8.ofNat ((128 + k.val : Nat) : Int).toNat] = [UInt8.ofNat ((128 + k.val : Nat) : Int).toNat] := by rw [DecP.one_ascii _ (by decide)]; rfl
      rw [h3, DecP.badAt_bad (List.cons_ne_nil _ _) (h2 k), DecP.one_ascii _ (by decide)]
      rfl
    rw [hbad] at h2
    obtain ⟨hb2, rfl⟩ := h2
    refine ⟨hb2, _, _, _, _, _, _, _, _, _, _, _, _, _, _, _, _, _, _, rfl, ?_⟩
    rw [faultEq_code (by decide)]
    unfold SynP.knownB
    symm
    rw [Bool.eq_false_iff]
    intro h3
    have h4 := List.contains_iff_mem.1 h3
    simp at h4
    omega

set_option maxRecDepth 100000 in
set_option maxHeartbeats 3200000 in
theorem law_self (b : Int) (hb : selfB b) (w : World) : Calls Try.prog 5 #[.int .u8 b] w fun e w' => e = .returned (.bool true) ∧ Below w.heap.size w w' := by
  have HP := Lib.hid (fun w => esc_self b hb w)
  have h1 : cntF (fun z => inR z && SynP.one b z) = 1 := cntF_one b (by have := hb.1; omega) (by have := hb.2.1; omega)
  have h2 : (inR b && SynP.one b b) = true := by
    rw [(inR_iff b).2 (by have := hb.1; have := hb.2.1; omega)]
    simp [SynP.one]
  have HC1 := Lib.hid h1
  have HC2 := Lib.hid h2
  have hconv := fun w => conv_two w b
  unfold selfB at hb
  have hcs : (33 ≤ b ∧ b ≤ 47) ∨ (58 ≤ b ∧ b ≤ 64) ∨ (91 ≤ b ∧ b ≤ 96) ∨ (123 ≤ b ∧ b ≤ 126) := by omega
  obtain ⟨S, hS⟩ : ∃ S, escS b = S := ⟨_, rfl⟩
  rw [show strOfNums [92, b] = S from hS] at hconv
  rw [hS] at HP
  have hfe := faultEq_same 0 0
  clear h1 h2 hS hb
  rcases hcs with hr | hr | hr | hr
  · have t0 : decide ((97 : Int) ≤ b) = false := decide_eq_false (by omega)
    have t1 : decide (b ≤ (122 : Int)) = true := decide_eq_true (by omega)
    have t2 : decide ((65 : Int) ≤ b) = false := decide_eq_false (by omega)
    have t3 : decide (b ≤ (90 : Int)) = true := decide_eq_true (by omega)
    have t4 : decide ((48 : Int) ≤ b) = false := decide_eq_false (by omega)
    have t5 : decide (b ≤ (57 : Int)) = true := decide_eq_true (by omega)
    have t6 : decide ((32 : Int) < b) = true := decide_eq_true (by omega)
    have t7 : decide (b < (127 : Int)) = true := decide_eq_true (by omega)
    have hwb : IntKind.i64.wrap b = b := by rw [IntKind.wrap_i64]; omega
    clear hr
    go_enter Try.func5, Try.ntmps5
    go_upto_region 4 with (first
      | (go_at_call 7; refine (speaks_any _).mono ?_; rintro e w1 ⟨rfl, hb1⟩; have HB1 := Lib.hid hb1; clear hb1)
      | (go_at_call 9; refine (HP.out _).mono ?_; rintro e w2 ⟨hb2, a, n, c, r4, r5, r6, r7, r8, r9, ra, rb, rc, A, k, rfl, hv2⟩; have HB2 := Lib.hid ((HB1.out.alloc HB1.out.size (.cells #[.int .u8 92, .int .u8 b] 5)).trans (hb2.mono (Nat.le_trans HB1.out.size (by simp)))); have HV2 := Lib.hid hv2; clear hb2 hv2))
    obtain ⟨P, hP⟩ : ∃ P, w2.heap.size = P := ⟨_, rfl⟩
    have hps := PatS.start (pc := #[.int .i64 1, .slice a n c, .bool r4, .int .i64 r5, .int .i64 r6, .bool r7, .int .i64 r8, .string r9, .slice ra rb rc, .slice A 1 k]) (fc := #[.int .i64 0, .int .i64 0]) HB2.out hP
    have hv3 := HV2.out.on (KeepR.below (below_two w2 (.cells #[.int .i64 1, .slice a n c, .bool r4, .int .i64 r5, .int .i64 r6, .bool r7, .int .i64 r8, .string r9, .slice ra rb rc, .slice A 1 k] 31) (.cells #[.int .i64 0, .int .i64 0] 34)))
    rw [hP]
    generalize (w2.alloc (.cells #[.int .i64 1, .slice a n c, .bool r4, .int .i64 r5, .int .i64 r6, .bool r7, .int .i64 r8, .string r9, .slice ra rb rc, .slice A 1 k] 31)).alloc (.cells #[.int .i64 0, .int .i64 0] 34) = W3 at hps hv3 ⊢
    have HS3 := Lib.hid hps
    have HV3 := Lib.hid hv3
    have hcP := HS3.out.pcell
    have hcF := HS3.out.fcell
    clear hps hv3 hP HB1 HB2 HV2 HP
    go_wp2_with (first
      | (go_at_call 11; refine (HV3.out.size_ 1 (by rw [HC1.out]; rfl)).mono ?_; rintro e w4 ⟨rfl, hb4⟩; have HS4 := Lib.hid (HS3.out.below hb4); have HV4 := Lib.hid (HV3.out.on (KeepR.below hb4)); clear hb4; replace hcP := HS4.out.pcell)
      | (go_at_call 12; refine (HV4.out.has_ b true HC2.out).mono ?_; rintro e w5 ⟨rfl, hb5⟩; have HS5 := Lib.hid (HS4.out.below hb5); clear hb5))
    go_ret
    exact ⟨rfl, HS5.out.bel⟩
  · have t0 : decide ((97 : Int) ≤ b) = false := decide_eq_false (by omega)
    have t1 : decide (b ≤ (122 : Int)) = true := decide_eq_true (by omega)
    have t2 : decide ((65 : Int) ≤ b) = false := decide_eq_false (by omega)
    have t3 : decide (b ≤ (90 : Int)) = true := decide_eq_true (by omega)
    have t4 : decide ((48 : Int) ≤ b) = true := decide_eq_true (by omega)
    have t5 : decide (b ≤ (57 : Int)) = false := decide_eq_false (by omega)
    have t6 : decide ((32 : Int) < b) = true := decide_eq_true (by omega)
    have t7 : decide (b < (127 : Int)) = true := decide_eq_true (by omega)
    have hwb : IntKind.i64.wrap b = b := by rw [IntKind.wrap_i64]; omega
    clear hr
    go_enter Try.func5, Try.ntmps5
    go_upto_region 4 with (first
      | (go_at_call 7; refine (speaks_any _).mono ?_; rintro e w1 ⟨rfl, hb1⟩; have HB1 := Lib.hid hb1; clear hb1)
      | (go_at_call 9; refine (HP.out _).mono ?_; rintro e w2 ⟨hb2, a, n, c, r4, r5, r6, r7, r8, r9, ra, rb, rc, A, k, rfl, hv2⟩; have HB2 := Lib.hid ((HB1.out.alloc HB1.out.size (.cells #[.int .u8 92, .int .u8 b] 5)).trans (hb2.mono (Nat.le_trans HB1.out.size (by simp)))); have HV2 := Lib.hid hv2; clear hb2 hv2))
    obtain ⟨P, hP⟩ : ∃ P, w2.heap.size = P := ⟨_, rfl⟩
    have hps := PatS.start (pc := #[.int .i64 1, .slice a n c, .bool r4, .int .i64 r5, .int .i64 r6, .bool r7, .int .i64 r8, .string r9, .slice ra rb rc, .slice A 1 k]) (fc := #[.int .i64 0, .int .i64 0]) HB2.out hP
    have hv3 := HV2.out.on (KeepR.below (below_two w2 (.cells #[.int .i64 1, .slice a n c, .bool r4, .int .i64 r5, .int .i64 r6, .bool r7, .int .i64 r8, .string r9, .slice ra rb rc, .slice A 1 k] 31) (.cells #[.int .i64 0, .int .i64 0] 34)))
    rw [hP]
    generalize (w2.alloc (.cells #[.int .i64 1, .slice a n c, .bool r4, .int .i64 r5, .int .i64 r6, .bool r7, .int .i64 r8, .string r9, .slice ra rb rc, .slice A 1 k] 31)).alloc (.cells #[.int .i64 0, .int .i64 0] 34) = W3 at hps hv3 ⊢
    have HS3 := Lib.hid hps
    have HV3 := Lib.hid hv3
    have hcP := HS3.out.pcell
    have hcF := HS3.out.fcell
    clear hps hv3 hP HB1 HB2 HV2 HP
    go_wp2_with (first
      | (go_at_call 11; refine (HV3.out.size_ 1 (by rw [HC1.out]; rfl)).mono ?_; rintro e w4 ⟨rfl, hb4⟩; have HS4 := Lib.hid (HS3.out.below hb4); have HV4 := Lib.hid (HV3.out.on (KeepR.below hb4)); clear hb4; replace hcP := HS4.out.pcell)
      | (go_at_call 12; refine (HV4.out.has_ b true HC2.out).mono ?_; rintro e w5 ⟨rfl, hb5⟩; have HS5 := Lib.hid (HS4.out.below hb5); clear hb5))
    go_ret
    exact ⟨rfl, HS5.out.bel⟩
  · have t0 : decide ((97 : Int) ≤ b) = false := decide_eq_false (by omega)
    have t1 : decide (b ≤ (122 : Int)) = true := decide_eq_true (by omega)
    have t2 : decide ((65 : Int) ≤ b) = true := decide_eq_true (by omega)
    have t3 : decide (b ≤ (90 : Int)) = false := decide_eq_false (by omega)
    have t4 : decide ((48 : Int) ≤ b) = true := decide_eq_true (by omega)
    have t5 : decide (b ≤ (57 : Int)) = false := decide_eq_false (by omega)
    have t6 : decide ((32 : Int) < b) = true := decide_eq_true (by omega)
    have t7 : decide (b < (127 : Int)) = true := decide_eq_true (by omega)
    have hwb : IntKind.i64.wrap b = b := by rw [IntKind.wrap_i64]; omega
    clear hr
    go_enter Try.func5, Try.ntmps5
    go_upto_region 4 with (first
      | (go_at_call 7; refine (speaks_any _).mono ?_; rintro e w1 ⟨rfl, hb1⟩; have HB1 := Lib.hid hb1; clear hb1)
      | (go_at_call 9; refine (HP.out _).mono ?_; rintro e w2 ⟨hb2, a, n, c, r4, r5, r6, r7, r8, r9, ra, rb, rc, A, k, rfl, hv2⟩; have HB2 := Lib.hid ((HB1.out.alloc HB1.out.size (.cells #[.int .u8 92, .int .u8 b] 5)).trans (hb2.mono (Nat.le_trans HB1.out.size (by simp)))); have HV2 := Lib.hid hv2; clear hb2 hv2))
    obtain ⟨P, hP⟩ : ∃ P, w2.heap.size = P := ⟨_, rfl⟩
    have hps := PatS.start (pc := #[.int .i64 1, .slice a n c, .bool r4, .int .i64 r5, .int .i64 r6, .bool r7, .int .i64 r8, .string r9, .slice ra rb rc, .slice A 1 k]) (fc := #[.int .i64 0, .int .i64 0]) HB2.out hP
    have hv3 := HV2.out.on (KeepR.below (below_two w2 (.cells #[.int .i64 1, .slice a n c, .bool r4, .int .i64 r5, .int .i64 r6, .bool r7, .int .i64 r8, .string r9, .slice ra rb rc, .slice A 1 k] 31) (.cells #[.int .i64 0, .int .i64 0] 34)))
    rw [hP]
    generalize (w2.alloc (.cells #[.int .i64 1, .slice a n c, .bool r4, .int .i64 r5, .int .i64 r6, .bool r7, .int .i64 r8, .string r9, .slice ra rb rc, .slice A 1 k] 31)).alloc (.cells #[.int .i64 0, .int .i64 0] 34) = W3 at hps hv3 ⊢
    have HS3 := Lib.hid hps
    have HV3 := Lib.hid hv3
    have hcP := HS3.out.pcell
    have hcF := HS3.out.fcell
    clear hps hv3 hP HB1 HB2 HV2 HP
    go_wp2_with (first
      | (go_at_call 11; refine (HV3.out.size_ 1 (by rw [HC1.out]; rfl)).mono ?_; rintro e w4 ⟨rfl, hb4⟩; have HS4 := Lib.hid (HS3.out.below hb4); have HV4 := Lib.hid (HV3.out.on (KeepR.below hb4)); clear hb4; replace hcP := HS4.out.pcell)
      | (go_at_call 12; refine (HV4.out.has_ b true HC2.out).mono ?_; rintro e w5 ⟨rfl, hb5⟩; have HS5 := Lib.hid (HS4.out.below hb5); clear hb5))
    go_ret
    exact ⟨rfl, HS5.out.bel⟩
  · have t0 : decide ((97 : Int) ≤ b) = true := decide_eq_true (by omega)
    have t1 : decide (b ≤ (122 : Int)) = false := decide_eq_false (by omega)
    have t2 : decide ((65 : Int) ≤ b) = true := decide_eq_true (by omega)
    have t3 : decide (b ≤ (90 : Int)) = false := decide_eq_false (by omega)
    have t4 : decide ((48 : Int) ≤ b) = true := decide_eq_true (by omega)
    have t5 : decide (b ≤ (57 : Int)) = false := decide_eq_false (by omega)
    have t6 : decide ((32 : Int) < b) = true := decide_eq_true (by omega)
    have t7 : decide (b < (127 : Int)) = true := decide_eq_true (by omega)
    have hwb : IntKind.i64.wrap b = b := by rw [IntKind.wrap_i64]; omega
    clear hr
    go_enter Try.func5, Try.ntmps5
    go_upto_region 4 with (first
      | (go_at_call 7; refine (speaks_any _).mono ?_; rintro e w1 ⟨rfl, hb1⟩; have HB1 := Lib.hid hb1; clear hb1)
      | (go_at_call 9; refine (HP.out _).mono ?_; rintro e w2 ⟨hb2, a, n, c, r4, r5, r6, r7, r8, r9, ra, rb, rc, A, k, rfl, hv2⟩; have HB2 := Lib.hid ((HB1.out.alloc HB1.out.size (.cells #[.int .u8 92, .int .u8 b] 5)).trans (hb2.mono (Nat.le_trans HB1.out.size (by simp)))); have HV2 := Lib.hid hv2; clear hb2 hv2))
    obtain ⟨P, hP⟩ : ∃ P, w2.heap.size = P := ⟨_, rfl⟩
    have hps := PatS.start (pc := #[.int .i64 1, .slice a n c, .bool r4, .int .i64 r5, .int .i64 r6, .bool r7, .int .i64 r8, .string r9, .slice ra rb rc, .slice A 1 k]) (fc := #[.int .i64 0, .int .i64 0]) HB2.out hP
    have hv3 := HV2.out.on (KeepR.below (below_two w2 (.cells #[.int .i64 1, .slice a n c, .bool r4, .int .i64 r5, .int .i64 r6, .bool r7, .int .i64 r8, .string r9, .slice ra rb rc, .slice A 1 k] 31) (.cells #[.int .i64 0, .int .i64 0] 34)))
    rw [hP]
    generalize (w2.alloc (.cells #[.int .i64 1, .slice a n c, .bool r4, .int .i64 r5, .int .i64 r6, .bool r7, .int .i64 r8, .string r9, .slice ra rb rc, .slice A 1 k] 31)).alloc (.cells #[.int .i64 0, .int .i64 0] 34) = W3 at hps hv3 ⊢
    have HS3 := Lib.hid hps
    have HV3 := Lib.hid hv3
    have hcP := HS3.out.pcell
    have hcF := HS3.out.fcell
    clear hps hv3 hP HB1 HB2 HV2 HP
    go_wp2_with (first
      | (go_at_call 11; refine (HV3.out.size_ 1 (by rw [HC1.out]; rfl)).mono ?_; rintro e w4 ⟨rfl, hb4⟩; have HS4 := Lib.hid (HS3.out.below hb4); have HV4 := Lib.hid (HV3.out.on (KeepR.below hb4)); clear hb4; replace hcP := HS4.out.pcell)
      | (go_at_call 12; refine (HV4.out.has_ b true HC2.out).mono ?_; rintro e w5 ⟨rfl, hb5⟩; have HS5 := Lib.hid (HS4.out.below hb5); clear hb5))
    go_ret
    exact ⟨rfl, HS5.out.bel⟩

def L15 : List Int := [65, 66, 68, 83, 87, 98, 100, 102, 110, 114, 115, 116, 118, 119, 122]
def B15 : ByteArray := ⟨#[65, 66, 68, 83, 87, 98, 100, 102, 110, 114, 115, 116, 118, 119, 122]⟩
theorem b15_at (i : Nat) (h : i < B15.size) : ((B15[i].toNat : Nat) : Int) = L15.getD i 0 := by
  have : ∀ k : Fin 15, ((B15[k.val]'(show k.val < 15 from k.isLt)).toNat : Int) = L15.getD k.val 0 := by decide +kernel
  exact this ⟨i, h⟩
theorem l15_step (i : Nat) (h : i < 15) (b : Int) : (L15.take (i + 1)).contains b = ((L15.take i).contains b || (L15.getD i 0 == b)) := by
  have hi : i < L15.length := h
  rw [List.take_add_one, List.getElem?_eq_getElem hi, List.getD_eq_getElem?_getD, List.getElem?_eq_getElem hi]
  simp only [Option.toList_some, List.contains_append, Option.getD_some, List.contains_cons, List.contains_nil, Bool.or_false]
  rw [Bool.eq_iff_iff]
  simp only [Bool.or_eq_true, beq_iff_eq]
  constructor <;> (rintro (h | h); exact .inl h; exact .inr h.symm)
set_option maxRecDepth 100000 in
set_option maxHeartbeats 3200000 in
theorem law_other (b : Int) (h : 0 ≤ b ∧ b < 256) (hb : ¬ selfB b) (w : World) : Calls Try.prog 5 #[.int .u8 b] w fun e w' => e = .returned (.bool true) ∧ Below w.heap.size w w' := by
  have HP := Lib.hid (fun w => esc_other b h hb w)
  have hconv := fun w => conv_two w b
  unfold selfB at hb
  have hcs : (0 ≤ b ∧ b ≤ 32) ∨ (48 ≤ b ∧ b ≤ 57) ∨ (65 ≤ b ∧ b ≤ 90) ∨ (97 ≤ b ∧ b ≤ 122) ∨ (127 ≤ b ∧ b ≤ 255) := by omega
  obtain ⟨S, hS⟩ : ∃ S, escS b = S := ⟨_, rfl⟩
  rw [show strOfNums [92, b] = S from hS] at hconv
  rw [hS] at HP
  have HKn : Hid ((L15.take 15).contains b = SynP.knownB b) := Lib.hid rfl
  clear h hS hb
  rcases hcs with hr | hr | hr | hr | hr
  · have t0 : decide ((97 : Int) ≤ b) = false := decide_eq_false (by omega)
    have t1 : decide (b ≤ (122 : Int)) = true := decide_eq_true (by omega)
    have t2 : decide ((65 : Int) ≤ b) = false := decide_eq_false (by omega)
    have t3 : decide (b ≤ (90 : Int)) = true := decide_eq_true (by omega)
    have t4 : decide ((48 : Int) ≤ b) = false := decide_eq_false (by omega)
    have t5 : decide (b ≤ (57 : Int)) = true := decide_eq_true (by omega)
    have t6 : decide ((32 : Int) < b) = false := decide_eq_false (by omega)
    have t7 : decide (b < (127 : Int)) = true := decide_eq_true (by omega)
    clear hr
    go_enter Try.func5, Try.ntmps5
    go_upto_region 4 with (first
      | (go_at_call 7; refine (speaks_any _).mono ?_; rintro e w1 ⟨rfl, hb1⟩; have HB1 := Lib.hid hb1; clear hb1)
      | (go_at_call 9; refine (HP.out _).mono ?_; rintro e w2 ⟨hb2, r0, a, n, c, r4, r5, r6, r7, r8, r9, ra, rb, rc, A, m, k, ec, p, rfl, hq⟩; have HB2 := Lib.hid ((HB1.out.alloc HB1.out.size (.cells #[.int .u8 92, .int .u8 b] 5)).trans (hb2.mono (Nat.le_trans HB1.out.size (by simp)))); have HQ := Lib.hid hq; clear hb2 hq))
    obtain ⟨P, hP⟩ : ∃ P, w2.heap.size = P := ⟨_, rfl⟩
    have hps := PatS.start (pc := #[.int .i64 r0, .slice a n c, .bool r4, .int .i64 r5, .int .i64 r6, .bool r7, .int .i64 r8, .string r9, .slice ra rb rc, .slice A m k]) (fc := #[.int .i64 ec, .int .i64 p]) HB2.out hP
    rw [hP]
    generalize (w2.alloc (.cells #[.int .i64 r0, .slice a n c, .bool r4, .int .i64 r5, .int .i64 r6, .bool r7, .int .i64 r8, .string r9, .slice ra rb rc, .slice A m k] 31)).alloc (.cells #[.int .i64 ec, .int .i64 p] 34) = W3 at hps ⊢
    have HS3 := Lib.hid hps
    have hcF := HS3.out.fcell
    clear hps hP HB1 HB2 HP hconv
    go_wp2_with fail
    go_loopw [7, 9] (fun s7 s9 wr => ∃ i : Nat, i ≤ 15 ∧ s7 = .bool ((L15.take i).contains b) ∧ s9 = .int .i64 i ∧ wr = W3) (fun _ s9 _ => 16 - (intOf s9).toNat)
    case atStart => exact ⟨0, by omega, rfl, rfl, rfl⟩
    case round =>
      obtain ⟨i, hi, rfl, rfl, rfl⟩ := hrel
      by_cases hlt : i < 15
      · have hii : (i : Int) < 15 := by omega
        have hi0 : (0 : Int) ≤ (i : Int) := by omega
        have HSt := Lib.hid (l15_step i hlt b)
        have HAt := Lib.hid (b15_at i hlt)
        obtain ⟨x, hx⟩ : ∃ x, L15.getD i 0 = x := ⟨_, rfl⟩
        obtain ⟨K, hK⟩ : ∃ K, (L15.take i).contains b = K := ⟨_, rfl⟩
        rw [hx, hK] at HSt
        rw [hx] at HAt
        rw [hK]
        have hat := HAt.out
        unfold B15 at hat
        clear hx hK
        cases K with
        | true =>
          go_wp2_with fail
          go_roundw
          case rel => exact ⟨i + 1, by omega, by rw [HSt.out]; rfl, by go_num, by trivial⟩
          case measure => simp only [intOf]; omega
        | false =>
          go_wp2_with fail
          go_roundw
          case rel => exact ⟨i + 1, by omega, by rw [HSt.out]; rfl, by go_num, by trivial⟩
          case measure => simp only [intOf]; omega
      · obtain rfl : i = 15 := by omega
        rw [HKn.out, ← HQ.out]
        obtain ⟨q, hq⟩ : ∃ q, faultEq ec p 0 0 = q := ⟨_, rfl⟩
        rw [hq]
        go_wp2_with fail
        go_ret
        exact ⟨by simp, HS3.out.bel⟩
  · have t0 : decide ((97 : Int) ≤ b) = false := decide_eq_false (by omega)
    have t1 : decide (b ≤ (122 : Int)) = true := decide_eq_true (by omega)
    have t2 : decide ((65 : Int) ≤ b) = false := decide_eq_false (by omega)
    have t3 : decide (b ≤ (90 : Int)) = true := decide_eq_true (by omega)
    have t4 : decide ((48 : Int) ≤ b) = true := decide_eq_true (by omega)
    have t5 : decide (b ≤ (57 : Int)) = true := decide_eq_true (by omega)
    have t6 : decide ((32 : Int) < b) = true := decide_eq_true (by omega)
    have t7 : decide (b < (127 : Int)) = true := decide_eq_true (by omega)
    clear hr
    go_enter Try.func5, Try.ntmps5
    go_upto_region 4 with (first
      | (go_at_call 7; refine (speaks_any _).mono ?_; rintro e w1 ⟨rfl, hb1⟩; have HB1 := Lib.hid hb1; clear hb1)
      | (go_at_call 9; refine (HP.out _).mono ?_; rintro e w2 ⟨hb2, r0, a, n, c, r4, r5, r6, r7, r8, r9, ra, rb, rc, A, m, k, ec, p, rfl, hq⟩; have HB2 := Lib.hid ((HB1.out.alloc HB1.out.size (.cells #[.int .u8 92, .int .u8 b] 5)).trans (hb2.mono (Nat.le_trans HB1.out.size (by simp)))); have HQ := Lib.hid hq; clear hb2 hq))
    obtain ⟨P, hP⟩ : ∃ P, w2.heap.size = P := ⟨_, rfl⟩
    have hps := PatS.start (pc := #[.int .i64 r0, .slice a n c, .bool r4, .int .i64 r5, .int .i64 r6, .bool r7, .int .i64 r8, .string r9, .slice ra rb rc, .slice A m k]) (fc := #[.int .i64 ec, .int .i64 p]) HB2.out hP
    rw [hP]
    generalize (w2.alloc (.cells #[.int .i64 r0, .slice a n c, .bool r4, .int .i64 r5, .int .i64 r6, .bool r7, .int .i64 r8, .string r9, .slice ra rb rc, .slice A m k] 31)).alloc (.cells #[.int .i64 ec, .int .i64 p] 34) = W3 at hps ⊢
    have HS3 := Lib.hid hps
    have hcF := HS3.out.fcell
    clear hps hP HB1 HB2 HP hconv
    go_wp2_with fail
    go_loopw [7, 9] (fun s7 s9 wr => ∃ i : Nat, i ≤ 15 ∧ s7 = .bool ((L15.take i).contains b) ∧ s9 = .int .i64 i ∧ wr = W3) (fun _ s9 _ => 16 - (intOf s9).toNat)
    case atStart => exact ⟨0, by omega, rfl, rfl, rfl⟩
    case round =>
      obtain ⟨i, hi, rfl, rfl, rfl⟩ := hrel
      by_cases hlt : i < 15
      · have hii : (i : Int) < 15 := by omega
        have hi0 : (0 : Int) ≤ (i : Int) := by omega
        have HSt := Lib.hid (l15_step i hlt b)
        have HAt := Lib.hid (b15_at i hlt)
        obtain ⟨x, hx⟩ : ∃ x, L15.getD i 0 = x := ⟨_, rfl⟩
        obtain ⟨K, hK⟩ : ∃ K, (L15.take i).contains b = K := ⟨_, rfl⟩
        rw [hx, hK] at HSt
        rw [hx] at HAt
        rw [hK]
        have hat := HAt.out
        unfold B15 at hat
        clear hx hK
        cases K with
        | true =>
          go_wp2_with fail
          go_roundw
          case rel => exact ⟨i + 1, by omega, by rw [HSt.out]; rfl, by go_num, by trivial⟩
          case measure => simp only [intOf]; omega
        | false =>
          go_wp2_with fail
          go_roundw
          case rel => exact ⟨i + 1, by omega, by rw [HSt.out]; rfl, by go_num, by trivial⟩
          case measure => simp only [intOf]; omega
      · obtain rfl : i = 15 := by omega
        rw [HKn.out, ← HQ.out]
        obtain ⟨q, hq⟩ : ∃ q, faultEq ec p 0 0 = q := ⟨_, rfl⟩
        rw [hq]
        go_wp2_with fail
        go_ret
        exact ⟨by simp, HS3.out.bel⟩
  · have t0 : decide ((97 : Int) ≤ b) = false := decide_eq_false (by omega)
    have t1 : decide (b ≤ (122 : Int)) = true := decide_eq_true (by omega)
    have t2 : decide ((65 : Int) ≤ b) = true := decide_eq_true (by omega)
    have t3 : decide (b ≤ (90 : Int)) = true := decide_eq_true (by omega)
    have t4 : decide ((48 : Int) ≤ b) = true := decide_eq_true (by omega)
    have t5 : decide (b ≤ (57 : Int)) = false := decide_eq_false (by omega)
    have t6 : decide ((32 : Int) < b) = true := decide_eq_true (by omega)
    have t7 : decide (b < (127 : Int)) = true := decide_eq_true (by omega)
    clear hr
    go_enter Try.func5, Try.ntmps5
    go_upto_region 4 with (first
      | (go_at_call 7; refine (speaks_any _).mono ?_; rintro e w1 ⟨rfl, hb1⟩; have HB1 := Lib.hid hb1; clear hb1)
      | (go_at_call 9; refine (HP.out _).mono ?_; rintro e w2 ⟨hb2, r0, a, n, c, r4, r5, r6, r7, r8, r9, ra, rb, rc, A, m, k, ec, p, rfl, hq⟩; have HB2 := Lib.hid ((HB1.out.alloc HB1.out.size (.cells #[.int .u8 92, .int .u8 b] 5)).trans (hb2.mono (Nat.le_trans HB1.out.size (by simp)))); have HQ := Lib.hid hq; clear hb2 hq))
    obtain ⟨P, hP⟩ : ∃ P, w2.heap.size = P := ⟨_, rfl⟩
    have hps := PatS.start (pc := #[.int .i64 r0, .slice a n c, .bool r4, .int .i64 r5, .int .i64 r6, .bool r7, .int .i64 r8, .string r9, .slice ra rb rc, .slice A m k]) (fc := #[.int .i64 ec, .int .i64 p]) HB2.out hP
    rw [hP]
    generalize (w2.alloc (.cells #[.int .i64 r0, .slice a n c, .bool r4, .int .i64 r5, .int .i64 r6, .bool r7, .int .i64 r8, .string r9, .slice ra rb rc, .slice A m k] 31)).alloc (.cells #[.int .i64 ec, .int .i64 p] 34) = W3 at hps ⊢
    have HS3 := Lib.hid hps
    have hcF := HS3.out.fcell
    clear hps hP HB1 HB2 HP hconv
    go_wp2_with fail
    go_loopw [7, 9] (fun s7 s9 wr => ∃ i : Nat, i ≤ 15 ∧ s7 = .bool ((L15.take i).contains b) ∧ s9 = .int .i64 i ∧ wr = W3) (fun _ s9 _ => 16 - (intOf s9).toNat)
    case atStart => exact ⟨0, by omega, rfl, rfl, rfl⟩
    case round =>
      obtain ⟨i, hi, rfl, rfl, rfl⟩ := hrel
      by_cases hlt : i < 15
      · have hii : (i : Int) < 15 := by omega
        have hi0 : (0 : Int) ≤ (i : Int) := by omega
        have HSt := Lib.hid (l15_step i hlt b)
        have HAt := Lib.hid (b15_at i hlt)
        obtain ⟨x, hx⟩ : ∃ x, L15.getD i 0 = x := ⟨_, rfl⟩
        obtain ⟨K, hK⟩ : ∃ K, (L15.take i).contains b = K := ⟨_, rfl⟩
        rw [hx, hK] at HSt
        rw [hx] at HAt
        rw [hK]
        have hat := HAt.out
        unfold B15 at hat
        clear hx hK
        cases K with
        | true =>
          go_wp2_with fail
          go_roundw
          case rel => exact ⟨i + 1, by omega, by rw [HSt.out]; rfl, by go_num, by trivial⟩
          case measure => simp only [intOf]; omega
        | false =>
          go_wp2_with fail
          go_roundw
          case rel => exact ⟨i + 1, by omega, by rw [HSt.out]; rfl, by go_num, by trivial⟩
          case measure => simp only [intOf]; omega
      · obtain rfl : i = 15 := by omega
        rw [HKn.out, ← HQ.out]
        obtain ⟨q, hq⟩ : ∃ q, faultEq ec p 0 0 = q := ⟨_, rfl⟩
        rw [hq]
        go_wp2_with fail
        go_ret
        exact ⟨by simp, HS3.out.bel⟩
  · have t0 : decide ((97 : Int) ≤ b) = true := decide_eq_true (by omega)
    have t1 : decide (b ≤ (122 : Int)) = true := decide_eq_true (by omega)
    have t2 : decide ((65 : Int) ≤ b) = true := decide_eq_true (by omega)
    have t3 : decide (b ≤ (90 : Int)) = false := decide_eq_false (by omega)
    have t4 : decide ((48 : Int) ≤ b) = true := decide_eq_true (by omega)
    have t5 : decide (b ≤ (57 : Int)) = false := decide_eq_false (by omega)
    have t6 : decide ((32 : Int) < b) = true := decide_eq_true (by omega)
    have t7 : decide (b < (127 : Int)) = true := decide_eq_true (by omega)
    clear hr
    go_enter Try.func5, Try.ntmps5
    go_upto_region 4 with (first
      | (go_at_call 7; refine (speaks_any _).mono ?_; rintro e w1 ⟨rfl, hb1⟩; have HB1 := Lib.hid hb1; clear hb1)
      | (go_at_call 9; refine (HP.out _).mono ?_; rintro e w2 ⟨hb2, r0, a, n, c, r4, r5, r6, r7, r8, r9, ra, rb, rc, A, m, k, ec, p, rfl, hq⟩; have HB2 := Lib.hid ((HB1.out.alloc HB1.out.size (.cells #[.int .u8 92, .int .u8 b] 5)).trans (hb2.mono (Nat.le_trans HB1.out.size (by simp)))); have HQ := Lib.hid hq; clear hb2 hq))
    obtain ⟨P, hP⟩ : ∃ P, w2.heap.size = P := ⟨_, rfl⟩
    have hps := PatS.start (pc := #[.int .i64 r0, .slice a n c, .bool r4, .int .i64 r5, .int .i64 r6, .bool r7, .int .i64 r8, .string r9, .slice ra rb rc, .slice A m k]) (fc := #[.int .i64 ec, .int .i64 p]) HB2.out hP
    rw [hP]
    generalize (w2.alloc (.cells #[.int .i64 r0, .slice a n c, .bool r4, .int .i64 r5, .int .i64 r6, .bool r7, .int .i64 r8, .string r9, .slice ra rb rc, .slice A m k] 31)).alloc (.cells #[.int .i64 ec, .int .i64 p] 34) = W3 at hps ⊢
    have HS3 := Lib.hid hps
    have hcF := HS3.out.fcell
    clear hps hP HB1 HB2 HP hconv
    go_wp2_with fail
    go_loopw [7, 9] (fun s7 s9 wr => ∃ i : Nat, i ≤ 15 ∧ s7 = .bool ((L15.take i).contains b) ∧ s9 = .int .i64 i ∧ wr = W3) (fun _ s9 _ => 16 - (intOf s9).toNat)
    case atStart => exact ⟨0, by omega, rfl, rfl, rfl⟩
    case round =>
      obtain ⟨i, hi, rfl, rfl, rfl⟩ := hrel
      by_cases hlt : i < 15
      · have hii : (i : Int) < 15 := by omega
        have hi0 : (0 : Int) ≤ (i : Int) := by omega
        have HSt := Lib.hid (l15_step i hlt b)
        have HAt := Lib.hid (b15_at i hlt)
        obtain ⟨x, hx⟩ : ∃ x, L15.getD i 0 = x := ⟨_, rfl⟩
        obtain ⟨K, hK⟩ : ∃ K, (L15.take i).contains b = K := ⟨_, rfl⟩
        rw [hx, hK] at HSt
        rw [hx] at HAt
        rw [hK]
        have hat := HAt.out
        unfold B15 at hat
        clear hx hK
        cases K with
        | true =>
          go_wp2_with fail
          go_roundw
          case rel => exact ⟨i + 1, by omega, by rw [HSt.out]; rfl, by go_num, by trivial⟩
          case measure => simp only [intOf]; omega
        | false =>
          go_wp2_with fail
          go_roundw
          case rel => exact ⟨i + 1, by omega, by rw [HSt.out]; rfl, by go_num, by trivial⟩
          case measure => simp only [intOf]; omega
      · obtain rfl : i = 15 := by omega
        rw [HKn.out, ← HQ.out]
        obtain ⟨q, hq⟩ : ∃ q, faultEq ec p 0 0 = q := ⟨_, rfl⟩
        rw [hq]
        go_wp2_with fail
        go_ret
        exact ⟨by simp, HS3.out.bel⟩
  · have t0 : decide ((97 : Int) ≤ b) = true := decide_eq_true (by omega)
    have t1 : decide (b ≤ (122 : Int)) = false := decide_eq_false (by omega)
    have t2 : decide ((65 : Int) ≤ b) = true := decide_eq_true (by omega)
    have t3 : decide (b ≤ (90 : Int)) = false := decide_eq_false (by omega)
    have t4 : decide ((48 : Int) ≤ b) = true := decide_eq_true (by omega)
    have t5 : decide (b ≤ (57 : Int)) = false := decide_eq_false (by omega)
    have t6 : decide ((32 : Int) < b) = true := decide_eq_true (by omega)
    have t7 : decide (b < (127 : Int)) = false := decide_eq_false (by omega)
    clear hr
    go_enter Try.func5, Try.ntmps5
    go_upto_region 4 with (first
      | (go_at_call 7; refine (speaks_any _).mono ?_; rintro e w1 ⟨rfl, hb1⟩; have HB1 := Lib.hid hb1; clear hb1)
      | (go_at_call 9; refine (HP.out _).mono ?_; rintro e w2 ⟨hb2, r0, a, n, c, r4, r5, r6, r7, r8, r9, ra, rb, rc, A, m, k, ec, p, rfl, hq⟩; have HB2 := Lib.hid ((HB1.out.alloc HB1.out.size (.cells #[.int .u8 92, .int .u8 b] 5)).trans (hb2.mono (Nat.le_trans HB1.out.size (by simp)))); have HQ := Lib.hid hq; clear hb2 hq))
    obtain ⟨P, hP⟩ : ∃ P, w2.heap.size = P := ⟨_, rfl⟩
    have hps := PatS.start (pc := #[.int .i64 r0, .slice a n c, .bool r4, .int .i64 r5, .int .i64 r6, .bool r7, .int .i64 r8, .string r9, .slice ra rb rc, .slice A m k]) (fc := #[.int .i64 ec, .int .i64 p]) HB2.out hP
    rw [hP]
    generalize (w2.alloc (.cells #[.int .i64 r0, .slice a n c, .bool r4, .int .i64 r5, .int .i64 r6, .bool r7, .int .i64 r8, .string r9, .slice ra rb rc, .slice A m k] 31)).alloc (.cells #[.int .i64 ec, .int .i64 p] 34) = W3 at hps ⊢
    have HS3 := Lib.hid hps
    have hcF := HS3.out.fcell
    clear hps hP HB1 HB2 HP hconv
    go_wp2_with fail
    go_loopw [7, 9] (fun s7 s9 wr => ∃ i : Nat, i ≤ 15 ∧ s7 = .bool ((L15.take i).contains b) ∧ s9 = .int .i64 i ∧ wr = W3) (fun _ s9 _ => 16 - (intOf s9).toNat)
    case atStart => exact ⟨0, by omega, rfl, rfl, rfl⟩
    case round =>
      obtain ⟨i, hi, rfl, rfl, rfl⟩ := hrel
      by_cases hlt : i < 15
      · have hii : (i : Int) < 15 := by omega
        have hi0 : (0 : Int) ≤ (i : Int) := by omega
        have HSt := Lib.hid (l15_step i hlt b)
        have HAt := Lib.hid (b15_at i hlt)
        obtain ⟨x, hx⟩ : ∃ x, L15.getD i 0 = x := ⟨_, rfl⟩
        obtain ⟨K, hK⟩ : ∃ K, (L15.take i).contains b = K := ⟨_, rfl⟩
        rw [hx, hK] at HSt
        rw [hx] at HAt
        rw [hK]
        have hat := HAt.out
        unfold B15 at hat
        clear hx hK
        cases K with
        | true =>
          go_wp2_with fail
          go_roundw
          case rel => exact ⟨i + 1, by omega, by rw [HSt.out]; rfl, by go_num, by trivial⟩
          case measure => simp only [intOf]; omega
        | false =>
          go_wp2_with fail
          go_roundw
          case rel => exact ⟨i + 1, by omega, by rw [HSt.out]; rfl, by go_num, by trivial⟩
          case measure => simp only [intOf]; omega
      · obtain rfl : i = 15 := by omega
        rw [HKn.out, ← HQ.out]
        obtain ⟨q, hq⟩ : ∃ q, faultEq ec p 0 0 = q := ⟨_, rfl⟩
        rw [hq]
        go_wp2_with fail
        go_ret
        exact ⟨by simp, HS3.out.bel⟩

theorem law_escapes (b : Int) (w : World) (hw : (Lit.int .u8 b).wf = true) : Calls Try.prog 5 #[.int .u8 b] w fun e w' => e = .returned (.bool true) ∧ Below w.heap.size w w' := by
  have h : 0 ≤ b ∧ b < 256 := by
    have h2 : (decide ((0 : Int) ≤ b) && decide (b ≤ (255 : Int))) = true := hw
    simp only [Bool.and_eq_true, decide_eq_true_eq] at h2
    omega
  by_cases hb : selfB b
  · exact law_self b hb w
  · exact law_other b h hb w

end Go.Proofs.Ytaodcmppbacfbaa

namespace Go.Proofs.Ytaodcmppbacfbaa.SynP

variable {rs : List Int} {cls : List UInt8 → Option (Int → Bool)} {perl : Int → Option (Int → Bool)}

/-- Digits of sixteen, up to something that is none. -/
theorem nums_run : ∀ (ds : List Int) (f : Nat) (n : Int) (i : Nat) (c : Int) (t : List Int), rs.drop i = ds ++ c :: t → (∀ d ∈ ds, 0 ≤ hexOf d) → hexOf c = -1 → ds.length ≤ f →
    nums rs f n i = (ds.foldl (fun n c => 16 * n + hexOf c) n, i + ds.length)
  | [], 0, n, i, c, t, _, _, _, _ => rfl
  | [], f + 1, n, i, c, t, h, _, hc, _ => by
    unfold nums
    rw [pk_drop h, if_neg (by rw [hc]; decide)]
    rfl
  | d :: ds, 0, n, i, c, t, _, _, _, hf => by simp at hf
  | d :: ds, f + 1, n, i, c, t, h, hd, hc, hf => by
    unfold nums
    rw [pk_drop h, if_pos (hd d List.mem_cons_self), nums_run ds f _ (i + 1) c t (drop_next h) (fun x hx => hd x (List.mem_cons_of_mem _ hx)) hc (by simpa using hf)]
    simp only [List.foldl_cons, List.length_cons, Prod.mk.injEq, true_and]
    omega

def hexD (n : Nat) : Int := if n < 10 then 48 + (n : Int) else 87 + (n : Int)
theorem hexD_of (n : Nat) (h : n < 16) : hexOf (hexD n) = n := by
  unfold hexD hexOf
  by_cases h1 : n < 10
  · rw [if_pos h1, if_pos (by omega)]; omega
  · rw [if_neg h1, if_neg (by omega), if_neg (by omega), if_pos (by omega)]; omega
/-- A number's digits of sixteen: at most f + 1. -/
def hexL : Nat → Nat → List Int
  | 0, n => [hexD n]
  | f + 1, n => if n < 16 then [hexD n] else hexL f (n / 16) ++ [hexD (n % 16)]
theorem hexL_ok : ∀ (f n : Nat), n < 16 ^ (f + 1) → (∀ d ∈ hexL f n, 0 ≤ hexOf d) ∧ (hexL f n).foldl (fun n c => 16 * n + hexOf c) (0 : Int) = n ∧ 1 ≤ (hexL f n).length ∧ (hexL f n).length ≤ f + 1
  | 0, n, h => by
    have hn : n < 16 := by simpa using h
    simp only [hexL]
    refine ⟨fun d hd => ?_, ?_, by simp, by simp⟩
    · obtain rfl : d = hexD n := by simpa using hd
      rw [hexD_of n hn]; omega
    · simp [hexD_of n hn]
  | f + 1, n, h => by
    unfold hexL
    by_cases hn : n < 16
    · rw [if_pos hn]
      refine ⟨fun d hd => ?_, ?_, by simp, by simp⟩
      · obtain rfl : d = hexD n := by simpa using hd
        rw [hexD_of n hn]; omega
      · simp [hexD_of n hn]
    · rw [if_neg hn]
      have h16 : n / 16 < 16 ^ (f + 1) := by
        rw [Nat.pow_succ] at h
        exact Nat.div_lt_of_lt_mul (by rw [Nat.mul_comm]; exact h)
      obtain ⟨h1, h2, h3, h4⟩ := hexL_ok f (n / 16) h16
      have hm := hexD_of (n % 16) (Nat.mod_lt _ (by decide))
      refine ⟨fun d hd => ?_, ?_, by simp, by simp; omega⟩
      · rcases List.mem_append.1 hd with hd | hd
        · exact h1 d hd
        · obtain rfl : d = hexD (n % 16) := by simpa using hd
          rw [hm]; omega
      · rw [List.foldl_append, h2]
        simp only [List.foldl_cons, List.foldl_nil, hm]
        omega
/-- A number in braces behind a stroke and an x. -/
theorem number_run (n from_ i : Nat) (t : List Int) (hn : n ≤ 1114111) (h : rs.drop i = 123 :: (hexL 5 n ++ 125 :: t)) :
    number rs from_ i = .ok ((n : Int), i + 1 + (hexL 5 n).length + 1) ∧ rs.drop (i + 1 + (hexL 5 n).length + 1) = t := by
  obtain ⟨h1, h2, h3, h4⟩ := hexL_ok 5 n (by omega)
  have d1 := drop_next h
  have e1 := nums_run (rs := rs) (hexL 5 n) 6 0 (i + 1) 125 t d1 h1 rfl h4
  rw [h2] at e1
  have d2 : rs.drop (i + 1 + (hexL 5 n).length) = 125 :: t := by rw [← List.drop_drop, d1]; simp
  refine ⟨?_, drop_next d2⟩
  unfold number
  rw [if_pos (pk_drop h)]
  simp only [e1]
  rw [if_neg]
  rw [pk_drop d2]
  omega

/-- An item that is a number by sixteen digits. -/
theorem item_run (n i : Nat) (t : List Int) (hn : n ≤ 1114111) (h : rs.drop i = 92 :: 120 :: 123 :: (hexL 5 n ++ 125 :: t)) :
    item rs cls perl i = .ok (one n, (n : Int), i + 2 + 1 + (hexL 5 n).length + 1) ∧ rs.drop (i + 2 + 1 + (hexL 5 n).length + 1) = t := by
  have d1 := drop_next h
  have d2 := drop_next d1
  obtain ⟨e1, e2⟩ := number_run (rs := rs) n i (i + 1 + 1) t hn d2
  refine ⟨?_, e2⟩
  unfold item
  rw [if_pos (pk_drop h)]
  unfold escape
  simp only [pk_drop d1]
  rw [if_neg (by decide), if_neg (by decide), if_pos trivial, e1]

/-- A list of one range of two numbers. -/
theorem items_run (from_ m a b i : Nat) (t : List Int) (ha : a ≤ 1114111) (hb : b ≤ 1114111)
    (h : rs.drop i = 92 :: 120 :: 123 :: (hexL 5 a ++ 125 :: 45 :: 92 :: 120 :: 123 :: (hexL 5 b ++ 125 :: 93 :: t))) :
    items rs cls perl from_ (m + 2) true (fun _ => false) i = if b < a then .bad 22 i else
      .ok (fun z => false || decide ((a : Int) ≤ z ∧ z ≤ b), i + 2 + 1 + (hexL 5 a).length + 1 + 1 + 2 + 1 + (hexL 5 b).length + 1) := by
  obtain ⟨e1, d1⟩ := item_run (rs := rs) (cls := cls) (perl := perl) a i _ ha h
  obtain ⟨j, hj⟩ : ∃ j, i + 2 + 1 + (hexL 5 a).length + 1 = j := ⟨_, rfl⟩
  rw [hj] at e1 d1 ⊢
  have d2 := drop_next d1
  obtain ⟨e2, d3⟩ := item_run (rs := rs) (cls := cls) (perl := perl) b (j + 1) _ hb d2
  obtain ⟨k, hk⟩ : ∃ k, j + 1 + 2 + 1 + (hexL 5 b).length + 1 = k := ⟨_, rfl⟩
  rw [hk] at e2 d3 ⊢
  unfold items
  rw [if_neg (by simp), if_neg (by rw [pk_drop h]; decide), e1]
  simp only []
  rw [if_pos (by rw [pk_drop d1, pk_drop d2]; exact ⟨by omega, rfl, by decide, by decide⟩), e2]
  simp only []
  by_cases hc : b < a
  · rw [if_pos hc, if_pos (by omega)]
  · rw [if_neg hc, if_neg (by omega)]
    unfold items
    rw [if_pos ⟨rfl, pk_drop d3⟩]

/-- The text of one range of two numbers, or of all but it. -/
def rangeText (a b : Nat) (no : Bool) : List Int := 91 :: ((if no then [94] else []) ++ 92 :: 120 :: 123 :: (hexL 5 a ++ 125 :: 45 :: 92 :: 120 :: 123 :: (hexL 5 b ++ 125 :: 93 :: [])))
/-- The plain law of SyntaxRanges. -/
theorem range_parse (a b : Nat) (no : Bool) (ha : a ≤ 1114111) (hb : b ≤ 1114111) (hrs : rs = rangeText a b no) :
    parse rs cls perl ⟨false, false, false, false⟩ = if b < a then .bad 22 (if no then 2 else 1) else
      .ok (some (.cls (if no then fun z => !(false || decide ((a : Int) ≤ z ∧ z ≤ b)) else fun z => false || decide ((a : Int) ≤ z ∧ z ≤ b)) false), ⟨rs.length, [], [[]], ⟨false, false, false, false⟩⟩) := by
  obtain ⟨i, hi⟩ : ∃ i, (if no then 2 else 1) = i := ⟨_, rfl⟩
  rw [hi]
  have hd : rs.drop i = 92 :: 120 :: 123 :: (hexL 5 a ++ 125 :: 45 :: 92 :: 120 :: 123 :: (hexL 5 b ++ 125 :: 93 :: [])) := by
    rw [hrs, ← hi]; cases no <;> rfl
  have p0 : pk rs 0 = 91 := by rw [hrs]; rfl
  have p1 : decide (pk rs 1 = 94) = no := by rw [hrs]; cases no <;> rfl
  have hL : rs.length = i + 2 + 1 + (hexL 5 a).length + 1 + 1 + 2 + 1 + (hexL 5 b).length + 1 + 1 := by
    rw [hrs, ← hi]
    cases no <;> simp [rangeText] <;> omega
  obtain ⟨m, hm⟩ : ∃ m, rs.length + 1 = m + 2 := ⟨rs.length - 1, by omega⟩
  have hit := items_run (rs := rs) (cls := cls) (perl := perl) 0 m a b i [] ha hb hd
  have hi2 : (if pk rs 1 = 94 then 1 + 1 else 1) = i := by
    rw [← hi, ← p1]
    by_cases e : pk rs 1 = 94 <;> simp [e]
  have hlist : list rs cls perl 0 1 = if b < a then .bad 22 i else .ok (if no then fun z => !(false || decide ((a : Int) ≤ z ∧ z ≤ b)) else fun z => false || decide ((a : Int) ≤ z ∧ z ≤ b), rs.length) := by
    unfold list
    simp only [hm, hi2, hit]
    by_cases hc : b < a
    · rw [if_pos hc, if_pos hc]
    · rw [if_neg hc, if_neg hc]
      simp only [← hL]
      rw [← p1]
      by_cases e : pk rs 1 = 94 <;> simp [e]
  obtain ⟨n, hn⟩ : ∃ n, 4 * rs.length + 8 = n + 6 := ⟨4 * rs.length + 2, by omega⟩
  have t0 : times rs 0 = none := by unfold times; simp [p0]
  have hend : pk rs rs.length = -1 := by unfold pk; simp
  have hrow2 : ∀ (l : List Nd) (q : Bool), go rs cls perl (n + 4) (.row l q) ⟨rs.length, [], [[]], ⟨false, false, false, false⟩⟩ = .ok (some (whole 8 l), ⟨rs.length, [], [[]], ⟨false, false, false, false⟩⟩) := by
    intro l q
    rw [go]
    simp [hend]
  have hatom : go rs cls perl (n + 4) .atom ⟨0, [], [[]], ⟨false, false, false, false⟩⟩ = if b < a then .bad 22 i else
      .ok (some (.cls (if no then fun z => !(false || decide ((a : Int) ≤ z ∧ z ≤ b)) else fun z => false || decide ((a : Int) ≤ z ∧ z ≤ b)) false), ⟨rs.length, [], [[]], ⟨false, false, false, false⟩⟩) := by
    rw [go]
    simp only [p0, Nat.zero_add, hlist]
    rw [if_neg (by decide), if_neg (by decide), if_neg (by decide), if_neg (by decide), if_pos trivial]
    by_cases hc : b < a
    · rw [if_pos hc, if_pos hc]
    · rw [if_neg hc, if_neg hc]
  have hrow0 : go rs cls perl (n + 5) (.row [] false) ⟨0, [], [[]], ⟨false, false, false, false⟩⟩ = if b < a then .bad 22 i else
      .ok (some (.cls (if no then fun z => !(false || decide ((a : Int) ≤ z ∧ z ≤ b)) else fun z => false || decide ((a : Int) ≤ z ∧ z ≤ b)) false), ⟨rs.length, [], [[]], ⟨false, false, false, false⟩⟩) := by
    rw [go]
    simp only [p0, t0, hatom]
    rw [if_neg (by decide), if_neg (by decide)]
    by_cases hc : b < a
    · rw [if_pos hc]
    · rw [if_neg hc]
      simp only [hrow2, Option.toList, List.nil_append, whole]
  unfold parse
  rw [hn, go, hrow0]
  by_cases hc : b < a
  · rw [if_pos hc]
  · rw [if_neg hc]
    simp only [hend, Option.toList, List.nil_append, whole]
    rw [if_neg (by decide)]
end Go.Proofs.Ytaodcmppbacfbaa.SynP

namespace Go.Proofs.Ytaodcmppbacfbaa
open Go.Shelf Go.RowKit

theorem str_size_ (l : List UInt8) : (str l).size = l.length := by simp [str, ByteArray.size]
theorem str_app_ (a b : List UInt8) : str a ++ str b = str (a ++ b) := by
  have h : (str a ++ str b).data = (str (a ++ b)).data := by rw [ByteArray.data_append]; simp [str]
  exact congrArg ByteArray.mk h
theorem nat_app_ (a b : List UInt8) : nat_ (a ++ b) = nat_ a ++ nat_ b := List.map_append
def D16 : ByteArray := ⟨#[48, 49, 50, 51, 52, 53, 54, 55, 56, 57, 97, 98, 99, 100, 101, 102]⟩
def hexDB (n : Nat) : UInt8 := UInt8.ofNat (SynP.hexD n).toNat
def hexB : Nat → Nat → List UInt8
  | 0, n => [hexDB n]
  | f + 1, n => if n < 16 then [hexDB n] else hexB f (n / 16) ++ [hexDB (n % 16)]
theorem d16_at (n : Nat) (h : n < 16) : D16.extract n (n + 1) = str [hexDB n] := by
  have : ∀ k : Fin 16, D16.extract k.val (k.val + 1) = str [hexDB k.val] := by decide +kernel
  exact this ⟨n, h⟩
theorem nat_hexD (n : Nat) (h : n < 16) : nat_ [hexDB n] = [SynP.hexD n] := by
  have : ∀ k : Fin 16, nat_ [hexDB k.val] = [SynP.hexD k.val] := by decide +kernel
  exact this ⟨n, h⟩
theorem nat_hexB : ∀ (f n : Nat), n < 16 ^ (f + 1) → nat_ (hexB f n) = SynP.hexL f n
  | 0, n, h => nat_hexD n (by simpa using h)
  | f + 1, n, h => by
    unfold hexB SynP.hexL
    split
    · rename_i h1; exact nat_hexD n h1
    · rw [nat_app_, nat_hexB f (n / 16) (by rw [Nat.div_lt_iff_lt_mul (by decide)]; exact h), nat_hexD _ (Nat.mod_lt _ (by decide))]
theorem hexB_len : ∀ (f n : Nat), (hexB f n).length ≤ f + 1
  | 0, n => Nat.le_refl _
  | f + 1, n => by
    unfold hexB
    split
    · simp
    · rw [List.length_append]
      have := hexB_len f (n / 16)
      simp
      omega
theorem hexB_asc : ∀ (f n : Nat), n < 16 ^ (f + 1) → ∀ c ∈ hexB f n, c.toNat < 128 := by
  have h16 : ∀ k : Fin 16, (hexDB k.val).toNat < 128 := by decide +kernel
  intro f
  induction f with
  | zero =>
    intro n h c hc
    unfold hexB at hc
    rw [List.mem_singleton.1 hc]
    exact h16 ⟨n, by simpa using h⟩
  | succ f ih =>
    intro n h c hc
    unfold hexB at hc
    split at hc
    · rename_i h1
      rw [List.mem_singleton.1 hc]
      exact h16 ⟨n, h1⟩
    · rcases List.mem_append.1 hc with hc | hc
      · exact ih (n / 16) (by rw [Nat.div_lt_iff_lt_mul (by decide)]; exact h) c hc
      · rw [List.mem_singleton.1 hc]
        exact h16 ⟨n % 16, Nat.mod_lt _ (by decide)⟩

theorem below_of_drew_ {w w' : World} (h : Below w.drew.heap.size w.drew w') : Below w.heap.size w w' := ⟨h.os, h.tape, h.output, h.size, h.block⟩

end Go.Proofs.Ytaodcmppbacfbaa

namespace Go.Proofs.Ytaodcmppbacfbaa
open Go.Shelf Go.RowKit SetPure

set_option maxRecDepth 100000 in
set_option maxHeartbeats 1600000 in
theorem sixteen_any (f : Nat) : f ≤ 5 → ∀ (n : Nat), n < 16 ^ (f + 1) → n ≤ 1114111 → ∀ w : World, Calls Try.prog 13 #[.int .i64 n] w fun e w' => e = .returned (.string (str (hexB f n))) ∧ Below w.heap.size w w' := by
  induction f with
  | zero =>
    intro _ n hn hn2 w
    have h16 : n < 16 := by simpa using hn
    have hx := d16_at n h16
    unfold D16 at hx
    have hz1 : (n : Int) < 16 := by omega
    have hz0 : (0 : Int) ≤ (n : Int) := by omega
    show Calls _ _ _ _ fun e w' => e = .returned (.string (str [hexDB n])) ∧ _
    obtain ⟨S, hS⟩ : ∃ S, str [hexDB n] = S := ⟨_, rfl⟩
    rw [hS] at hx ⊢
    clear hS hn hn2
    go_enter Try.func13, Try.ntmps13
    go_wp2_with fail
    go_ret
    exact ⟨rfl, Below.refl _ _⟩
  | succ f ih =>
    intro hf n hn hn2 w
    by_cases h16 : n < 16
    · have hx := d16_at n h16
      unfold D16 at hx
      have hz1 : (n : Int) < 16 := by omega
      have hz0 : (0 : Int) ≤ (n : Int) := by omega
      unfold hexB
      rw [if_pos h16]
      obtain ⟨S, hS⟩ : ∃ S, str [hexDB n] = S := ⟨_, rfl⟩
      rw [hS] at hx ⊢
      clear hS hn hn2 ih
      go_enter Try.func13, Try.ntmps13
      go_wp2_with fail
      go_ret
      exact ⟨rfl, Below.refl _ _⟩
    · unfold hexB
      rw [if_neg h16, ← str_app_]
      have HQ := Lib.hid (fun w => ih (by omega) (n / 16) (by rw [Nat.div_lt_iff_lt_mul (by decide)]; exact hn) (by omega) w)
      have hl := hexB_len f (n / 16)
      obtain ⟨z, hz⟩ : ∃ z : Int, (n : Int) = z := ⟨_, rfl⟩
      obtain ⟨q, hq⟩ : ∃ q : Nat, n / 16 = q := ⟨_, rfl⟩
      obtain ⟨m, hm⟩ : ∃ m : Nat, n % 16 = m := ⟨_, rfl⟩
      have hm1 : m < 16 := by omega
      have hx := d16_at m hm1
      unfold D16 at hx
      rw [hq] at HQ hl ⊢
      rw [hm]
      obtain ⟨S1, hS1⟩ : ∃ S1, str (hexB f q) = S1 := ⟨_, rfl⟩
      obtain ⟨S2, hS2⟩ : ∃ S2, str [hexDB m] = S2 := ⟨_, rfl⟩
      have hs1 : S1.size ≤ 6 := by rw [← hS1, str_size_]; omega
      have hs2 : S2.size = 1 := by rw [← hS2, str_size_]; rfl
      rw [hS1] at HQ ⊢
      rw [hS2] at hx ⊢
      rw [hz]
      have e1 : IntKind.i64.wrap (z.tdiv 16) = (q : Int) := by rw [IntWalk.i64_quo z 16 (by omega)]; omega
      have e3 : z.tmod 16 = (m : Int) := by rw [IntWalk.rem_in z 16 (by omega)]; omega
      have hz16 : 16 ≤ z := by omega
      have hm0 : (0 : Int) ≤ (m : Int) := by omega
      have hm2 : (m : Int) < 16 := by omega
      have hs3 : S1.size + S2.size ≤ 9223372036854775807 := by omega
      have w1 : IntKind.i64.wrap ((m : Int) + 1) = (m : Int) + 1 := by rw [IntKind.wrap_i64]; omega
      have w2 : (m : Int) + 1 ≤ 16 := by omega
      have w3 : (m : Int) ≤ (m : Int) + 1 := by omega
      have w4 : (0 : Int) ≤ (m : Int) + 1 := by omega
      have w5 : ((m : Int) + 1).toNat = m + 1 := by omega
      clear ih hf hn hn2 h16 hl hz hq hm hS1 hS2 hs2
      go_enter Try.func13, Try.ntmps13
      go_wp2_with fail
      go_region_with (go_at_call 13; refine (HQ.out _).mono ?_; rintro e w1 ⟨rfl, hb1⟩)
      all_goals
        go_wp2
        go_ret
        exact ⟨rfl, below_of_drew_ hb1⟩

/-- The text of a range, in bytes. -/
def rangeB (a b : Nat) (no : Bool) : List UInt8 := (if no then [91, 94] else [91]) ++ [92, 120, 123] ++ hexB 5 a ++ [125, 45, 92, 120, 123] ++ hexB 5 b ++ [125, 93]
theorem nat_range (a b : Nat) (no : Bool) (ha : a ≤ 1114111) (hb : b ≤ 1114111) : nat_ (rangeB a b no) = SynP.rangeText a b no := by
  unfold rangeB SynP.rangeText
  rw [nat_app_, nat_app_, nat_app_, nat_app_, nat_app_, nat_hexB 5 a (by omega), nat_hexB 5 b (by omega)]
  cases no <;> simp [nat_]
theorem asc_range (a b : Nat) (no : Bool) (ha : a ≤ 1114111) (hb : b ≤ 1114111) : (∀ c ∈ rangeB a b no, c.toNat < 128) ∧ (rangeB a b no).length ≤ 1024 := by
  constructor
  · intro c hc
    unfold rangeB at hc
    simp only [List.mem_append] at hc
    rcases hc with ((((hc | hc) | hc) | hc) | hc) | hc
    · revert c; cases no <;> decide
    · revert c; decide
    · exact hexB_asc 5 a (by omega) c hc
    · revert c; decide
    · exact hexB_asc 5 b (by omega) c hc
    · revert c; decide
  · have h1 := hexB_len 5 a
    have h2 := hexB_len 5 b
    unfold rangeB
    simp only [List.length_append]
    cases no <;> simp <;> omega
def rngF (a b : Int) (no : Bool) : Int → Bool := fun z => decide (a ≤ z ∧ z ≤ b) != no
/-- What Parse tells of a range. -/
def RngEnd (a b : Int) (no : Bool) (w : World) (e : Ending) (w' : World) : Prop := Below w.heap.size w w' ∧
  if b < a then e = .returned (.tuple #[.agg zeroP, .agg #[.int .i64 22, .int .i64 (if no then 2 else 1)]])
  else ∃ (x : Option Addr) (n c : Nat) (r4 : Bool) (r5 r6 : Int) (r7 : Bool) (r8 : Int) (r9 : ByteArray) (ra : Option Addr) (rb rc : Nat) (A : Option Addr) (k : Nat), e = .returned (.tuple #[.agg #[.int .i64 1, .slice x n c, .bool r4, .int .i64 r5, .int .i64 r6, .bool r7, .int .i64 r8, .string r9, .slice ra rb rc, .slice A 1 k], .agg #[.int .i64 0, .int .i64 0]]) ∧ SetV w' (.slice x n c) (rngF a b no)
theorem range_call (a b : Nat) (no : Bool) (ha : a ≤ 1114111) (hb : b ≤ 1114111) (w : World) : Calls Try.prog 9 #[.string (str (rangeB a b no)), .agg #[.bool false, .bool false, .bool false, .bool false]] w (RngEnd a b no w) := by
  refine (parse_any (str (rangeB a b no)) f0 w).mono fun e w' h => ?_
  obtain ⟨h1, h2⟩ := asc_range a b no ha hb
  rw [parseT_asc _ _ h1 h2, SynP.range_parse a b no ha hb (nat_range a b no ha hb)] at h
  unfold RngEnd
  by_cases hc : b < a
  · rw [if_pos hc] at h
    rw [if_pos (by omega)]
    obtain ⟨hb, he⟩ := h
    refine ⟨hb, ?_⟩
    rw [he, if_pos (by unfold rangeB; simp only [List.length_append]; cases no <;> simp <;> omega)]
    cases no <;> rfl
  · rw [if_neg hc] at h
    rw [if_neg (by omega)]
    obtain ⟨hb, r, A, c, rfl, hl, _, _, _⟩ := h
    refine ⟨hb, ?_⟩
    unfold SynP.Nd.cls Lies at hl
    obtain ⟨e1, e2, _⟩ := hl
    obtain ⟨r0, r1, r2, r3, r4, r5, r6, r7, r8, r9, ra, rb, rc⟩ := r
    simp only at e1 e2
    subst e1
    refine ⟨_, _, _, _, _, _, _, _, _, _, _, _, _, _, rfl, ?_⟩
    refine SetV.congr e2 fun z _ => ?_
    unfold rngF
    cases no <;> simp
theorem cnt_rng (a b : Int) (no : Bool) (h0 : 0 ≤ a) (h1 : a ≤ b) (h2 : b ≤ 1114111) : (cntF (fun z => inR z && rngF a b no z) : Int) = if no then 1114112 - (b - a + 1) else b - a + 1 := by
  have h := cntF_range a b h0 h1 h2
  cases no with
  | false =>
    have e : cntF (fun z => inR z && rngF a b false z) = cntF (fun z => inR z && decide (a ≤ z ∧ z ≤ b)) := cntF_congr fun z _ => by unfold rngF; simp
    rw [if_neg (by decide), e]
    exact h
  | true =>
    rw [if_pos rfl]
    have h3 := cntF_not (fun z => inR z && decide (a ≤ z ∧ z ≤ b))
    have h4 : cntF (fun z => inR z && rngF a b true z) = cntF (fun z => inR z && !(inR z && decide (a ≤ z ∧ z ≤ b))) := cntF_congr fun z hz => by unfold rngF; rw [hz]; simp
    rw [h4]
    omega
theorem has_rng (a b : Int) (no : Bool) (h0 : 0 ≤ a) (h1 : a ≤ b) (h2 : b ≤ 1114111) : (inR a && rngF a b no a) = !no ∧ (inR b && rngF a b no b) = !no := by
  unfold rngF
  rw [(inR_iff a).2 (by omega), (inR_iff b).2 (by omega), decide_eq_true (by omega), decide_eq_true (by omega)]
  cases no <;> simp

theorem str_range (a b : Nat) (no : Bool) : str (rangeB a b no) = (if no then ⟨#[91, 94]⟩ else ⟨#[91]⟩) ++ ⟨#[92, 120, 123]⟩ ++ str (hexB 5 a) ++ ⟨#[125, 45, 92, 120, 123]⟩ ++ str (hexB 5 b) ++ ⟨#[125, 93]⟩ := by
  unfold rangeB
  rw [← str_app_, ← str_app_, ← str_app_, ← str_app_, ← str_app_]
  cases no <;> rfl
set_option maxRecDepth 100000 in
set_option maxHeartbeats 3200000 in
theorem ranges_good (a b : Int) (ha0 : 0 ≤ a) (ha : a ≤ 1114111) (hb0 : 0 ≤ b) (hb : b ≤ 1114111) (no : Bool) (w : World) : Calls Try.prog 6 #[.int .i64 a, .int .i64 b, .bool no] w fun e w' => e = .returned (.bool true) ∧ Below w.heap.size w w' := by
  obtain ⟨a0, ha1⟩ : ∃ a0 : Nat, a = a0 := ⟨a.toNat, by omega⟩
  obtain ⟨b0, hb1⟩ : ∃ b0 : Nat, b = b0 := ⟨b.toNat, by omega⟩
  have hsz := hexB_len 5 a0
  have hsz2 := hexB_len 5 b0
  have hNa := fun w => sixteen_any 5 (Nat.le_refl _) a0 (by omega) (by omega) w
  have hNb := fun w => sixteen_any 5 (Nat.le_refl _) b0 (by omega) (by omega) w
  have hP := fun w => range_call a0 b0 no (by omega) (by omega) w
  rw [str_range] at hP
  rw [← ha1] at hNa hP
  rw [← hb1] at hNb hP
  obtain ⟨sa, hsa⟩ : ∃ sa, str (hexB 5 a0) = sa := ⟨_, rfl⟩
  obtain ⟨sb, hsb⟩ : ∃ sb, str (hexB 5 b0) = sb := ⟨_, rfl⟩
  have hza : sa.size ≤ 6 := by rw [← hsa, str_size_]; exact hsz
  have hzb : sb.size ≤ 6 := by rw [← hsb, str_size_]; exact hsz2
  rw [hsa] at hNa hP
  rw [hsb] at hNb hP
  have HNa := Lib.hid hNa
  have HNb := Lib.hid hNb
  clear hNa hNb hsz hsz2 hsa hsb ha1 hb1
  have f1 : decide (a < 0) = false := decide_eq_false (by omega)
  have f2 : decide (1114111 < a) = false := decide_eq_false (by omega)
  have f3 : decide (b < 0) = false := decide_eq_false (by omega)
  have f4 : decide (1114111 < b) = false := decide_eq_false (by omega)
  have T0 : Hid True := Lib.hid trivial
  have hfe := faultEq_same 0 0
  have HC := Lib.hid (fun h => cnt_rng a b no ha0 h hb)
  have HH := Lib.hid (fun h => has_rng a b no ha0 h hb)
  cases no
  · simp only [Bool.false_eq_true, if_false] at hP
    have hs0 : 1 + 3 + sa.size ≤ 9223372036854775807 := by omega
    have hs1 : 4 + sa.size ≤ 9223372036854775807 := by omega
    have hs2 : 4 + sa.size + 5 ≤ 9223372036854775807 := by omega
    have hs3 : 4 + sa.size + 5 + sb.size ≤ 9223372036854775807 := by omega
    have hs4 : 4 + sa.size + 5 + sb.size + 2 ≤ 9223372036854775807 := by omega
    go_enter Try.func6, Try.ntmps6
    go_upto_region 8 with (go_at_call 7; refine (speaks_any _).mono ?_; rintro e w1 ⟨rfl, hb1⟩; have HB1 := Lib.hid hb1; clear hb1)
    by_cases hlt : b < a
    · have hP2 : ∀ w, Calls _ _ _ w fun e w' => Below w.heap.size w w' ∧ e = .returned (.tuple #[.agg zeroP, .agg #[.int .i64 22, .int .i64 1]]) := fun w => by
        have := hP w
        unfold RngEnd at this
        simp only [if_pos hlt] at this
        exact this
      have HP := Lib.hid hP2
      have f5 : decide (b < a) = true := decide_eq_true hlt
      have hfb := faultEq_same 22 1
      clear hP hP2 hlt HC HH
      go_wp2_with (first | (go_at_call 13; first | (clear T0; refine (HNa.out _).mono ?_; rintro e w2 ⟨rfl, hb2⟩; have HB2 := Lib.hid (HB1.out.trans (hb2.mono HB1.out.size)); clear hb2) | (refine (HNb.out _).mono ?_; rintro e w3 ⟨rfl, hb3⟩; have HB3 := Lib.hid (HB2.out.trans (hb3.mono HB2.out.size)); clear hb3)) | (go_at_call 9; refine (HP.out _).mono ?_; rintro e w4 ⟨hb4, rfl⟩; have HB4 := Lib.hid (HB3.out.trans (hb4.mono HB3.out.size)); clear hb4))
      go_ret
      exact ⟨rfl, (HB4.out.alloc HB4.out.size _).alloc (Nat.le_trans HB4.out.size (by simp)) _⟩
    · have hP2 : ∀ w, Calls _ _ _ w fun e w' => Below w.heap.size w w' ∧ ∃ (x : Option Addr) (n c : Nat) (r4 : Bool) (r5 r6 : Int) (r7 : Bool) (r8 : Int) (r9 : ByteArray) (ra : Option Addr) (rb rc : Nat) (A : Option Addr) (k : Nat), e = .returned (.tuple #[.agg #[.int .i64 1, .slice x n c, .bool r4, .int .i64 r5, .int .i64 r6, .bool r7, .int .i64 r8, .string r9, .slice ra rb rc, .slice A 1 k], .agg #[.int .i64 0, .int .i64 0]]) ∧ SetV w' (.slice x n c) (rngF a b false) := fun w => by
        have := hP w
        unfold RngEnd at this
        simp only [if_neg hlt] at this
        exact this
      have HP := Lib.hid hP2
      have f5 : decide (b < a) = false := decide_eq_false hlt
      have HC1 := Lib.hid (HC.out (by omega))
      have HH1 := Lib.hid (HH.out (by omega))
      clear hP hP2 HC HH
      go_upto_region 9 with (first | (go_at_call 13; first | (clear T0; refine (HNa.out _).mono ?_; rintro e w2 ⟨rfl, hb2⟩; have HB2 := Lib.hid (HB1.out.trans (hb2.mono HB1.out.size)); clear hb2) | (refine (HNb.out _).mono ?_; rintro e w3 ⟨rfl, hb3⟩; have HB3 := Lib.hid (HB2.out.trans (hb3.mono HB2.out.size)); clear hb3)) | (go_at_call 9; refine (HP.out _).mono ?_; rintro e w4 ⟨hb4, x, n, c, r4, r5, r6, r7, r8, r9, ra, rb, rc, A, k, rfl, hv4⟩; have HB4 := Lib.hid (HB3.out.trans (hb4.mono HB3.out.size)); clear hb4; have HV4 := Lib.hid hv4; clear hv4))
      obtain ⟨P, hP⟩ : ∃ P, w4.heap.size = P := ⟨_, rfl⟩
      have hps := PatS.start (pc := #[.int .i64 1, .slice x n c, .bool r4, .int .i64 r5, .int .i64 r6, .bool r7, .int .i64 r8, .string r9, .slice ra rb rc, .slice A 1 k]) (fc := #[.int .i64 0, .int .i64 0]) HB4.out hP
      have hv3 := HV4.out.on (KeepR.below (below_two w4 (.cells #[.int .i64 1, .slice x n c, .bool r4, .int .i64 r5, .int .i64 r6, .bool r7, .int .i64 r8, .string r9, .slice ra rb rc, .slice A 1 k] 31) (.cells #[.int .i64 0, .int .i64 0] 34)))
      rw [hP]
      generalize (w4.alloc (.cells #[.int .i64 1, .slice x n c, .bool r4, .int .i64 r5, .int .i64 r6, .bool r7, .int .i64 r8, .string r9, .slice ra rb rc, .slice A 1 k] 31)).alloc (.cells #[.int .i64 0, .int .i64 0] 34) = W3 at hps hv3 ⊢
      have HS3 := Lib.hid hps
      have HV3 := Lib.hid hv3
      have hcP := HS3.out.pcell
      have hcF := HS3.out.fcell
      clear hps hv3 hP HB1 HB2 HB3 HB4 HV4 HP
      have w1 : IntKind.i64.wrap (b - a) = b - a := by rw [IntKind.wrap_i64]; omega
      have w2 : IntKind.i64.wrap (b - a + 1) = b - a + 1 := by rw [IntKind.wrap_i64]; omega
      have w3 : IntKind.i64.wrap (1114112 - (b - a + 1)) = 1114112 - (b - a + 1) := by rw [IntKind.wrap_i64]; omega
      have T1 : Hid True := Lib.hid trivial
      go_wp2_with (first
        | (go_at_call 11; refine (HV3.out.size_ (b - a + 1) HC1.out).mono ?_; rintro e w5 ⟨rfl, hb5⟩; have HS5 := Lib.hid (HS3.out.below hb5); have HV5 := Lib.hid (HV3.out.on (KeepR.below hb5)); clear hb5; replace hcP := HS5.out.pcell)
        | (go_at_call 12; first
          | (clear T1; refine (HV5.out.has_ a true HH1.out.1).mono ?_; rintro e w6 ⟨rfl, hb6⟩; have HS6 := Lib.hid (HS5.out.below hb6); have HV6 := Lib.hid (HV5.out.on (KeepR.below hb6)); clear hb6; replace hcP := HS6.out.pcell)
          | (refine (HV6.out.has_ b true HH1.out.2).mono ?_; rintro e w7 ⟨rfl, hb7⟩; have HS7 := Lib.hid (HS6.out.below hb7); clear hb7)))
      go_ret
      exact ⟨rfl, HS7.out.bel⟩
  · simp only [if_true] at hP
    have hs0 : 2 + 3 + sa.size ≤ 9223372036854775807 := by omega
    have hs1 : 5 + sa.size ≤ 9223372036854775807 := by omega
    have hs2 : 5 + sa.size + 5 ≤ 9223372036854775807 := by omega
    have hs3 : 5 + sa.size + 5 + sb.size ≤ 9223372036854775807 := by omega
    have hs4 : 5 + sa.size + 5 + sb.size + 2 ≤ 9223372036854775807 := by omega
    go_enter Try.func6, Try.ntmps6
    go_upto_region 8 with (go_at_call 7; refine (speaks_any _).mono ?_; rintro e w1 ⟨rfl, hb1⟩; have HB1 := Lib.hid hb1; clear hb1)
    by_cases hlt : b < a
    · have hP2 : ∀ w, Calls _ _ _ w fun e w' => Below w.heap.size w w' ∧ e = .returned (.tuple #[.agg zeroP, .agg #[.int .i64 22, .int .i64 2]]) := fun w => by
        have := hP w
        unfold RngEnd at this
        simp only [if_pos hlt] at this
        exact this
      have HP := Lib.hid hP2
      have f5 : decide (b < a) = true := decide_eq_true hlt
      have hfb := faultEq_same 22 2
      clear hP hP2 hlt HC HH
      go_wp2_with (first | (go_at_call 13; first | (clear T0; refine (HNa.out _).mono ?_; rintro e w2 ⟨rfl, hb2⟩; have HB2 := Lib.hid (HB1.out.trans (hb2.mono HB1.out.size)); clear hb2) | (refine (HNb.out _).mono ?_; rintro e w3 ⟨rfl, hb3⟩; have HB3 := Lib.hid (HB2.out.trans (hb3.mono HB2.out.size)); clear hb3)) | (go_at_call 9; refine (HP.out _).mono ?_; rintro e w4 ⟨hb4, rfl⟩; have HB4 := Lib.hid (HB3.out.trans (hb4.mono HB3.out.size)); clear hb4))
      go_ret
      exact ⟨rfl, (HB4.out.alloc HB4.out.size _).alloc (Nat.le_trans HB4.out.size (by simp)) _⟩
    · have hP2 : ∀ w, Calls _ _ _ w fun e w' => Below w.heap.size w w' ∧ ∃ (x : Option Addr) (n c : Nat) (r4 : Bool) (r5 r6 : Int) (r7 : Bool) (r8 : Int) (r9 : ByteArray) (ra : Option Addr) (rb rc : Nat) (A : Option Addr) (k : Nat), e = .returned (.tuple #[.agg #[.int .i64 1, .slice x n c, .bool r4, .int .i64 r5, .int .i64 r6, .bool r7, .int .i64 r8, .string r9, .slice ra rb rc, .slice A 1 k], .agg #[.int .i64 0, .int .i64 0]]) ∧ SetV w' (.slice x n c) (rngF a b true) := fun w => by
        have := hP w
        unfold RngEnd at this
        simp only [if_neg hlt] at this
        exact this
      have HP := Lib.hid hP2
      have f5 : decide (b < a) = false := decide_eq_false hlt
      have HC1 := Lib.hid (HC.out (by omega))
      have HH1 := Lib.hid (HH.out (by omega))
      clear hP hP2 HC HH
      go_upto_region 9 with (first | (go_at_call 13; first | (clear T0; refine (HNa.out _).mono ?_; rintro e w2 ⟨rfl, hb2⟩; have HB2 := Lib.hid (HB1.out.trans (hb2.mono HB1.out.size)); clear hb2) | (refine (HNb.out _).mono ?_; rintro e w3 ⟨rfl, hb3⟩; have HB3 := Lib.hid (HB2.out.trans (hb3.mono HB2.out.size)); clear hb3)) | (go_at_call 9; refine (HP.out _).mono ?_; rintro e w4 ⟨hb4, x, n, c, r4, r5, r6, r7, r8, r9, ra, rb, rc, A, k, rfl, hv4⟩; have HB4 := Lib.hid (HB3.out.trans (hb4.mono HB3.out.size)); clear hb4; have HV4 := Lib.hid hv4; clear hv4))
      obtain ⟨P, hP⟩ : ∃ P, w4.heap.size = P := ⟨_, rfl⟩
      have hps := PatS.start (pc := #[.int .i64 1, .slice x n c, .bool r4, .int .i64 r5, .int .i64 r6, .bool r7, .int .i64 r8, .string r9, .slice ra rb rc, .slice A 1 k]) (fc := #[.int .i64 0, .int .i64 0]) HB4.out hP
      have hv3 := HV4.out.on (KeepR.below (below_two w4 (.cells #[.int .i64 1, .slice x n c, .bool r4, .int .i64 r5, .int .i64 r6, .bool r7, .int .i64 r8, .string r9, .slice ra rb rc, .slice A 1 k] 31) (.cells #[.int .i64 0, .int .i64 0] 34)))
      rw [hP]
      generalize (w4.alloc (.cells #[.int .i64 1, .slice x n c, .bool r4, .int .i64 r5, .int .i64 r6, .bool r7, .int .i64 r8, .string r9, .slice ra rb rc, .slice A 1 k] 31)).alloc (.cells #[.int .i64 0, .int .i64 0] 34) = W3 at hps hv3 ⊢
      have HS3 := Lib.hid hps
      have HV3 := Lib.hid hv3
      have hcP := HS3.out.pcell
      have hcF := HS3.out.fcell
      clear hps hv3 hP HB1 HB2 HB3 HB4 HV4 HP
      have w1 : IntKind.i64.wrap (b - a) = b - a := by rw [IntKind.wrap_i64]; omega
      have w2 : IntKind.i64.wrap (b - a + 1) = b - a + 1 := by rw [IntKind.wrap_i64]; omega
      have w3 : IntKind.i64.wrap (1114112 - (b - a + 1)) = 1114112 - (b - a + 1) := by rw [IntKind.wrap_i64]; omega
      have T1 : Hid True := Lib.hid trivial
      go_wp2_with (first
        | (go_at_call 11; refine (HV3.out.size_ (1114112 - (b - a + 1)) HC1.out).mono ?_; rintro e w5 ⟨rfl, hb5⟩; have HS5 := Lib.hid (HS3.out.below hb5); have HV5 := Lib.hid (HV3.out.on (KeepR.below hb5)); clear hb5; replace hcP := HS5.out.pcell)
        | (go_at_call 12; first
          | (clear T1; refine (HV5.out.has_ a false HH1.out.1).mono ?_; rintro e w6 ⟨rfl, hb6⟩; have HS6 := Lib.hid (HS5.out.below hb6); have HV6 := Lib.hid (HV5.out.on (KeepR.below hb6)); clear hb6; replace hcP := HS6.out.pcell)
          | (refine (HV6.out.has_ b false HH1.out.2).mono ?_; rintro e w7 ⟨rfl, hb7⟩; have HS7 := Lib.hid (HS6.out.below hb7); clear hb7)))
      go_ret
      exact ⟨rfl, HS7.out.bel⟩


set_option maxRecDepth 100000 in
set_option maxHeartbeats 6400000 in
theorem ranges_bad (x y : Int) (hxy : ¬ (0 ≤ x ∧ x ≤ 1114111 ∧ 0 ≤ y ∧ y ≤ 1114111)) (no : Bool) (w : World) : Calls Try.prog 6 #[.int .i64 x, .int .i64 y, .bool no] w fun e w' => e = .returned (.bool true) ∧ Below w.heap.size w w' := by
  have hNa := fun w => sixteen_any 5 (Nat.le_refl _) 5 (by decide) (by decide) w
  have hNb := fun w => sixteen_any 5 (Nat.le_refl _) 9 (by decide) (by decide) w
  have hP := fun w => range_call 5 9 no (by decide) (by decide) w
  rw [str_range] at hP
  have hza : (str (hexB 5 5)).size = 1 := rfl
  have hzb : (str (hexB 5 9)).size = 1 := rfl
  obtain ⟨sa, hsa⟩ : ∃ sa, str (hexB 5 5) = sa := ⟨_, rfl⟩
  obtain ⟨sb, hsb⟩ : ∃ sb, str (hexB 5 9) = sb := ⟨_, rfl⟩
  rw [hsa] at hNa hP hza
  rw [hsb] at hNb hP hzb
  have HNa : Hid (∀ w, Calls Try.prog 13 #[.int .i64 5] w fun e w' => e = .returned (.string sa) ∧ Below w.heap.size w w') := Lib.hid hNa
  have HNb : Hid (∀ w, Calls Try.prog 13 #[.int .i64 9] w fun e w' => e = .returned (.string sb) ∧ Below w.heap.size w w') := Lib.hid hNb
  clear hNa hNb hsa hsb
  have hcs : decide (x < 0) = true ∨ decide (x < 0) = false ∧ decide (1114111 < x) = true ∨ decide (x < 0) = false ∧ decide (1114111 < x) = false ∧ decide (y < 0) = true ∨ decide (x < 0) = false ∧ decide (1114111 < x) = false ∧ decide (y < 0) = false ∧ decide (1114111 < y) = true := by
    by_cases k1 : x < 0
    · exact .inl (decide_eq_true k1)
    by_cases k2 : 1114111 < x
    · exact .inr (.inl ⟨decide_eq_false k1, decide_eq_true k2⟩)
    by_cases k3 : y < 0
    · exact .inr (.inr (.inl ⟨decide_eq_false k1, decide_eq_false k2, decide_eq_true k3⟩))
    · exact .inr (.inr (.inr ⟨decide_eq_false k1, decide_eq_false k2, decide_eq_false k3, decide_eq_true (by omega)⟩))
  have T0 : Hid True := Lib.hid trivial
  have hfe := faultEq_same 0 0
  have HC1 := Lib.hid (cnt_rng 5 9 no (by decide) (by decide) (by decide))
  have HH1 := Lib.hid (has_rng 5 9 no (by decide) (by decide) (by decide))
  have hP2 : ∀ w, Calls _ _ _ w fun e w' => Below w.heap.size w w' ∧ ∃ (x : Option Addr) (n c : Nat) (r4 : Bool) (r5 r6 : Int) (r7 : Bool) (r8 : Int) (r9 : ByteArray) (ra : Option Addr) (rb rc : Nat) (A : Option Addr) (k : Nat), e = .returned (.tuple #[.agg #[.int .i64 1, .slice x n c, .bool r4, .int .i64 r5, .int .i64 r6, .bool r7, .int .i64 r8, .string r9, .slice ra rb rc, .slice A 1 k], .agg #[.int .i64 0, .int .i64 0]]) ∧ SetV w' (.slice x n c) (rngF 5 9 no) := fun w => by
    have := hP w
    unfold RngEnd at this
    have h95 : ¬ (((9 : Nat) : Int) < ((5 : Nat) : Int)) := by decide
    simp only [if_neg h95] at this
    exact this
  clear hP hxy
  cases no
  · simp only [Bool.false_eq_true, if_false] at hP2
    have HP := Lib.hid hP2
    clear hP2
    rcases hcs with k1 | ⟨k1, k2⟩ | ⟨k1, k2, k3⟩ | ⟨k1, k2, k3, k4⟩
    all_goals
      have hs0 : 1 + 3 + sa.size ≤ 9223372036854775807 := by omega
      have hs1 : 4 + sa.size ≤ 9223372036854775807 := by omega
      have hs2 : 4 + sa.size + 5 ≤ 9223372036854775807 := by omega
      have hs3 : 4 + sa.size + 5 + sb.size ≤ 9223372036854775807 := by omega
      have hs4 : 4 + sa.size + 5 + sb.size + 2 ≤ 9223372036854775807 := by omega
      go_enter Try.func6, Try.ntmps6
      go_upto_region 8 with (go_at_call 7; refine (speaks_any _).mono ?_; rintro e w1 ⟨rfl, hb1⟩; have HB1 := Lib.hid hb1; clear hb1)
      go_upto_region 9 with (first | (go_at_call 13; first | (clear T0; refine (HNa.out _).mono ?_; rintro e w2 ⟨rfl, hb2⟩; have HB2 := Lib.hid (HB1.out.trans (hb2.mono HB1.out.size)); clear hb2) | (refine (HNb.out _).mono ?_; rintro e w3 ⟨rfl, hb3⟩; have HB3 := Lib.hid (HB2.out.trans (hb3.mono HB2.out.size)); clear hb3)) | (go_at_call 9; refine (HP.out _).mono ?_; rintro e w4 ⟨hb4, x, n, c, r4, r5, r6, r7, r8, r9, ra, rb, rc, A, k, rfl, hv4⟩; have HB4 := Lib.hid (HB3.out.trans (hb4.mono HB3.out.size)); clear hb4; have HV4 := Lib.hid hv4; clear hv4))
      obtain ⟨P, hP⟩ : ∃ P, w4.heap.size = P := ⟨_, rfl⟩
      have hps := PatS.start (pc := #[.int .i64 1, .slice x n c, .bool r4, .int .i64 r5, .int .i64 r6, .bool r7, .int .i64 r8, .string r9, .slice ra rb rc, .slice A 1 k]) (fc := #[.int .i64 0, .int .i64 0]) HB4.out hP
      have hv3 := HV4.out.on (KeepR.below (below_two w4 (.cells #[.int .i64 1, .slice x n c, .bool r4, .int .i64 r5, .int .i64 r6, .bool r7, .int .i64 r8, .string r9, .slice ra rb rc, .slice A 1 k] 31) (.cells #[.int .i64 0, .int .i64 0] 34)))
      rw [hP]
      generalize (w4.alloc (.cells #[.int .i64 1, .slice x n c, .bool r4, .int .i64 r5, .int .i64 r6, .bool r7, .int .i64 r8, .string r9, .slice ra rb rc, .slice A 1 k] 31)).alloc (.cells #[.int .i64 0, .int .i64 0] 34) = W3 at hps hv3 ⊢
      have HS3 := Lib.hid hps
      have HV3 := Lib.hid hv3
      have hcP := HS3.out.pcell
      have hcF := HS3.out.fcell
      clear hps hv3 hP HB1 HB2 HB3 HB4 HV4 HP
      have T1 : Hid True := Lib.hid trivial
      go_wp2_with (first
        | (go_at_call 11; refine (HV3.out.size_ (9 - 5 + 1) HC1.out).mono ?_; rintro e w5 ⟨rfl, hb5⟩; have HS5 := Lib.hid (HS3.out.below hb5); have HV5 := Lib.hid (HV3.out.on (KeepR.below hb5)); clear hb5; replace hcP := HS5.out.pcell)
        | (go_at_call 12; first
          | (clear T1; refine (HV5.out.has_ 5 true HH1.out.1).mono ?_; rintro e w6 ⟨rfl, hb6⟩; have HS6 := Lib.hid (HS5.out.below hb6); have HV6 := Lib.hid (HV5.out.on (KeepR.below hb6)); clear hb6; replace hcP := HS6.out.pcell)
          | (refine (HV6.out.has_ 9 true HH1.out.2).mono ?_; rintro e w7 ⟨rfl, hb7⟩; have HS7 := Lib.hid (HS6.out.below hb7); clear hb7)))
      go_ret
      exact ⟨rfl, HS7.out.bel⟩
  · simp only [if_true] at hP2
    have HP := Lib.hid hP2
    clear hP2
    rcases hcs with k1 | ⟨k1, k2⟩ | ⟨k1, k2, k3⟩ | ⟨k1, k2, k3, k4⟩
    all_goals
      have hs0 : 2 + 3 + sa.size ≤ 9223372036854775807 := by omega
      have hs1 : 5 + sa.size ≤ 9223372036854775807 := by omega
      have hs2 : 5 + sa.size + 5 ≤ 9223372036854775807 := by omega
      have hs3 : 5 + sa.size + 5 + sb.size ≤ 9223372036854775807 := by omega
      have hs4 : 5 + sa.size + 5 + sb.size + 2 ≤ 9223372036854775807 := by omega
      go_enter Try.func6, Try.ntmps6
      go_upto_region 8 with (go_at_call 7; refine (speaks_any _).mono ?_; rintro e w1 ⟨rfl, hb1⟩; have HB1 := Lib.hid hb1; clear hb1)
      go_upto_region 9 with (first | (go_at_call 13; first | (clear T0; refine (HNa.out _).mono ?_; rintro e w2 ⟨rfl, hb2⟩; have HB2 := Lib.hid (HB1.out.trans (hb2.mono HB1.out.size)); clear hb2) | (refine (HNb.out _).mono ?_; rintro e w3 ⟨rfl, hb3⟩; have HB3 := Lib.hid (HB2.out.trans (hb3.mono HB2.out.size)); clear hb3)) | (go_at_call 9; refine (HP.out _).mono ?_; rintro e w4 ⟨hb4, x, n, c, r4, r5, r6, r7, r8, r9, ra, rb, rc, A, k, rfl, hv4⟩; have HB4 := Lib.hid (HB3.out.trans (hb4.mono HB3.out.size)); clear hb4; have HV4 := Lib.hid hv4; clear hv4))
      obtain ⟨P, hP⟩ : ∃ P, w4.heap.size = P := ⟨_, rfl⟩
      have hps := PatS.start (pc := #[.int .i64 1, .slice x n c, .bool r4, .int .i64 r5, .int .i64 r6, .bool r7, .int .i64 r8, .string r9, .slice ra rb rc, .slice A 1 k]) (fc := #[.int .i64 0, .int .i64 0]) HB4.out hP
      have hv3 := HV4.out.on (KeepR.below (below_two w4 (.cells #[.int .i64 1, .slice x n c, .bool r4, .int .i64 r5, .int .i64 r6, .bool r7, .int .i64 r8, .string r9, .slice ra rb rc, .slice A 1 k] 31) (.cells #[.int .i64 0, .int .i64 0] 34)))
      rw [hP]
      generalize (w4.alloc (.cells #[.int .i64 1, .slice x n c, .bool r4, .int .i64 r5, .int .i64 r6, .bool r7, .int .i64 r8, .string r9, .slice ra rb rc, .slice A 1 k] 31)).alloc (.cells #[.int .i64 0, .int .i64 0] 34) = W3 at hps hv3 ⊢
      have HS3 := Lib.hid hps
      have HV3 := Lib.hid hv3
      have hcP := HS3.out.pcell
      have hcF := HS3.out.fcell
      clear hps hv3 hP HB1 HB2 HB3 HB4 HV4 HP
      have T1 : Hid True := Lib.hid trivial
      go_wp2_with (first
        | (go_at_call 11; refine (HV3.out.size_ (1114112 - (9 - 5 + 1)) HC1.out).mono ?_; rintro e w5 ⟨rfl, hb5⟩; have HS5 := Lib.hid (HS3.out.below hb5); have HV5 := Lib.hid (HV3.out.on (KeepR.below hb5)); clear hb5; replace hcP := HS5.out.pcell)
        | (go_at_call 12; first
          | (clear T1; refine (HV5.out.has_ 5 false HH1.out.1).mono ?_; rintro e w6 ⟨rfl, hb6⟩; have HS6 := Lib.hid (HS5.out.below hb6); have HV6 := Lib.hid (HV5.out.on (KeepR.below hb6)); clear hb6; replace hcP := HS6.out.pcell)
          | (refine (HV6.out.has_ 9 false HH1.out.2).mono ?_; rintro e w7 ⟨rfl, hb7⟩; have HS7 := Lib.hid (HS6.out.below hb7); clear hb7)))
      go_ret
      exact ⟨rfl, HS7.out.bel⟩
theorem law_ranges (x y : Int) (no : Bool) (w : World) : Calls Try.prog 6 #[.int .i64 x, .int .i64 y, .bool no] w fun e w' => e = .returned (.bool true) ∧ Below w.heap.size w w' := by
  by_cases h : 0 ≤ x ∧ x ≤ 1114111 ∧ 0 ≤ y ∧ y ≤ 1114111
  · exact ranges_good x y h.1 h.2.1 h.2.2.1 h.2.2.2 no w
  · exact ranges_bad x y h no w

end Go.Proofs.Ytaodcmppbacfbaa

namespace Go.Proofs.Ytaodcmppbacfbaa
open Go.ChangeShapes Go.WideShapes Go.ChangeAt Go.RowKit Go.Deep

section
variable {H : Type} {enc : TypeId × Value → H} {P : Program} {w : World} {base : Nat} {spare : Nat → Bool} {held : Bool}

theorem open_slice_arr2 {t e ti : TypeId} {fuel : Nat} {cs : List Value} {x : DataW H × List MemPlace} (ht : P.underlying t = some (.slice e)) (he : P.underlying e = some (.array 2 ti))
    (ce : P.cellsOf e = 2) (ci : P.cellsOf ti = 1)
    (h : DataW.trod enc P w base spare held fuel t cs = some x) :
    (cs = [.slice none 0 0] ∧ x = (.nil, [])) ∨
    ∃ (a : Addr) (len cap m n : Nat) (V0 V1 : Nat → Value) (D0 D1 : Nat → DataW H) (P0 P1 : Nat → List MemPlace), cs = [.slice (some a) len cap] ∧ base ≤ a.block ∧ len ≤ cap ∧ cap ≤ maxLen ∧ m = (if spare a.block then cap else len) ∧
      x = (.slice ((List.range len).map fun i => .agg [D0 i, D1 i]) ((List.range (m - len)).map fun j => .agg [D0 (len + j), D1 (len + j)]), MemPlace.row a (m * 2) ++ (List.range m).flatMap fun i => P0 i ++ P1 i) ∧
      ∀ i, i < m → w.cell? (a.add (i * 2)) = some (V0 i) ∧ w.cell? (a.add (i * 2 + 1)) = some (V1 i) ∧
        DataW.trod enc P w base spare held n ti [V0 i] = some (D0 i, P0 i) ∧ DataW.trod enc P w base spare held n ti [V1 i] = some (D1 i, P1 i) := by
  rcases open_slice ht h with h0 | ⟨a, len, cap, m, n, D, Pl, rfl, hb, hl, hm, hmm, rfl, hx⟩
  · exact Or.inl h0
  right
  have hlm : len ≤ m := by rw [hmm]; split <;> omega
  have each : ∀ i, i < m → ∃ q : Value × Value × (DataW H × List MemPlace) × (DataW H × List MemPlace), w.cell? (a.add (i * 2)) = some q.1 ∧ w.cell? (a.add (i * 2 + 1)) = some q.2.1 ∧
      DataW.trod enc P w base spare held (n - 1) ti [q.1] = some q.2.2.1 ∧ DataW.trod enc P w base spare held (n - 1) ti [q.2.1] = some q.2.2.2 ∧ D i = .agg [q.2.2.1.1, q.2.2.2.1] ∧ Pl i = q.2.2.1.2 ++ q.2.2.2.2 := by
    intro i hi
    obtain ⟨cs', h1, h2⟩ := hx i hi
    rw [ce] at h1
    obtain ⟨_, hlen, hcell⟩ := World.cells?_some h1
    obtain ⟨xs, k, hk, hxy, _, hxl, hf⟩ := DataW.trod_array he h2
    have hk' : k = n - 1 := by omega
    subst hk'
    match xs, hxl, cs', hlen with
    | [y0, y1], _, [v0, v1], _ =>
      have g0 := hf 0 (by omega)
      have g1 := hf 1 (by omega)
      simp [ci] at g0 g1
      have e0 := hcell 0 (by omega)
      have e1 := hcell 1 (by omega)
      rw [add_add] at e0 e1
      simp only [Prod.mk.injEq] at hxy
      exact ⟨(v0, v1, y0, y1), by simpa using e0, by simpa using e1, g0, g1, by simpa using hxy.1, by simpa using hxy.2⟩
  obtain ⟨q, hq⟩ := choose_lt each
  refine ⟨a, len, cap, m, n - 1, fun i => (q i).1, fun i => (q i).2.1, fun i => (q i).2.2.1.1, fun i => (q i).2.2.2.1, fun i => (q i).2.2.1.2, fun i => (q i).2.2.2.2, rfl, hb, hl, hm, hmm, ?_,
    fun i hi => ⟨(hq i hi).1, (hq i hi).2.1, (hq i hi).2.2.1, (hq i hi).2.2.2.1⟩⟩
  rw [ce, List.map_congr_left (fun i hi => (hq i (by have := List.mem_range.1 hi; omega)).2.2.2.2.1), List.map_congr_left (fun j hj => (hq (len + j) (by have := List.mem_range.1 hj; omega)).2.2.2.2.1),
    flatMap_congr_range (fun i hi => (hq i hi).2.2.2.2.2)]
end

section
variable {H : Type} {enc : TypeId × Value → H} {P : Program} {W : World}

theorem open_arr2 {t e ti : TypeId} {v : Value} {d : DataW H} {p : List MemPlace} {ts : List TypeId} {ds : List (DataW H)} {j : Nat} (ht : P.underlying t = some (.slice e)) (he : P.underlying e = some (.array 2 ti))
    (ce : P.cellsOf e = 2) (ci : P.cellsOf ti = 1) (hi : P.underlying ti = some (.int .i64)) (hb : P.bytesOf e = 16)
    (hv : ∃ A n c, v = .slice A n c) (h : DataW.Trod enc P W 0 (fun _ => true) true t v d p) (hsz : (DataW.weightsEach P ts ds).all (· ≤ reachBytes) = true) (hj : ts[j]? = some t) (hd : ds[j]? = some d) :
    ∃ A c, ∃ l : List (Int × Int), v = .slice A l.length c ∧ SeqAt Epair W W.heap.size A l ∧ l.length ≤ 8796093022208 ∧ ((d = .nil ∧ l.length = 0) ∨ ∃ elems spare, d = .slice elems spare ∧ elems.length = l.length) ∧ ∀ x ∈ p, x.block < W.heap.size := by
  obtain ⟨A, n, c, rfl⟩ := hv
  obtain ⟨fuel, hf⟩ := h
  have hcs : (Value.slice A n c).cells.toList = [.slice A n c] := by simp [Value.cells]
  rw [hcs] at hf
  rcases open_slice_arr2 ht he ce ci hf with ⟨hc, hx⟩ | ⟨a, len, cap, m, k, V0, V1, D0, D1, P0, P1, hc, _, hl, hm, hmm, hx, hall⟩
  · simp only [List.cons.injEq, and_true, Value.slice.injEq] at hc
    obtain ⟨rfl, rfl, rfl⟩ := hc
    simp only [Prod.mk.injEq] at hx
    obtain ⟨rfl, rfl⟩ := hx
    exact ⟨none, 0, [], rfl, SeqAt.nil_, by simp, .inl ⟨rfl, rfl⟩, fun x hx => by cases hx⟩
  · simp only [List.cons.injEq, and_true, Value.slice.injEq] at hc
    obtain ⟨rfl, rfl, rfl⟩ := hc
    simp only [Prod.mk.injEq] at hx
    obtain ⟨rfl, rfl⟩ := hx
    simp only [if_true] at hmm
    subst hmm
    have hint : ∀ i, i < m → ∃ x y, V0 i = .int .i64 x ∧ V1 i = .int .i64 y ∧ P0 i = [] ∧ P1 i = [] := fun i him => by
      obtain ⟨x, e1, e2, _⟩ := DataW.trod_int hi (hall i him).2.2.1
      obtain ⟨y, e3, e4, _⟩ := DataW.trod_int hi (hall i him).2.2.2
      simp only [List.cons.injEq, and_true] at e1 e3
      simp only [Prod.mk.injEq] at e2 e4
      exact ⟨x, y, e1, e3, e2.2, e4.2⟩
    have hcell : ∀ i, i < n → W.cell? (a.add (i * 2)) = some (.int .i64 (intOf (V0 i))) ∧ W.cell? (a.add (i * 2 + 1)) = some (.int .i64 (intOf (V1 i))) := fun i hin => by
      obtain ⟨x, y, e0, e1, _⟩ := hint i (by omega)
      obtain ⟨c0, c1, _⟩ := hall i (by omega)
      rw [c0, c1, e0, e1]
      exact ⟨rfl, rfl⟩
    refine ⟨some a, m, (List.range n).map fun i => (intOf (V0 i), intOf (V1 i)), by simp, seqAt_of_cells hcell, ?_, .inr ⟨_, _, rfl, by simp⟩, fun x hx => ?_⟩
    · have := sized_slice hsz hj hd ht
      rw [hb] at this
      simp only [List.length_map, List.length_range, reachBytes] at this ⊢
      omega
    · rcases List.mem_append.1 hx with h1 | h2
      · simp only [MemPlace.row, List.mem_map, List.mem_range] at h1
        obtain ⟨i, hi2, rfl⟩ := h1
        have := World.block_lt_of_cell? W _ (hall 0 (by omega)).1
        show a.block < W.heap.size
        simpa [Addr.add] using this
      · obtain ⟨i, hi2, hxi⟩ := List.mem_flatMap.1 h2
        obtain ⟨_, _, _, _, e1, e2⟩ := hint i (List.mem_range.1 hi2)
        rw [e1, e2] at hxi
        cases hxi


theorem open_str {t : TypeId} {v : Value} {d : DataW H} {p : List MemPlace} {ts : List TypeId} {ds : List (DataW H)} {j : Nat} (ht : P.underlying t = some .string) (hv : ∃ s, v = .string s)
    (h : DataW.Trod enc P W 0 (fun _ => true) true t v d p) (hsz : (DataW.weightsEach P ts ds).all (· ≤ reachBytes) = true) (hj : ts[j]? = some t) (hd : ds[j]? = some d) :
    ∃ s : ByteArray, v = .string s ∧ s.size ≤ 140737488355328 ∧ p = [] := by
  obtain ⟨s, rfl⟩ := hv
  obtain ⟨fuel, hf⟩ := h
  have hcs : (Value.string s).cells.toList = [.string s] := by simp [Value.cells]
  rw [hcs] at hf
  obtain ⟨s', e, hx, _⟩ := DataW.trod_string ht hf
  simp only [List.cons.injEq, and_true, Value.string.injEq] at e
  subst e
  simp only [Prod.mk.injEq] at hx
  obtain ⟨rfl, rfl⟩ := hx
  have := sized_string hsz hj hd
  have h2 : s.data.toList.length = s.size := by rw [Array.length_toList]; rfl
  refine ⟨s, rfl, ?_, rfl⟩
  simp only [reachBytes] at this
  omega

end
end Go.Proofs.Ytaodcmppbacfbaa
