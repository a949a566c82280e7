/- The library's slices.Index and slices.Contains at []string, walked.
  Chapter 10: the parser of patterns: its names and open brackets in memory; steps of the parser.
  Chapter 10: a pattern's tree in memory, and how it stands; a class' leaf; one thing, or several as one.
  Chapter 10: the parser of patterns: one thing, or several as one; one of two.
  General: one element put behind a row of the call's own, and where the new row lies.
  Chapter 10: the parser of patterns: a group's number.
  The library's slices.Index and slices.Contains at []int, walked. -/
import Derived.Test.YtblkejnckbeieaaGreatDoorZk4
import Derived.Test.YtblkejnckbeieaaGreatDoorZk7
import Derived.Test.YtblkejnckbeieaaGreatDoorZk1
import Derived.Laws.Tables
import Derived.Laws.AppendOwn
import Derived.Maps.AppendAt
namespace Go.Proofs.YtblkejnckbeieaaGreatDoor
open Go.RowKit

theorem SeqAt.texts_ {w : World} {B : Nat} {A : Option Addr} {l : List ByteArray} (h : SeqAt Estr w B A l) (hn : 0 < l.length) :
    ∃ b off, A = some ⟨b, off, none⟩ ∧ b < B ∧ ∀ i, i < l.length → w.cell? ⟨b, off + i, none⟩ = some (.string (l.getD i ⟨#[]⟩)) := by
  obtain ⟨b, off, e, hb, hc⟩ := h.at_ hn
  refine ⟨b, off, e, hb, fun i hi => ?_⟩
  obtain ⟨b', off', e', _, hc'⟩ := h.at_ hi
  rw [e] at e'
  injection e' with e'
  injection e' with e1 e2
  subst e1; subst e2
  have := hc' 0 (by decide)
  rw [List.getD_eq_getElem?_getD, List.getElem?_eq_getElem hi]
  simpa [Estr] using this
/-- slices.Index's end. -/
def IndexEndS (l : List ByteArray) (r : ByteArray) (w : World) (e : Ending) (w' : World) : Prop := ∃ i : Int, e = .returned (.int .i64 i) ∧ (0 ≤ i ↔ r ∈ l) ∧ w = w'

set_option maxHeartbeats 400000 in
theorem index_strs (A : Option Addr) (n c B : Nat) (l : List ByteArray) (r : ByteArray) (w : World) (hl : l.length = n) (hn : n ≤ 4611686018427387904) (hA : SeqAt Estr w B A l) :
    Calls Tryz.prog 204 #[.slice A n c, .string r] w (IndexEndS l r w) := by
  have HL := Lib.hid hl
  have HA := Lib.hid hA
  clear hl hA
  go_enter Tryz.func204, Tryz.ntmps204
  go_wp2
  go_loop [8] (fun i => ∃ k : Nat, k ≤ n ∧ i = .int .i64 k ∧ Hid (r ∉ l.take k)) (fun i => n + 1 - (intOf i).toNat)
  case atStart => exact ⟨0, by omega, rfl, by unfold Hid; simp⟩
  case round =>
    obtain ⟨k, hk, rfl, hrest⟩ := hrel
    by_cases hlt : k < n
    · have hln := HL.out
      have HK : Hid (k < l.length) := by unfold Hid; omega
      obtain ⟨b, off, rfl, hb, hc⟩ := HA.out.texts_ (by omega)
      have h0 := hc k (by omega)
      clear hc hb hln
      have HX : Hid (l.getD k ⟨#[]⟩ = l[k]'HK.out) := Lib.hid (by rw [List.getD_eq_getElem?_getD, List.getElem?_eq_getElem HK.out]; rfl)
      generalize hx : l.getD k ⟨#[]⟩ = x at *
      clear hx
      by_cases hrx : r = x
      · have he := str_eq hrx
        go_wp2
        go_ret
        exact ⟨k, rfl, ⟨fun _ => by have := List.getElem_mem HK.out; rw [← HX.out] at this; first | exact this | (rw [hrx]; exact this), fun _ => by omega⟩, rfl⟩
      · have he := str_ne hrx
        go_wp2
        go_round
        case rel =>
          refine ⟨k + 1, by omega, by go_num, ?_⟩
          unfold Hid
          rw [List.take_add_one, List.getElem?_eq_getElem HK.out]
          simp only [List.mem_append, not_or]
          refine ⟨hrest.out, ?_⟩
          simp [← HX.out, hrx]
        case measure => simp [intOf]; omega
    · go_wp2
      go_ret
      refine ⟨-1, rfl, ⟨fun h => by omega, fun h => ?_⟩, rfl⟩
      have := hrest.out
      rw [List.take_of_length_le (by rw [HL.out]; omega)] at this
      exact absurd h this

set_option maxHeartbeats 400000 in
theorem contains_strs (A : Option Addr) (n c B : Nat) (l : List ByteArray) (r : ByteArray) (w : World) (hl : l.length = n) (hn : n ≤ 4611686018427387904) (hA : SeqAt Estr w B A l) :
    Calls Tryz.prog 193 #[.slice A n c, .string r] w fun e w' => (∃ b, e = .returned (.bool b) ∧ (b = true ↔ r ∈ l)) ∧ w = w' := by
  have H := Lib.hid (index_strs A n c B l r w hl hn hA)
  clear hl hA
  go_enter Tryz.func193, Tryz.ntmps193
  go_wp2_with (go_at_call 204; refine H.out.mono ?_; rintro e w' ⟨i, rfl, hi, rfl⟩; have HI := Lib.hid hi; clear hi)
  go_ret
  exact ⟨⟨_, rfl, by rw [decide_eq_true_eq]; exact HI.out⟩, rfl⟩

end Go.Proofs.YtblkejnckbeieaaGreatDoor

namespace Go.Proofs.YtblkejnckbeieaaGreatDoor
open Go.RowKit SetPure

def str (l : List UInt8) : ByteArray := ⟨l.toArray⟩
theorem str_inj {a b : List UInt8} (h : str a = str b) : a = b := by
  unfold str at h
  injection h with h
  injection h
theorem str_mem {l : List UInt8} {ns : List (List UInt8)} : str l ∈ ns.map str ↔ l ∈ ns := by
  constructor
  · intro h
    obtain ⟨a, ha, e⟩ := List.mem_map.1 h
    rw [← str_inj e]; exact ha
  · exact fun h => List.mem_map.2 ⟨l, h, rfl⟩
theorem Mv.of_drew {p : Nat} {w w' : World} (h : Mv p w.drew w') : Mv p w w' := ⟨h.os, h.tape, h.output, h.size, h.block⟩
/-- A row's block has its elements' type. -/
theorem OwnB.ne_ {α : Type} {E : Enc α} {e t : TypeId} {base T : Nat} {w : World} {v : Value} {l : List α} {cs : Array Value} {fz : Nat × Nat} (h : OwnB E e base w v l) (hb : w.heap[T]? = some (.cells cs t fz)) (ht : t ≠ e) : v.ownBlock ≠ some T := by
  rcases h.1.2 with ⟨rfl, _⟩ | ⟨g, cap, cur, rfl, _, hg, _⟩
  · intro e; cases e
  · intro e
    simp only [Value.ownBlock] at e
    injection e with e
    subst e
    rw [hg] at hb
    injection hb with hb
    injection hb with _ hb
    exact ht hb.symm
theorem OwnB.has {α : Type} {E : Enc α} {e : TypeId} {base k : Nat} {w : World} {v : Value} {l : List α} (h : OwnB E e base w v l) (hk : v.ownBlock = some k) : ∃ cs, w.heap[k]? = some (.cells cs e (0, 0)) := by
  rcases h.1.2 with ⟨rfl, _⟩ | ⟨g, cap, cur, rfl, _, hg, _⟩
  · cases hk
  · simp only [Value.ownBlock] at hk
    injection hk with hk
    subst hk
    exact ⟨_, hg⟩
theorem OwnB.apart {α β : Type} {E : Enc α} {E' : Enc β} {e e' : TypeId} {b b' : Nat} {w : World} {v v' : Value} {l : List α} {l' : List β} (h : OwnB E e b w v l) (h' : OwnB E' e' b' w v' l') (ht : e' ≠ e) : v.ownBlock = none ∨ v.ownBlock ≠ v'.ownBlock := by
  cases hk : v'.ownBlock with
  | none => cases v.ownBlock with
    | none => exact .inl rfl
    | some _ => exact .inr (fun e => by cases e)
  | some k =>
    obtain ⟨cs, hc⟩ := h'.has hk
    exact .inr (h.ne_ hc ht)
theorem OwnB.mvT {α : Type} {E : Enc α} {e : TypeId} {base : Nat} {w w' : World} {X : Cx} {p : Pv} {i : Nat} {v : Value} {l : List α} (h : OwnB E e base w v l) (ha : At w X p i) (k : Mv X.b w w') (ht : 76 ≠ e) : OwnB E e base w' v l :=
  ⟨h.1.kept k (.inr (h.ne_ ha.blk ht)), Nat.le_trans h.2 k.size⟩
theorem OwnB.kept_ {α : Type} {E : Enc α} {e : TypeId} {base : Nat} {w w' : World} {v : Value} {r : Option Nat} {l : List α} (h : OwnB E e base w v l) (k : w.grownBy w' r) (hr : v.ownBlock = none ∨ v.ownBlock ≠ r) : OwnB E e base w' v l := ⟨h.1.kept k hr, Nat.le_trans h.2 k.size⟩

/-- What the parser holds: its state in memory. -/
structure PS (w : World) (X : Cx) (p : Pv) (s : SynP.St) : Prop where
  at_ : At w X p s.at_
  fl : p.f = s.fl
  opn : OwnB Eint 3 X.B w p.op (s.opn.map fun k : Nat => (k : Int))
  nms : OwnB Estr 9 X.B w p.nm (s.names.map str)
  opl : s.opn.length ≤ 32
  opk : ∀ k ∈ s.opn, k ≤ X.rs.length
  nml : s.names.length ≤ s.at_ + 1
/-- A step: nothing below the bound has turned, nor any block but the parser's, rows of numbers and of texts. -/
structure Pm (w w' : World) (X : Cx) : Prop where
  bel : Below X.B w w'
  keep : ∀ (k : Nat) (cs : Array Value) (t : TypeId) (fz : Nat × Nat), w.heap[k]? = some (.cells cs t fz) → t ≠ 76 → t ≠ 3 → t ≠ 9 → w'.heap[k]? = w.heap[k]?
theorem Pm.rfl_ (w : World) (X : Cx) : Pm w w X := ⟨Below.refl _ _, fun _ _ _ _ _ _ _ _ => rfl⟩
theorem Pm.step {a b c : World} {X : Cx} (h : Pm a b X) (k : Pm b c X) : Pm a c X :=
  ⟨h.bel.trans k.bel, fun n cs t fz e h1 h2 h3 => (k.keep n cs t fz ((h.keep n cs t fz e h1 h2 h3).trans e) h1 h2 h3).trans (h.keep n cs t fz e h1 h2 h3)⟩
theorem Pm.mv {w w' : World} {X : Cx} {p : Pv} {i : Nat} (ha : At w X p i) (k : Mv X.b w w') : Pm w w' X :=
  ⟨Mv.to_below (Below.refl _ w) k ha.low (Nat.le_of_lt (Nat.lt_of_le_of_lt ha.low ha.lt)), fun n cs t fz e h1 _ _ => k.heap (Array.getElem?_eq_some_iff.1 e).1 (fun hn => by
    rw [hn, ha.blk] at e
    injection e with e
    injection e with _ e
    exact h1 e.symm)⟩
theorem Pm.below {w w' : World} {X : Cx} (hB : X.B ≤ w.heap.size) (k : Below w.heap.size w w') : Pm w w' X := ⟨k.mono hB, fun n _ _ _ e _ _ _ => k.block n (Array.getElem?_eq_some_iff.1 e).1⟩
theorem Pm.own {α : Type} {E : Enc α} {e : TypeId} {w w' : World} {X : Cx} {v : Value} {l : List α} (h : OwnB E e X.B w v l) (he : e = 3 ∨ e = 9) (g : w.grownBy w' v.ownBlock) : Pm w w' X :=
  ⟨⟨g.os, g.tape, g.output, g.size, fun k hk => g.block k (Nat.lt_of_lt_of_le hk h.2) (fun e => by have := (h.lt k e.symm).1; omega)⟩, fun n cs t fz hn _ h2 h3 => g.block n (Array.getElem?_eq_some_iff.1 hn).1 (fun hv => by
    refine h.ne_ hn ?_ hv.symm
    rintro rfl
    rcases he with he | he
    · exact h2 he
    · exact h3 he)⟩
theorem KeepR.pm {w w' : World} {X : Cx} (h : Pm w w' X) : KeepR w w' := ⟨h.bel.size, fun k cs fz e => h.keep k cs _ fz e (by decide) (by decide) (by decide)⟩

section
variable {w w' : World} {X : Cx} {p : Pv} {s : SynP.St}
theorem PS.lo (h : PS w X p s) : X.B ≤ w.heap.size := Nat.le_of_lt (Nat.lt_of_le_of_lt h.at_.low h.at_.lt)
theorem PS.mv (h : PS w X p s) (k : Mv X.b w w') {j : Nat} (ha : At w' X p j) (hj : s.at_ ≤ j) : PS w' X p { s with at_ := j } :=
  ⟨ha, h.fl, h.opn.mvT h.at_ k (by decide), h.nms.mvT h.at_ k (by decide), h.opl, h.opk, by have := h.nml; show s.names.length ≤ j + 1; omega⟩
theorem PS.below (h : PS w X p s) (k : Below w.heap.size w w') : PS w' X p s := ⟨h.at_.below k, h.fl, h.opn.below k, h.nms.below k, h.opl, h.opk, h.nml⟩
theorem PS.nseq (h : PS w X p s) : ∃ A c, p.nm = .slice A s.names.length c ∧ s.names.length ≤ c ∧ c ≤ maxLen ∧ ∀ w', Mv X.b w w' → SeqAt Estr w' w'.heap.size A (s.names.map str) := by
  obtain ⟨A, c, e, h1, h2⟩ := h.nms.form
  rw [List.length_map] at h1 e
  refine ⟨A, c, e, h1, h2, fun w' k => ?_⟩
  have h3 := h.nms.mvT h.at_ k (by decide)
  rw [e, show s.names.length = (s.names.map str).length from (List.length_map ..).symm] at h3
  exact h3.seq
end

end Go.Proofs.YtblkejnckbeieaaGreatDoor

namespace Go.Proofs.YtblkejnckbeieaaGreatDoor
open Go.RowKit SetPure

/-- The nine cells of a node. -/
structure RawN where
  kind : Int
  sA : Option Addr
  sn : Nat
  sc : Nat
  fold : Bool
  mn : Int
  mx : Int
  lazy : Bool
  cap : Int
  name : ByteArray
  kA : Option Addr
  kn : Nat
  kc : Nat
def RawN.cells (r : RawN) : List Value := [.int .i64 r.kind, .slice r.sA r.sn r.sc, .bool r.fold, .int .i64 r.mn, .int .i64 r.mx, .bool r.lazy, .int .i64 r.cap, .string r.name, .slice r.kA r.kn r.kc]
def Enode : Enc RawN := ⟨RawN.cells, 9, by decide, fun _ => rfl, fun a u hu => by
  simp only [RawN.cells, List.mem_cons, List.not_mem_nil, or_false] at hu
  rcases hu with rfl | rfl | rfl | rfl | rfl | rfl | rfl | rfl | rfl <;> rfl⟩
def zeroN : RawN := ⟨0, none, 0, 0, false, 0, 0, false, 0, ⟨#[]⟩, none, 0, 0⟩
theorem cellsN_size (r : RawN) : r.cells.toArray.size = 9 := rfl
theorem cellsN_one (r : RawN) : r.cells.toArray.all (·.oneCell') = true := by
  cases r
  simp [RawN.cells, Value.oneCell']
theorem info_nodeE : (Tryz.prog.info? 29).map (fun i => (i.zero, i.size, i.bytes)) = some (some (.agg zeroN.cells.toArray), 9, 112) := by kernel_rfl
theorem elNode : ElemOf Tryz.prog 27 29 Enode.k 112 := by
  obtain ⟨i, hi, hz0, hz1, hz2⟩ := info_parts info_nodeE
  exact ⟨i, _, Tryz.underlying27, hi, hz0, hz1, hz2, rfl⟩
theorem sizeN : (Tryz.prog.info? 29).map (·.size) = some 9 := by kernel_rfl

/-- Nodes that lie in a block of nodes of which A holds. -/
def KidsAt (w : World) (A : Nat → Prop) (ad : Option Addr) (l : List RawN) : Prop :=
  0 < l.length → ∃ b off, ad = some ⟨b, off, none⟩ ∧ A b ∧ (∃ cs fz, w.heap[b]? = some (.cells cs 29 fz)) ∧ ∀ j, j < l.length * 9 → w.cell? ⟨b, off + j, none⟩ = some ((l.flatMap Enode.enc).getD j undef)
/-- The rows of ranges stand, and the blocks of nodes of which A holds. -/
structure StandN (A : Nat → Prop) (w w' : World) : Prop where
  keep : KeepR w w'
  row : ∀ (k : Nat) (cs : Array Value) (fz : Nat × Nat), A k → w.heap[k]? = some (.cells cs 29 fz) → w'.heap[k]? = w.heap[k]?
def SetO (w : World) : Option (Int → Bool) → Value → Prop
  | none, v => v = .slice none 0 0
  | some f, v => SetV w v f
mutual
/-- The tree with these cells lies in memory, in blocks of which A holds. -/
def Lies (w : World) (A : Nat → Prop) : SynP.Nd → RawN → Prop
  | .mk kind set fold least most lazy cap name kids, r => r.kind = kind ∧ SetO w set (.slice r.sA r.sn r.sc) ∧ r.fold = fold ∧ r.mn = least ∧ r.mx = most ∧ r.lazy = lazy ∧ r.cap = cap ∧ r.name = str name ∧
      r.kn = kids.length ∧ r.kn ≤ r.kc ∧ r.kc ≤ maxLen ∧ ∃ rs : List RawN, rs.length = kids.length ∧ KidsAt w A r.kA rs ∧ LiesL w A kids rs
def LiesL (w : World) (A : Nat → Prop) : List SynP.Nd → List RawN → Prop
  | [], _ => True
  | _ :: _, [] => False
  | j :: js, r :: rs => Lies w A j r ∧ LiesL w A js rs
end
section
variable {A A' : Nat → Prop} {w w' : World} {ad : Option Addr} {l : List RawN}
theorem KidsAt.nil_ : KidsAt w A ad [] := fun h => absurd h (by simp)
theorem KidsAt.on (h : KidsAt w A ad l) (k : StandN A w w') : KidsAt w' A ad l := fun hn => by
  obtain ⟨b, off, e, ha, ⟨cs, fz, ht⟩, hc⟩ := h hn
  have hb := k.row b cs fz ha ht
  exact ⟨b, off, e, ha, ⟨cs, fz, hb.trans ht⟩, fun j hj => (World.cell?_of_block hb).trans (hc j hj)⟩
theorem KidsAt.mono (h : KidsAt w A ad l) (k : ∀ b, A b → b < w.heap.size → A' b) : KidsAt w A' ad l := fun hn => by
  obtain ⟨b, off, e, ha, ⟨cs, fz, ht⟩, hc⟩ := h hn
  exact ⟨b, off, e, k b ha (Array.getElem?_eq_some_iff.1 ht).1, ⟨cs, fz, ht⟩, hc⟩
theorem SetO.on {f : Option (Int → Bool)} {v : Value} (h : SetO w f v) (k : KeepR w w') : SetO w' f v := by
  cases f with
  | none => exact h
  | some f => exact SetV.on h k
theorem StandN.pm {X : Cx} (h : Pm w w' X) : StandN A w w' := ⟨KeepR.pm h, fun k cs fz _ e => h.keep k cs _ fz e (by decide) (by decide) (by decide)⟩
theorem StandN.below (h : Below w.heap.size w w') : StandN A w w' := ⟨KeepR.below h, fun k _ _ _ e => h.block k (Array.getElem?_eq_some_iff.1 e).1⟩
/-- A row of nodes of the call's own grows: of its block A does not hold. -/
theorem StandN.grown {base : Nat} {v : Value} (h : OwnB Enode 29 base w v l) (g : w.grownBy w' v.ownBlock) (hA : ∀ k, A k → v.ownBlock ≠ some k) : StandN A w w' :=
  ⟨⟨g.size, fun k _ _ e => g.block k (Array.getElem?_eq_some_iff.1 e).1 (fun hk => h.ne_ e (by decide) hk.symm)⟩, fun k _ _ ha e => g.block k (Array.getElem?_eq_some_iff.1 e).1 (fun hk => hA k ha hk.symm)⟩
/-- A block of nodes is stored anew: of it A does not hold. -/
theorem StandN.setRow {V : Nat} {old : Array Value} {fz : Nat × Nat} (cs : Array Value) (hV : w.heap[V]? = some (.cells old 29 fz)) (hA : ¬ A V) : StandN A w (w.setRow V cs) :=
  ⟨⟨by simp, fun k cs' fz' e => setRow_other w V k cs (by
    rintro rfl
    rw [hV] at e
    injection e with e
    injection e with _ e
    exact absurd e (by decide))⟩, fun k _ _ ha _ => setRow_other w V k cs (by rintro rfl; exact hA ha)⟩
end
mutual
theorem Lies.on {w w' : World} {A : Nat → Prop} (hm : StandN A w w') : ∀ (j : SynP.Nd) (r : RawN), Lies w A j r → Lies w' A j r
  | .mk k set fo le mo la ca na kids, r => fun h => by
    unfold Lies at h ⊢
    obtain ⟨h1, h2, h3, h4, h5, h6, h7, h8, h9, h10, h11, rs, h12, h13, h14⟩ := h
    exact ⟨h1, h2.on hm.keep, h3, h4, h5, h6, h7, h8, h9, h10, h11, rs, h12, h13.on hm, LiesL.on hm kids rs h14⟩
theorem LiesL.on {w w' : World} {A : Nat → Prop} (hm : StandN A w w') : ∀ (js : List SynP.Nd) (rs : List RawN), LiesL w A js rs → LiesL w' A js rs
  | [], rs => fun _ => by unfold LiesL; trivial
  | j :: js, [] => fun h => by unfold LiesL at h; exact h.elim
  | j :: js, r :: rs => fun h => by
    unfold LiesL at h ⊢
    exact ⟨Lies.on hm j r h.1, LiesL.on hm js rs h.2⟩
end
mutual
theorem Lies.mono {w : World} {A A' : Nat → Prop} (hm : ∀ b, A b → b < w.heap.size → A' b) : ∀ (j : SynP.Nd) (r : RawN), Lies w A j r → Lies w A' j r
  | .mk k set fo le mo la ca na kids, r => fun h => by
    unfold Lies at h ⊢
    obtain ⟨h1, h2, h3, h4, h5, h6, h7, h8, h9, h10, h11, rs, h12, h13, h14⟩ := h
    exact ⟨h1, h2, h3, h4, h5, h6, h7, h8, h9, h10, h11, rs, h12, h13.mono hm, LiesL.mono hm kids rs h14⟩
theorem LiesL.mono {w : World} {A A' : Nat → Prop} (hm : ∀ b, A b → b < w.heap.size → A' b) : ∀ (js : List SynP.Nd) (rs : List RawN), LiesL w A js rs → LiesL w A' js rs
  | [], rs => fun _ => by unfold LiesL; trivial
  | j :: js, [] => fun h => by unfold LiesL at h; exact h.elim
  | j :: js, r :: rs => fun h => by
    unfold LiesL at h ⊢
    exact ⟨Lies.mono hm j r h.1, LiesL.mono hm js rs h.2⟩
end
theorem LiesL.app {w : World} {A : Nat → Prop} : ∀ (js : List SynP.Nd) (rs : List RawN) (js' : List SynP.Nd) (rs' : List RawN), rs.length = js.length → LiesL w A js rs → LiesL w A js' rs' → LiesL w A (js ++ js') (rs ++ rs')
  | [], [], _, _, _, _, h => h
  | [], _ :: _, _, _, hl, _, _ => by simp at hl
  | _ :: _, [], _, _, hl, _, _ => by simp at hl
  | j :: js, r :: rs, js', rs', hl, hh, h => by
    unfold LiesL at hh
    show LiesL w A (j :: (js ++ js')) (r :: (rs ++ rs'))
    unfold LiesL
    exact ⟨hh.1, LiesL.app js rs js' rs' (by simpa using hl) hh.2 h⟩
theorem LiesL.one {w : World} {A : Nat → Prop} {j : SynP.Nd} {r : RawN} (h : Lies w A j r) : LiesL w A [j] [r] := by
  unfold LiesL
  exact ⟨h, by unfold LiesL; trivial⟩
theorem LiesL.of_one {w : World} {A : Nat → Prop} {j : SynP.Nd} {r : RawN} (h : LiesL w A [j] [r]) : Lies w A j r := by
  unfold LiesL at h
  exact h.1

/-- A node without a set and kids. -/
def leafN (kind : Int) : RawN := ⟨kind, none, 0, 0, false, 0, 0, false, 0, ⟨#[]⟩, none, 0, 0⟩
theorem Lies.leaf (w : World) (A : Nat → Prop) (k : Nat) : Lies w A (SynP.Nd.leaf k) (leafN k) := by
  unfold SynP.Nd.leaf Lies
  exact ⟨rfl, rfl, rfl, rfl, rfl, rfl, rfl, rfl, rfl, Nat.le_refl _, Nat.zero_le _, [], rfl, KidsAt.nil_, by unfold LiesL; trivial⟩
def clsN (v : Option Addr × Nat × Nat) (fold : Bool) : RawN := ⟨1, v.1, v.2.1, v.2.2, fold, 0, 0, false, 0, ⟨#[]⟩, none, 0, 0⟩
theorem Lies.cls {w : World} {A : Nat → Prop} {a : Option Addr} {n c : Nat} {f : Int → Bool} {fold : Bool} (h : SetV w (.slice a n c) f) : Lies w A (SynP.Nd.cls f fold) (clsN (a, n, c) fold) := by
  unfold SynP.Nd.cls Lies
  exact ⟨rfl, h, rfl, rfl, rfl, rfl, rfl, rfl, rfl, Nat.le_refl _, Nat.zero_le _, [], rfl, KidsAt.nil_, by unfold LiesL; trivial⟩

theorem below_setRow_ {B V : Nat} {a w : World} (h : Below B a w) (hV : B ≤ V) (cs : Array Value) : Below B a (w.setRow V cs) :=
  ⟨h.os, h.tape, h.output, by simpa using h.size, fun k hk => (setRow_other w V k cs (by omega)).trans (h.block k hk)⟩
/-- The zero node's cells. -/
abbrev zeroA : Array Value := #[.int .i64 0, .slice none 0 0, .bool false, .int .i64 0, .int .i64 0, .bool false, .int .i64 0, .string ⟨#[]⟩, .slice none 0 0]
/-- A box that holds a node. -/
def BoxN (w : World) (V : Nat) (cs : Array Value) : Prop := w.heap[V]? = some (.cells cs 29 (0, 0))
theorem BoxN.new (w : World) : BoxN (w.alloc (.cells zeroA 29)) w.heap.size zeroA := heap_alloc_new w _
theorem BoxN.lt {w : World} {V : Nat} {cs : Array Value} (h : BoxN w V cs) : V < w.heap.size := (Array.getElem?_eq_some_iff.1 h).1

theorem retN {fn : Func} {Q : Ending → World → Prop} {p : Tmp} (h : fn.results = #[.cell p 29]) {a : Act} {w : World} {g : Nat} {fz : Nat × Nat} (r : RawN) (hp : a.tmps.getD p undef = .pointer (some ⟨g, 0, none⟩)) (hg : w.heap[g]? = some (.cells r.cells.toArray 29 fz)) (hd : a.defers = [])
    (hQ : Q (.returned (.agg r.cells.toArray)) w) : bodyPost Tryz.prog fn Q .ret a w :=
  bodyPost_ret (v := .agg r.cells.toArray) (results_cell_row h a.tmps w g _ _ fz _ hp hg Tryz.underlying29 rfl sizeN) hd hQ

set_option maxRecDepth 100000 in
set_option maxHeartbeats 800000 in
theorem class_any (w : World) (X : Cx) (p : Pv) (i : Nat) (h : At w X p i) (a : Option Addr) (n c : Nat) :
    Calls Tryz.prog 141 #[.pointer (some ⟨X.b, 0, none⟩), .slice a n c] w fun e w' => e = .returned (.agg (clsN (a, n, c) p.f.fold).cells.toArray) ∧ Below w.heap.size w w' := by
  have HA := Lib.hid h
  have hbw := h.lt
  clear h
  go_enter Tryz.func141, Tryz.ntmps141
  go_upto_region 1 with fail
  have HZ := Lib.hid (BoxN.new w)
  have hA1 := HA.out.below ((Below.refl _ w).alloc (Nat.le_refl _) (.cells zeroA 29))
  have hb : Below w.heap.size w (w.alloc (.cells zeroA 29)) := (Below.refl _ w).alloc (Nat.le_refl _) _
  obtain ⟨V, hV⟩ : ∃ V, w.heap.size = V := ⟨_, rfl⟩
  have HVe := Lib.hid hV
  rw [hV] at HZ ⊢
  unfold zeroA at HZ hA1 hb
  generalize w.alloc (.cells #[.int .i64 0, .slice none 0 0, .bool false, .int .i64 0, .int .i64 0, .bool false, .int .i64 0, .string ⟨#[]⟩, .slice none 0 0] 29) = W at HZ hA1 hb ⊢
  have hc := hA1.cell
  have HB := Lib.hid hb
  clear hA1 hb hV HA
  go_wp2_with (refine wpList_store_row rfl 29 (.tmp 4) (.tmp 11) rfl V (clsN (a, n, c) p.f.fold).cells.toArray rfl rfl 29 _ HZ.out sizeN rfl (cellsN_one _) ?_)
  refine retN rfl (clsN (a, n, c) p.f.fold) rfl (setRow_heap _ _ _ _ _ _ HZ.out) rfl ⟨rfl, ?_⟩
  exact below_setRow_ HB.out (Nat.le_of_eq HVe.out) _

end Go.Proofs.YtblkejnckbeieaaGreatDoor

namespace Go.Proofs.YtblkejnckbeieaaGreatDoor
open Go.RowKit SetPure

/-- Several nodes as one. -/
def manyN (kind : Int) (A : Option Addr) (n c : Nat) : RawN := ⟨kind, none, 0, 0, false, 0, 0, false, 0, ⟨#[]⟩, A, n, c⟩
theorem Lies.many {w : World} {P : Nat → Prop} {kind : Nat} {js : List SynP.Nd} {rs : List RawN} {A : Option Addr} {c : Nat} (hl : rs.length = js.length) (hc : rs.length ≤ c) (hm : c ≤ maxLen) (hk : KidsAt w P A rs) (h : LiesL w P js rs) :
    Lies w P (.mk kind none false 0 0 false 0 [] js) (manyN kind A rs.length c) := by
  unfold Lies
  exact ⟨rfl, rfl, rfl, rfl, rfl, rfl, rfl, rfl, hl, hc, hm, rs, hl, hk, h⟩
theorem whole_many (kind : Nat) {js : List SynP.Nd} (h : 2 ≤ js.length) : SynP.whole kind js = .mk kind none false 0 0 false 0 [] js := by
  match js, h with
  | a :: b :: l, _ => rfl
/-- The nine cells of a node in a row. -/
theorem KidsAt.cells {w : World} {P : Nat → Prop} {A : Option Addr} {rs : List RawN} (h : KidsAt w P A rs) (k : Nat) (hk : k < rs.length) : ∃ b off, A = some ⟨b, off, none⟩ ∧ b < w.heap.size ∧ ∀ o, o < 9 → w.cell? ⟨b, off + (k * 9 + o), none⟩ = (rs[k].cells)[o]? := by
  obtain ⟨b, off, e, _, ⟨cs, fz, ht⟩, hc⟩ := h (by omega)
  refine ⟨b, off, e, (Array.getElem?_eq_some_iff.1 ht).1, fun o ho => ?_⟩
  have hf : (rs.flatMap Enode.enc)[k * 9 + o]? = (Enode.enc rs[k])[o]? := Enode.flat_at rs k hk o ho
  rw [hc _ (by omega), List.getD_eq_getElem?_getD, hf]
  have hl : o < (Enode.enc rs[k]).length := by rw [Enode.len]; exact ho
  rw [List.getElem?_eq_getElem hl]
  show _ = (Enode.enc rs[k])[o]?
  rw [List.getElem?_eq_getElem hl]
  rfl

set_option maxRecDepth 100000 in
set_option maxHeartbeats 1600000 in
theorem whole_any (kind : Nat) (P : Nat → Prop) (js : List SynP.Nd) (rs : List RawN) (A : Option Addr) (c : Nat) (w : World) (hl : rs.length = js.length) (hc : rs.length ≤ c) (hm : c ≤ maxLen) (hk : KidsAt w P A rs) (h : LiesL w P js rs) :
    Calls Tryz.prog 67 #[.int .i64 kind, .slice A rs.length c] w fun e w' => ∃ r : RawN, e = .returned (.agg r.cells.toArray) ∧ Below w.heap.size w w' ∧ Lies w' P (SynP.whole kind js) r := by
  have HZ := Lib.hid (BoxN.new w)
  have hb : Below w.heap.size w (w.alloc (.cells zeroA 29)) := (Below.refl _ w).alloc (Nat.le_refl _) _
  have HB := Lib.hid hb
  have HL := Lib.hid h
  have HK := Lib.hid hk
  clear hb h hk
  obtain ⟨V, hV⟩ : ∃ V, w.heap.size = V := ⟨_, rfl⟩
  have HVe := Lib.hid hV
  rw [hV] at HZ
  clear hV
  match js, rs, hl with
  | [], [], _ =>
    go_enter Tryz.func67, Tryz.ntmps67
    go_upto_region 1 with fail
    rw [HVe.out]
    unfold zeroA at HZ HB
    generalize w.alloc (.cells #[.int .i64 0, .slice none 0 0, .bool false, .int .i64 0, .int .i64 0, .bool false, .int .i64 0, .string ⟨#[]⟩, .slice none 0 0] 29) = W at HZ HB ⊢
    go_wp2_with (refine wpList_store_row rfl 29 (.tmp 4) (.tmp 16) rfl V zeroN.cells.toArray rfl rfl 29 _ HZ.out sizeN rfl (cellsN_one _) ?_)
    refine retN rfl zeroN rfl (setRow_heap _ _ _ _ _ _ HZ.out) rfl ⟨zeroN, rfl, ?_, Lies.leaf _ _ 0⟩
    exact below_setRow_ HB.out (Nat.le_of_eq HVe.out) _
  | [j], [r], _ =>
    obtain ⟨b, off, rfl, hbw, hcell⟩ := HK.out.cells 0 (by simp)
    have hcW : ∀ o, o < 9 → (w.alloc (.cells zeroA 29)).cell? ⟨b, off + o, none⟩ = r.cells[o]? := fun o ho => by
      have := hcell o ho
      rw [Nat.zero_mul, Nat.zero_add] at this
      exact (HB.out.cell (p := ⟨b, off + o, none⟩) hbw).trans this
    have hl1 : Lies w P j r := LiesL.of_one HL.out
    have HL1 := Lib.hid hl1
    clear hcell hl1
    go_enter Tryz.func67, Tryz.ntmps67
    go_upto_region 1 with fail
    rw [HVe.out]
    unfold zeroA at HZ HB hcW
    generalize w.alloc (.cells #[.int .i64 0, .slice none 0 0, .bool false, .int .i64 0, .int .i64 0, .bool false, .int .i64 0, .string ⟨#[]⟩, .slice none 0 0] 29) = W at HZ HB hcW ⊢
    have c0 := hcW 0 (by omega)
    have c1 := hcW 1 (by omega)
    have c2 := hcW 2 (by omega)
    have c3 := hcW 3 (by omega)
    have c4 := hcW 4 (by omega)
    have c5 := hcW 5 (by omega)
    have c6 := hcW 6 (by omega)
    have c7 := hcW 7 (by omega)
    have c8 := hcW 8 (by omega)
    simp only [Nat.add_zero] at c0
    simp only [RawN.cells, List.getElem?_cons_zero, List.getElem?_cons_succ] at c0 c1 c2 c3 c4 c5 c6 c7 c8
    clear hcW
    go_wp2_with (refine wpList_store_row rfl 29 (.tmp 4) (.tmp 11) rfl V r.cells.toArray rfl rfl 29 _ HZ.out sizeN rfl (cellsN_one _) ?_)
    have hs : StandN P w (W.setRow V r.cells.toArray) := StandN.below (below_setRow_ HB.out (Nat.le_of_eq HVe.out) _)
    refine retN rfl r rfl (setRow_heap _ _ _ _ _ _ HZ.out) rfl ⟨r, rfl, below_setRow_ HB.out (Nat.le_of_eq HVe.out) _, ?_⟩
    exact Lies.on hs _ _ HL1.out
  | j1 :: j2 :: js, r1 :: r2 :: rs, hl =>
    rw [whole_many kind (by simp)]
    have hn : 2 ≤ (r1 :: r2 :: rs).length := by simp
    obtain ⟨Js, hJs⟩ : ∃ Js, j1 :: j2 :: js = Js := ⟨_, rfl⟩
    obtain ⟨Rs, hRs⟩ : ∃ Rs, r1 :: r2 :: rs = Rs := ⟨_, rfl⟩
    rw [hJs] at hl HL ⊢
    rw [hRs] at hl hc hn HL HK ⊢
    have HLn := Lib.hid hl
    clear hJs hRs hl
    have hn1 : ((Rs.length : Int) == 1) = false := beq_eq_false_iff_ne.2 (by omega)
    have hn2 : ¬ (Rs.length : Int) = 1 := by omega
    have hn3 : ¬ (Rs.length : Int) = 0 := by omega
    have hn0 : ((Rs.length : Int) == 0) = false := beq_eq_false_iff_ne.2 (by omega)
    go_enter Tryz.func67, Tryz.ntmps67
    go_upto_region 1 with fail
    rw [HVe.out]
    unfold zeroA at HZ HB
    generalize w.alloc (.cells #[.int .i64 0, .slice none 0 0, .bool false, .int .i64 0, .int .i64 0, .bool false, .int .i64 0, .string ⟨#[]⟩, .slice none 0 0] 29) = W at HZ HB ⊢
    go_wp2_with (refine wpList_store_row rfl 29 (.tmp 4) (.tmp 19) rfl V (manyN kind A Rs.length c).cells.toArray rfl rfl 29 _ HZ.out sizeN rfl (cellsN_one _) ?_)
    have hbel := below_setRow_ HB.out (Nat.le_of_eq HVe.out) (manyN kind A Rs.length c).cells.toArray
    have hs : StandN P w (W.setRow V (manyN kind A Rs.length c).cells.toArray) := StandN.below hbel
    refine retN rfl (manyN kind A Rs.length c) rfl (setRow_heap _ _ _ _ _ _ HZ.out) rfl ⟨_, rfl, hbel, ?_⟩
    exact Lies.many HLn.out hc hm (HK.out.on hs) (LiesL.on hs _ _ HL.out)

theorem pick_int (b : Bool) (x y : Int) (w : World) : Calls Tryz.prog 142 #[.bool b, .int .i64 x, .int .i64 y] w fun e w' => e = .returned (.int .i64 (if b then x else y)) ∧ w = w' := by
  cases b
  all_goals
    go_enter Tryz.func142, Tryz.ntmps142
    go_wp2
    go_ret
    exact ⟨rfl, rfl⟩

end Go.Proofs.YtblkejnckbeieaaGreatDoor

namespace Go.Proofs.YtblkejnckbeieaaGreatDoor
open Go.RowKit

/-- In a region that draws its order: 'out = append(out, x)', and where the new row lies. -/
theorem step_append_one {P : Program} {ops : Array Oper} {α : Type} {E : Enc α} {e : TypeId} {base : Nat} {v : Value} {l : List α} {o : Oper} {a : Act} {K : Act → World → Prop} {Q : Exit → Act → World → Prop} {F : Prop} {w : World} (x : α) (ad : Addr) (c : Nat) (hgd : o.guard = none) (s xo : Operand) (t : TypeId)
    (ho : o.op = .call { callee := .builtin .append, args := #[s, xo], argTypes := #[t, t] }) (bytes : Nat) (he : ElemOf P t e E.k bytes)
    (hs : a.eval s = v) (hown : OwnB E e base w v l) (hx : a.eval xo = .slice (some ad) 1 c) (hnews : ∀ j u, (E.enc x)[j]? = some u → w.cell? (ad.add j) = some u)
    (h63 : l.length + 1 ≤ maxLen) (hbytes : (l.length + 1) * bytes ≤ 140737488355328)
    (h : ∀ v' w', OwnB E e base w' v' (l ++ [x]) → w.grownBy w' v.ownBlock → (v'.ownBlock = v.ownBlock ∨ v'.ownBlock = some w.heap.size) → K (a.put o.dst v') w') : if Region.wanted o (yielded ops a.tmps) = true then Oper.wp P o a w K Q else F := by
  rw [if_pos (by simp [Region.wanted, hgd])]
  obtain ⟨i, z, ht, hi, hz, hsize, hby, hzs⟩ := he
  obtain ⟨v', w', hr, h2, h3, _, h5⟩ := run_append_own_at (P := P) w base t o.type e i z E.k bytes ht hi hz hsize hby hzs E.pos v l.length (l.flatMap E.enc) hown.1 ad 1 c (E.enc x) (by rw [E.len, Nat.one_mul]) hnews (E.one x) h63 hbytes hown.2
  have hO : OwnB E e base w' v' (l ++ [x]) := ⟨by
    have := h2
    rw [List.length_append, List.flatMap_append, List.flatMap_singleton, List.length_singleton]
    exact this, Nat.le_trans hown.2 h3.size⟩
  unfold Oper.wp execOp
  simp only [ho, resolve, invoke, builtin, Sem.run_bind, Sem.run_pure, Result.andThen_ok, List.map_toArray, List.map_cons, List.map_nil, hs, hx, hr]
  exact h v' w' hO h3 h5

/-- In a plain region: 'out = append(out, x)', and where the new row lies. -/
theorem wpList_append_one {P : Program} {ops : Array Oper} {rest : List Oper} {α : Type} {E : Enc α} {e : TypeId} {base : Nat} {v : Value} {l : List α} {o : Oper} {a : Act} {Q : Exit → Act → World → Prop} {w : World} (x : α) (ad : Addr) (c : Nat) (hgd : o.guard = none) (s xo : Operand) (t : TypeId)
    (ho : o.op = .call { callee := .builtin .append, args := #[s, xo], argTypes := #[t, t] }) (bytes : Nat) (he : ElemOf P t e E.k bytes)
    (hs : a.eval s = v) (hown : OwnB E e base w v l) (hx : a.eval xo = .slice (some ad) 1 c) (hnews : ∀ j u, (E.enc x)[j]? = some u → w.cell? (ad.add j) = some u)
    (h63 : l.length + 1 ≤ maxLen) (hbytes : (l.length + 1) * bytes ≤ 140737488355328)
    (h : ∀ v' w', OwnB E e base w' v' (l ++ [x]) → w.grownBy w' v.ownBlock → (v'.ownBlock = v.ownBlock ∨ v'.ownBlock = some w.heap.size) → wpList P ops Q rest (a.put o.dst v') w') : wpList P ops Q (o :: rest) a w := by
  refine wpList_plain hgd fun K hK => ?_
  have := step_append_one (P := P) (ops := ops) (K := K) (Q := Q) (F := True) x ad c hgd s xo t ho bytes he hs hown hx hnews h63 hbytes (fun v' w' h1 h2 h3 => hK _ _ (h v' w' h1 h2 h3))
  rwa [if_pos (by simp [Region.wanted, hgd])] at this
/-- The cells of a fresh row. -/
theorem news_new (w : World) (L : List Value) (t : TypeId) (g : Nat) (hg : w.heap.size = g) : ∀ j u, L[j]? = some u → (w.alloc (.cells L.toArray t)).cell? ((⟨g, 0, none⟩ : Addr).add j) = some u := by
  intro j u hj
  subst hg
  rw [add_row, cell_of_row _ _ _ _ _ (0, 0) (heap_alloc_new w _), List.getElem?_toArray]
  exact hj

end Go.Proofs.YtblkejnckbeieaaGreatDoor

namespace Go.Proofs.YtblkejnckbeieaaGreatDoor
open Go.RowKit SetPure

theorem info_strN : (Tryz.prog.info? 9).map (fun i => (i.zero, i.size, i.bytes)) = some (some (.string ⟨#[]⟩), 1, 16) := by kernel_rfl
theorem elStrN : ElemOf Tryz.prog 30 9 Estr.k 16 := by
  obtain ⟨i, hi, hz0, hz1, hz2⟩ := info_parts info_strN
  exact ⟨i, _, Tryz.underlying30, hi, hz0, hz1, hz2, rfl⟩
theorem info_intN : (Tryz.prog.info? 3).map (fun i => (i.zero, i.size, i.bytes)) = some (some (.int .i64 0), 1, 8) := by kernel_rfl
theorem elIntN : ElemOf Tryz.prog 22 3 Eint.k 8 := by
  obtain ⟨i, hi, hz0, hz1, hz2⟩ := info_parts info_intN
  exact ⟨i, _, Tryz.underlying22, hi, hz0, hz1, hz2, rfl⟩

section
variable {w w' : World} {X : Cx} {p : Pv} {i : Nat}
theorem At.grownT {α : Type} {E : Enc α} {e : TypeId} {v : Value} {l : List α} (h : At w X p i) (ho : OwnB E e X.B w v l) (ht : 76 ≠ e) (g : w.grownBy w' v.ownBlock) : At w' X p i :=
  h.mv_ ⟨g.os, g.tape, g.output, g.size, fun k hk => g.block k (by have := ho.2; omega) (fun e => by have := (ho.lt k e.symm).1; omega)⟩ (g.block _ h.lt (fun e => ho.ne_ h.blk ht e.symm))
/-- 'p.names = v', 'p.open = v'. -/
theorem At.setNm (h : At w X p i) (v : Value) : At (w.setCell ⟨X.b, 6, none⟩ v) X { p with nm := v } i := by
  have k : Below X.B w (w.setCell ⟨X.b, 6, none⟩ v) := (Below.refl _ w).setCell (p := ⟨X.b, 6, none⟩) h.low _
  refine ⟨h.le, h.few, h.pll, h.ru.below k, h.pla.below k, h.low, ?_⟩
  simp only [World.setCell, Array.getElem?_modify, if_true, h.blk, Option.map_some]
  rfl
theorem At.setOp (h : At w X p i) (v : Value) : At (w.setCell ⟨X.b, 5, none⟩ v) X { p with op := v } i := by
  have k : Below X.B w (w.setCell ⟨X.b, 5, none⟩ v) := (Below.refl _ w).setCell (p := ⟨X.b, 5, none⟩) h.low _
  refine ⟨h.le, h.few, h.pll, h.ru.below k, h.pla.below k, h.low, ?_⟩
  simp only [World.setCell, Array.getElem?_modify, if_true, h.blk, Option.map_some]
  rfl
theorem mv_cell (w : World) (X : Cx) (o : Nat) (v : Value) : Mv X.b w (w.setCell ⟨X.b, o, none⟩ v) := (Mv.rfl_ X.b w).set ⟨X.b, o, none⟩ (.inl rfl) _
end

set_option maxRecDepth 100000 in
set_option maxHeartbeats 1600000 in
theorem group_any (nm : List UInt8) (w : World) (X : Cx) (p : Pv) (s : SynP.St) (h : PS w X p s) (hn : s.names.length ≤ s.at_) :
    Calls Tryz.prog 170 #[.pointer (some ⟨X.b, 0, none⟩), .string (str nm)] w fun e w' => ∃ p', e = .returned (.int .i64 s.names.length) ∧ Pm w w' X ∧ PS w' X p' { s with names := s.names ++ [nm] } := by
  have hfew := h.at_.few
  have hle := h.at_.le
  obtain ⟨An, cn, hnm, hnc, hcm⟩ := h.nms.form
  rw [List.length_map] at hnm hnc
  have hc := h.at_.cell
  rw [hnm] at hc
  have hlo := h.lo
  have hown := h.nms
  rw [hnm] at hown
  have HO := Lib.hid hown
  have HP := Lib.hid h
  have hlen : (s.names.map str).length = s.names.length := List.length_map ..
  have HLn := Lib.hid hlen
  clear h hown hlen
  obtain ⟨n, hnn⟩ : ∃ n, s.names.length = n := ⟨_, rfl⟩
  have HNn := Lib.hid hnn
  rw [hnn] at hc hn HO hnc ⊢
  clear hnn hnm
  go_enter Tryz.func170, Tryz.ntmps170
  go_upto_region 2 with (refine wpList_append_one (E := Estr) (base := X.B) (l := s.names.map str) (str nm) ⟨w.heap.size, 0, none⟩ 1 rfl (.tmp 9) (.tmp 11) 30 (by rfl) 16 elStrN (by rfl) (HO.out.alloc _) (by rfl) (by exact news_new w _ _ _ rfl) (by have := HLn.out; have := HNn.out; unfold maxLen; omega) (by have := HLn.out; have := HNn.out; omega) ?_; intro v1 w1 ho1 hg1 hat1; have ha0 := HP.out.at_.below ((Below.refl _ w).alloc (Nat.le_refl _) (.cells #[.string (str nm)] 9)); have hHO := HO.out.alloc (.cells #[.string (str nm)] 9); have ha1 := ha0.grownT hHO (by decide) hg1; have hop1 := (HP.out.opn.alloc (.cells #[.string (str nm)] 9)).kept_ hg1 ((HP.out.opn.alloc _).apart hHO (by decide)); have hpm1 := (Pm.below hlo ((Below.refl _ w).alloc (Nat.le_refl _) (.cells #[.string (str nm)] 9))).step (Pm.own hHO (.inr rfl) hg1); replace hc := ha1.cell; have hz := ha1.frozen; have HA1 := Lib.hid ha1; have HO1 := Lib.hid ho1; have HP1 := Lib.hid hop1; have HM1 := Lib.hid hpm1; obtain ⟨A1, c1, hv1, _, _⟩ := ho1.form; rw [List.length_append, HLn.out, HNn.out, List.length_singleton] at hv1; subst hv1; clear ho1 ha1 ha0 hHO hop1 hpm1 hg1 hat1)
  have ha2 := HA1.out.setNm (.slice A1 (n + 1) c1)
  have hmv := mv_cell w1 X 6 (.slice A1 (n + 1) c1)
  have hop2 := HP1.out.mvT HA1.out hmv (by decide)
  have hno2 := HO1.out.mvT HA1.out hmv (by decide)
  have hpm2 := HM1.out.step (Pm.mv HA1.out hmv)
  generalize w1.setCell ⟨X.b, 6, none⟩ (.slice A1 (n + 1) c1) = W at ha2 hop2 hno2 hpm2 ⊢
  replace hc := ha2.cell
  have HA2 := Lib.hid ha2
  have HOP2 := Lib.hid hop2
  have HNO2 := Lib.hid hno2
  have HPM2 := Lib.hid hpm2
  clear ha2 hop2 hno2 hpm2 hmv hz
  simp only at hc
  go_wp2
  go_ret
  refine ⟨{ p with nm := .slice A1 (n + 1) c1 }, ret_int (by go_num), HPM2.out, HA2.out, HP.out.fl, HOP2.out, ?_, HP.out.opl, HP.out.opk, ?_⟩
  · show OwnB Estr 9 X.B W (.slice A1 (n + 1) c1) ((s.names ++ [nm]).map str)
    rw [List.map_append]
    exact HNO2.out
  · show (s.names ++ [nm]).length ≤ s.at_ + 1
    rw [List.length_append, HNn.out]
    show n + 1 ≤ s.at_ + 1
    omega

end Go.Proofs.YtblkejnckbeieaaGreatDoor

namespace Go.Proofs.YtblkejnckbeieaaGreatDoor
open Go.RowKit

/-- slices.Index's end. -/
def IndexEnd (l : List Int) (r : Int) (w : World) (e : Ending) (w' : World) : Prop := ∃ i : Int, e = .returned (.int .i64 i) ∧ (0 ≤ i ↔ r ∈ l) ∧ w = w'

set_option maxHeartbeats 400000 in
theorem index_any (A : Option Addr) (n c B : Nat) (l : List Int) (r : Int) (w : World) (hl : l.length = n) (hn : n ≤ 4611686018427387904) (hA : SeqAt Eint w B A l) :
    Calls Tryz.prog 205 #[.slice A n c, .int .i64 r] w (IndexEnd l r w) := by
  have HL := Lib.hid hl
  have HA := Lib.hid hA
  clear hl hA
  go_enter Tryz.func205, Tryz.ntmps205
  go_wp2
  go_loop [8] (fun i => ∃ k : Nat, k ≤ n ∧ i = .int .i64 k ∧ Hid (r ∉ l.take k)) (fun i => n + 1 - (intOf i).toNat)
  case atStart => exact ⟨0, by omega, rfl, by unfold Hid; simp⟩
  case round =>
    obtain ⟨k, hk, rfl, hrest⟩ := hrel
    by_cases hlt : k < n
    · have hln := HL.out
      have HK : Hid (k < l.length) := by unfold Hid; omega
      obtain ⟨b, off, rfl, hb, hc⟩ := HA.out.ints_ (by omega)
      have h0 := hc k (by omega)
      clear hc hb hln
      generalize hx : l.getD k 0 = x at *
      have HX := Lib.hid hx
      clear hx
      go_wp2
      · go_ret
        refine ⟨k, rfl, ⟨fun _ => ?_, fun _ => by omega⟩, rfl⟩
        have hxr : r = x := by simpa using ‹(r == x) = true›
        have := List.getElem_mem HK.out
        have hx' := HX.out
        rw [List.getD_eq_getElem?_getD, List.getElem?_eq_getElem HK.out] at hx'
        rw [hxr, ← hx']
        exact this
      · go_round
        case rel =>
          refine ⟨k + 1, by omega, by go_num, ?_⟩
          have hx' := HX.out
          rw [List.getD_eq_getElem?_getD, List.getElem?_eq_getElem HK.out] at hx'
          have hxr : r ≠ x := by simpa using ‹(r == x) = false›
          unfold Hid
          rw [List.take_add_one, List.getElem?_eq_getElem HK.out]
          simp only [List.mem_append, not_or]
          refine ⟨hrest.out, ?_⟩
          simp only [Option.getD_some] at hx'
          simp [hx', hxr]
        case measure => simp [intOf]; omega
    · go_wp2
      go_ret
      refine ⟨-1, rfl, ⟨fun h => by omega, fun h => ?_⟩, rfl⟩
      have := hrest.out
      rw [List.take_of_length_le (by rw [HL.out]; omega)] at this
      exact absurd h this

set_option maxHeartbeats 400000 in
theorem contains_any (A : Option Addr) (n c B : Nat) (l : List Int) (r : Int) (w : World) (hl : l.length = n) (hn : n ≤ 4611686018427387904) (hA : SeqAt Eint w B A l) :
    Calls Tryz.prog 194 #[.slice A n c, .int .i64 r] w fun e w' => e = .returned (.bool (decide (r ∈ l))) ∧ w = w' := by
  have H := Lib.hid (index_any A n c B l r w hl hn hA)
  clear hl hA
  go_enter Tryz.func194, Tryz.ntmps194
  go_wp2_with (go_at_call 205; refine H.out.mono ?_; rintro e w' ⟨i, rfl, hi, rfl⟩; have HI := Lib.hid hi; clear hi)
  go_ret
  exact ⟨ret_bool (decide_eq_decide.2 HI.out), rfl⟩

end Go.Proofs.YtblkejnckbeieaaGreatDoor
