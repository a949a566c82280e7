/- Chapter 10: the parser of patterns: brackets, whatever they are; alternatives, rows and atoms, whatever the text; Parse.
  Chapter 10: a tree's kids in memory.
  Chapter 10: Parse at a text of bytes below 128; a tree's kids in memory.
  '==' and '!=' between two faults.
  Chapter 10: a set's size and members; what a law holds behind Parse.
  A pattern's tree behind Parse.
  Chapter 11: the text of a tree and its size, in plain Lean; a class' text is handed in.
  Chapter 12: trees made simpler, in plain Lean.
  Chapter 12: rows of nodes that a call builds; the walks of first and whole.
  Chapter 12: the walks of flat and row. -/
import Derived.Test.YtblkejnckbeieaaGreatDoorZk16
import Derived.Test.YtblkejnckbeieaaGreatDoorZk17
import Derived.Test.YtblkejnckbeieaaGreatDoorZk18
import Derived.Test.YtblkejnckbeieaaGreatDoorZk19
import Derived.Test.YtblkejnckbeieaaGreatDoorZk24
import Derived.Test.YtblkejnckbeieaaGreatDoorZk8
import Derived.Test.YtblkejnckbeieaaGreatDoorZk1
import Derived.KernelRfl
import Derived.WalkSpells
namespace Go.Proofs.YtblkejnckbeieaaGreatDoor
open Go.RowKit SetPure

theorem brk_any (m : Nat) (ha : AltsC m) : BrkC (m + 1) := by
  intro s w X p hsc hps hat h40 hn hnn
  have HSc := Lib.hid hsc
  rw [goS_brk _ _ _ h40]
  by_cases h32 : 32 ≤ s.opn.length
  · rw [if_pos h32]
    exact brk_full s w X p HSc hps hat hn h32
  rw [if_neg h32]
  by_cases h63 : SynP.pk X.rs (s.at_ + 1) = 63
  · rw [if_pos h63]
    by_cases h80 : SynP.pk X.rs (s.at_ + 2) = 80
    · rw [if_pos h80]
      cases hnm : SynP.name X.rs s.names s.at_ (s.at_ + 3) with
      | bad e k => exact brk_name_bad s w X p HSc hps hat hn h32 h63 h80 e k hnm
      | ok x =>
        obtain ⟨nm, j⟩ := x
        have hj := SynP.name_at hnm
        exact brk_name s w X p HSc hps hat hn nm j _ rfl m ha hnn h32 h63 h80 hnm hj.1 hj.2
    · rw [if_neg h80]
      cases hfl : SynP.flags X.rs s.at_ (X.rs.length + 1) true false s.fl [] [] (s.at_ + 2) with
      | bad e k => exact brk_flags_bad s w X p HSc hps hat hn h32 h63 h80 e k hfl
      | ok x =>
        obtain ⟨b, f, j⟩ := x
        have hj := SynP.flags_at _ _ _ _ _ _ _ hfl
        cases b with
        | false => exact brk_flags_no s w X p HSc hps hat hn h32 h63 h80 f j hfl hj.1
        | true => exact brk_flags_yes s w X p HSc hps hat hn f j _ rfl m ha hnn h32 h63 h80 hfl hj.1 hj.2
  · rw [if_neg h63]
    exact brk_group s w X p HSc hps hat hn _ rfl m ha hnn h32 h63

theorem all_any (n : Nat) : AltsC n ∧ RowC n ∧ AtomC n := by
  induction n using Nat.strongRecOn with
  | _ n ih =>
    refine ⟨alts_any n fun m hm => (ih m hm).2.1, row_any n fun m hm => (ih m hm).2.2, ?_⟩
    cases n with
    | zero =>
      intro s w X p _ _ hat hn
      exact absurd hn (by omega)
    | succ n => exact atom_any n (brk_any n (ih n (Nat.lt_succ_self n)).1)

/-- Parse, whatever the text. -/
theorem parse_any (d : ByteArray) (f : SynP.Fl) (w : World) : Calls Tryz.prog 11 #[.string d, .agg #[.bool f.fold, .bool f.lines, .bool f.dot, .bool f.lazy]] w fun e w' => PatEnd w (parseT d f) e w' :=
  parse_from d f w fun n => (all_any n).1

end Go.Proofs.YtblkejnckbeieaaGreatDoor

namespace Go.Proofs.YtblkejnckbeieaaGreatDoor
open Go.RowKit SetPure

theorem LiesL.nth {w : World} {A : Nat → Prop} : ∀ (js : List SynP.Nd) (rs : List RawN), rs.length = js.length → LiesL w A js rs → ∀ i (hi : i < js.length) (hr : i < rs.length), Lies w A js[i] rs[i]
  | [], _, _, _, i, hi, _ => absurd hi (by simp)
  | _ :: _, [], h, _, _, _, _ => by simp at h
  | j :: js, r :: rs, h, hl, 0, _, _ => by unfold LiesL at hl; exact hl.1
  | j :: js, r :: rs, h, hl, i + 1, hi, hr => by
    unfold LiesL at hl
    exact LiesL.nth js rs (by simpa using h) hl.2 i (by simpa using hi) (by simpa using hr)
/-- A kid of a tree in memory. -/
theorem KidsAt.nth {w : World} {A : Nat → Prop} {ad : Option Addr} {l : List RawN} (h : KidsAt w A ad l) (hn : 0 < l.length) : ∃ b off, ad = some ⟨b, off, none⟩ ∧ b < w.heap.size ∧ ∀ i (hi : i < l.length) (o : Nat), o < 9 → w.cell? ⟨b, off + (i * 9 + o), none⟩ = some (l[i].cells.getD o undef) := by
  obtain ⟨b, off, e, _, ⟨cs, fz, ht⟩, hc⟩ := h hn
  refine ⟨b, off, e, (Array.getElem?_eq_some_iff.1 ht).1, fun i hi o ho => ?_⟩
  rw [hc (i * 9 + o) (by omega)]
  rw [List.getD_eq_getElem?_getD, List.getD_eq_getElem?_getD]
  exact congrArg (fun x => some (x.getD undef)) (Enode.flat_at l i hi o ho)
theorem Lies.kids {w : World} {A : Nat → Prop} {kind : Nat} {set : Option (Int → Bool)} {fold : Bool} {least most : Int} {lazy : Bool} {cap : Nat} {name : List UInt8} {kids : List SynP.Nd} {r : RawN} (h : Lies w A (.mk kind set fold least most lazy cap name kids) r) :
    r.kn = kids.length ∧ ∃ rs : List RawN, rs.length = kids.length ∧ KidsAt w A r.kA rs ∧ LiesL w A kids rs := by
  unfold Lies at h
  exact ⟨h.2.2.2.2.2.2.2.2.1, h.2.2.2.2.2.2.2.2.2.2.2⟩
theorem below_two (w2 : World) (x y : Obj) : Below w2.heap.size w2 ((w2.alloc x).alloc y) := ((Below.refl _ w2).alloc (Nat.le_refl _) _).alloc (by simp) _
theorem str_size_ (l : List UInt8) : (str l).size = l.length := by simp [str, ByteArray.size]
theorem str_app_ (a b : List UInt8) : str a ++ str b = str (a ++ b) := by
  have h : (str a ++ str b).data = (str (a ++ b)).data := by rw [ByteArray.data_append]; simp [str]
  exact congrArg ByteArray.mk h

end Go.Proofs.YtblkejnckbeieaaGreatDoor

namespace Go.Proofs.YtblkejnckbeieaaGreatDoor
open Go.RowKit

abbrev f0 : SynP.Fl := ⟨false, false, false, false⟩
/-- A text's bytes as numbers. -/
def nat_ (l : List UInt8) : List Int := l.map fun c => (c.toNat : Int)
theorem runes_asc : ∀ (l : List UInt8), (∀ c ∈ l, c.toNat < 128) → DecP.runes l = nat_ l
  | [], _ => DecP.runes_nil
  | c :: t, h => by
    rw [DecP.runes_ascii t (h c List.mem_cons_self), runes_asc t fun x hx => h x (List.mem_cons_of_mem _ hx)]
    rfl
theorem bad_asc : ∀ (l : List UInt8) (i : Nat), (∀ c ∈ l, c.toNat < 128) → DecP.badAt l i = none
  | [], i, _ => DecP.badAt_nil i
  | c :: t, i, h => by
    have h1 := DecP.one_ascii t (h c List.mem_cons_self)
    rw [DecP.badAt_good (List.cons_ne_nil _ _) (by rw [h1]; show ¬ (c.toNat : Int) < 0; omega), h1]
    exact bad_asc t _ fun x hx => h x (List.mem_cons_of_mem _ hx)
theorem places_asc : ∀ (l : List UInt8) (i : Nat), (∀ c ∈ l, c.toNat < 128) → DecP.places l i = (List.range' i l.length).map fun k : Nat => (k : Int)
  | [], i, _ => DecP.places_nil i
  | c :: t, i, h => by
    have h1 := DecP.one_ascii t (h c List.mem_cons_self)
    rw [DecP.places_cons (List.cons_ne_nil _ _), h1]
    show (i : Int) :: DecP.places t (i + 1) = _
    rw [places_asc t _ fun x hx => h x (List.mem_cons_of_mem _ hx)]
    rfl
theorem mark_asc (l : List UInt8) (h : ∀ c ∈ l, c.toNat < 128) : markN (str l) = 0 := by
  unfold markN
  rw [if_neg]
  intro hp
  have h2 : [239, 187, 191] <+: l := List.isPrefixOf_iff_prefix.1 hp
  cases l with
  | nil => cases h2.length_le
  | cons c t =>
    have h3 := h c List.mem_cons_self
    have h4 := (List.cons_prefix_cons.1 h2).1
    rw [← h4] at h3
    exact absurd h3 (by decide)
/-- Parse, of bytes below 128. -/
def ascR (n : Nat) : SynP.R (Option SynP.Nd × SynP.St) → PRes
  | .bad c k => .bad c (if k ≤ n then (k : Int) else 0)
  | .ok (some nd, s) => .ok nd s.names
  | .ok (none, _) => .bad 0 0
theorem parseT_asc (l : List UInt8) (f : SynP.Fl) (h : ∀ c ∈ l, c.toNat < 128) (hl : l.length ≤ 1024) : parseT (str l) f = ascR l.length (SynP.parse (nat_ l) clsT perlT f) := by
  have hB : patB (str l) = l := by
    unfold patB
    rw [mark_asc l h]
    rfl
  have hsz : (str l).size = l.length := by show l.toArray.size = l.length; simp
  unfold parseT
  rw [if_neg (by rw [hsz]; omega), hB, mark_asc l h, bad_asc l 0 h]
  unfold patRs
  rw [hB, runes_asc l h]
  cases SynP.parse (nat_ l) clsT perlT f with
  | bad c k =>
    show PRes.bad c ((patPl (str l)).getD k 0) = _
    unfold ascR patPl
    rw [hB, mark_asc l h, places_asc l 0 h, hsz]
    congr 1
    rw [List.getD_eq_getElem?_getD]
    rcases Nat.lt_trichotomy k l.length with hk | hk | hk
    · rw [List.getElem?_append_left (by simpa using hk), if_pos (by omega)]
      simp [hk]
    · subst hk
      rw [List.getElem?_append_right (by simp), if_pos (Nat.le_refl _)]
      simp
    · rw [List.getElem?_eq_none (by simp; omega), if_neg (by omega)]
      rfl
  | ok x =>
    obtain ⟨x, s⟩ := x
    cases x <;> rfl

end Go.Proofs.YtblkejnckbeieaaGreatDoor

namespace Go.Proofs.YtblkejnckbeieaaGreatDoor
open Go.RowKit

/-- Are two faults the same? -/
def faultEq (a b c d : Int) : Bool := a == c && b == d
theorem faultEq_iff (a b c d : Int) : faultEq a b c d = true ↔ a = c ∧ b = d := by simp [faultEq]
theorem faultEq_same (a b : Int) : faultEq a b a b = true := by simp [faultEq]
theorem faultEq_code {a b c d : Int} (h : a ≠ c) : faultEq a b c d = false := by simp [faultEq, h]
theorem stood_fault : Tryz.prog.stoodInHeld 35 = false := by kernel_rfl
@[go_sem] theorem guard_fault (op : BinOp) (x y : Operand) (xs ys : Array Value) (w : World) : (eqGuard op 35 x y (.agg xs) (.agg ys)).run Tryz.prog w = .ok () w := run_eqGuard_agg w op _ x y xs ys (by kernel_rfl)
theorem eq_fault (a b c d : Int) (w : World) : (Op.equalIn 10000 35 (.agg #[.int .i64 a, .int .i64 b]) (.agg #[.int .i64 c, .int .i64 d])).run Tryz.prog w = .ok (faultEq a b c d) w := by
  have u3 := Tryz.underlying3
  have a3 := Tryz.isAgg3
  have z3 := Tryz.sizeOf3
  have u4 := Tryz.underlying33
  have a4 := Tryz.isAgg33
  have z4 := Tryz.sizeOf33
  have hS : Tryz.prog.underlying 35 = some (.struct (Tryz.prog.fieldsOf 35)) := by kernel_rfl
  rw [show (10000 : Nat) = 9999 + 1 from rfl, run_equalIn_agg w 9999 35 _ _ hS stood_fault]
  simp only [Program.fieldsOf, Tryz.underlying35]
  go_simp
  by_cases h1 : a = c <;> by_cases h2 : b = d <;> simp [faultEq, h1, h2]
@[go_sem ↓] theorem neq_fault (a b c d : Int) (w : World) : (binOp .neq 35 (.agg #[.int .i64 a, .int .i64 b]) (.agg #[.int .i64 c, .int .i64 d])).run Tryz.prog w = .ok (.bool (!faultEq a b c d)) w := by
  rw [run_neq_struct, eq_fault]; rfl
@[go_sem ↓] theorem eql_fault (a b c d : Int) (w : World) : (binOp .eql 35 (.agg #[.int .i64 a, .int .i64 b]) (.agg #[.int .i64 c, .int .i64 d])).run Tryz.prog w = .ok (.bool (faultEq a b c d)) w := by
  rw [run_eql_struct, eq_fault]; rfl

end Go.Proofs.YtblkejnckbeieaaGreatDoor

namespace Go.Proofs.YtblkejnckbeieaaGreatDoor
open Go.RowKit SetPure

/-- What a law holds behind Parse: the pattern's box and the fault's. -/
structure PatS (w W : World) (P : Nat) (pc fc : Array Value) : Prop where
  bel : Below w.heap.size w W
  pat : W.heap[P]? = some (.cells pc 32)
  flt : W.heap[P + 1]? = some (.cells fc 35)
  hP : w.heap.size ≤ P
theorem PatS.start {w w2 : World} {P : Nat} {pc fc : Array Value} (hb : Below w.heap.size w w2) (hP : w2.heap.size = P) : PatS w ((w2.alloc (.cells pc 32)).alloc (.cells fc 35)) P pc fc := by
  subst hP
  refine ⟨(hb.alloc hb.size _).alloc (Nat.le_trans hb.size (by simp)) _, (Below.heap_alloc _ _ _ (by simp)).trans (heap_alloc_new w2 _), ?_, hb.size⟩
  have := heap_alloc_new (w2.alloc (.cells pc 32)) (.cells fc 35)
  rw [World.size_alloc] at this
  exact this
theorem PatS.below {w W W' : World} {P : Nat} {pc fc : Array Value} (h : PatS w W P pc fc) (k : Below W.heap.size W W') : PatS w W' P pc fc :=
  ⟨h.bel.trans (k.mono h.bel.size), (k.block P (Array.getElem?_eq_some_iff.1 h.pat).1).trans h.pat, (k.block _ (Array.getElem?_eq_some_iff.1 h.flt).1).trans h.flt, h.hP⟩
theorem PatS.pcell {w W : World} {P : Nat} {pc fc : Array Value} (h : PatS w W P pc fc) (o : Nat) : W.cell? ⟨P, o, none⟩ = pc[o]? := Lib.cell_of_heap h.pat o
theorem PatS.fcell {w W : World} {P : Nat} {pc fc : Array Value} (h : PatS w W P pc fc) (o : Nat) : W.cell? ⟨P + 1, o, none⟩ = fc[o]? := Lib.cell_of_heap h.flt o
section
variable {w W V : World} {P : Nat} {pc fc : Array Value}
theorem PatS.setP (h : PatS w W P pc fc ∧ KeepR V W) (o : Nat) (u : Value) : PatS w (W.setCell ⟨P, o, none⟩ u) P (pc.setIfInBounds o u) fc ∧ KeepR V (W.setCell ⟨P, o, none⟩ u) := by
  obtain ⟨h, k⟩ := h
  refine ⟨⟨h.bel.setCell (p := ⟨P, o, none⟩) h.hP _, ?_, (Below.heap_setCell _ ⟨P, o, none⟩ _ _ (by show ¬ P + 1 = P; omega)).trans h.flt, h.hP⟩, k.step (StandN.other (A := fun _ => False) o u h.pat (by decide) (by decide)).keep⟩
  simp only [World.setCell, Array.getElem?_modify, if_true, h.pat, Option.map_some]
  rfl
theorem PatS.setF (h : PatS w W P pc fc ∧ KeepR V W) (o : Nat) (u : Value) : PatS w (W.setCell ⟨P + 1, o, none⟩ u) P pc (fc.setIfInBounds o u) ∧ KeepR V (W.setCell ⟨P + 1, o, none⟩ u) := by
  obtain ⟨h, k⟩ := h
  refine ⟨⟨h.bel.setCell (p := ⟨P + 1, o, none⟩) (Nat.le_trans h.hP (Nat.le_succ _)) _, (Below.heap_setCell _ ⟨P + 1, o, none⟩ _ _ (by show ¬ P = P + 1; omega)).trans h.pat, ?_, h.hP⟩, k.step (StandN.other (A := fun _ => False) o u h.flt (by decide) (by decide)).keep⟩
  simp only [World.setCell, Array.getElem?_modify, if_true, h.flt, Option.map_some]
  rfl
/-- The pattern's box and the fault's are stored anew. -/
theorem PatS.all {a0 a1 a2 a3 a4 a5 a6 a7 a8 a9 c0 c1 : Value} (h : PatS w W P #[a0, a1, a2, a3, a4, a5, a6, a7, a8, a9] #[c0, c1]) (b0 b1 b2 b3 b4 b5 b6 b7 b8 b9 d0 d1 : Value) : PatS w ((((((((((((W.setCell ⟨P, 0, none⟩ b0).setCell ⟨P, 1, none⟩ b1).setCell ⟨P, 2, none⟩ b2).setCell ⟨P, 3, none⟩ b3).setCell ⟨P, 4, none⟩ b4).setCell ⟨P, 5, none⟩ b5).setCell ⟨P, 6, none⟩ b6).setCell ⟨P, 7, none⟩ b7).setCell ⟨P, 8, none⟩ b8).setCell ⟨P, 9, none⟩ b9).setCell ⟨P + 1, 0, none⟩ d0).setCell ⟨P + 1, 1, none⟩ d1) P #[b0, b1, b2, b3, b4, b5, b6, b7, b8, b9] #[d0, d1] ∧ KeepR W ((((((((((((W.setCell ⟨P, 0, none⟩ b0).setCell ⟨P, 1, none⟩ b1).setCell ⟨P, 2, none⟩ b2).setCell ⟨P, 3, none⟩ b3).setCell ⟨P, 4, none⟩ b4).setCell ⟨P, 5, none⟩ b5).setCell ⟨P, 6, none⟩ b6).setCell ⟨P, 7, none⟩ b7).setCell ⟨P, 8, none⟩ b8).setCell ⟨P, 9, none⟩ b9).setCell ⟨P + 1, 0, none⟩ d0).setCell ⟨P + 1, 1, none⟩ d1) := by
  have h2 := (PatS.setF (PatS.setF (PatS.setP (PatS.setP (PatS.setP (PatS.setP (PatS.setP (PatS.setP (PatS.setP (PatS.setP (PatS.setP (PatS.setP ⟨h, KeepR.rfl_ W⟩ 0 b0) 1 b1) 2 b2) 3 b3) 4 b4) 5 b5) 6 b6) 7 b7) 8 b8) 9 b9) 0 d0) 1 d1)
  simp only [List.setIfInBounds_toArray, List.set_cons_zero, List.set_cons_succ] at h2
  exact h2
end
end Go.Proofs.YtblkejnckbeieaaGreatDoor

namespace Go.Proofs.YtblkejnckbeieaaGreatDoor
open Go.RowKit SetPure

/-- Parse hands the tree out. -/
def TreeEnd (nd : SynP.Nd) (w : World) (e : Ending) (w' : World) : Prop := Below w.heap.size w w' ∧ ∃ (r : RawN) (A : Option Addr) (n c : Nat), e = .returned (.tuple #[.agg (r.cells ++ [Value.slice A n c]).toArray, .agg #[.int .i64 0, .int .i64 0]]) ∧ Lies w' (fun k => w.heap.size ≤ k) nd r
theorem tree_end (l : List UInt8) (nd : SynP.Nd) (st : SynP.St) (ha : ∀ c ∈ l, c.toNat < 128) (hl : l.length ≤ 1024) (hp : SynP.parse (nat_ l) clsT perlT f0 = .ok (some nd, st)) (w : World) :
    Calls Tryz.prog 11 #[.string (str l), .agg #[.bool false, .bool false, .bool false, .bool false]] w (TreeEnd nd w) := by
  refine (parse_any (str l) f0 w).mono fun e w' h => ?_
  rw [parseT_asc _ _ ha hl, hp] at h
  obtain ⟨hb, r, A, c, rfl, hl, _, _, _⟩ := h
  exact ⟨hb, r, A, _, c, rfl, hl⟩

end Go.Proofs.YtblkejnckbeieaaGreatDoor

namespace Go.Proofs.YtblkejnckbeieaaGreatDoor.SynP

def Nd.kind : Nd → Nat
  | .mk k _ _ _ _ _ _ _ _ => k
/-- A text, in brackets if its kind is one of some. -/
def wrapT (ks : List Nat) (x : Nat × List UInt8) : List UInt8 := if x.1 ∈ ks then [40, 63, 58] ++ x.2 ++ [41] else x.2
/-- Texts with a stroke between. -/
def barT : List (List UInt8) → List UInt8
  | [] => []
  | [x] => x
  | x :: l => x ++ 124 :: barT l
section
variable (dec : Int → List UInt8) (T : (Int → Bool) → List UInt8)
/-- A quantifier's text. -/
def timesT_ (least most : Int) (lazy : Bool) : List UInt8 :=
  (if least = 0 ∧ most = -1 then [42] else if least = 1 ∧ most = -1 then [43] else if least = 0 ∧ most = 1 then [63]
   else if least = most then 123 :: (dec least ++ [125]) else if most = -1 then 123 :: (dec least ++ [44, 125]) else 123 :: (dec least ++ 44 :: (dec most ++ [125]))) ++ (if lazy then [63] else [])
def emptyT : List UInt8 := [40, 63, 58, 41]
def headT : List (Nat × List UInt8) → Nat × List UInt8
  | [] => (0, emptyT)
  | x :: _ => x
mutual
def showN : Nd → List UInt8
  | .mk kind set fold least most lazy _ name kids =>
    if kind = 0 then emptyT
    else if kind = 1 then
      let t := match set with | none => T (fun _ => false) | some f => T f
      if fold then [40, 63, 105, 58] ++ t ++ [41] else t
    else if kind = 2 then [92, 65]
    else if kind = 3 then [92, 122]
    else if kind = 4 then [40, 63, 109, 58, 94, 41]
    else if kind = 5 then [40, 63, 109, 58, 36, 41]
    else if kind = 6 then [92, 98]
    else if kind = 7 then [92, 66]
    else if kind = 8 then (textsL kids).flatMap (wrapT [8, 9])
    else if kind = 9 then barT ((textsL kids).map (wrapT [9]))
    else if kind = 10 then wrapT [8, 9, 10] (headT (textsL kids)) ++ timesT_ dec least most lazy
    else if kind = 11 then
      if name ≠ [] then [40, 63, 80, 60] ++ name ++ [62] ++ (headT (textsL kids)).2 ++ [41] else 40 :: ((headT (textsL kids)).2 ++ [41])
    else []
def textsL : List Nd → List (Nat × List UInt8)
  | [] => []
  | x :: l => (x.kind, showN x) :: textsL l
end
theorem textsL_map : ∀ l : List Nd, textsL dec T l = l.map fun x => (x.kind, showN dec T x)
  | [] => by simp [textsL]
  | x :: l => by simp [textsL, textsL_map l]
end
mutual
/-- How many nodes. -/
def sizeA : Nd → Nat
  | .mk _ _ _ _ _ _ _ _ kids => 1 + sizeAL kids
def sizeAL : List Nd → Nat
  | [] => 0
  | x :: l => sizeA x + sizeAL l
end
mutual
/-- How deep. -/
def sizeD : Nd → Nat
  | .mk _ _ _ _ _ _ _ _ kids => 1 + sizeDL kids
def sizeDL : List Nd → Nat
  | [] => 0
  | x :: l => max (sizeD x) (sizeDL l)
end
end Go.Proofs.YtblkejnckbeieaaGreatDoor.SynP

namespace Go.Proofs.YtblkejnckbeieaaGreatDoor.SynP

def Nd.kids : Nd → List Nd
  | .mk _ _ _ _ _ _ _ _ kids => kids
def capN (n : Int) : Int := min n 1048577
def firstN : List Nd → Nd
  | [] => .leaf 0
  | x :: _ => x
/-- How many nodes a quantifier comes to. -/
def timesC (least most c : Int) : Int := capN (least * c + (if most = -1 then 1 + c else (most - least) * (c + 2)) + 1)
mutual
/-- How many nodes a tree comes to. -/
def cntN : Nd → Int
  | .mk kind _ _ least most _ _ _ kids =>
    if kind = 8 ∨ kind = 9 then cntS 1 kids
    else if kind = 11 then capN (1 + cntH kids)
    else if kind = 10 then timesC least most (cntH kids)
    else 1
def cntH : List Nd → Int
  | [] => 1
  | x :: _ => cntN x
def cntS : Int → List Nd → Int
  | s, [] => s
  | s, x :: l => cntS (capN (s + cntN x)) l
end
theorem capN_bd {n : Int} (h : 1 ≤ n) : 1 ≤ capN n ∧ capN n ≤ 1048577 := by unfold capN; omega
/-- A quantifier's numbers are small. -/
def fewB (least most : Int) : Prop := 0 ≤ least ∧ least ≤ 1000 ∧ (most = -1 ∨ least ≤ most ∧ most ≤ 1000)
theorem timesC_bd {a b c : Int} (h : fewB a b) (h1 : 1 ≤ c) (h2 : c ≤ 1048577) : 1 ≤ timesC a b c ∧ timesC a b c ≤ 1048577 := by
  unfold timesC
  refine capN_bd ?_
  obtain ⟨h3, h4, h5⟩ := h
  have h6 : 0 ≤ a * c := Int.mul_nonneg h3 (by omega)
  split
  · omega
  · have h7 : 0 ≤ (b - a) * (c + 2) := Int.mul_nonneg (by omega) (by omega)
    omega
mutual
/-- Every quantifier of the tree has small numbers. -/
def fewN : Nd → Prop
  | .mk kind _ _ least most _ _ _ kids => (kind = 10 → fewB least most) ∧ fewL kids
def fewL : List Nd → Prop
  | [] => True
  | x :: l => fewN x ∧ fewL l
end
theorem fewL_mem : ∀ {l : List Nd}, fewL l → ∀ x ∈ l, fewN x
  | [], _, x, hx => absurd hx List.not_mem_nil
  | y :: l, h, x, hx => by
    unfold fewL at h
    rcases List.mem_cons.1 hx with rfl | hx
    · exact h.1
    · exact fewL_mem h.2 x hx
mutual
theorem cntN_bd : ∀ x : Nd, fewN x → 1 ≤ cntN x ∧ cntN x ≤ 1048577
  | .mk kind _ _ least most _ _ _ kids => fun h => by
    unfold fewN at h
    unfold cntN
    split
    · exact cntS_bd kids h.2 1 (by omega) (by omega)
    · split
      · exact capN_bd (by have := cntH_bd kids h.2; omega)
      · split
        · rename_i h10
          exact timesC_bd (h.1 h10) (cntH_bd kids h.2).1 (cntH_bd kids h.2).2
        · omega
theorem cntH_bd : ∀ l : List Nd, fewL l → 1 ≤ cntH l ∧ cntH l ≤ 1048577
  | [] => fun _ => by unfold cntH; omega
  | x :: l => fun h => by
    unfold fewL at h
    unfold cntH
    exact cntN_bd x h.1
theorem cntS_bd : ∀ l : List Nd, fewL l → ∀ s : Int, 1 ≤ s → s ≤ 1048577 → 1 ≤ cntS s l ∧ cntS s l ≤ 1048577
  | [] => fun _ s h1 h2 => by unfold cntS; omega
  | x :: l => fun h s h1 h2 => by
    unfold fewL at h
    unfold cntS
    have h3 := cntN_bd x h.1
    have h4 := capN_bd (n := s + cntN x) (by omega)
    exact cntS_bd l h.2 _ h4.1 h4.2
end
theorem cntS_take : ∀ (l : List Nd) (s : Int) (i : Nat) (h : i < l.length), cntS s (l.take (i + 1)) = capN (cntS s (l.take i) + cntN l[i])
  | x :: l, s, 0, _ => by simp [cntS]
  | x :: l, s, i + 1, h => by
    have := cntS_take l (capN (s + cntN x)) i (by simpa using h)
    simp only [List.take_succ_cons, cntS, List.getElem_cons_succ]
    exact this
theorem fewL_take : ∀ {l : List Nd}, fewL l → ∀ i, fewL (l.take i)
  | [], _, i => by simp [fewL]
  | x :: l, h, 0 => by simp [fewL]
  | x :: l, h, i + 1 => by
    unfold fewL at h
    simp only [List.take_succ_cons, fewL]
    exact ⟨h.1, fewL_take h.2 i⟩

/-- Nodes, with the kids of those of a kind in their places. -/
def flatN (kind : Nat) (l : List Nd) : List Nd := l.flatMap fun x => if x.kind = kind then x.kids else [x]
def solidN (l : List Nd) : List Nd := l.filter fun x => x.kind != 0
def rowN (l : List Nd) : Nd := whole 8 (solidN (flatN 8 l))
def tailN (lazy : Bool) (x : Nd) : Nat → Nd
  | 0 => .leaf 0
  | n + 1 => .rep 0 1 lazy (rowN [x, tailN lazy x n])
def timesN (least most : Int) (lazy : Bool) (x : Nd) : Nd :=
  if most = -1 then rowN (List.replicate least.toNat x ++ [.rep 0 (-1) lazy x]) else rowN (List.replicate least.toNat x ++ [tailN lazy x (most - least).toNat])
theorem flatN_take (k : Nat) (l : List Nd) (i : Nat) (h : i < l.length) : flatN k (l.take (i + 1)) = flatN k (l.take i) ++ (if l[i].kind = k then l[i].kids else [l[i]]) := by
  unfold flatN
  rw [List.take_succ_eq_append_getElem h, List.flatMap_append]
  simp
theorem solidN_take (l : List Nd) (i : Nat) (h : i < l.length) : solidN (l.take (i + 1)) = solidN (l.take i) ++ (if l[i].kind = 0 then [] else [l[i]]) := by
  unfold solidN
  rw [List.take_succ_eq_append_getElem h, List.filter_append]
  by_cases h0 : l[i].kind = 0 <;> simp [h0]
theorem flatN_le (k : Nat) (l : List Nd) (i : Nat) : (flatN k (l.take i)).length ≤ (flatN k l).length := by
  conv => rhs; rw [← List.take_append_drop i l]
  unfold flatN
  rw [List.flatMap_append, List.length_append]
  omega
theorem solidN_le (l : List Nd) (i : Nat) : (solidN (l.take i)).length ≤ l.length := by
  unfold solidN
  exact Nat.le_trans (List.length_filter_le _ _) (by rw [List.length_take]; omega)
def testOf : Option (Int → Bool) → Int → Bool
  | none => fun _ => false
  | some f => f
/-- Without what is no scalar. -/
def lessF (f : Int → Bool) (x : Int) : Bool := f x && !(decide (55296 ≤ x ∧ x ≤ 57343))
theorem lessF_one {c : Int} (h : c < 55296) : lessF (one c) = one c := by
  funext x
  unfold lessF one
  by_cases e : x = c
  · subst e
    have : ¬ (55296 ≤ x ∧ x ≤ 57343) := by omega
    simp [this]
  · simp [e]
section
variable (cl : (Int → Bool) → Int → Bool)
mutual
/-- A tree made simpler; a class that folds is closed by cl. -/
def mkN : Nd → Nd
  | .mk kind set fold least most lazy cap name kids =>
    if kind = 10 ∧ least = 0 ∧ most = 0 then .leaf 0
    else if kind = 1 then .mk 1 (some (lessF (if fold then cl (testOf set) else testOf set))) false least most lazy cap name kids
    else if kind = 8 then rowN (mkL kids)
    else if kind = 9 then whole 9 (flatN 9 (mkL kids))
    else if kind = 10 then timesN least most lazy (firstN (mkL kids))
    else .mk kind set fold least most lazy cap name (mkL kids)
def mkL : List Nd → List Nd
  | [] => []
  | x :: l => mkN x :: mkL l
end
theorem mkL_map : ∀ l : List Nd, mkL cl l = l.map (mkN cl)
  | [] => rfl
  | x :: l => by unfold mkL; rw [mkL_map l]; rfl
theorem mkL_len (l : List Nd) : (mkL cl l).length = l.length := by rw [mkL_map, List.length_map]
end
end Go.Proofs.YtblkejnckbeieaaGreatDoor.SynP

namespace Go.Proofs.YtblkejnckbeieaaGreatDoor
open Go.RowKit SetPure

section
variable {P : Program} {α : Type} {E : Enc α} {base : Nat} {e : TypeId} {v : Value} {l l' : List α} {B : Nat} {A : Option Addr} {c : Nat}
/-- As run_append_seqB, and where the new row lies. -/
theorem run_append_seqB_at (w : World) (t ty : TypeId) (bytes : Nat) (he : ElemOf P t e E.k bytes) (hown : OwnB E e base w v l) (hr : SeqAt E w B A l')
    (h63 : l.length + l'.length ≤ maxLen) (hbytes : (l.length + l'.length) * bytes ≤ 140737488355328) :
    ∃ v' w', (Builtin.append_ #[t, t] ty #[v, .slice A l'.length c]).run P w = .ok v' w' ∧ OwnB E e base w' v' (l ++ l') ∧ w.grownBy w' v.ownBlock ∧ (v'.ownBlock = v.ownBlock ∨ v'.ownBlock = some w.heap.size) := by
  obtain ⟨i, z, ht, hi, hz, hsize, hby, hzs⟩ := he
  have hlen : (l ++ l').length = l.length + l'.length := List.length_append
  rcases A with _ | ad
  · have hm : l' = [] := by
      rcases Nat.eq_zero_or_pos l'.length with h0 | h0
      · exact List.eq_nil_of_length_eq_zero h0
      · obtain ⟨_, _, h, _⟩ := hr h0
        cases h
    subst hm
    exact ⟨v, w, run_append_none w _ t ty e i E.k ht hi v _ _ hown.1 c, by simpa using hown, World.grownBy.refl w _, .inl rfl⟩
  · have hcells : ∀ j u, (l'.flatMap E.enc)[j]? = some u → w.cell? (ad.add j) = some u := by
      intro j u hu
      have hj : j < l'.length * E.k := by rw [← E.flat_len]; exact (List.getElem?_eq_some_iff.1 hu).1
      obtain ⟨b, off, h, _, hc⟩ := hr (Nat.pos_of_ne_zero fun h => by rw [h] at hj; omega)
      injection h with h
      subst h
      rw [add_off, hc j hj, List.getD_eq_getElem?_getD, hu]; rfl
    obtain ⟨v', w', hrun, h2, h3, _, h5⟩ := run_append_own_at (P := P) w base t ty e i z E.k bytes ht hi hz hsize hby hzs E.pos v l.length _ hown.1 ad l'.length c (l'.flatMap E.enc) (E.flat_len l') hcells (E.flat_one l') h63 hbytes hown.2
    refine ⟨v', w', hrun, ⟨?_, Nat.le_trans hown.2 h3.size⟩, h3, h5⟩
    rw [hlen, List.flatMap_append]
    exact h2
/-- 'out = append(out, l..)', and where the new row lies. -/
theorem wpList_append_many {ops : Array Oper} {rest : List Oper} {o : Oper} {a : Act} {Q : Exit → Act → World → Prop} (w : World) (hgd : o.guard = none) (s x : Operand) (t : TypeId)
    (ho : o.op = .call { callee := .builtin .append, args := #[s, x], argTypes := #[t, t] }) (bytes : Nat) (he : ElemOf P t e E.k bytes)
    (hs : a.eval s = v) (hown : OwnB E e base w v l) (m : Nat) (hx : a.eval x = .slice A m c) (hr : SeqAt E w B A l') (hm : l'.length = m)
    (h63 : l.length + m ≤ maxLen) (hbytes : (l.length + m) * bytes ≤ 140737488355328)
    (h : ∀ v' w', OwnB E e base w' v' (l ++ l') → w.grownBy w' v.ownBlock → (v'.ownBlock = v.ownBlock ∨ v'.ownBlock = some w.heap.size) → wpList P ops Q rest (a.put o.dst v') w') : wpList P ops Q (o :: rest) a w := by
  subst hm
  refine wpList_plain hgd fun K hK => ?_
  obtain ⟨v', w', hrun, h2, h3, h4⟩ := run_append_seqB_at (P := P) w t o.type bytes he hown hr (c := c) h63 hbytes
  unfold Oper.wp execOp
  simp only [ho, resolve, invoke, builtin, Sem.run_bind, Sem.run_pure, Result.andThen_ok, List.map_toArray, List.map_cons, List.map_nil, hs, hx, hrun]
  exact hK _ _ (h v' w' h2 h3 h4)
end

theorem KidsAt.seq_ {w : World} {P : Nat → Prop} {A : Option Addr} {rs : List RawN} (h : KidsAt w P A rs) : SeqAt Enode w w.heap.size A rs := fun hn => by
  obtain ⟨b, off, e, _, ⟨cs, fz, ht⟩, hc⟩ := h hn
  exact ⟨b, off, e, (Array.getElem?_eq_some_iff.1 ht).1, hc⟩
theorem KidsAt.own_ {base : Nat} {w : World} {P : Nat → Prop} {A : Option Addr} {rs : List RawN} {c : Nat} (h : OwnB Enode 29 base w (.slice A rs.length c) rs) (hP : ∀ b, base ≤ b → P b) : KidsAt w P A rs := fun hn => by
  rcases h.1.2 with ⟨h', h0⟩ | ⟨g, cap, cur, h', hb, hg, _⟩
  · omega
  · obtain ⟨b, off, e, hlt, hc⟩ := h.seq hn
    injection h' with h1 _ _
    rw [h1] at e
    injection e with e
    injection e with e1 e2
    subst e1; subst e2
    exact ⟨g, 0, h1, hP g hb, ⟨cur, _, hg⟩, hc⟩

/-- Blocks of which P holds and that stood in w, and new ones. -/
def Qw (w : World) (P : Nat → Prop) (k : Nat) : Prop := P k ∧ k < w.heap.size ∨ w.heap.size ≤ k
/-- A row of nodes that a call builds from the world w on. -/
structure KdS (w wr : World) (P : Nat → Prop) (l : List SynP.Nd) (rs : List RawN) (v : Value) : Prop where
  bel : Below w.heap.size w wr
  own : OwnB Enode 29 w.heap.size wr v rs
  len : rs.length = l.length
  lies : LiesL wr (fun k => Qw w P k ∧ v.ownBlock ≠ some k) l rs
section
variable {w wr wx : World} {P : Nat → Prop} {l js : List SynP.Nd} {rs ws : List RawN} {v : Value} {nd : SynP.Nd} {r : RawN}
theorem KdS.start (w : World) (P : Nat → Prop) : KdS w w P [] [] (.slice none 0 0) := ⟨Below.refl _ _, OwnB.nil_ (Nat.le_refl _), rfl, by unfold LiesL; trivial⟩
theorem KdS.below (h : KdS w wr P l rs v) (k : Below wr.heap.size wr wx) : KdS w wx P l rs v :=
  ⟨h.bel.trans (k.mono h.bel.size), h.own.below k, h.len, LiesL.on (StandN.below k) _ _ h.lies⟩
/-- The row has grown by some nodes. -/
theorem KdS.many (h : KdS w wr P l rs v) {v2 : Value} (ho : OwnB Enode 29 w.heap.size wx v2 (rs ++ ws)) (hg : wr.grownBy wx v.ownBlock) (hat : v2.ownBlock = v.ownBlock ∨ v2.ownBlock = some wr.heap.size)
    (hn : ws.length = js.length) (hl : LiesL wr (fun k => Qw w P k ∧ v.ownBlock ≠ some k) js ws) : KdS w wx P (l ++ js) (rs ++ ws) v2 := by
  have hr := fun k (hk : v.ownBlock = some k) => h.own.lt k hk
  have hst : StandN (fun k => Qw w P k ∧ v.ownBlock ≠ some k) wr wx := StandN.grown h.own hg (fun k hk => hk.2)
  have hbel : Below w.heap.size wr wx := ⟨hg.os, hg.tape, hg.output, hg.size, fun k hk => hg.block k (by have := h.bel.size; omega) (fun e => by have := (hr k e.symm).1; omega)⟩
  have hmono : ∀ b, (Qw w P b ∧ v.ownBlock ≠ some b) → b < wr.heap.size → (Qw w P b ∧ v.ownBlock ≠ some b ∧ v2.ownBlock ≠ some b) := fun b hb hlt => ⟨hb.1, hb.2, by
    rcases hat with e | e
    · rw [e]; exact hb.2
    · rw [e]; intro e2; injection e2 with e2; omega⟩
  have hst2 : StandN (fun k => Qw w P k ∧ v.ownBlock ≠ some k ∧ v2.ownBlock ≠ some k) wr wx := ⟨hst.keep, fun k cs fz ha e => hst.row k cs fz ⟨ha.1, ha.2.1⟩ e⟩
  refine ⟨h.bel.trans hbel, ho, by rw [List.length_append, List.length_append, h.len, hn], ?_⟩
  have h1 := LiesL.app l rs js ws h.len h.lies hl
  exact LiesL.mono (fun b hb _ => ⟨hb.1, hb.2.2⟩) _ _ (LiesL.on hst2 _ _ (LiesL.mono hmono _ _ h1))
theorem KdS.push (h : KdS w wr P l rs v) {v2 : Value} (ho : OwnB Enode 29 w.heap.size wx v2 (rs ++ [r])) (hg : wr.grownBy wx v.ownBlock) (hat : v2.ownBlock = v.ownBlock ∨ v2.ownBlock = some wr.heap.size)
    (hl : Lies wr (fun k => Qw w P k ∧ v.ownBlock ≠ some k) nd r) : KdS w wx P (l ++ [nd]) (rs ++ [r]) v2 := h.many ho hg hat rfl (LiesL.one hl)
/-- What stood when the row began is none of the row's own. -/
theorem KdS.old (h : KdS w wr P l rs v) (hl : LiesL w P js ws) : LiesL wr (fun k => Qw w P k ∧ v.ownBlock ≠ some k) js ws :=
  LiesL.on (StandN.below (h.bel.mono (Nat.le_refl _))) _ _ (LiesL.mono (fun b hb hlt => ⟨.inl ⟨hb, hlt⟩, fun e => by have := (h.own.lt b e).1; omega⟩) _ _ hl)
theorem KdS.oldOne (h : KdS w wr P l rs v) (hl : Lies w P nd r) : Lies wr (fun k => Qw w P k ∧ v.ownBlock ≠ some k) nd r := LiesL.of_one (h.old (LiesL.one hl))
/-- What a call has made of what stood when the row began is none of the row's own. -/
theorem KdS.made {wy : World} (h : KdS w wr P l rs v) (hl : Lies wy (Qw wr fun k => P k ∧ k < w.heap.size) nd r) : Lies wy (fun k => Qw w P k ∧ v.ownBlock ≠ some k) nd r :=
  Lies.mono (fun b hb _ => by
    rcases hb with ⟨⟨h1, h2⟩, _⟩ | h1
    · exact ⟨.inl ⟨h1, h2⟩, fun e => by have := (h.own.lt b e).1; omega⟩
    · exact ⟨.inr (Nat.le_trans h.bel.size h1), fun e => by have := (h.own.lt b e).2; omega⟩) _ _ hl
theorem KdS.all (h : KdS w wr P l rs v) : LiesL wr (Qw w P) l rs := LiesL.mono (fun _ hb _ => hb.1) _ _ h.lies
theorem KdS.kids {A : Option Addr} {c : Nat} (h : KdS w wr P l rs (.slice A rs.length c)) : KidsAt wr (Qw w P) A rs := KidsAt.own_ h.own fun _ hb => .inr hb
end
/-- The result's box is stored. -/
theorem box_ret {w wy : World} {V : Nat} {cs : Array Value} {P : Nat → Prop} {nd : SynP.Nd} {r : RawN} (hb : Below w.heap.size w wy) (hbox : BoxN wy V cs) (hV : w.heap.size ≤ V) (hl : Lies wy P nd r) (hP : ¬ P V) :
    Below w.heap.size w (wy.setRow V r.cells.toArray) ∧ Lies (wy.setRow V r.cells.toArray) P nd r :=
  ⟨below_setRow_ hb hV _, Lies.on (StandN.setRow _ hbox hP) _ _ hl⟩

set_option maxRecDepth 100000 in
set_option maxHeartbeats 1600000 in
theorem first_any (P : Nat → Prop) (kind : Nat) (set : Option (Int → Bool)) (fold : Bool) (least most : Int) (lazy : Bool) (cap : Nat) (name : List UInt8) (kids : List SynP.Nd) (r : RawN) (w : World) (hl : Lies w P (.mk kind set fold least most lazy cap name kids) r) :
    Calls Tryz.prog 69 #[.agg r.cells.toArray] w fun e w' => ∃ r2 : RawN, e = .returned (.agg r2.cells.toArray) ∧ Below w.heap.size w w' ∧ Lies w' P (SynP.firstN kids) r2 := by
  obtain ⟨hn, rs, hrs, hk, hls⟩ := hl.kids
  obtain ⟨r0, r1, r2, r3, r4, r5, r6, r7, r8, r9, ra, rb, rc⟩ := r
  simp only at hn hk
  subst hn
  have HZ : Hid (BoxN ((w.alloc (.cells #[.int .i64 r0, .slice r1 r2 r3, .bool r4, .int .i64 r5, .int .i64 r6, .bool r7, .int .i64 r8, .string r9, .slice ra kids.length rc] 29)).alloc (.cells zeroA 29)) (w.heap.size + 1) zeroA) := Lib.hid (by
    have := heap_alloc_new (w.alloc (.cells #[.int .i64 r0, .slice r1 r2 r3, .bool r4, .int .i64 r5, .int .i64 r6, .bool r7, .int .i64 r8, .string r9, .slice ra kids.length rc] 29)) (.cells zeroA 29)
    rw [World.size_alloc] at this
    exact this)
  have HB := Lib.hid (below_two w (.cells #[.int .i64 r0, .slice r1 r2 r3, .bool r4, .int .i64 r5, .int .i64 r6, .bool r7, .int .i64 r8, .string r9, .slice ra kids.length rc] 29) (.cells zeroA 29))
  have HX : Hid (((w.alloc (.cells #[.int .i64 r0, .slice r1 r2 r3, .bool r4, .int .i64 r5, .int .i64 r6, .bool r7, .int .i64 r8, .string r9, .slice ra kids.length rc] 29)).alloc (.cells zeroA 29)).heap[w.heap.size]? = some (.cells #[.int .i64 r0, .slice r1 r2 r3, .bool r4, .int .i64 r5, .int .i64 r6, .bool r7, .int .i64 r8, .string r9, .slice ra kids.length rc] 29)) := Lib.hid ((Below.heap_alloc _ _ _ (by simp)).trans (heap_alloc_new w _))
  have HK := Lib.hid hk
  have HL := Lib.hid hls
  have HRs := Lib.hid hrs
  clear hls hl hk hrs
  cases kids with
  | nil =>
    simp only [RawN.cells, List.length_nil] at HZ HB HX ⊢
    go_enter Tryz.func69, Tryz.ntmps69
    go_upto_region 1 with fail
    unfold zeroA at HZ HB HX
    generalize (w.alloc (.cells #[.int .i64 r0, .slice r1 r2 r3, .bool r4, .int .i64 r5, .int .i64 r6, .bool r7, .int .i64 r8, .string r9, .slice ra 0 rc] 29)).alloc (.cells #[.int .i64 0, .slice none 0 0, .bool false, .int .i64 0, .int .i64 0, .bool false, .int .i64 0, .string ⟨#[]⟩, .slice none 0 0] 29) = W at HZ HB HX ⊢
    have hc : ∀ o, W.cell? ⟨w.heap.size, o, none⟩ = #[Value.int .i64 r0, .slice r1 r2 r3, .bool r4, .int .i64 r5, .int .i64 r6, .bool r7, .int .i64 r8, .string r9, .slice ra 0 rc][o]? := fun o => Lib.cell_of_heap HX.out o
    go_wp2_with (refine wpList_store_row rfl 29 (.tmp 2) (.tmp 7) rfl (w.heap.size + 1) zeroN.cells.toArray rfl rfl 29 _ HZ.out sizeN rfl (cellsN_one _) ?_)
    refine retN rfl zeroN rfl (setRow_heap _ _ _ _ _ _ HZ.out) rfl ⟨_, rfl, below_setRow_ HB.out (Nat.le_succ _) _, ?_⟩
    exact Lies.leaf _ _ 0
  | cons k ks =>
    obtain ⟨q0, q1, q2⟩ : ∃ b off, ra = some ⟨b, off, none⟩ ∧ b < w.heap.size ∧ ∀ i (hi : i < rs.length) (o : Nat), o < 9 → w.cell? ⟨b, off + (i * 9 + o), none⟩ = some (rs[i].cells.getD o undef) := HK.out.nth (Nat.lt_of_lt_of_eq (Nat.succ_pos _) HRs.out.symm)
    obtain ⟨rfl, hb, hc⟩ := q2
    have hr0 : 0 < rs.length := Nat.lt_of_lt_of_eq (Nat.succ_pos _) HRs.out.symm
    have hL := LiesL.nth (k :: ks) rs HRs.out HL.out 0 (by simp) hr0
    obtain ⟨z, hz⟩ : ∃ z, rs[0]'hr0 = z := ⟨_, rfl⟩
    have hcz : ∀ o, o < 9 → w.cell? ⟨q0, q1 + o, none⟩ = some (z.cells.getD o undef) := fun o ho => by
      have := hc 0 hr0 o ho
      rw [hz, Nat.zero_mul, Nat.zero_add] at this
      exact this
    rw [hz] at hL
    have HLz := Lib.hid hL
    have HCz := Lib.hid hcz
    clear hc hL hz hcz
    have hlenp : (0 : Int) < ((k :: ks).length : Int) := by rw [List.length_cons]; omega
    have hlen0 : ((k :: ks).length : Int) ≠ 0 := by rw [List.length_cons]; omega
    generalize (k :: ks).length = n at HZ HB HX hlen0 hlenp ⊢
    simp only [RawN.cells] at HZ HB HX ⊢
    go_enter Tryz.func69, Tryz.ntmps69
    go_upto_region 1 with fail
    unfold zeroA at HZ HB HX
    generalize (w.alloc (.cells #[.int .i64 r0, .slice r1 r2 r3, .bool r4, .int .i64 r5, .int .i64 r6, .bool r7, .int .i64 r8, .string r9, .slice (some ⟨q0, q1, none⟩) n rc] 29)).alloc (.cells #[.int .i64 0, .slice none 0 0, .bool false, .int .i64 0, .int .i64 0, .bool false, .int .i64 0, .string ⟨#[]⟩, .slice none 0 0] 29) = W at HZ HB HX ⊢
    have hcW : ∀ o, W.cell? ⟨w.heap.size, o, none⟩ = #[Value.int .i64 r0, .slice r1 r2 r3, .bool r4, .int .i64 r5, .int .i64 r6, .bool r7, .int .i64 r8, .string r9, .slice (some ⟨q0, q1, none⟩) n rc][o]? := fun o => Lib.cell_of_heap HX.out o
    obtain ⟨z0, z1, z2, z3, z4, z5, z6, z7, z8, z9, za, zb, zc⟩ := z
    have mm : ∀ o, o < 9 → W.cell? ⟨q0, q1 + o, none⟩ = w.cell? ⟨q0, q1 + o, none⟩ := fun o _ => HB.out.cell (p := ⟨q0, q1 + o, none⟩) hb
    have m0 : W.cell? ⟨q0, q1, none⟩ = some (.int .i64 z0) := (mm 0 (by decide)).trans (HCz.out 0 (by decide))
    have m1 : W.cell? ⟨q0, q1 + 1, none⟩ = some (.slice z1 z2 z3) := (mm 1 (by decide)).trans (HCz.out 1 (by decide))
    have m2 : W.cell? ⟨q0, q1 + 2, none⟩ = some (.bool z4) := (mm 2 (by decide)).trans (HCz.out 2 (by decide))
    have m3 : W.cell? ⟨q0, q1 + 3, none⟩ = some (.int .i64 z5) := (mm 3 (by decide)).trans (HCz.out 3 (by decide))
    have m4 : W.cell? ⟨q0, q1 + 4, none⟩ = some (.int .i64 z6) := (mm 4 (by decide)).trans (HCz.out 4 (by decide))
    have m5 : W.cell? ⟨q0, q1 + 5, none⟩ = some (.bool z7) := (mm 5 (by decide)).trans (HCz.out 5 (by decide))
    have m6 : W.cell? ⟨q0, q1 + 6, none⟩ = some (.int .i64 z8) := (mm 6 (by decide)).trans (HCz.out 6 (by decide))
    have m7 : W.cell? ⟨q0, q1 + 7, none⟩ = some (.string z9) := (mm 7 (by decide)).trans (HCz.out 7 (by decide))
    have m8 : W.cell? ⟨q0, q1 + 8, none⟩ = some (.slice za zb zc) := (mm 8 (by decide)).trans (HCz.out 8 (by decide))
    clear mm
    go_wp2_with (refine wpList_store_row rfl 29 (.tmp 2) (.tmp 11) rfl (w.heap.size + 1) (RawN.mk z0 z1 z2 z3 z4 z5 z6 z7 z8 z9 za zb zc).cells.toArray rfl rfl 29 _ HZ.out sizeN rfl (cellsN_one _) ?_)
    refine retN rfl (RawN.mk z0 z1 z2 z3 z4 z5 z6 z7 z8 z9 za zb zc) rfl (setRow_heap _ _ _ _ _ _ HZ.out) rfl ⟨_, rfl, below_setRow_ HB.out (Nat.le_succ _) _, ?_⟩
    exact Lies.on (StandN.below (below_setRow_ HB.out (Nat.le_succ _) _)) _ _ HLz.out

set_option maxRecDepth 100000 in
set_option maxHeartbeats 1600000 in
theorem wholeS_any (kind : Nat) (P : Nat → Prop) (js : List SynP.Nd) (rs : List RawN) (A : Option Addr) (c : Nat) (w : World) (hl : rs.length = js.length) (hc : rs.length ≤ c) (hm : c ≤ maxLen) (hk : KidsAt w P A rs) (h : LiesL w P js rs) :
    Calls Tryz.prog 71 #[.int .i64 kind, .slice A rs.length c] w fun e w' => ∃ r : RawN, e = .returned (.agg r.cells.toArray) ∧ Below w.heap.size w w' ∧ Lies w' P (SynP.whole kind js) r := by
  have HZ := Lib.hid (BoxN.new w)
  have hb : Below w.heap.size w (w.alloc (.cells zeroA 29)) := (Below.refl _ w).alloc (Nat.le_refl _) _
  have HB := Lib.hid hb
  have HL := Lib.hid h
  have HK := Lib.hid hk
  clear hb h hk
  obtain ⟨V, hV⟩ : ∃ V, w.heap.size = V := ⟨_, rfl⟩
  have HVe := Lib.hid hV
  rw [hV] at HZ
  clear hV
  match js, rs, hl with
  | [], [], _ =>
    go_enter Tryz.func71, Tryz.ntmps71
    go_upto_region 1 with fail
    rw [HVe.out]
    unfold zeroA at HZ HB
    generalize w.alloc (.cells #[.int .i64 0, .slice none 0 0, .bool false, .int .i64 0, .int .i64 0, .bool false, .int .i64 0, .string ⟨#[]⟩, .slice none 0 0] 29) = W at HZ HB ⊢
    go_wp2_with (refine wpList_store_row rfl 29 (.tmp 4) (.tmp 9) rfl V zeroN.cells.toArray rfl rfl 29 _ HZ.out sizeN rfl (cellsN_one _) ?_)
    refine retN rfl zeroN rfl (setRow_heap _ _ _ _ _ _ HZ.out) rfl ⟨zeroN, rfl, ?_, Lies.leaf _ _ 0⟩
    exact below_setRow_ HB.out (Nat.le_of_eq HVe.out) _
  | [j], [r], _ =>
    obtain ⟨b, off, rfl, hbw, hcell⟩ := HK.out.cells 0 (by simp)
    have hcW : ∀ o, o < 9 → (w.alloc (.cells zeroA 29)).cell? ⟨b, off + o, none⟩ = r.cells[o]? := fun o ho => by
      have := hcell o ho
      rw [Nat.zero_mul, Nat.zero_add] at this
      exact (HB.out.cell (p := ⟨b, off + o, none⟩) hbw).trans this
    have hl1 : Lies w P j r := LiesL.of_one HL.out
    have HL1 := Lib.hid hl1
    clear hcell hl1
    go_enter Tryz.func71, Tryz.ntmps71
    go_upto_region 1 with fail
    rw [HVe.out]
    unfold zeroA at HZ HB hcW
    generalize w.alloc (.cells #[.int .i64 0, .slice none 0 0, .bool false, .int .i64 0, .int .i64 0, .bool false, .int .i64 0, .string ⟨#[]⟩, .slice none 0 0] 29) = W at HZ HB hcW ⊢
    have c0 := hcW 0 (by omega)
    have c1 := hcW 1 (by omega)
    have c2 := hcW 2 (by omega)
    have c3 := hcW 3 (by omega)
    have c4 := hcW 4 (by omega)
    have c5 := hcW 5 (by omega)
    have c6 := hcW 6 (by omega)
    have c7 := hcW 7 (by omega)
    have c8 := hcW 8 (by omega)
    simp only [Nat.add_zero] at c0
    simp only [RawN.cells, List.getElem?_cons_zero, List.getElem?_cons_succ] at c0 c1 c2 c3 c4 c5 c6 c7 c8
    clear hcW
    go_wp2_with (refine wpList_store_row rfl 29 (.tmp 4) (.tmp 14) rfl V r.cells.toArray rfl rfl 29 _ HZ.out sizeN rfl (cellsN_one _) ?_)
    have hs : StandN P w (W.setRow V r.cells.toArray) := StandN.below (below_setRow_ HB.out (Nat.le_of_eq HVe.out) _)
    refine retN rfl r rfl (setRow_heap _ _ _ _ _ _ HZ.out) rfl ⟨r, rfl, below_setRow_ HB.out (Nat.le_of_eq HVe.out) _, ?_⟩
    exact Lies.on hs _ _ HL1.out
  | j1 :: j2 :: js, r1 :: r2 :: rs, hl =>
    rw [whole_many kind (by simp)]
    have hn : 2 ≤ (r1 :: r2 :: rs).length := by simp
    obtain ⟨Js, hJs⟩ : ∃ Js, j1 :: j2 :: js = Js := ⟨_, rfl⟩
    obtain ⟨Rs, hRs⟩ : ∃ Rs, r1 :: r2 :: rs = Rs := ⟨_, rfl⟩
    rw [hJs] at hl HL ⊢
    rw [hRs] at hl hc hn HL HK ⊢
    have HLn := Lib.hid hl
    clear hJs hRs hl
    have hn1 : ((Rs.length : Int) == 1) = false := beq_eq_false_iff_ne.2 (by omega)
    have hn2 : ¬ (Rs.length : Int) = 1 := by omega
    have hn3 : ¬ (Rs.length : Int) = 0 := by omega
    have hn0 : ((Rs.length : Int) == 0) = false := beq_eq_false_iff_ne.2 (by omega)
    go_enter Tryz.func71, Tryz.ntmps71
    go_upto_region 1 with fail
    rw [HVe.out]
    unfold zeroA at HZ HB
    generalize w.alloc (.cells #[.int .i64 0, .slice none 0 0, .bool false, .int .i64 0, .int .i64 0, .bool false, .int .i64 0, .string ⟨#[]⟩, .slice none 0 0] 29) = W at HZ HB ⊢
    go_wp2_with (refine wpList_store_row rfl 29 (.tmp 4) (.tmp 17) rfl V (manyN kind A Rs.length c).cells.toArray rfl rfl 29 _ HZ.out sizeN rfl (cellsN_one _) ?_)
    have hbel := below_setRow_ HB.out (Nat.le_of_eq HVe.out) (manyN kind A Rs.length c).cells.toArray
    have hs : StandN P w (W.setRow V (manyN kind A Rs.length c).cells.toArray) := StandN.below hbel
    refine retN rfl (manyN kind A Rs.length c) rfl (setRow_heap _ _ _ _ _ _ HZ.out) rfl ⟨_, rfl, hbel, ?_⟩
    exact Lies.many HLn.out hc hm (HK.out.on hs) (LiesL.on hs _ _ HL.out)

end Go.Proofs.YtblkejnckbeieaaGreatDoor

namespace Go.Proofs.YtblkejnckbeieaaGreatDoor
open Go.RowKit SetPure

theorem Lies.kind_z {w : World} {P : Nat → Prop} {nd : SynP.Nd} {r : RawN} (h : Lies w P nd r) : r.kind = (nd.kind : Int) := by
  cases nd
  unfold Lies at h
  exact h.1
theorem Lies.kids_ {w : World} {P : Nat → Prop} {nd : SynP.Nd} {r : RawN} (h : Lies w P nd r) : r.kn = nd.kids.length ∧ ∃ rs : List RawN, rs.length = nd.kids.length ∧ KidsAt w P r.kA rs ∧ LiesL w P nd.kids rs := by
  cases nd
  exact h.kids
/-- A node of a slice. -/
theorem KidsAt.kid_at {w : World} {P : Nat → Prop} {A : Option Addr} {rs : List RawN} {js : List SynP.Nd} (hk : KidsAt w P A rs) (hl : rs.length = js.length) (h : LiesL w P js rs) (i : Nat) (hi : i < js.length) :
    ∃ b off z, A = some ⟨b, off, none⟩ ∧ b < w.heap.size ∧ Lies w P js[i] z ∧ ∀ o, o < 9 → w.cell? ⟨b, off + (i * 9 + o), none⟩ = some (z.cells.getD o undef) := by
  obtain ⟨b, off, e, hb, hc⟩ := hk.nth (by omega)
  exact ⟨b, off, rs[i]'(by omega), e, hb, LiesL.nth js rs hl h i hi (by omega), fun o ho => hc i (by omega) o ho⟩

/-- A call's end: a row of nodes of its own. -/
def KdEnd (w : World) (P : Nat → Prop) (l : List SynP.Nd) (e : Ending) (w' : World) : Prop := ∃ v ws, e = .returned v ∧ KdS w w' P l ws v

set_option maxRecDepth 100000 in
set_option maxHeartbeats 6400000 in
theorem flat_any (kind : Nat) (P : Nat → Prop) (js : List SynP.Nd) (rs : List RawN) (A : Option Addr) (c : Nat) (w : World) (hl : rs.length = js.length) (hc : rs.length ≤ c) (hm : c ≤ maxLen) (hk : KidsAt w P A rs) (h : LiesL w P js rs) (hn : (SynP.flatN kind js).length ≤ 1000000) :
    Calls Tryz.prog 72 #[.slice A rs.length c, .int .i64 kind] w (KdEnd w P (SynP.flatN kind js)) := by
  have HL := Lib.hid h
  have HK := Lib.hid hk
  have HLn := Lib.hid hl
  have HN := Lib.hid hn
  have hmx : (rs.length : Int) ≤ 9223372036854775807 := by unfold maxLen at hm; omega
  obtain ⟨n, hn'⟩ : ∃ n, rs.length = n := ⟨_, rfl⟩
  have hnj : n = js.length := by omega
  have HNj := Lib.hid hnj
  rw [hn'] at hmx ⊢
  clear h hk hl hn hn' hnj hc hm
  go_enter Tryz.func72, Tryz.ntmps72
  go_wp2_with fail
  go_loopw [5, 10] (fun s5 s10 wr => ∃ (i : Nat) (ws : List RawN), i ≤ n ∧ s10 = .int .i64 i ∧ Hid (KdS w wr P (SynP.flatN kind (js.take i)) ws s5)) (fun _ s10 _ => n + 1 - (intOf s10).toNat)
  case atStart => exact ⟨0, [], Nat.zero_le _, rfl, Lib.hid (KdS.start w P)⟩
  case round =>
    obtain ⟨i, ws, hi, rfl, HS⟩ := hrel
    by_cases hlt : i < n
    · have hii : (i : Int) < (n : Int) := by omega
      have hi0 : (0 : Int) ≤ (i : Int) := by omega
      have hij : i < js.length := by rw [← HNj.out]; exact hlt
      have hlen := HS.out.len
      have hle := SynP.flatN_le kind js (i + 1)
      have hF := SynP.flatN_take kind js i hij
      rw [hF, List.length_append, ← hlen] at hle
      clear hlen
      have hN' := HN.out
      obtain ⟨b, off, z, rfl, hb, hz, hcz⟩ := HK.out.kid_at HLn.out HL.out i hij
      obtain ⟨x, hx⟩ : ∃ x, js[i]'hij = x := ⟨_, rfl⟩
      have HF := Lib.hid hF
      rw [hx] at hz HF hle
      clear hF
      have hzk := hz.kind_z
      have HZk := Lib.hid hz.kids_
      have HZl := Lib.hid hz
      have mm : ∀ o, o < 9 → wr.cell? ⟨b, off + (i * 9 + o), none⟩ = some (z.cells.getD o undef) := fun o ho => (HS.out.bel.cell (p := ⟨b, off + (i * 9 + o), none⟩) hb).trans (hcz o ho)
      clear hcz hz hx
      obtain ⟨a0, a1, a2, a3, a4, a5, a6, a7, a8, a9, aa, ab, ac⟩ := z
      simp only at hzk HZk
      subst hzk
      have m0 : wr.cell? ⟨b, off + i * 9, none⟩ = some (.int .i64 x.kind) := mm 0 (by decide)
      have m1 : wr.cell? ⟨b, off + i * 9 + 1, none⟩ = some (.slice a1 a2 a3) := mm 1 (by decide)
      have m2 : wr.cell? ⟨b, off + i * 9 + 2, none⟩ = some (.bool a4) := mm 2 (by decide)
      have m3 : wr.cell? ⟨b, off + i * 9 + 3, none⟩ = some (.int .i64 a5) := mm 3 (by decide)
      have m4 : wr.cell? ⟨b, off + i * 9 + 4, none⟩ = some (.int .i64 a6) := mm 4 (by decide)
      have m5 : wr.cell? ⟨b, off + i * 9 + 5, none⟩ = some (.bool a7) := mm 5 (by decide)
      have m6 : wr.cell? ⟨b, off + i * 9 + 6, none⟩ = some (.int .i64 a8) := mm 6 (by decide)
      have m7 : wr.cell? ⟨b, off + i * 9 + 7, none⟩ = some (.string a9) := mm 7 (by decide)
      have m8 : wr.cell? ⟨b, off + i * 9 + 8, none⟩ = some (.slice aa ab ac) := mm 8 (by decide)
      clear mm
      obtain ⟨A0, c0, rfl, hc0, hm0⟩ := HS.out.own.form
      go_upto_region 5 with fail
      have hbb : Below wr.heap.size wr (wr.alloc (.cells #[.int .i64 x.kind, .slice a1 a2 a3, .bool a4, .int .i64 a5, .int .i64 a6, .bool a7, .int .i64 a8, .string a9, .slice aa ab ac] 29)) := (Below.refl _ _).alloc (Nat.le_refl _) _
      have HSb := Lib.hid (HS.out.below hbb)
      have hxx := heap_alloc_new wr (.cells #[.int .i64 x.kind, .slice a1 a2 a3, .bool a4, .int .i64 a5, .int .i64 a6, .bool a7, .int .i64 a8, .string a9, .slice aa ab ac] 29)
      have HLw := Lib.hid (HS.out.bel.trans (hbb.mono HS.out.bel.size))
      obtain ⟨N, hN⟩ : ∃ N, wr.heap.size = N := ⟨_, rfl⟩
      rw [hN] at hxx ⊢
      clear hbb hN m0 m1 m2 m3 m4 m5 m6 m7 m8 HS
      generalize wr.alloc (.cells #[.int .i64 x.kind, .slice a1 a2 a3, .bool a4, .int .i64 a5, .int .i64 a6, .bool a7, .int .i64 a8, .string a9, .slice aa ab ac] 29) = wb at HSb hxx HLw ⊢
      have hcb : ∀ o, wb.cell? ⟨N, o, none⟩ = #[Value.int .i64 x.kind, .slice a1 a2 a3, .bool a4, .int .i64 a5, .int .i64 a6, .bool a7, .int .i64 a8, .string a9, .slice aa ab ac][o]? := fun o => Lib.cell_of_heap hxx o
      clear hxx
      by_cases hkd : x.kind = kind
      · rw [if_pos hkd] at HF hle
        have hkz : ((x.kind : Int) == (kind : Int)) = true := by rw [hkd]; exact beq_self_eq_true _
        obtain ⟨e1, zs, e2, e3, e4⟩ := HZk.out
        have hzl : zs.length = ab := by omega
        have hws : ws.length + ab ≤ 1000000 := by omega
        have HE2 := Lib.hid e2
        have HE3 := Lib.hid e3
        have HE4 := Lib.hid e4
        have HZn := Lib.hid hzl
        clear e1 e2 e3 e4 hzl hkd hle hN'
        go_wp2_with (at_builtin; refine wpList_append_many (E := Enode) (base := w.heap.size) (l := ws) (l' := zs) _ rfl (.tmp 18) (.tmp 20) 27 rfl 112 elNode rfl HSb.out.own ab rfl (KidsAt.seq_ (KidsAt.on HE3.out (StandN.below HLw.out))) HZn.out (by unfold maxLen; omega) (by omega) ?_; intro v2 w2 ho2 hg2 hat2; have HS2 := Lib.hid (HSb.out.many ho2 hg2 hat2 HE2.out (HSb.out.old HE4.out)); clear ho2 hg2 hat2)
        exact ⟨⟨i + 1, ws ++ zs, by omega, by simp, by rw [HF.out]; exact HS2⟩, by simp only [intOf]; omega⟩
      · rw [if_neg hkd] at HF hle
        have hkz : ((x.kind : Int) == (kind : Int)) = false := beq_false_of_ne (by omega)
        have hws : ws.length + 1 ≤ 1000000 := by simp at hle; omega
        clear hkd hle hN' HZk
        go_wp2_with (at_builtin; refine wpList_append_one (E := Enode) (base := w.heap.size) (l := ws) ⟨x.kind, a1, a2, a3, a4, a5, a6, a7, a8, a9, aa, ab, ac⟩ ⟨wb.heap.size, 0, none⟩ 1 rfl (.tmp 22) (.tmp 24) 27 (by rfl) 112 elNode (by rfl) (HSb.out.own.alloc _) (by rfl) (by exact news_new wb _ _ _ rfl) (by unfold maxLen; omega) (by omega) ?_; intro v2 w2 ho2 hg2 hat2; have hba := (Below.refl wb.heap.size wb).alloc (Nat.le_refl _) (.cells #[.int .i64 x.kind, .slice a1 a2 a3, .bool a4, .int .i64 a5, .int .i64 a6, .bool a7, .int .i64 a8, .string a9, .slice aa ab ac] 29); have HS2 := Lib.hid ((HSb.out.below hba).push ho2 hg2 hat2 ((HSb.out.below hba).oldOne HZl.out)); clear ho2 hg2 hat2 hba)
        exact ⟨⟨i + 1, _, by omega, by simp, by rw [HF.out]; exact HS2⟩, by simp only [intOf]; omega⟩
    · obtain rfl : i = n := by omega
      have hii : ¬ (i : Int) < (i : Int) := by omega
      have hT : js.take i = js := List.take_of_length_le (by rw [HNj.out]; exact Nat.le_refl _)
      rw [hT] at HS
      have HS' := HS
      clear HS
      go_wp2_with fail
      go_ret
      exact ⟨_, ws, rfl, HS'.out⟩

set_option maxRecDepth 100000 in
set_option maxHeartbeats 6400000 in
theorem rowS_any (P : Nat → Prop) (js : List SynP.Nd) (rs : List RawN) (A : Option Addr) (c : Nat) (w : World) (hl : rs.length = js.length) (hc : rs.length ≤ c) (hm : c ≤ maxLen) (hk : KidsAt w P A rs) (h : LiesL w P js rs) (hn : (SynP.flatN 8 js).length ≤ 1000000) :
    Calls Tryz.prog 70 #[.slice A rs.length c] w fun e w' => ∃ r : RawN, e = .returned (.agg r.cells.toArray) ∧ Below w.heap.size w w' ∧ Lies w' (Qw w P) (SynP.rowN js) r := by
  obtain ⟨V, hV⟩ : ∃ V, w.heap.size = V := ⟨_, rfl⟩
  have HVe := Lib.hid hV
  have HZ := Lib.hid (BoxN.new w)
  have hb0 : Below w.heap.size w (w.alloc (.cells zeroA 29)) := (Below.refl _ w).alloc (Nat.le_refl _) _
  have hsz0 : (w.alloc (.cells zeroA 29)).heap.size = V + 1 := by rw [World.size_alloc, hV]
  have HK := Lib.hid (KidsAt.on (KidsAt.mono (A' := fun k => P k ∧ k < V) hk fun b hb hlt => ⟨hb, by omega⟩) (StandN.below hb0))
  have HL := Lib.hid (LiesL.on (StandN.below hb0) _ _ (LiesL.mono (A' := fun k => P k ∧ k < V) (fun b hb hlt => ⟨hb, by omega⟩) _ _ h))
  have HB0 := Lib.hid hb0
  have HS0 := Lib.hid hsz0
  have HLn := Lib.hid hl
  have HC := Lib.hid (And.intro hc (And.intro hm hn))
  rw [hV] at HZ
  clear hb0 hsz0 hV hk h hl hc hm hn
  go_enter Tryz.func70, Tryz.ntmps70
  go_upto_region 2 with fail
  rw [HVe.out]
  unfold zeroA at HZ HB0 HS0 HK HL
  generalize w.alloc (.cells #[.int .i64 0, .slice none 0 0, .bool false, .int .i64 0, .int .i64 0, .bool false, .int .i64 0, .string ⟨#[]⟩, .slice none 0 0] 29) = W0 at HZ HB0 HS0 HK HL ⊢
  go_wp2_with (go_at_call 72; refine (flat_any 8 _ js rs A c _ HLn.out HC.out.1 HC.out.2.1 HK.out HL.out HC.out.2.2).mono ?_; rintro e w1 ⟨v1, fs, rfl, hf⟩; obtain ⟨A1, c1, rfl, hc1, hm1⟩ := hf.own.form; have HFl := Lib.hid hf; clear hf)
  obtain ⟨fl, hfl⟩ : ∃ fl, SynP.flatN 8 js = fl := ⟨_, rfl⟩
  have HFe := Lib.hid hfl
  have hn := HC.out.2.2
  rw [hfl] at HFl hn
  have HNj := Lib.hid HFl.out.len
  have HK1 := Lib.hid HFl.out.kids
  have HL1 := Lib.hid HFl.out.all
  have HB1 := Lib.hid HFl.out.bel
  have hmx : (fs.length : Int) ≤ 9223372036854775807 := by unfold maxLen at hm1; omega
  have hnl : fs.length ≤ 1000000 := by rw [HNj.out]; exact hn
  generalize fs.length = n at HNj hmx hnl hc1 ⊢
  clear hfl hn hc1 hm1 HK HL HC
  go_wp2_with fail
  go_loopw [3, 9] (fun s3 s9 wr => ∃ (i : Nat) (ws : List RawN), i ≤ n ∧ s9 = .int .i64 i ∧ Hid (KdS w1 wr (Qw W0 fun k => P k ∧ k < V) (SynP.solidN (fl.take i)) ws s3)) (fun _ s9 _ => n + 1 - (intOf s9).toNat)
  case atStart => exact ⟨0, [], Nat.zero_le _, rfl, Lib.hid (KdS.start w1 _)⟩
  case round =>
    obtain ⟨i, ws, hi, rfl, HS⟩ := hrel
    by_cases hlt : i < n
    · have hii : (i : Int) < (n : Int) := by omega
      have hi0 : (0 : Int) ≤ (i : Int) := by omega
      have hij : i < fl.length := by rw [← HNj.out]; exact hlt
      have hlen := HS.out.len
      have hle := SynP.solidN_le fl i
      have hF := SynP.solidN_take fl i hij
      rw [← hlen, ← HNj.out] at hle
      clear hlen
      obtain ⟨b, off, z, rfl, hb, hz, hcz⟩ := HK1.out.kid_at HFl.out.len HL1.out i hij
      obtain ⟨x, hx⟩ : ∃ x, fl[i]'hij = x := ⟨_, rfl⟩
      have HF := Lib.hid hF
      rw [hx] at hz HF
      clear hF
      have hzk := hz.kind_z
      have HZk := Lib.hid hz.kids_
      have HZl := Lib.hid hz
      have mm : ∀ o, o < 9 → wr.cell? ⟨b, off + (i * 9 + o), none⟩ = some (z.cells.getD o undef) := fun o ho => (HS.out.bel.cell (p := ⟨b, off + (i * 9 + o), none⟩) hb).trans (hcz o ho)
      clear hcz hz hx
      obtain ⟨a0, a1, a2, a3, a4, a5, a6, a7, a8, a9, aa, ab, ac⟩ := z
      simp only at hzk HZk
      subst hzk
      have m0 : wr.cell? ⟨b, off + i * 9, none⟩ = some (.int .i64 x.kind) := mm 0 (by decide)
      have m1 : wr.cell? ⟨b, off + i * 9 + 1, none⟩ = some (.slice a1 a2 a3) := mm 1 (by decide)
      have m2 : wr.cell? ⟨b, off + i * 9 + 2, none⟩ = some (.bool a4) := mm 2 (by decide)
      have m3 : wr.cell? ⟨b, off + i * 9 + 3, none⟩ = some (.int .i64 a5) := mm 3 (by decide)
      have m4 : wr.cell? ⟨b, off + i * 9 + 4, none⟩ = some (.int .i64 a6) := mm 4 (by decide)
      have m5 : wr.cell? ⟨b, off + i * 9 + 5, none⟩ = some (.bool a7) := mm 5 (by decide)
      have m6 : wr.cell? ⟨b, off + i * 9 + 6, none⟩ = some (.int .i64 a8) := mm 6 (by decide)
      have m7 : wr.cell? ⟨b, off + i * 9 + 7, none⟩ = some (.string a9) := mm 7 (by decide)
      have m8 : wr.cell? ⟨b, off + i * 9 + 8, none⟩ = some (.slice aa ab ac) := mm 8 (by decide)
      clear mm
      obtain ⟨A0, c0, rfl, hc0, hm0⟩ := HS.out.own.form
      go_upto_region 5 with fail
      have hbb : Below wr.heap.size wr (wr.alloc (.cells #[.int .i64 x.kind, .slice a1 a2 a3, .bool a4, .int .i64 a5, .int .i64 a6, .bool a7, .int .i64 a8, .string a9, .slice aa ab ac] 29)) := (Below.refl _ _).alloc (Nat.le_refl _) _
      have HSb := Lib.hid (HS.out.below hbb)
      have hxx := heap_alloc_new wr (.cells #[.int .i64 x.kind, .slice a1 a2 a3, .bool a4, .int .i64 a5, .int .i64 a6, .bool a7, .int .i64 a8, .string a9, .slice aa ab ac] 29)
      have HLw := Lib.hid (HS.out.bel.trans (hbb.mono HS.out.bel.size))
      obtain ⟨N, hN⟩ : ∃ N, wr.heap.size = N := ⟨_, rfl⟩
      rw [hN] at hxx ⊢
      clear hbb hN m0 m1 m2 m3 m4 m5 m6 m7 m8 HS
      generalize wr.alloc (.cells #[.int .i64 x.kind, .slice a1 a2 a3, .bool a4, .int .i64 a5, .int .i64 a6, .bool a7, .int .i64 a8, .string a9, .slice aa ab ac] 29) = wb at HSb hxx HLw ⊢
      have hcb : ∀ o, wb.cell? ⟨N, o, none⟩ = #[Value.int .i64 x.kind, .slice a1 a2 a3, .bool a4, .int .i64 a5, .int .i64 a6, .bool a7, .int .i64 a8, .string a9, .slice aa ab ac][o]? := fun o => Lib.cell_of_heap hxx o
      clear hxx
      by_cases hkd : x.kind = 0
      · rw [if_pos hkd, List.append_nil] at HF
        have hkz : (x.kind : Int) = 0 := by omega
        clear hkd hle HZk
        rw [hkz] at hcb
        clear hkz
        go_wp2_with fail
        exact ⟨⟨i + 1, ws, by omega, by simp, by rw [HF.out]; exact HSb⟩, by simp only [intOf]; omega⟩
      · rw [if_neg hkd] at HF
        have hkz : ¬ (x.kind : Int) = 0 := by omega
        have hws : ws.length + 1 ≤ 1000001 := by omega
        clear hkd hle HZk
        go_wp2_with (at_builtin; refine wpList_append_one (E := Enode) (base := w1.heap.size) (l := ws) ⟨x.kind, a1, a2, a3, a4, a5, a6, a7, a8, a9, aa, ab, ac⟩ ⟨wb.heap.size, 0, none⟩ 1 rfl (.tmp 16) (.tmp 18) 27 (by rfl) 112 elNode (by rfl) (HSb.out.own.alloc _) (by rfl) (by exact news_new wb _ _ _ rfl) (by unfold maxLen; omega) (by omega) ?_; intro v2 w2 ho2 hg2 hat2; have hba := (Below.refl wb.heap.size wb).alloc (Nat.le_refl _) (.cells #[.int .i64 x.kind, .slice a1 a2 a3, .bool a4, .int .i64 a5, .int .i64 a6, .bool a7, .int .i64 a8, .string a9, .slice aa ab ac] 29); have HS2 := Lib.hid ((HSb.out.below hba).push ho2 hg2 hat2 ((HSb.out.below hba).oldOne HZl.out)); clear ho2 hg2 hat2 hba)
        exact ⟨⟨i + 1, _, by omega, by simp, by rw [HF.out]; exact HS2⟩, by simp only [intOf]; omega⟩
    · obtain rfl : i = n := by omega
      have hii : ¬ (i : Int) < (i : Int) := by omega
      have hT : fl.take i = fl := List.take_of_length_le (by rw [HNj.out]; exact Nat.le_refl _)
      rw [hT] at HS
      obtain ⟨A2, c2, rfl, hc2, hm2⟩ := HS.out.own.form
      have HS' := HS
      have HC2 := Lib.hid (And.intro hc2 hm2)
      clear HS hT hc2 hm2
      have HQ : Hid (∀ k, Qw w1 (Qw W0 fun k => P k ∧ k < V) k → Qw W0 (fun k => P k ∧ k < V) k) := Lib.hid fun k hk => by
        rcases hk with ⟨h1, _⟩ | h1
        · exact h1
        · exact .inr (Nat.le_trans HB1.out.size h1)
      have HZ2 : Hid (BoxN wr V zeroA) := Lib.hid ((HS'.out.bel.block V (Nat.lt_of_lt_of_le HZ.out.lt HB1.out.size)).trans ((HB1.out.block V HZ.out.lt).trans HZ.out))
      have HBw := Lib.hid (HB0.out.trans ((HB1.out.trans (HS'.out.bel.mono HB1.out.size)).mono HB0.out.size))
      go_wp2_with (first
        | (go_at_call 71; refine (wholeS_any 8 (Qw W0 fun k => P k ∧ k < V) (SynP.solidN fl) ws A2 c2 _ HS'.out.len HC2.out.1 HC2.out.2 (KidsAt.own_ HS'.out.own fun b hb => .inr (Nat.le_trans HB1.out.size hb)) (LiesL.mono (fun k hk _ => HQ.out k hk) _ _ HS'.out.all)).mono ?_; rintro e w4 ⟨rw4, rfl, hb4, hl4⟩; have HB4 := Lib.hid hb4; have HL4 := Lib.hid hl4; clear hb4 hl4)
        | (refine wpList_store_row rfl 29 (.tmp 2) (.tmp 22) rfl V rw4.cells.toArray rfl rfl 29 zeroA ((HB4.out.block V HZ2.out.lt).trans HZ2.out) sizeN rfl (cellsN_one _) ?_))
      have hz4 : BoxN w4 V zeroA := (HB4.out.block V HZ2.out.lt).trans HZ2.out
      refine retN rfl rw4 rfl (setRow_heap _ _ _ _ _ _ hz4) rfl ?_
      obtain ⟨e1, e2⟩ := box_ret (HBw.out.trans (HB4.out.mono HBw.out.size)) hz4 (Nat.le_of_eq HVe.out) HL4.out (by
        rintro (⟨⟨_, h1⟩, _⟩ | h1)
        · exact absurd h1 (Nat.lt_irrefl _)
        · rw [HS0.out] at h1; omega)
      refine ⟨rw4, rfl, e1, ?_⟩
      have e3 : SynP.rowN js = SynP.whole 8 (SynP.solidN fl) := by rw [← HFe.out]; rfl
      rw [e3]
      refine Lies.mono (fun k hk _ => ?_) _ _ e2
      rcases hk with ⟨⟨h1, h2⟩, _⟩ | h1
      · exact .inl ⟨h1, by rw [HVe.out]; exact h2⟩
      · exact .inr (by rw [HVe.out]; rw [HS0.out] at h1; omega)

end Go.Proofs.YtblkejnckbeieaaGreatDoor
