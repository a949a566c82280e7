/- Chapter 10: the parser of patterns: brackets, whatever they are; alternatives, rows and atoms, whatever the text; Parse.
  Chapter 10: a tree's kids in memory.
  Chapter 10: Parse at a text of bytes below 128; a tree's kids in memory.
  '==' and '!=' between two faults.
  Chapter 10: a set's size and members; what a law holds behind Parse.
  Chapter 11: the text of a tree and its size, in plain Lean; a class' text is handed in.
  Chapter 10: a quantifier of two numbers behind one letter: in plain Lean.
  Chapter 11: rows of plain signs, and brackets in brackets, read by the plain parser. -/
import Derived.Test.YtblkejnckbeieaaGreatDoorZj16
import Derived.Test.YtblkejnckbeieaaGreatDoorZj17
import Derived.Test.YtblkejnckbeieaaGreatDoorZj18
import Derived.Test.YtblkejnckbeieaaGreatDoorZj19
import Derived.Test.YtblkejnckbeieaaGreatDoorZj24
import Derived.Test.YtblkejnckbeieaaGreatDoorZj8
import Derived.Test.YtblkejnckbeieaaGreatDoorZj1
import Derived.KernelRfl
import Derived.WalkSpells
namespace Go.Proofs.YtblkejnckbeieaaGreatDoor
open Go.RowKit SetPure

theorem brk_any (m : Nat) (ha : AltsC m) : BrkC (m + 1) := by
  intro s w X p hsc hps hat h40 hn hnn
  have HSc := Lib.hid hsc
  rw [goS_brk _ _ _ h40]
  by_cases h32 : 32 ≤ s.opn.length
  · rw [if_pos h32]
    exact brk_full s w X p HSc hps hat hn h32
  rw [if_neg h32]
  by_cases h63 : SynP.pk X.rs (s.at_ + 1) = 63
  · rw [if_pos h63]
    by_cases h80 : SynP.pk X.rs (s.at_ + 2) = 80
    · rw [if_pos h80]
      cases hnm : SynP.name X.rs s.names s.at_ (s.at_ + 3) with
      | bad e k => exact brk_name_bad s w X p HSc hps hat hn h32 h63 h80 e k hnm
      | ok x =>
        obtain ⟨nm, j⟩ := x
        have hj := SynP.name_at hnm
        exact brk_name s w X p HSc hps hat hn nm j _ rfl m ha hnn h32 h63 h80 hnm hj.1 hj.2
    · rw [if_neg h80]
      cases hfl : SynP.flags X.rs s.at_ (X.rs.length + 1) true false s.fl [] [] (s.at_ + 2) with
      | bad e k => exact brk_flags_bad s w X p HSc hps hat hn h32 h63 h80 e k hfl
      | ok x =>
        obtain ⟨b, f, j⟩ := x
        have hj := SynP.flags_at _ _ _ _ _ _ _ hfl
        cases b with
        | false => exact brk_flags_no s w X p HSc hps hat hn h32 h63 h80 f j hfl hj.1
        | true => exact brk_flags_yes s w X p HSc hps hat hn f j _ rfl m ha hnn h32 h63 h80 hfl hj.1 hj.2
  · rw [if_neg h63]
    exact brk_group s w X p HSc hps hat hn _ rfl m ha hnn h32 h63

theorem all_any (n : Nat) : AltsC n ∧ RowC n ∧ AtomC n := by
  induction n using Nat.strongRecOn with
  | _ n ih =>
    refine ⟨alts_any n fun m hm => (ih m hm).2.1, row_any n fun m hm => (ih m hm).2.2, ?_⟩
    cases n with
    | zero =>
      intro s w X p _ _ hat hn
      exact absurd hn (by omega)
    | succ n => exact atom_any n (brk_any n (ih n (Nat.lt_succ_self n)).1)

/-- Parse, whatever the text. -/
theorem parse_any (d : ByteArray) (f : SynP.Fl) (w : World) : Calls Tryz.prog 11 #[.string d, .agg #[.bool f.fold, .bool f.lines, .bool f.dot, .bool f.lazy]] w fun e w' => PatEnd w (parseT d f) e w' :=
  parse_from d f w fun n => (all_any n).1

end Go.Proofs.YtblkejnckbeieaaGreatDoor

namespace Go.Proofs.YtblkejnckbeieaaGreatDoor
open Go.RowKit SetPure

theorem LiesL.nth {w : World} {A : Nat → Prop} : ∀ (js : List SynP.Nd) (rs : List RawN), rs.length = js.length → LiesL w A js rs → ∀ i (hi : i < js.length) (hr : i < rs.length), Lies w A js[i] rs[i]
  | [], _, _, _, i, hi, _ => absurd hi (by simp)
  | _ :: _, [], h, _, _, _, _ => by simp at h
  | j :: js, r :: rs, h, hl, 0, _, _ => by unfold LiesL at hl; exact hl.1
  | j :: js, r :: rs, h, hl, i + 1, hi, hr => by
    unfold LiesL at hl
    exact LiesL.nth js rs (by simpa using h) hl.2 i (by simpa using hi) (by simpa using hr)
/-- A kid of a tree in memory. -/
theorem KidsAt.nth {w : World} {A : Nat → Prop} {ad : Option Addr} {l : List RawN} (h : KidsAt w A ad l) (hn : 0 < l.length) : ∃ b off, ad = some ⟨b, off, none⟩ ∧ b < w.heap.size ∧ ∀ i (hi : i < l.length) (o : Nat), o < 9 → w.cell? ⟨b, off + (i * 9 + o), none⟩ = some (l[i].cells.getD o undef) := by
  obtain ⟨b, off, e, _, ⟨cs, fz, ht⟩, hc⟩ := h hn
  refine ⟨b, off, e, (Array.getElem?_eq_some_iff.1 ht).1, fun i hi o ho => ?_⟩
  rw [hc (i * 9 + o) (by omega)]
  rw [List.getD_eq_getElem?_getD, List.getD_eq_getElem?_getD]
  exact congrArg (fun x => some (x.getD undef)) (Enode.flat_at l i hi o ho)
theorem Lies.kids {w : World} {A : Nat → Prop} {kind : Nat} {set : Option (Int → Bool)} {fold : Bool} {least most : Int} {lazy : Bool} {cap : Nat} {name : List UInt8} {kids : List SynP.Nd} {r : RawN} (h : Lies w A (.mk kind set fold least most lazy cap name kids) r) :
    r.kn = kids.length ∧ ∃ rs : List RawN, rs.length = kids.length ∧ KidsAt w A r.kA rs ∧ LiesL w A kids rs := by
  unfold Lies at h
  exact ⟨h.2.2.2.2.2.2.2.2.1, h.2.2.2.2.2.2.2.2.2.2.2⟩
theorem below_two (w2 : World) (x y : Obj) : Below w2.heap.size w2 ((w2.alloc x).alloc y) := ((Below.refl _ w2).alloc (Nat.le_refl _) _).alloc (by simp) _
theorem str_size_ (l : List UInt8) : (str l).size = l.length := by simp [str, ByteArray.size]
theorem str_app_ (a b : List UInt8) : str a ++ str b = str (a ++ b) := by
  have h : (str a ++ str b).data = (str (a ++ b)).data := by rw [ByteArray.data_append]; simp [str]
  exact congrArg ByteArray.mk h

end Go.Proofs.YtblkejnckbeieaaGreatDoor

namespace Go.Proofs.YtblkejnckbeieaaGreatDoor
open Go.RowKit

abbrev f0 : SynP.Fl := ⟨false, false, false, false⟩
/-- A text's bytes as numbers. -/
def nat_ (l : List UInt8) : List Int := l.map fun c => (c.toNat : Int)
theorem runes_asc : ∀ (l : List UInt8), (∀ c ∈ l, c.toNat < 128) → DecP.runes l = nat_ l
  | [], _ => DecP.runes_nil
  | c :: t, h => by
    rw [DecP.runes_ascii t (h c List.mem_cons_self), runes_asc t fun x hx => h x (List.mem_cons_of_mem _ hx)]
    rfl
theorem bad_asc : ∀ (l : List UInt8) (i : Nat), (∀ c ∈ l, c.toNat < 128) → DecP.badAt l i = none
  | [], i, _ => DecP.badAt_nil i
  | c :: t, i, h => by
    have h1 := DecP.one_ascii t (h c List.mem_cons_self)
    rw [DecP.badAt_good (List.cons_ne_nil _ _) (by rw [h1]; show ¬ (c.toNat : Int) < 0; omega), h1]
    exact bad_asc t _ fun x hx => h x (List.mem_cons_of_mem _ hx)
theorem places_asc : ∀ (l : List UInt8) (i : Nat), (∀ c ∈ l, c.toNat < 128) → DecP.places l i = (List.range' i l.length).map fun k : Nat => (k : Int)
  | [], i, _ => DecP.places_nil i
  | c :: t, i, h => by
    have h1 := DecP.one_ascii t (h c List.mem_cons_self)
    rw [DecP.places_cons (List.cons_ne_nil _ _), h1]
    show (i : Int) :: DecP.places t (i + 1) = _
    rw [places_asc t _ fun x hx => h x (List.mem_cons_of_mem _ hx)]
    rfl
theorem mark_asc (l : List UInt8) (h : ∀ c ∈ l, c.toNat < 128) : markN (str l) = 0 := by
  unfold markN
  rw [if_neg]
  intro hp
  have h2 : [239, 187, 191] <+: l := List.isPrefixOf_iff_prefix.1 hp
  cases l with
  | nil => cases h2.length_le
  | cons c t =>
    have h3 := h c List.mem_cons_self
    have h4 := (List.cons_prefix_cons.1 h2).1
    rw [← h4] at h3
    exact absurd h3 (by decide)
/-- Parse, of bytes below 128. -/
def ascR (n : Nat) : SynP.R (Option SynP.Nd × SynP.St) → PRes
  | .bad c k => .bad c (if k ≤ n then (k : Int) else 0)
  | .ok (some nd, s) => .ok nd s.names
  | .ok (none, _) => .bad 0 0
theorem parseT_asc (l : List UInt8) (f : SynP.Fl) (h : ∀ c ∈ l, c.toNat < 128) (hl : l.length ≤ 1024) : parseT (str l) f = ascR l.length (SynP.parse (nat_ l) clsT perlT f) := by
  have hB : patB (str l) = l := by
    unfold patB
    rw [mark_asc l h]
    rfl
  have hsz : (str l).size = l.length := by show l.toArray.size = l.length; simp
  unfold parseT
  rw [if_neg (by rw [hsz]; omega), hB, mark_asc l h, bad_asc l 0 h]
  unfold patRs
  rw [hB, runes_asc l h]
  cases SynP.parse (nat_ l) clsT perlT f with
  | bad c k =>
    show PRes.bad c ((patPl (str l)).getD k 0) = _
    unfold ascR patPl
    rw [hB, mark_asc l h, places_asc l 0 h, hsz]
    congr 1
    rw [List.getD_eq_getElem?_getD]
    rcases Nat.lt_trichotomy k l.length with hk | hk | hk
    · rw [List.getElem?_append_left (by simpa using hk), if_pos (by omega)]
      simp [hk]
    · subst hk
      rw [List.getElem?_append_right (by simp), if_pos (Nat.le_refl _)]
      simp
    · rw [List.getElem?_eq_none (by simp; omega), if_neg (by omega)]
      rfl
  | ok x =>
    obtain ⟨x, s⟩ := x
    cases x <;> rfl

end Go.Proofs.YtblkejnckbeieaaGreatDoor

namespace Go.Proofs.YtblkejnckbeieaaGreatDoor
open Go.RowKit

/-- Are two faults the same? -/
def faultEq (a b c d : Int) : Bool := a == c && b == d
theorem faultEq_iff (a b c d : Int) : faultEq a b c d = true ↔ a = c ∧ b = d := by simp [faultEq]
theorem faultEq_same (a b : Int) : faultEq a b a b = true := by simp [faultEq]
theorem faultEq_code {a b c d : Int} (h : a ≠ c) : faultEq a b c d = false := by simp [faultEq, h]
theorem stood_fault : Tryz.prog.stoodInHeld 35 = false := by kernel_rfl
@[go_sem] theorem guard_fault (op : BinOp) (x y : Operand) (xs ys : Array Value) (w : World) : (eqGuard op 35 x y (.agg xs) (.agg ys)).run Tryz.prog w = .ok () w := run_eqGuard_agg w op _ x y xs ys (by kernel_rfl)
theorem eq_fault (a b c d : Int) (w : World) : (Op.equalIn 10000 35 (.agg #[.int .i64 a, .int .i64 b]) (.agg #[.int .i64 c, .int .i64 d])).run Tryz.prog w = .ok (faultEq a b c d) w := by
  have u3 := Tryz.underlying3
  have a3 := Tryz.isAgg3
  have z3 := Tryz.sizeOf3
  have u4 := Tryz.underlying33
  have a4 := Tryz.isAgg33
  have z4 := Tryz.sizeOf33
  have hS : Tryz.prog.underlying 35 = some (.struct (Tryz.prog.fieldsOf 35)) := by kernel_rfl
  rw [show (10000 : Nat) = 9999 + 1 from rfl, run_equalIn_agg w 9999 35 _ _ hS stood_fault]
  simp only [Program.fieldsOf, Tryz.underlying35]
  go_simp
  by_cases h1 : a = c <;> by_cases h2 : b = d <;> simp [faultEq, h1, h2]
@[go_sem ↓] theorem neq_fault (a b c d : Int) (w : World) : (binOp .neq 35 (.agg #[.int .i64 a, .int .i64 b]) (.agg #[.int .i64 c, .int .i64 d])).run Tryz.prog w = .ok (.bool (!faultEq a b c d)) w := by
  rw [run_neq_struct, eq_fault]; rfl
@[go_sem ↓] theorem eql_fault (a b c d : Int) (w : World) : (binOp .eql 35 (.agg #[.int .i64 a, .int .i64 b]) (.agg #[.int .i64 c, .int .i64 d])).run Tryz.prog w = .ok (.bool (faultEq a b c d)) w := by
  rw [run_eql_struct, eq_fault]; rfl

end Go.Proofs.YtblkejnckbeieaaGreatDoor

namespace Go.Proofs.YtblkejnckbeieaaGreatDoor
open Go.RowKit SetPure

/-- What a law holds behind Parse: the pattern's box and the fault's. -/
structure PatS (w W : World) (P : Nat) (pc fc : Array Value) : Prop where
  bel : Below w.heap.size w W
  pat : W.heap[P]? = some (.cells pc 32)
  flt : W.heap[P + 1]? = some (.cells fc 35)
  hP : w.heap.size ≤ P
theorem PatS.start {w w2 : World} {P : Nat} {pc fc : Array Value} (hb : Below w.heap.size w w2) (hP : w2.heap.size = P) : PatS w ((w2.alloc (.cells pc 32)).alloc (.cells fc 35)) P pc fc := by
  subst hP
  refine ⟨(hb.alloc hb.size _).alloc (Nat.le_trans hb.size (by simp)) _, (Below.heap_alloc _ _ _ (by simp)).trans (heap_alloc_new w2 _), ?_, hb.size⟩
  have := heap_alloc_new (w2.alloc (.cells pc 32)) (.cells fc 35)
  rw [World.size_alloc] at this
  exact this
theorem PatS.below {w W W' : World} {P : Nat} {pc fc : Array Value} (h : PatS w W P pc fc) (k : Below W.heap.size W W') : PatS w W' P pc fc :=
  ⟨h.bel.trans (k.mono h.bel.size), (k.block P (Array.getElem?_eq_some_iff.1 h.pat).1).trans h.pat, (k.block _ (Array.getElem?_eq_some_iff.1 h.flt).1).trans h.flt, h.hP⟩
theorem PatS.pcell {w W : World} {P : Nat} {pc fc : Array Value} (h : PatS w W P pc fc) (o : Nat) : W.cell? ⟨P, o, none⟩ = pc[o]? := Lib.cell_of_heap h.pat o
theorem PatS.fcell {w W : World} {P : Nat} {pc fc : Array Value} (h : PatS w W P pc fc) (o : Nat) : W.cell? ⟨P + 1, o, none⟩ = fc[o]? := Lib.cell_of_heap h.flt o
section
variable {w W V : World} {P : Nat} {pc fc : Array Value}
theorem PatS.setP (h : PatS w W P pc fc ∧ KeepR V W) (o : Nat) (u : Value) : PatS w (W.setCell ⟨P, o, none⟩ u) P (pc.setIfInBounds o u) fc ∧ KeepR V (W.setCell ⟨P, o, none⟩ u) := by
  obtain ⟨h, k⟩ := h
  refine ⟨⟨h.bel.setCell (p := ⟨P, o, none⟩) h.hP _, ?_, (Below.heap_setCell _ ⟨P, o, none⟩ _ _ (by show ¬ P + 1 = P; omega)).trans h.flt, h.hP⟩, k.step (StandN.other (A := fun _ => False) o u h.pat (by decide) (by decide)).keep⟩
  simp only [World.setCell, Array.getElem?_modify, if_true, h.pat, Option.map_some]
  rfl
theorem PatS.setF (h : PatS w W P pc fc ∧ KeepR V W) (o : Nat) (u : Value) : PatS w (W.setCell ⟨P + 1, o, none⟩ u) P pc (fc.setIfInBounds o u) ∧ KeepR V (W.setCell ⟨P + 1, o, none⟩ u) := by
  obtain ⟨h, k⟩ := h
  refine ⟨⟨h.bel.setCell (p := ⟨P + 1, o, none⟩) (Nat.le_trans h.hP (Nat.le_succ _)) _, (Below.heap_setCell _ ⟨P + 1, o, none⟩ _ _ (by show ¬ P = P + 1; omega)).trans h.pat, ?_, h.hP⟩, k.step (StandN.other (A := fun _ => False) o u h.flt (by decide) (by decide)).keep⟩
  simp only [World.setCell, Array.getElem?_modify, if_true, h.flt, Option.map_some]
  rfl
/-- The pattern's box and the fault's are stored anew. -/
theorem PatS.all {a0 a1 a2 a3 a4 a5 a6 a7 a8 a9 c0 c1 : Value} (h : PatS w W P #[a0, a1, a2, a3, a4, a5, a6, a7, a8, a9] #[c0, c1]) (b0 b1 b2 b3 b4 b5 b6 b7 b8 b9 d0 d1 : Value) : PatS w ((((((((((((W.setCell ⟨P, 0, none⟩ b0).setCell ⟨P, 1, none⟩ b1).setCell ⟨P, 2, none⟩ b2).setCell ⟨P, 3, none⟩ b3).setCell ⟨P, 4, none⟩ b4).setCell ⟨P, 5, none⟩ b5).setCell ⟨P, 6, none⟩ b6).setCell ⟨P, 7, none⟩ b7).setCell ⟨P, 8, none⟩ b8).setCell ⟨P, 9, none⟩ b9).setCell ⟨P + 1, 0, none⟩ d0).setCell ⟨P + 1, 1, none⟩ d1) P #[b0, b1, b2, b3, b4, b5, b6, b7, b8, b9] #[d0, d1] ∧ KeepR W ((((((((((((W.setCell ⟨P, 0, none⟩ b0).setCell ⟨P, 1, none⟩ b1).setCell ⟨P, 2, none⟩ b2).setCell ⟨P, 3, none⟩ b3).setCell ⟨P, 4, none⟩ b4).setCell ⟨P, 5, none⟩ b5).setCell ⟨P, 6, none⟩ b6).setCell ⟨P, 7, none⟩ b7).setCell ⟨P, 8, none⟩ b8).setCell ⟨P, 9, none⟩ b9).setCell ⟨P + 1, 0, none⟩ d0).setCell ⟨P + 1, 1, none⟩ d1) := by
  have h2 := (PatS.setF (PatS.setF (PatS.setP (PatS.setP (PatS.setP (PatS.setP (PatS.setP (PatS.setP (PatS.setP (PatS.setP (PatS.setP (PatS.setP ⟨h, KeepR.rfl_ W⟩ 0 b0) 1 b1) 2 b2) 3 b3) 4 b4) 5 b5) 6 b6) 7 b7) 8 b8) 9 b9) 0 d0) 1 d1)
  simp only [List.setIfInBounds_toArray, List.set_cons_zero, List.set_cons_succ] at h2
  exact h2
end
end Go.Proofs.YtblkejnckbeieaaGreatDoor

namespace Go.Proofs.YtblkejnckbeieaaGreatDoor.SynP

def Nd.kind : Nd → Nat
  | .mk k _ _ _ _ _ _ _ _ => k
/-- A text, in brackets if its kind is one of some. -/
def wrapT (ks : List Nat) (x : Nat × List UInt8) : List UInt8 := if x.1 ∈ ks then [40, 63, 58] ++ x.2 ++ [41] else x.2
/-- Texts with a stroke between. -/
def barT : List (List UInt8) → List UInt8
  | [] => []
  | [x] => x
  | x :: l => x ++ 124 :: barT l
section
variable (dec : Int → List UInt8) (T : (Int → Bool) → List UInt8)
/-- A quantifier's text. -/
def timesT_ (least most : Int) (lazy : Bool) : List UInt8 :=
  (if least = 0 ∧ most = -1 then [42] else if least = 1 ∧ most = -1 then [43] else if least = 0 ∧ most = 1 then [63]
   else if least = most then 123 :: (dec least ++ [125]) else if most = -1 then 123 :: (dec least ++ [44, 125]) else 123 :: (dec least ++ 44 :: (dec most ++ [125]))) ++ (if lazy then [63] else [])
def emptyT : List UInt8 := [40, 63, 58, 41]
def headT : List (Nat × List UInt8) → Nat × List UInt8
  | [] => (0, emptyT)
  | x :: _ => x
mutual
def showN : Nd → List UInt8
  | .mk kind set fold least most lazy _ name kids =>
    if kind = 0 then emptyT
    else if kind = 1 then
      let t := match set with | none => T (fun _ => false) | some f => T f
      if fold then [40, 63, 105, 58] ++ t ++ [41] else t
    else if kind = 2 then [92, 65]
    else if kind = 3 then [92, 122]
    else if kind = 4 then [40, 63, 109, 58, 94, 41]
    else if kind = 5 then [40, 63, 109, 58, 36, 41]
    else if kind = 6 then [92, 98]
    else if kind = 7 then [92, 66]
    else if kind = 8 then (textsL kids).flatMap (wrapT [8, 9])
    else if kind = 9 then barT ((textsL kids).map (wrapT [9]))
    else if kind = 10 then wrapT [8, 9, 10] (headT (textsL kids)) ++ timesT_ dec least most lazy
    else if kind = 11 then
      if name ≠ [] then [40, 63, 80, 60] ++ name ++ [62] ++ (headT (textsL kids)).2 ++ [41] else 40 :: ((headT (textsL kids)).2 ++ [41])
    else []
def textsL : List Nd → List (Nat × List UInt8)
  | [] => []
  | x :: l => (x.kind, showN x) :: textsL l
end
theorem textsL_map : ∀ l : List Nd, textsL dec T l = l.map fun x => (x.kind, showN dec T x)
  | [] => by simp [textsL]
  | x :: l => by simp [textsL, textsL_map l]
end
mutual
/-- How many nodes. -/
def sizeA : Nd → Nat
  | .mk _ _ _ _ _ _ _ _ kids => 1 + sizeAL kids
def sizeAL : List Nd → Nat
  | [] => 0
  | x :: l => sizeA x + sizeAL l
end
mutual
/-- How deep. -/
def sizeD : Nd → Nat
  | .mk _ _ _ _ _ _ _ _ kids => 1 + sizeDL kids
def sizeDL : List Nd → Nat
  | [] => 0
  | x :: l => max (sizeD x) (sizeDL l)
end
end Go.Proofs.YtblkejnckbeieaaGreatDoor.SynP

namespace Go.Proofs.YtblkejnckbeieaaGreatDoor.SynP

variable {rs : List Int} {cls : List UInt8 → Option (Int → Bool)} {perl : Int → Option (Int → Bool)}

theorem pk_drop {i : Nat} {c : Int} {t : List Int} (h : rs.drop i = c :: t) : pk rs i = c := by
  have h1 : (rs.drop i)[0]? = some c := by rw [h]; rfl
  rw [List.getElem?_drop, Nat.add_zero] at h1
  unfold pk
  rw [List.getD_eq_getElem?_getD, h1]
  rfl
theorem drop_next {i : Nat} {c : Int} {t : List Int} (h : rs.drop i = c :: t) : rs.drop (i + 1) = t := by
  rw [← List.drop_drop, h]
  rfl
theorem pk_end {i : Nat} (h : rs.drop i = []) : pk rs i = -1 := by
  have : rs.length ≤ i := by
    have := congrArg List.length h
    simp at this
    omega
  unfold pk
  rw [List.getD_eq_getElem?_getD, List.getElem?_eq_none this]
  rfl
/-- Digits, up to something that is none. -/
theorem digs_run : ∀ (ds : List Int) (f : Nat) (n : Int) (i : Nat) (c : Int) (t : List Int), rs.drop i = ds ++ c :: t → (∀ d ∈ ds, 48 ≤ d ∧ d ≤ 57) → ¬ (48 ≤ c ∧ c ≤ 57) → ds.length ≤ f →
    digs rs f n i = (ds.foldl (fun n c => 10 * n + c - 48) n, i + ds.length)
  | [], 0, n, i, c, t, _, _, _, _ => rfl
  | [], f + 1, n, i, c, t, h, _, hc, _ => by
    unfold digs
    rw [pk_drop h, if_neg hc]
    rfl
  | d :: ds, 0, n, i, c, t, _, _, _, hf => by simp at hf
  | d :: ds, f + 1, n, i, c, t, h, hd, hc, hf => by
    unfold digs
    rw [pk_drop h, if_pos (hd d List.mem_cons_self), digs_run ds f _ (i + 1) c t (drop_next h) (fun x hx => hd x (List.mem_cons_of_mem _ hx)) hc (by simpa using hf)]
    simp only [List.foldl_cons, List.length_cons, Prod.mk.injEq, true_and]
    omega

/-- The digits of a number below 1000. -/
def dec3 (n : Nat) : List Int := if n < 10 then [48 + (n : Int)] else if n < 100 then [48 + (n / 10 : Nat), 48 + (n % 10 : Nat)] else [48 + (n / 100 : Nat), 48 + (n / 10 % 10 : Nat), 48 + (n % 10 : Nat)]
theorem dec3_ok (n : Nat) (h : n < 1000) : (∀ d ∈ dec3 n, 48 ≤ d ∧ d ≤ 57) ∧ (dec3 n).foldl (fun n c => 10 * n + c - 48) (0 : Int) = n ∧ 1 ≤ (dec3 n).length ∧ (dec3 n).length ≤ 3 := by
  unfold dec3
  split
  · refine ⟨fun d hd => ?_, ?_, by simp, by simp⟩
    · simp at hd; omega
    · simp; omega
  split
  · refine ⟨fun d hd => ?_, ?_, by simp, by simp⟩
    · simp at hd; omega
    · simp; omega
  · refine ⟨fun d hd => ?_, ?_, by simp, by simp⟩
    · simp at hd; omega
    · simp; omega

/-- The text x{a,b} with or without a mark behind it. -/
def timesText (a b : Nat) (z : Bool) : List Int := [120, 123] ++ dec3 a ++ [44] ++ dec3 b ++ [125] ++ (if z then [63] else [])

theorem times_read (a b : Nat) (z : Bool) (ha : a < 1000) (hb : b < 1000) (hrs : rs = timesText a b z) :
    times rs 1 = some ((a : Int), (b : Int), 4 + (dec3 a).length + (dec3 b).length) ∧ rs.drop (4 + (dec3 a).length + (dec3 b).length) = (if z then [63] else []) := by
  obtain ⟨a1, a2, a3, a4⟩ := dec3_ok a ha
  obtain ⟨b1, b2, b3, b4⟩ := dec3_ok b hb
  have d1 : rs.drop 1 = 123 :: (dec3 a ++ 44 :: (dec3 b ++ 125 :: (if z then [63] else []))) := by rw [hrs]; simp [timesText]
  have d2 := drop_next d1
  have e1 := digs_run (rs := rs) (dec3 a) 4 0 (1 + 1) 44 _ d2 a1 (by decide) (by omega)
  rw [a2] at e1
  have d3 : rs.drop (1 + 1 + (dec3 a).length) = 44 :: (dec3 b ++ 125 :: (if z then [63] else [])) := by
    rw [← List.drop_drop, d2]; simp
  have d4 := drop_next d3
  have e2 := digs_run (rs := rs) (dec3 b) 4 0 (1 + 1 + (dec3 a).length + 1) 125 _ d4 b1 (by decide) (by omega)
  rw [b2] at e2
  have d5 : rs.drop (1 + 1 + (dec3 a).length + 1 + (dec3 b).length) = 125 :: (if z then [63] else []) := by
    rw [← List.drop_drop, d4]; simp
  have d6 := drop_next d5
  have hj : 1 + 1 + (dec3 a).length + 1 + (dec3 b).length + 1 = 4 + (dec3 a).length + (dec3 b).length := by omega
  rw [hj] at d6
  refine ⟨?_, d6⟩
  unfold times
  have p1 := pk_drop d1
  have n1 : ¬ 1 + 1 + (dec3 a).length = 1 + 1 := by omega
  have n2 : ¬ 1 + 1 + (dec3 a).length + 1 + (dec3 b).length = 1 + 1 + (dec3 a).length + 1 := by omega
  rw [if_neg (by rw [p1]; decide), if_neg (by rw [p1]; decide), if_neg (by rw [p1]; decide), if_neg (by rw [p1]; decide)]
  simp only [e1]
  rw [if_neg n1, if_pos (pk_drop d3)]
  simp only [e2]
  rw [if_pos (pk_drop d5), if_neg n2, hj]

theorem pk0 (a b : Nat) (z : Bool) (hrs : rs = timesText a b z) : pk rs 0 = 120 := by
  rw [hrs]; rfl
/-- The plain law of SyntaxTimes. -/
theorem times_parse (a b : Nat) (z : Bool) (ha : a < 1000) (hb : b < 1000) (hrs : rs = timesText a b z) :
    parse rs cls perl ⟨false, false, false, false⟩ = if 64 < a ∨ 64 < b ∨ b < a then .bad 23 1 else .ok (some (.rep a b z (.cls (one 120) false)), ⟨rs.length, [], [[]], ⟨false, false, false, false⟩⟩) := by
  obtain ⟨h1, h2⟩ := times_read (rs := rs) a b z ha hb hrs
  have p0 := pk0 a b z hrs
  have p1 : pk rs 1 = 123 := by rw [hrs]; rfl
  obtain ⟨j, hj⟩ : ∃ j, 4 + (dec3 a).length + (dec3 b).length = j := ⟨_, rfl⟩
  rw [hj] at h1 h2
  have hL : rs.length = j + (if z then 1 else 0) := by
    rw [hrs]
    cases z <;> simp [timesText] <;> omega
  obtain ⟨m, hm⟩ : ∃ m, 4 * rs.length + 8 = m + 6 := ⟨4 * rs.length + 2, by omega⟩
  have t0 : times rs 0 = none := by
    unfold times
    simp [p0]
  have hat : go rs cls perl (m + 4) .atom ⟨0, [], [[]], ⟨false, false, false, false⟩⟩ = .ok (some (.cls (one 120) false), ⟨1, [], [[]], ⟨false, false, false, false⟩⟩) := by
    rw [go]
    simp [p0]
  have hend : ∀ l : List Nd, pk rs rs.length = -1 := fun _ => by
    unfold pk
    simp
  have hrow2 : ∀ (l : List Nd), go rs cls perl (m + 3) (.row l false) ⟨rs.length, [], [[]], ⟨false, false, false, false⟩⟩ = .ok (some (whole 8 l), ⟨rs.length, [], [[]], ⟨false, false, false, false⟩⟩) := by
    intro l
    rw [go]
    simp [hend l]
  have hq : (if pk rs j = 63 then j + 1 else j) = rs.length ∧ decide (pk rs j = 63) = z := by
    cases z with
    | true => rw [pk_drop (by simpa using h2)]; simp [hL]
    | false => rw [pk_end (by simpa using h2)]; simp [hL]
  have hrow1 : go rs cls perl (m + 4) (.row [.cls (one 120) false] true) ⟨1, [], [[]], ⟨false, false, false, false⟩⟩ = if 64 < a ∨ 64 < b ∨ b < a then .bad 23 1 else .ok (some (.rep a b z (.cls (one 120) false)), ⟨rs.length, [], [[]], ⟨false, false, false, false⟩⟩) := by
    rw [go]
    simp only [p1, h1, hq.1]
    rw [if_neg (by decide), if_neg (by decide), if_neg (by decide)]
    by_cases hc : 64 < a ∨ 64 < b ∨ b < a
    · rw [if_pos hc, if_pos (by omega)]
    · rw [if_neg hc, if_neg (by omega), hrow2]
      simp [whole, hq.2]
  have hrow0 : go rs cls perl (m + 5) (.row [] false) ⟨0, [], [[]], ⟨false, false, false, false⟩⟩ = if 64 < a ∨ 64 < b ∨ b < a then .bad 23 1 else .ok (some (.rep a b z (.cls (one 120) false)), ⟨rs.length, [], [[]], ⟨false, false, false, false⟩⟩) := by
    rw [go]
    simp only [p0, t0, hat]
    rw [if_neg (by decide), if_neg (by decide)]
    exact hrow1
  unfold parse
  rw [hm, go, hrow0]
  by_cases hc : 64 < a ∨ 64 < b ∨ b < a
  · rw [if_pos hc]
  · rw [if_neg hc]
    simp only [hend [], Option.toList, List.nil_append, whole]
    rw [if_neg (by decide)]
end Go.Proofs.YtblkejnckbeieaaGreatDoor.SynP

namespace Go.Proofs.YtblkejnckbeieaaGreatDoor.SynP

variable {rs : List Int} {cls : List UInt8 → Option (Int → Bool)} {perl : Int → Option (Int → Bool)}

def f0_ : Fl := ⟨false, false, false, false⟩
/-- A digit or a letter. -/
def alnum (c : Int) : Prop := 48 ≤ c ∧ c ≤ 57 ∨ 65 ≤ c ∧ c ≤ 90 ∨ 97 ≤ c ∧ c ≤ 122
theorem atom_plain {c : Int} (hc : alnum c) (n : Nat) (s : St) (h : pk rs s.at_ = c) : go rs cls perl (n + 1) .atom s = .ok (some (.cls (one c) s.fl.fold), { s with at_ := s.at_ + 1 }) := by
  unfold alnum at hc
  rw [go]
  simp only [h]
  rw [if_neg (by omega), if_neg (by omega), if_neg (by omega), if_neg (by omega), if_neg (by omega), if_neg (by omega)]
theorem times_plain {c : Int} (hc : alnum c) {i : Nat} (h : pk rs i = c) : times rs i = none := by
  unfold alnum at hc
  unfold times
  rw [h, if_neg (by omega), if_neg (by omega), if_neg (by omega), if_pos (by omega)]
/-- A row of plain signs, up to the end or a closing bracket. -/
theorem row_plain (opn : List Nat) (names : List (List UInt8)) (t : List Int) (ht : t = [] ∨ (opn ≠ [] ∧ ∃ u, t = 41 :: u)) : ∀ (cs : List Int) (n : Nat) (l : List Nd) (so : Bool) (i : Nat), (∀ c ∈ cs, alnum c) → rs.drop i = cs ++ t → cs.length < n →
    go rs cls perl n (.row l so) ⟨i, opn, names, f0_⟩ = .ok (some (whole 8 (l ++ cs.map fun c => .cls (one c) false)), ⟨i + cs.length, opn, names, f0_⟩)
  | [], 0, _, _, _, _, _, hn => absurd hn (Nat.lt_irrefl _)
  | [], n + 1, l, so, i, _, h, _ => by
    rw [go]
    rcases ht with rfl | ⟨ho, u, rfl⟩
    · simp [pk_end (rs := rs) (i := i) h]
    · simp [pk_drop (rs := rs) (i := i) h, ho]
  | c :: cs, 0, _, _, _, _, _, hn => absurd hn (Nat.not_lt_zero _)
  | c :: cs, n + 1, l, so, i, hc, h, hn => by
    have h1 := hc c List.mem_cons_self
    have hp : pk rs i = c := pk_drop h
    have ha : ∃ m, n = m + 1 := ⟨n - 1, by simp at hn; omega⟩
    obtain ⟨m, rfl⟩ := ha
    rw [go]
    simp only [hp, times_plain h1 hp, atom_plain (cls := cls) (perl := perl) h1 m ⟨i, opn, names, f0_⟩ hp]
    have h2 := h1
    unfold alnum at h2
    rw [if_neg (by omega), if_neg (by omega)]
    have := row_plain opn names t ht cs (m + 1) (l ++ [Nd.cls (one c) false]) true (i + 1) (fun x hx => hc x (List.mem_cons_of_mem _ hx)) (drop_next h) (by simpa using hn)
    simp only [Option.toList_some, Option.isSome_some, f0_] at this ⊢
    rw [this]
    simp
    omega
/-- The plain law of ShowPlain. -/
theorem plain_parse (hc : ∀ c ∈ rs, alnum c) : parse rs cls perl f0_ = .ok (some (whole 8 (rs.map fun c => .cls (one c) false)), ⟨rs.length, [], [[]], f0_⟩) := by
  unfold parse
  have e : 4 * rs.length + 8 = (4 * rs.length + 7) + 1 := by omega
  rw [e, go, row_plain [] [[]] [] (.inl rfl) rs _ [] false 0 hc (by simp) (by omega)]
  have hend : pk rs (0 + rs.length) = -1 := by unfold pk; simp
  simp only [hend]
  rw [if_neg (by decide)]
  simp [whole]

/-- Groups in groups, from the k-th on. -/
def deepT : Nat → Nat → Nd
  | _, 0 => .cls (one 97) false
  | k, m + 1 => .grp k [] (deepT (k + 1) m)
def deepS (m : Nat) : List Int := List.replicate m 40 ++ 97 :: List.replicate m 41
theorem deepS_succ (m : Nat) : deepS (m + 1) = 40 :: (deepS m ++ [41]) := by
  unfold deepS
  rw [List.replicate_succ, List.replicate_succ' (n := m) (a := (41 : Int))]
  simp
theorem deep_run : ∀ (m n i : Nat) (opn : List Nat) (names : List (List UInt8)) (t : List Int), (t = [] ∨ (opn ≠ [] ∧ ∃ u, t = 41 :: u)) → rs.drop i = deepS m ++ t → opn.length + m ≤ 32 → 3 * m + 4 ≤ n →
    go rs cls perl n (.alts []) ⟨i, opn, names, f0_⟩ = .ok (some (deepT names.length m), ⟨i + 2 * m + 1, opn, names ++ List.replicate m [], f0_⟩)
  | 0, n, i, opn, names, t, ht, h, ho, hn => by
    obtain ⟨n, rfl⟩ : ∃ k, n = k + 1 := ⟨n - 1, by omega⟩
    have h' : rs.drop i = [97] ++ t := h
    have hd := drop_next (rs := rs) (i := i) h'
    rw [go, row_plain opn names t ht [97] n [] false i (by simp [alnum]) h' (by simp; omega)]
    have hp : pk rs (i + [(97 : Int)].length) ≠ 124 := by
      rcases ht with rfl | ⟨_, u, rfl⟩
      · rw [show i + [(97 : Int)].length = i + 1 from rfl, pk_end hd]; decide
      · rw [show i + [(97 : Int)].length = i + 1 from rfl, pk_drop hd]; decide
    simp only []
    rw [if_neg hp]
    simp [whole, deepT]
  | m + 1, n, i, opn, names, t, ht, h, ho, hn => by
    obtain ⟨n, rfl⟩ : ∃ k, n = k + 4 := ⟨n - 4, by omega⟩
    rw [deepS_succ] at h
    have h' : rs.drop i = 40 :: (deepS m ++ 41 :: t) := by rw [h]; simp
    have hd := drop_next h'
    have p0 := pk_drop h'
    have ih := deep_run m (n + 1) (i + 1) (opn ++ [i]) (names ++ [[]]) (41 :: t) (.inr ⟨by simp, t, rfl⟩) hd (by simp; omega) (by omega)
    have d2 : rs.drop (i + 1 + 2 * m + 1) = 41 :: t := by
      rw [show i + 1 + 2 * m + 1 = i + 1 + (deepS m).length by simp [deepS]; omega, ← List.drop_drop, hd]
      simp
    have p2 := pk_drop d2
    have d3 := drop_next d2
    have p1 : pk rs (i + 1) = 40 ∨ pk rs (i + 1) = 97 := by
      cases m with
      | zero => exact .inr (pk_drop hd)
      | succ m => rw [deepS_succ] at hd; exact .inl (pk_drop hd)
    have hat : go rs cls perl (n + 2) .atom ⟨i, opn, names, f0_⟩ = .ok (some (.grp names.length [] (deepT (names.length + 1) m)), ⟨i + 2 * (m + 1) + 1, opn, names ++ List.replicate (m + 1) [], f0_⟩) := by
      rw [go]
      simp only [p0]
      rw [if_pos trivial, if_neg (by omega), if_neg (by rcases p1 with h | h <;> rw [h] <;> decide)]
      simp only [ih, p2]
      rw [if_neg (by simp)]
      simp only [List.length_append, List.length_singleton, Option.map_some, List.dropLast_concat, List.append_assoc]
      congr 3
      all_goals first
        | omega
        | (rw [List.replicate_succ]; rfl)
        | rfl
    have hrow : go rs cls perl (n + 3) (.row [] false) ⟨i, opn, names, f0_⟩ = .ok (some (.grp names.length [] (deepT (names.length + 1) m)), ⟨i + 2 * (m + 1) + 1, opn, names ++ List.replicate (m + 1) [], f0_⟩) := by
      rw [go]
      have ht0 : times rs i = none := by unfold times; simp [p0]
      simp only [p0, ht0, hat]
      rw [if_neg (by decide), if_neg (by decide)]
      rw [row_plain opn (names ++ List.replicate (m + 1) []) t ht [] (n + 2) _ _ (i + 2 * (m + 1) + 1) (by simp) (by rw [List.nil_append, show i + 2 * (m + 1) + 1 = i + 1 + 2 * m + 1 + 1 by omega]; exact d3) (by simp)]
      simp [whole]
    have hp : pk rs (i + 2 * (m + 1) + 1) ≠ 124 := by
      rw [show i + 2 * (m + 1) + 1 = i + 1 + 2 * m + 1 + 1 by omega]
      rcases ht with rfl | ⟨_, u, rfl⟩
      · rw [pk_end d3]; decide
      · rw [pk_drop d3]; decide
    rw [go]
    simp only [hrow]
    rw [if_neg hp]
    simp [whole, deepT]
/-- The plain law of ShowDeep. -/
theorem deep_parse (m : Nat) (hm : m ≤ 32) (hrs : rs = deepS m) : parse rs cls perl f0_ = .ok (some (deepT 1 m), ⟨2 * m + 1, [], [[]] ++ List.replicate m [], f0_⟩) := by
  have hl : rs.length = 2 * m + 1 := by rw [hrs]; simp [deepS]; omega
  unfold parse
  rw [deep_run m _ 0 [] [[]] [] (.inl rfl) (by rw [hrs]; simp) (by simpa using hm) (by omega)]
  simp
end Go.Proofs.YtblkejnckbeieaaGreatDoor.SynP
