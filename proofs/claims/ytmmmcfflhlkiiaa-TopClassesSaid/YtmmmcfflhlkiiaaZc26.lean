/- Chapter 10: the parser of patterns: brackets, whatever they are; alternatives, rows and atoms, whatever the text; Parse.
  Chapter 10: Parse at a text of bytes below 128; a tree's kids in memory.
  '==' and '!=' between two faults.
  Chapter 10: a set's size and members; what a law holds behind Parse.
  Chapter 10: a quantifier of two numbers behind one letter: in plain Lean.
  Chapter 10: numbers by sixteen digits in a pattern: in plain Lean.
  The tops: a class that is written by its items, read by the plain parser.
  A number's digits of sixteen, in bytes. -/
import Derived.Test.YtmmmcfflhlkiiaaZc17
import Derived.Test.YtmmmcfflhlkiiaaZc18
import Derived.Test.YtmmmcfflhlkiiaaZc19
import Derived.Test.YtmmmcfflhlkiiaaZc20
import Derived.Test.YtmmmcfflhlkiiaaZc25
import Derived.Test.YtmmmcfflhlkiiaaZc1
import Derived.KernelRfl
import Derived.WalkSpells
namespace Go.Proofs.Ytmmmcfflhlkiiaa
open Go.RowKit SetPure

theorem brk_any (m : Nat) (ha : AltsC m) : BrkC (m + 1) := by
  intro s w X p hsc hps hat h40 hn hnn
  have HSc := Lib.hid hsc
  rw [goS_brk _ _ _ h40]
  by_cases h32 : 32 ≤ s.opn.length
  · rw [if_pos h32]
    exact brk_full s w X p HSc hps hat hn h32
  rw [if_neg h32]
  by_cases h63 : SynP.pk X.rs (s.at_ + 1) = 63
  · rw [if_pos h63]
    by_cases h80 : SynP.pk X.rs (s.at_ + 2) = 80
    · rw [if_pos h80]
      cases hnm : SynP.name X.rs s.names s.at_ (s.at_ + 3) with
      | bad e k => exact brk_name_bad s w X p HSc hps hat hn h32 h63 h80 e k hnm
      | ok x =>
        obtain ⟨nm, j⟩ := x
        have hj := SynP.name_at hnm
        exact brk_name s w X p HSc hps hat hn nm j _ rfl m ha hnn h32 h63 h80 hnm hj.1 hj.2
    · rw [if_neg h80]
      cases hfl : SynP.flags X.rs s.at_ (X.rs.length + 1) true false s.fl [] [] (s.at_ + 2) with
      | bad e k => exact brk_flags_bad s w X p HSc hps hat hn h32 h63 h80 e k hfl
      | ok x =>
        obtain ⟨b, f, j⟩ := x
        have hj := SynP.flags_at _ _ _ _ _ _ _ hfl
        cases b with
        | false => exact brk_flags_no s w X p HSc hps hat hn h32 h63 h80 f j hfl hj.1
        | true => exact brk_flags_yes s w X p HSc hps hat hn f j _ rfl m ha hnn h32 h63 h80 hfl hj.1 hj.2
  · rw [if_neg h63]
    exact brk_group s w X p HSc hps hat hn _ rfl m ha hnn h32 h63

theorem all_any (n : Nat) : AltsC n ∧ RowC n ∧ AtomC n := by
  induction n using Nat.strongRecOn with
  | _ n ih =>
    refine ⟨alts_any n fun m hm => (ih m hm).2.1, row_any n fun m hm => (ih m hm).2.2, ?_⟩
    cases n with
    | zero =>
      intro s w X p _ _ hat hn
      exact absurd hn (by omega)
    | succ n => exact atom_any n (brk_any n (ih n (Nat.lt_succ_self n)).1)

/-- Parse, whatever the text. -/
theorem parse_any (d : ByteArray) (f : SynP.Fl) (w : World) : Calls Try.prog 4 #[.string d, .agg #[.bool f.fold, .bool f.lines, .bool f.dot, .bool f.lazy]] w fun e w' => PatEnd w (parseT d f) e w' :=
  parse_from d f w fun n => (all_any n).1

end Go.Proofs.Ytmmmcfflhlkiiaa

namespace Go.Proofs.Ytmmmcfflhlkiiaa
open Go.RowKit

abbrev f0 : SynP.Fl := ⟨false, false, false, false⟩
/-- A text's bytes as numbers. -/
def nat_ (l : List UInt8) : List Int := l.map fun c => (c.toNat : Int)
theorem runes_asc : ∀ (l : List UInt8), (∀ c ∈ l, c.toNat < 128) → DecP.runes l = nat_ l
  | [], _ => DecP.runes_nil
  | c :: t, h => by
    rw [DecP.runes_ascii t (h c List.mem_cons_self), runes_asc t fun x hx => h x (List.mem_cons_of_mem _ hx)]
    rfl
theorem bad_asc : ∀ (l : List UInt8) (i : Nat), (∀ c ∈ l, c.toNat < 128) → DecP.badAt l i = none
  | [], i, _ => DecP.badAt_nil i
  | c :: t, i, h => by
    have h1 := DecP.one_ascii t (h c List.mem_cons_self)
    rw [DecP.badAt_good (List.cons_ne_nil _ _) (by rw [h1]; show ¬ (c.toNat : Int) < 0; omega), h1]
    exact bad_asc t _ fun x hx => h x (List.mem_cons_of_mem _ hx)
theorem places_asc : ∀ (l : List UInt8) (i : Nat), (∀ c ∈ l, c.toNat < 128) → DecP.places l i = (List.range' i l.length).map fun k : Nat => (k : Int)
  | [], i, _ => DecP.places_nil i
  | c :: t, i, h => by
    have h1 := DecP.one_ascii t (h c List.mem_cons_self)
    rw [DecP.places_cons (List.cons_ne_nil _ _), h1]
    show (i : Int) :: DecP.places t (i + 1) = _
    rw [places_asc t _ fun x hx => h x (List.mem_cons_of_mem _ hx)]
    rfl
theorem mark_asc (l : List UInt8) (h : ∀ c ∈ l, c.toNat < 128) : markN (str l) = 0 := by
  unfold markN
  rw [if_neg]
  intro hp
  have h2 : [239, 187, 191] <+: l := List.isPrefixOf_iff_prefix.1 hp
  cases l with
  | nil => cases h2.length_le
  | cons c t =>
    have h3 := h c List.mem_cons_self
    have h4 := (List.cons_prefix_cons.1 h2).1
    rw [← h4] at h3
    exact absurd h3 (by decide)
/-- Parse, of bytes below 128. -/
def ascR (n : Nat) : SynP.R (Option SynP.Nd × SynP.St) → PRes
  | .bad c k => .bad c (if k ≤ n then (k : Int) else 0)
  | .ok (some nd, s) => .ok nd s.names
  | .ok (none, _) => .bad 0 0
theorem parseT_asc (l : List UInt8) (f : SynP.Fl) (h : ∀ c ∈ l, c.toNat < 128) (hl : l.length ≤ 1024) : parseT (str l) f = ascR l.length (SynP.parse (nat_ l) clsT perlT f) := by
  have hB : patB (str l) = l := by
    unfold patB
    rw [mark_asc l h]
    rfl
  have hsz : (str l).size = l.length := by show l.toArray.size = l.length; simp
  unfold parseT
  rw [if_neg (by rw [hsz]; omega), hB, mark_asc l h, bad_asc l 0 h]
  unfold patRs
  rw [hB, runes_asc l h]
  cases SynP.parse (nat_ l) clsT perlT f with
  | bad c k =>
    show PRes.bad c ((patPl (str l)).getD k 0) = _
    unfold ascR patPl
    rw [hB, mark_asc l h, places_asc l 0 h, hsz]
    congr 1
    rw [List.getD_eq_getElem?_getD]
    rcases Nat.lt_trichotomy k l.length with hk | hk | hk
    · rw [List.getElem?_append_left (by simpa using hk), if_pos (by omega)]
      simp [hk]
    · subst hk
      rw [List.getElem?_append_right (by simp), if_pos (Nat.le_refl _)]
      simp
    · rw [List.getElem?_eq_none (by simp; omega), if_neg (by omega)]
      rfl
  | ok x =>
    obtain ⟨x, s⟩ := x
    cases x <;> rfl

theorem LiesL.nth {w : World} {A : Nat → Prop} : ∀ (js : List SynP.Nd) (rs : List RawN), rs.length = js.length → LiesL w A js rs → ∀ i (hi : i < js.length) (hr : i < rs.length), Lies w A js[i] rs[i]
  | [], _, _, _, i, hi, _ => absurd hi (by simp)
  | _ :: _, [], h, _, _, _, _ => by simp at h
  | j :: js, r :: rs, h, hl, 0, _, _ => by unfold LiesL at hl; exact hl.1
  | j :: js, r :: rs, h, hl, i + 1, hi, hr => by
    unfold LiesL at hl
    exact LiesL.nth js rs (by simpa using h) hl.2 i (by simpa using hi) (by simpa using hr)
/-- A kid of a tree in memory. -/
theorem KidsAt.nth {w : World} {A : Nat → Prop} {ad : Option Addr} {l : List RawN} (h : KidsAt w A ad l) (hn : 0 < l.length) : ∃ b off, ad = some ⟨b, off, none⟩ ∧ b < w.heap.size ∧ ∀ i (hi : i < l.length) (o : Nat), o < 9 → w.cell? ⟨b, off + (i * 9 + o), none⟩ = some (l[i].cells.getD o undef) := by
  obtain ⟨b, off, e, _, ⟨cs, fz, ht⟩, hc⟩ := h hn
  refine ⟨b, off, e, (Array.getElem?_eq_some_iff.1 ht).1, fun i hi o ho => ?_⟩
  rw [hc (i * 9 + o) (by omega)]
  rw [List.getD_eq_getElem?_getD, List.getD_eq_getElem?_getD]
  exact congrArg (fun x => some (x.getD undef)) (Enode.flat_at l i hi o ho)
theorem Lies.kids {w : World} {A : Nat → Prop} {kind : Nat} {set : Option (Int → Bool)} {fold : Bool} {least most : Int} {lazy : Bool} {cap : Nat} {name : List UInt8} {kids : List SynP.Nd} {r : RawN} (h : Lies w A (.mk kind set fold least most lazy cap name kids) r) :
    r.kn = kids.length ∧ ∃ rs : List RawN, rs.length = kids.length ∧ KidsAt w A r.kA rs ∧ LiesL w A kids rs := by
  unfold Lies at h
  exact ⟨h.2.2.2.2.2.2.2.2.1, h.2.2.2.2.2.2.2.2.2.2.2⟩
end Go.Proofs.Ytmmmcfflhlkiiaa

namespace Go.Proofs.Ytmmmcfflhlkiiaa
open Go.RowKit

/-- Are two faults the same? -/
def faultEq (a b c d : Int) : Bool := a == c && b == d
theorem faultEq_iff (a b c d : Int) : faultEq a b c d = true ↔ a = c ∧ b = d := by simp [faultEq]
theorem faultEq_same (a b : Int) : faultEq a b a b = true := by simp [faultEq]
theorem faultEq_code {a b c d : Int} (h : a ≠ c) : faultEq a b c d = false := by simp [faultEq, h]
theorem stood_fault : Try.prog.stoodInHeld 34 = false := by kernel_rfl
@[go_sem] theorem guard_fault (op : BinOp) (x y : Operand) (xs ys : Array Value) (w : World) : (eqGuard op 34 x y (.agg xs) (.agg ys)).run Try.prog w = .ok () w := run_eqGuard_agg w op _ x y xs ys (by kernel_rfl)
theorem eq_fault (a b c d : Int) (w : World) : (Op.equalIn 10000 34 (.agg #[.int .i64 a, .int .i64 b]) (.agg #[.int .i64 c, .int .i64 d])).run Try.prog w = .ok (faultEq a b c d) w := by
  have u3 := Try.underlying3
  have a3 := Try.isAgg3
  have z3 := Try.sizeOf3
  have u4 := Try.underlying32
  have a4 := Try.isAgg32
  have z4 := Try.sizeOf32
  have hS : Try.prog.underlying 34 = some (.struct (Try.prog.fieldsOf 34)) := by kernel_rfl
  rw [show (10000 : Nat) = 9999 + 1 from rfl, run_equalIn_agg w 9999 34 _ _ hS stood_fault]
  simp only [Program.fieldsOf, Try.underlying34]
  go_simp
  by_cases h1 : a = c <;> by_cases h2 : b = d <;> simp [faultEq, h1, h2]
@[go_sem ↓] theorem neq_fault (a b c d : Int) (w : World) : (binOp .neq 34 (.agg #[.int .i64 a, .int .i64 b]) (.agg #[.int .i64 c, .int .i64 d])).run Try.prog w = .ok (.bool (!faultEq a b c d)) w := by
  rw [run_neq_struct, eq_fault]; rfl
@[go_sem ↓] theorem eql_fault (a b c d : Int) (w : World) : (binOp .eql 34 (.agg #[.int .i64 a, .int .i64 b]) (.agg #[.int .i64 c, .int .i64 d])).run Try.prog w = .ok (.bool (faultEq a b c d)) w := by
  rw [run_eql_struct, eq_fault]; rfl

end Go.Proofs.Ytmmmcfflhlkiiaa

namespace Go.Proofs.Ytmmmcfflhlkiiaa
open Go.RowKit SetPure

/-- What a law holds behind Parse: the pattern's box and the fault's. -/
structure PatS (w W : World) (P : Nat) (pc fc : Array Value) : Prop where
  bel : Below w.heap.size w W
  pat : W.heap[P]? = some (.cells pc 31)
  flt : W.heap[P + 1]? = some (.cells fc 34)
  hP : w.heap.size ≤ P
theorem PatS.start {w w2 : World} {P : Nat} {pc fc : Array Value} (hb : Below w.heap.size w w2) (hP : w2.heap.size = P) : PatS w ((w2.alloc (.cells pc 31)).alloc (.cells fc 34)) P pc fc := by
  subst hP
  refine ⟨(hb.alloc hb.size _).alloc (Nat.le_trans hb.size (by simp)) _, (Below.heap_alloc _ _ _ (by simp)).trans (heap_alloc_new w2 _), ?_, hb.size⟩
  have := heap_alloc_new (w2.alloc (.cells pc 31)) (.cells fc 34)
  rw [World.size_alloc] at this
  exact this
theorem PatS.below {w W W' : World} {P : Nat} {pc fc : Array Value} (h : PatS w W P pc fc) (k : Below W.heap.size W W') : PatS w W' P pc fc :=
  ⟨h.bel.trans (k.mono h.bel.size), (k.block P (Array.getElem?_eq_some_iff.1 h.pat).1).trans h.pat, (k.block _ (Array.getElem?_eq_some_iff.1 h.flt).1).trans h.flt, h.hP⟩
theorem PatS.pcell {w W : World} {P : Nat} {pc fc : Array Value} (h : PatS w W P pc fc) (o : Nat) : W.cell? ⟨P, o, none⟩ = pc[o]? := Lib.cell_of_heap h.pat o
theorem PatS.fcell {w W : World} {P : Nat} {pc fc : Array Value} (h : PatS w W P pc fc) (o : Nat) : W.cell? ⟨P + 1, o, none⟩ = fc[o]? := Lib.cell_of_heap h.flt o
theorem below_two (w2 : World) (x y : Obj) : Below w2.heap.size w2 ((w2.alloc x).alloc y) := ((Below.refl _ w2).alloc (Nat.le_refl _) _).alloc (by simp) _
theorem SetV.has_ {w : World} {v : Value} {f : Int → Bool} (h : SetV w v f) (r : Int) (x : Bool) (hx : (inR r && f r) = x) : Calls Try.prog 5 #[v, .int .i64 r] w fun e w' => e = .returned (.bool x) ∧ Below w.heap.size w w' :=
  (hold_has_eq h.hold (List.Mem.head _) r x hx).mono fun _ _ h => ⟨h.1, h.2.1⟩
section
variable {w W V : World} {P : Nat} {pc fc : Array Value}
theorem PatS.setP (h : PatS w W P pc fc ∧ KeepR V W) (o : Nat) (u : Value) : PatS w (W.setCell ⟨P, o, none⟩ u) P (pc.setIfInBounds o u) fc ∧ KeepR V (W.setCell ⟨P, o, none⟩ u) := by
  obtain ⟨h, k⟩ := h
  refine ⟨⟨h.bel.setCell (p := ⟨P, o, none⟩) h.hP _, ?_, (Below.heap_setCell _ ⟨P, o, none⟩ _ _ (by show ¬ P + 1 = P; omega)).trans h.flt, h.hP⟩, k.step (StandN.other (A := fun _ => False) o u h.pat (by decide) (by decide)).keep⟩
  simp only [World.setCell, Array.getElem?_modify, if_true, h.pat, Option.map_some]
  rfl
theorem PatS.setF (h : PatS w W P pc fc ∧ KeepR V W) (o : Nat) (u : Value) : PatS w (W.setCell ⟨P + 1, o, none⟩ u) P pc (fc.setIfInBounds o u) ∧ KeepR V (W.setCell ⟨P + 1, o, none⟩ u) := by
  obtain ⟨h, k⟩ := h
  refine ⟨⟨h.bel.setCell (p := ⟨P + 1, o, none⟩) (Nat.le_trans h.hP (Nat.le_succ _)) _, (Below.heap_setCell _ ⟨P + 1, o, none⟩ _ _ (by show ¬ P = P + 1; omega)).trans h.pat, ?_, h.hP⟩, k.step (StandN.other (A := fun _ => False) o u h.flt (by decide) (by decide)).keep⟩
  simp only [World.setCell, Array.getElem?_modify, if_true, h.flt, Option.map_some]
  rfl
/-- The pattern's box and the fault's are stored anew. -/
theorem PatS.all {a0 a1 a2 a3 a4 a5 a6 a7 a8 a9 c0 c1 : Value} (h : PatS w W P #[a0, a1, a2, a3, a4, a5, a6, a7, a8, a9] #[c0, c1]) (b0 b1 b2 b3 b4 b5 b6 b7 b8 b9 d0 d1 : Value) : PatS w ((((((((((((W.setCell ⟨P, 0, none⟩ b0).setCell ⟨P, 1, none⟩ b1).setCell ⟨P, 2, none⟩ b2).setCell ⟨P, 3, none⟩ b3).setCell ⟨P, 4, none⟩ b4).setCell ⟨P, 5, none⟩ b5).setCell ⟨P, 6, none⟩ b6).setCell ⟨P, 7, none⟩ b7).setCell ⟨P, 8, none⟩ b8).setCell ⟨P, 9, none⟩ b9).setCell ⟨P + 1, 0, none⟩ d0).setCell ⟨P + 1, 1, none⟩ d1) P #[b0, b1, b2, b3, b4, b5, b6, b7, b8, b9] #[d0, d1] ∧ KeepR W ((((((((((((W.setCell ⟨P, 0, none⟩ b0).setCell ⟨P, 1, none⟩ b1).setCell ⟨P, 2, none⟩ b2).setCell ⟨P, 3, none⟩ b3).setCell ⟨P, 4, none⟩ b4).setCell ⟨P, 5, none⟩ b5).setCell ⟨P, 6, none⟩ b6).setCell ⟨P, 7, none⟩ b7).setCell ⟨P, 8, none⟩ b8).setCell ⟨P, 9, none⟩ b9).setCell ⟨P + 1, 0, none⟩ d0).setCell ⟨P + 1, 1, none⟩ d1) := by
  have h2 := (PatS.setF (PatS.setF (PatS.setP (PatS.setP (PatS.setP (PatS.setP (PatS.setP (PatS.setP (PatS.setP (PatS.setP (PatS.setP (PatS.setP ⟨h, KeepR.rfl_ W⟩ 0 b0) 1 b1) 2 b2) 3 b3) 4 b4) 5 b5) 6 b6) 7 b7) 8 b8) 9 b9) 0 d0) 1 d1)
  simp only [List.setIfInBounds_toArray, List.set_cons_zero, List.set_cons_succ] at h2
  exact h2
end
end Go.Proofs.Ytmmmcfflhlkiiaa

namespace Go.Proofs.Ytmmmcfflhlkiiaa.SynP

variable {rs : List Int} {cls : List UInt8 → Option (Int → Bool)} {perl : Int → Option (Int → Bool)}

theorem pk_drop {i : Nat} {c : Int} {t : List Int} (h : rs.drop i = c :: t) : pk rs i = c := by
  have h1 : (rs.drop i)[0]? = some c := by rw [h]; rfl
  rw [List.getElem?_drop, Nat.add_zero] at h1
  unfold pk
  rw [List.getD_eq_getElem?_getD, h1]
  rfl
theorem drop_next {i : Nat} {c : Int} {t : List Int} (h : rs.drop i = c :: t) : rs.drop (i + 1) = t := by
  rw [← List.drop_drop, h]
  rfl
theorem pk_end {i : Nat} (h : rs.drop i = []) : pk rs i = -1 := by
  have : rs.length ≤ i := by
    have := congrArg List.length h
    simp at this
    omega
  unfold pk
  rw [List.getD_eq_getElem?_getD, List.getElem?_eq_none this]
  rfl
/-- Digits, up to something that is none. -/
theorem digs_run : ∀ (ds : List Int) (f : Nat) (n : Int) (i : Nat) (c : Int) (t : List Int), rs.drop i = ds ++ c :: t → (∀ d ∈ ds, 48 ≤ d ∧ d ≤ 57) → ¬ (48 ≤ c ∧ c ≤ 57) → ds.length ≤ f →
    digs rs f n i = (ds.foldl (fun n c => 10 * n + c - 48) n, i + ds.length)
  | [], 0, n, i, c, t, _, _, _, _ => rfl
  | [], f + 1, n, i, c, t, h, _, hc, _ => by
    unfold digs
    rw [pk_drop h, if_neg hc]
    rfl
  | d :: ds, 0, n, i, c, t, _, _, _, hf => by simp at hf
  | d :: ds, f + 1, n, i, c, t, h, hd, hc, hf => by
    unfold digs
    rw [pk_drop h, if_pos (hd d List.mem_cons_self), digs_run ds f _ (i + 1) c t (drop_next h) (fun x hx => hd x (List.mem_cons_of_mem _ hx)) hc (by simpa using hf)]
    simp only [List.foldl_cons, List.length_cons, Prod.mk.injEq, true_and]
    omega

/-- The digits of a number below 1000. -/
def dec3 (n : Nat) : List Int := if n < 10 then [48 + (n : Int)] else if n < 100 then [48 + (n / 10 : Nat), 48 + (n % 10 : Nat)] else [48 + (n / 100 : Nat), 48 + (n / 10 % 10 : Nat), 48 + (n % 10 : Nat)]
theorem dec3_ok (n : Nat) (h : n < 1000) : (∀ d ∈ dec3 n, 48 ≤ d ∧ d ≤ 57) ∧ (dec3 n).foldl (fun n c => 10 * n + c - 48) (0 : Int) = n ∧ 1 ≤ (dec3 n).length ∧ (dec3 n).length ≤ 3 := by
  unfold dec3
  split
  · refine ⟨fun d hd => ?_, ?_, by simp, by simp⟩
    · simp at hd; omega
    · simp; omega
  split
  · refine ⟨fun d hd => ?_, ?_, by simp, by simp⟩
    · simp at hd; omega
    · simp; omega
  · refine ⟨fun d hd => ?_, ?_, by simp, by simp⟩
    · simp at hd; omega
    · simp; omega

/-- The text x{a,b} with or without a mark behind it. -/
def timesText (a b : Nat) (z : Bool) : List Int := [120, 123] ++ dec3 a ++ [44] ++ dec3 b ++ [125] ++ (if z then [63] else [])

theorem times_read (a b : Nat) (z : Bool) (ha : a < 1000) (hb : b < 1000) (hrs : rs = timesText a b z) :
    times rs 1 = some ((a : Int), (b : Int), 4 + (dec3 a).length + (dec3 b).length) ∧ rs.drop (4 + (dec3 a).length + (dec3 b).length) = (if z then [63] else []) := by
  obtain ⟨a1, a2, a3, a4⟩ := dec3_ok a ha
  obtain ⟨b1, b2, b3, b4⟩ := dec3_ok b hb
  have d1 : rs.drop 1 = 123 :: (dec3 a ++ 44 :: (dec3 b ++ 125 :: (if z then [63] else []))) := by rw [hrs]; simp [timesText]
  have d2 := drop_next d1
  have e1 := digs_run (rs := rs) (dec3 a) 4 0 (1 + 1) 44 _ d2 a1 (by decide) (by omega)
  rw [a2] at e1
  have d3 : rs.drop (1 + 1 + (dec3 a).length) = 44 :: (dec3 b ++ 125 :: (if z then [63] else [])) := by
    rw [← List.drop_drop, d2]; simp
  have d4 := drop_next d3
  have e2 := digs_run (rs := rs) (dec3 b) 4 0 (1 + 1 + (dec3 a).length + 1) 125 _ d4 b1 (by decide) (by omega)
  rw [b2] at e2
  have d5 : rs.drop (1 + 1 + (dec3 a).length + 1 + (dec3 b).length) = 125 :: (if z then [63] else []) := by
    rw [← List.drop_drop, d4]; simp
  have d6 := drop_next d5
  have hj : 1 + 1 + (dec3 a).length + 1 + (dec3 b).length + 1 = 4 + (dec3 a).length + (dec3 b).length := by omega
  rw [hj] at d6
  refine ⟨?_, d6⟩
  unfold times
  have p1 := pk_drop d1
  have n1 : ¬ 1 + 1 + (dec3 a).length = 1 + 1 := by omega
  have n2 : ¬ 1 + 1 + (dec3 a).length + 1 + (dec3 b).length = 1 + 1 + (dec3 a).length + 1 := by omega
  rw [if_neg (by rw [p1]; decide), if_neg (by rw [p1]; decide), if_neg (by rw [p1]; decide), if_neg (by rw [p1]; decide)]
  simp only [e1]
  rw [if_neg n1, if_pos (pk_drop d3)]
  simp only [e2]
  rw [if_pos (pk_drop d5), if_neg n2, hj]

theorem pk0 (a b : Nat) (z : Bool) (hrs : rs = timesText a b z) : pk rs 0 = 120 := by
  rw [hrs]; rfl
/-- The plain law of SyntaxTimes. -/
theorem times_parse (a b : Nat) (z : Bool) (ha : a < 1000) (hb : b < 1000) (hrs : rs = timesText a b z) :
    parse rs cls perl ⟨false, false, false, false⟩ = if 64 < a ∨ 64 < b ∨ b < a then .bad 23 1 else .ok (some (.rep a b z (.cls (one 120) false)), ⟨rs.length, [], [[]], ⟨false, false, false, false⟩⟩) := by
  obtain ⟨h1, h2⟩ := times_read (rs := rs) a b z ha hb hrs
  have p0 := pk0 a b z hrs
  have p1 : pk rs 1 = 123 := by rw [hrs]; rfl
  obtain ⟨j, hj⟩ : ∃ j, 4 + (dec3 a).length + (dec3 b).length = j := ⟨_, rfl⟩
  rw [hj] at h1 h2
  have hL : rs.length = j + (if z then 1 else 0) := by
    rw [hrs]
    cases z <;> simp [timesText] <;> omega
  obtain ⟨m, hm⟩ : ∃ m, 4 * rs.length + 8 = m + 6 := ⟨4 * rs.length + 2, by omega⟩
  have t0 : times rs 0 = none := by
    unfold times
    simp [p0]
  have hat : go rs cls perl (m + 4) .atom ⟨0, [], [[]], ⟨false, false, false, false⟩⟩ = .ok (some (.cls (one 120) false), ⟨1, [], [[]], ⟨false, false, false, false⟩⟩) := by
    rw [go]
    simp [p0]
  have hend : ∀ l : List Nd, pk rs rs.length = -1 := fun _ => by
    unfold pk
    simp
  have hrow2 : ∀ (l : List Nd), go rs cls perl (m + 3) (.row l false) ⟨rs.length, [], [[]], ⟨false, false, false, false⟩⟩ = .ok (some (whole 8 l), ⟨rs.length, [], [[]], ⟨false, false, false, false⟩⟩) := by
    intro l
    rw [go]
    simp [hend l]
  have hq : (if pk rs j = 63 then j + 1 else j) = rs.length ∧ decide (pk rs j = 63) = z := by
    cases z with
    | true => rw [pk_drop (by simpa using h2)]; simp [hL]
    | false => rw [pk_end (by simpa using h2)]; simp [hL]
  have hrow1 : go rs cls perl (m + 4) (.row [.cls (one 120) false] true) ⟨1, [], [[]], ⟨false, false, false, false⟩⟩ = if 64 < a ∨ 64 < b ∨ b < a then .bad 23 1 else .ok (some (.rep a b z (.cls (one 120) false)), ⟨rs.length, [], [[]], ⟨false, false, false, false⟩⟩) := by
    rw [go]
    simp only [p1, h1, hq.1]
    rw [if_neg (by decide), if_neg (by decide), if_neg (by decide)]
    by_cases hc : 64 < a ∨ 64 < b ∨ b < a
    · rw [if_pos hc, if_pos (by omega)]
    · rw [if_neg hc, if_neg (by omega), hrow2]
      simp [whole, hq.2]
  have hrow0 : go rs cls perl (m + 5) (.row [] false) ⟨0, [], [[]], ⟨false, false, false, false⟩⟩ = if 64 < a ∨ 64 < b ∨ b < a then .bad 23 1 else .ok (some (.rep a b z (.cls (one 120) false)), ⟨rs.length, [], [[]], ⟨false, false, false, false⟩⟩) := by
    rw [go]
    simp only [p0, t0, hat]
    rw [if_neg (by decide), if_neg (by decide)]
    exact hrow1
  unfold parse
  rw [hm, go, hrow0]
  by_cases hc : 64 < a ∨ 64 < b ∨ b < a
  · rw [if_pos hc]
  · rw [if_neg hc]
    simp only [hend [], Option.toList, List.nil_append, whole]
    rw [if_neg (by decide)]
end Go.Proofs.Ytmmmcfflhlkiiaa.SynP

namespace Go.Proofs.Ytmmmcfflhlkiiaa.SynP

variable {rs : List Int} {cls : List UInt8 → Option (Int → Bool)} {perl : Int → Option (Int → Bool)}

/-- Digits of sixteen, up to something that is none. -/
theorem nums_run : ∀ (ds : List Int) (f : Nat) (n : Int) (i : Nat) (c : Int) (t : List Int), rs.drop i = ds ++ c :: t → (∀ d ∈ ds, 0 ≤ hexOf d) → hexOf c = -1 → ds.length ≤ f →
    nums rs f n i = (ds.foldl (fun n c => 16 * n + hexOf c) n, i + ds.length)
  | [], 0, n, i, c, t, _, _, _, _ => rfl
  | [], f + 1, n, i, c, t, h, _, hc, _ => by
    unfold nums
    rw [pk_drop h, if_neg (by rw [hc]; decide)]
    rfl
  | d :: ds, 0, n, i, c, t, _, _, _, hf => by simp at hf
  | d :: ds, f + 1, n, i, c, t, h, hd, hc, hf => by
    unfold nums
    rw [pk_drop h, if_pos (hd d List.mem_cons_self), nums_run ds f _ (i + 1) c t (drop_next h) (fun x hx => hd x (List.mem_cons_of_mem _ hx)) hc (by simpa using hf)]
    simp only [List.foldl_cons, List.length_cons, Prod.mk.injEq, true_and]
    omega

def hexD (n : Nat) : Int := if n < 10 then 48 + (n : Int) else 87 + (n : Int)
theorem hexD_of (n : Nat) (h : n < 16) : hexOf (hexD n) = n := by
  unfold hexD hexOf
  by_cases h1 : n < 10
  · rw [if_pos h1, if_pos (by omega)]; omega
  · rw [if_neg h1, if_neg (by omega), if_neg (by omega), if_pos (by omega)]; omega
/-- A number's digits of sixteen: at most f + 1. -/
def hexL : Nat → Nat → List Int
  | 0, n => [hexD n]
  | f + 1, n => if n < 16 then [hexD n] else hexL f (n / 16) ++ [hexD (n % 16)]
theorem hexL_ok : ∀ (f n : Nat), n < 16 ^ (f + 1) → (∀ d ∈ hexL f n, 0 ≤ hexOf d) ∧ (hexL f n).foldl (fun n c => 16 * n + hexOf c) (0 : Int) = n ∧ 1 ≤ (hexL f n).length ∧ (hexL f n).length ≤ f + 1
  | 0, n, h => by
    have hn : n < 16 := by simpa using h
    simp only [hexL]
    refine ⟨fun d hd => ?_, ?_, by simp, by simp⟩
    · obtain rfl : d = hexD n := by simpa using hd
      rw [hexD_of n hn]; omega
    · simp [hexD_of n hn]
  | f + 1, n, h => by
    unfold hexL
    by_cases hn : n < 16
    · rw [if_pos hn]
      refine ⟨fun d hd => ?_, ?_, by simp, by simp⟩
      · obtain rfl : d = hexD n := by simpa using hd
        rw [hexD_of n hn]; omega
      · simp [hexD_of n hn]
    · rw [if_neg hn]
      have h16 : n / 16 < 16 ^ (f + 1) := by
        rw [Nat.pow_succ] at h
        exact Nat.div_lt_of_lt_mul (by rw [Nat.mul_comm]; exact h)
      obtain ⟨h1, h2, h3, h4⟩ := hexL_ok f (n / 16) h16
      have hm := hexD_of (n % 16) (Nat.mod_lt _ (by decide))
      refine ⟨fun d hd => ?_, ?_, by simp, by simp; omega⟩
      · rcases List.mem_append.1 hd with hd | hd
        · exact h1 d hd
        · obtain rfl : d = hexD (n % 16) := by simpa using hd
          rw [hm]; omega
      · rw [List.foldl_append, h2]
        simp only [List.foldl_cons, List.foldl_nil, hm]
        omega
/-- A number in braces behind a stroke and an x. -/
theorem number_run (n from_ i : Nat) (t : List Int) (hn : n ≤ 1114111) (h : rs.drop i = 123 :: (hexL 5 n ++ 125 :: t)) :
    number rs from_ i = .ok ((n : Int), i + 1 + (hexL 5 n).length + 1) ∧ rs.drop (i + 1 + (hexL 5 n).length + 1) = t := by
  obtain ⟨h1, h2, h3, h4⟩ := hexL_ok 5 n (by omega)
  have d1 := drop_next h
  have e1 := nums_run (rs := rs) (hexL 5 n) 6 0 (i + 1) 125 t d1 h1 rfl h4
  rw [h2] at e1
  have d2 : rs.drop (i + 1 + (hexL 5 n).length) = 125 :: t := by rw [← List.drop_drop, d1]; simp
  refine ⟨?_, drop_next d2⟩
  unfold number
  rw [if_pos (pk_drop h)]
  simp only [e1]
  rw [if_neg]
  rw [pk_drop d2]
  omega

/-- An item that is a number by sixteen digits. -/
theorem item_run (n i : Nat) (t : List Int) (hn : n ≤ 1114111) (h : rs.drop i = 92 :: 120 :: 123 :: (hexL 5 n ++ 125 :: t)) :
    item rs cls perl i = .ok (one n, (n : Int), i + 2 + 1 + (hexL 5 n).length + 1) ∧ rs.drop (i + 2 + 1 + (hexL 5 n).length + 1) = t := by
  have d1 := drop_next h
  have d2 := drop_next d1
  obtain ⟨e1, e2⟩ := number_run (rs := rs) n i (i + 1 + 1) t hn d2
  refine ⟨?_, e2⟩
  unfold item
  rw [if_pos (pk_drop h)]
  unfold escape
  simp only [pk_drop d1]
  rw [if_neg (by decide), if_neg (by decide), if_pos trivial, e1]

/-- A list of one range of two numbers. -/
theorem items_run (from_ m a b i : Nat) (t : List Int) (ha : a ≤ 1114111) (hb : b ≤ 1114111)
    (h : rs.drop i = 92 :: 120 :: 123 :: (hexL 5 a ++ 125 :: 45 :: 92 :: 120 :: 123 :: (hexL 5 b ++ 125 :: 93 :: t))) :
    items rs cls perl from_ (m + 2) true (fun _ => false) i = if b < a then .bad 22 i else
      .ok (fun z => false || decide ((a : Int) ≤ z ∧ z ≤ b), i + 2 + 1 + (hexL 5 a).length + 1 + 1 + 2 + 1 + (hexL 5 b).length + 1) := by
  obtain ⟨e1, d1⟩ := item_run (rs := rs) (cls := cls) (perl := perl) a i _ ha h
  obtain ⟨j, hj⟩ : ∃ j, i + 2 + 1 + (hexL 5 a).length + 1 = j := ⟨_, rfl⟩
  rw [hj] at e1 d1 ⊢
  have d2 := drop_next d1
  obtain ⟨e2, d3⟩ := item_run (rs := rs) (cls := cls) (perl := perl) b (j + 1) _ hb d2
  obtain ⟨k, hk⟩ : ∃ k, j + 1 + 2 + 1 + (hexL 5 b).length + 1 = k := ⟨_, rfl⟩
  rw [hk] at e2 d3 ⊢
  unfold items
  rw [if_neg (by simp), if_neg (by rw [pk_drop h]; decide), e1]
  simp only []
  rw [if_pos (by rw [pk_drop d1, pk_drop d2]; exact ⟨by omega, rfl, by decide, by decide⟩), e2]
  simp only []
  by_cases hc : b < a
  · rw [if_pos hc, if_pos (by omega)]
  · rw [if_neg hc, if_neg (by omega)]
    unfold items
    rw [if_pos ⟨rfl, pk_drop d3⟩]

/-- The text of one range of two numbers, or of all but it. -/
def rangeText (a b : Nat) (no : Bool) : List Int := 91 :: ((if no then [94] else []) ++ 92 :: 120 :: 123 :: (hexL 5 a ++ 125 :: 45 :: 92 :: 120 :: 123 :: (hexL 5 b ++ 125 :: 93 :: [])))
/-- The plain law of SyntaxRanges. -/
theorem range_parse (a b : Nat) (no : Bool) (ha : a ≤ 1114111) (hb : b ≤ 1114111) (hrs : rs = rangeText a b no) :
    parse rs cls perl ⟨false, false, false, false⟩ = if b < a then .bad 22 (if no then 2 else 1) else
      .ok (some (.cls (if no then fun z => !(false || decide ((a : Int) ≤ z ∧ z ≤ b)) else fun z => false || decide ((a : Int) ≤ z ∧ z ≤ b)) false), ⟨rs.length, [], [[]], ⟨false, false, false, false⟩⟩) := by
  obtain ⟨i, hi⟩ : ∃ i, (if no then 2 else 1) = i := ⟨_, rfl⟩
  rw [hi]
  have hd : rs.drop i = 92 :: 120 :: 123 :: (hexL 5 a ++ 125 :: 45 :: 92 :: 120 :: 123 :: (hexL 5 b ++ 125 :: 93 :: [])) := by
    rw [hrs, ← hi]; cases no <;> rfl
  have p0 : pk rs 0 = 91 := by rw [hrs]; rfl
  have p1 : decide (pk rs 1 = 94) = no := by rw [hrs]; cases no <;> rfl
  have hL : rs.length = i + 2 + 1 + (hexL 5 a).length + 1 + 1 + 2 + 1 + (hexL 5 b).length + 1 + 1 := by
    rw [hrs, ← hi]
    cases no <;> simp [rangeText] <;> omega
  obtain ⟨m, hm⟩ : ∃ m, rs.length + 1 = m + 2 := ⟨rs.length - 1, by omega⟩
  have hit := items_run (rs := rs) (cls := cls) (perl := perl) 0 m a b i [] ha hb hd
  have hi2 : (if pk rs 1 = 94 then 1 + 1 else 1) = i := by
    rw [← hi, ← p1]
    by_cases e : pk rs 1 = 94 <;> simp [e]
  have hlist : list rs cls perl 0 1 = if b < a then .bad 22 i else .ok (if no then fun z => !(false || decide ((a : Int) ≤ z ∧ z ≤ b)) else fun z => false || decide ((a : Int) ≤ z ∧ z ≤ b), rs.length) := by
    unfold list
    simp only [hm, hi2, hit]
    by_cases hc : b < a
    · rw [if_pos hc, if_pos hc]
    · rw [if_neg hc, if_neg hc]
      simp only [← hL]
      rw [← p1]
      by_cases e : pk rs 1 = 94 <;> simp [e]
  obtain ⟨n, hn⟩ : ∃ n, 4 * rs.length + 8 = n + 6 := ⟨4 * rs.length + 2, by omega⟩
  have t0 : times rs 0 = none := by unfold times; simp [p0]
  have hend : pk rs rs.length = -1 := by unfold pk; simp
  have hrow2 : ∀ (l : List Nd) (q : Bool), go rs cls perl (n + 4) (.row l q) ⟨rs.length, [], [[]], ⟨false, false, false, false⟩⟩ = .ok (some (whole 8 l), ⟨rs.length, [], [[]], ⟨false, false, false, false⟩⟩) := by
    intro l q
    rw [go]
    simp [hend]
  have hatom : go rs cls perl (n + 4) .atom ⟨0, [], [[]], ⟨false, false, false, false⟩⟩ = if b < a then .bad 22 i else
      .ok (some (.cls (if no then fun z => !(false || decide ((a : Int) ≤ z ∧ z ≤ b)) else fun z => false || decide ((a : Int) ≤ z ∧ z ≤ b)) false), ⟨rs.length, [], [[]], ⟨false, false, false, false⟩⟩) := by
    rw [go]
    simp only [p0, Nat.zero_add, hlist]
    rw [if_neg (by decide), if_neg (by decide), if_neg (by decide), if_neg (by decide), if_pos trivial]
    by_cases hc : b < a
    · rw [if_pos hc, if_pos hc]
    · rw [if_neg hc, if_neg hc]
  have hrow0 : go rs cls perl (n + 5) (.row [] false) ⟨0, [], [[]], ⟨false, false, false, false⟩⟩ = if b < a then .bad 22 i else
      .ok (some (.cls (if no then fun z => !(false || decide ((a : Int) ≤ z ∧ z ≤ b)) else fun z => false || decide ((a : Int) ≤ z ∧ z ≤ b)) false), ⟨rs.length, [], [[]], ⟨false, false, false, false⟩⟩) := by
    rw [go]
    simp only [p0, t0, hatom]
    rw [if_neg (by decide), if_neg (by decide)]
    by_cases hc : b < a
    · rw [if_pos hc]
    · rw [if_neg hc]
      simp only [hrow2, Option.toList, List.nil_append, whole]
  unfold parse
  rw [hn, go, hrow0]
  by_cases hc : b < a
  · rw [if_pos hc]
  · rw [if_neg hc]
    simp only [hend, Option.toList, List.nil_append, whole]
    rw [if_neg (by decide)]
end Go.Proofs.Ytmmmcfflhlkiiaa.SynP

namespace Go.Proofs.Ytmmmcfflhlkiiaa.SynP

variable {rs : List Int} {cls : List UInt8 → Option (Int → Bool)} {perl : Int → Option (Int → Bool)}

/-- An item: a number, or a letter of Perl's. -/
inductive It where
  | num (r : Nat)
  | per (c : Int)
def It.text : It → List Int
  | .num r => 92 :: 120 :: 123 :: (hexL 5 r ++ [125])
  | .per c => [92, c]
def It.test (perl : Int → Option (Int → Bool)) : It → Int → Bool
  | .num r => one r
  | .per c => (perl c).getD fun _ => false
/-- A number in its bounds, a letter that stands for a class. -/
def It.good (perl : Int → Option (Int → Bool)) : It → Prop
  | .num r => r ≤ 1114111
  | .per c => 33 ≤ c ∧ c ≤ 126 ∧ c ≠ 112 ∧ c ≠ 80 ∧ c ≠ 120 ∧ (perl c).isSome = true
theorem It.run (x : It) (i : Nat) (t : List Int) (hx : x.good perl) (h : rs.drop i = x.text ++ t) :
    ∃ r, item rs cls perl i = .ok (x.test perl, r, i + x.text.length) ∧ rs.drop (i + x.text.length) = t := by
  cases x with
  | num r =>
    have h' : rs.drop i = 92 :: 120 :: 123 :: (hexL 5 r ++ 125 :: t) := by
      rw [h]; simp [It.text]
    obtain ⟨e1, e2⟩ := item_run (rs := rs) (cls := cls) (perl := perl) r i t hx h'
    refine ⟨(r : Int), ?_, ?_⟩
    · have : i + (It.num r).text.length = i + 2 + 1 + (hexL 5 r).length + 1 := by simp [It.text]; omega
      rw [this]
      exact e1
    · have : i + (It.num r).text.length = i + 2 + 1 + (hexL 5 r).length + 1 := by simp [It.text]; omega
      rw [this]
      exact e2
  | per c =>
    have h' : rs.drop i = 92 :: c :: t := h
    have d1 := drop_next h'
    obtain ⟨h1, h2, h3, h4, h5, h6⟩ := hx
    obtain ⟨f, hf⟩ := Option.isSome_iff_exists.1 h6
    refine ⟨-1, ?_, drop_next d1⟩
    unfold item
    rw [if_pos (pk_drop h')]
    unfold escape
    simp only [pk_drop d1, hf]
    rw [if_neg (by omega), if_neg (by omega), if_neg (by omega)]
    show R.ok (f, (-1 : Int), i + 1 + 1) = .ok ((perl c).getD _, -1, i + 2)
    rw [hf]
    rfl
theorem It.head (x : It) : ∃ t, x.text = 92 :: t := by cases x <;> exact ⟨_, rfl⟩
def itsT (l : List It) : List Int := l.flatMap It.text
def itsF (perl : Int → Option (Int → Bool)) (l : List It) : Int → Bool := fun z => l.any fun x => x.test perl z
theorem its_run (from_ : Nat) : ∀ (l : List It) (n : Nat) (first : Bool) (out : Int → Bool) (i : Nat) (t : List Int), (∀ x ∈ l, x.good perl) → (first = true → l ≠ []) → rs.drop i = itsT l ++ 93 :: t → l.length < n →
    items rs cls perl from_ n first out i = .ok (fun z => out z || itsF perl l z, i + (itsT l).length)
  | [], 0, _, _, _, _, _, _, _, hn => absurd hn (Nat.lt_irrefl _)
  | [], n + 1, first, out, i, t, _, hf, h, _ => by
    unfold items
    have hff : first = false := by
      cases first with
      | false => rfl
      | true => exact absurd rfl (hf rfl)
    rw [if_pos ⟨hff, pk_drop h⟩]
    simp [itsF, itsT]
  | x :: l, 0, _, _, _, _, _, _, _, hn => absurd hn (Nat.not_lt_zero _)
  | x :: l, n + 1, first, out, i, t, hg, _, h, hn => by
    have h' : rs.drop i = x.text ++ (itsT l ++ 93 :: t) := by rw [h]; simp [itsT]
    obtain ⟨r, e1, e2⟩ := x.run (cls := cls) i _ (hg x List.mem_cons_self) h'
    obtain ⟨tx, htx⟩ := x.head
    have p0 : pk rs i = 92 := by
      rw [htx] at h'
      exact pk_drop h'
    have p1 : pk rs (i + x.text.length) ≠ 45 := by
      cases l with
      | nil =>
        rw [pk_drop (c := 93) (t := t) e2]
        decide
      | cons y l =>
        obtain ⟨ty, hty⟩ := y.head
        have : rs.drop (i + x.text.length) = 92 :: (ty ++ (itsT l ++ 93 :: t)) := by rw [e2]; simp [itsT, hty]
        rw [pk_drop this]
        decide
    unfold items
    rw [if_neg (by rw [p0]; simp), if_neg (by rw [p0]; decide), e1]
    simp only []
    rw [if_neg (by intro hh; exact p1 hh.2.1), its_run from_ l n false _ _ t (fun y hy => hg y (List.mem_cons_of_mem _ hy)) (fun e => by cases e) e2 (by simpa using hn)]
    congr 2
    · funext z
      simp [itsF, Bool.or_assoc]
    · simp [itsT]; omega

/-- The text of a class of some items, or of all but them. -/
def clsText (no : Bool) (l : List It) : List Int := 91 :: ((if no then [94] else []) ++ (itsT l ++ [93]))
theorem its_len : ∀ l : List It, l.length ≤ (itsT l).length
  | [] => Nat.le_refl _
  | x :: l => by
    obtain ⟨tx, htx⟩ := x.head
    have := its_len l
    simp [itsT, htx] at this ⊢
    omega
/-- The plain law of TopClasses. -/
theorem class_parse (no : Bool) (l : List It) (hl : l ≠ []) (hg : ∀ x ∈ l, x.good perl) (hrs : rs = clsText no l) :
    parse rs cls perl ⟨false, false, false, false⟩ = .ok (some (.cls (fun z => itsF perl l z != no) false), ⟨rs.length, [], [[]], ⟨false, false, false, false⟩⟩) := by
  obtain ⟨i, hi⟩ : ∃ i, (if no then 2 else 1) = i := ⟨_, rfl⟩
  have hd : rs.drop i = itsT l ++ 93 :: [] := by
    rw [hrs, ← hi]; cases no <;> rfl
  have p0 : pk rs 0 = 91 := by rw [hrs]; rfl
  have p1 : (pk rs 1 = 94) ↔ no = true := by
    cases no with
    | true => rw [hrs]; exact ⟨fun _ => rfl, fun _ => rfl⟩
    | false =>
      refine ⟨fun h => ?_, fun h => by cases h⟩
      cases l with
      | nil => exact absurd rfl hl
      | cons x l =>
        obtain ⟨tx, htx⟩ := x.head
        rw [hrs] at h
        simp [clsText, itsT, htx, pk] at h
  have hL : rs.length = i + (itsT l).length + 1 := by
    rw [hrs, ← hi]
    cases no <;> simp [clsText] <;> omega
  have hll := its_len l
  have hit := its_run (rs := rs) (cls := cls) (perl := perl) 0 l (rs.length + 1) true (fun _ => false) i [] hg (fun _ => hl) hd (by omega)
  have hi2 : (if pk rs 1 = 94 then 1 + 1 else 1) = i := by
    rw [← hi]
    cases no with
    | true => rw [if_pos (p1.2 rfl), if_pos rfl]
    | false => rw [if_neg (fun h => by cases p1.1 h), if_neg (by decide)]
  have hlist : list rs cls perl 0 1 = .ok (fun z => itsF perl l z != no, rs.length) := by
    unfold list
    simp only [hi2, hit]
    rw [← hL]
    congr 2
    cases no with
    | true => rw [if_pos (p1.2 rfl)]; funext z; simp
    | false => rw [if_neg (fun h => by cases p1.1 h)]; funext z; simp
  obtain ⟨n, hn⟩ : ∃ n, 4 * rs.length + 8 = n + 6 := ⟨4 * rs.length + 2, by omega⟩
  have t0 : times rs 0 = none := by unfold times; simp [p0]
  have hend : pk rs rs.length = -1 := by unfold pk; simp
  have hrow2 : ∀ (l : List Nd) (q : Bool), go rs cls perl (n + 4) (.row l q) ⟨rs.length, [], [[]], ⟨false, false, false, false⟩⟩ = .ok (some (whole 8 l), ⟨rs.length, [], [[]], ⟨false, false, false, false⟩⟩) := by
    intro l q
    rw [go]
    simp [hend]
  have hatom : go rs cls perl (n + 4) .atom ⟨0, [], [[]], ⟨false, false, false, false⟩⟩ = .ok (some (.cls (fun z => itsF perl l z != no) false), ⟨rs.length, [], [[]], ⟨false, false, false, false⟩⟩) := by
    rw [go]
    simp [p0, hlist]
  have hrow : go rs cls perl (n + 5) (.row [] false) ⟨0, [], [[]], ⟨false, false, false, false⟩⟩ = .ok (some (.cls (fun z => itsF perl l z != no) false), ⟨rs.length, [], [[]], ⟨false, false, false, false⟩⟩) := by
    rw [go]
    simp only [p0, t0, hatom]
    rw [if_neg (by decide), if_neg (by decide)]
    exact (hrow2 _ _).trans rfl
  unfold parse
  rw [hn, go]
  simp only [hrow]
  rw [if_neg (by rw [hend]; decide)]
  rfl
end Go.Proofs.Ytmmmcfflhlkiiaa.SynP

namespace Go.Proofs.Ytmmmcfflhlkiiaa
open Go.Shelf Go.RowKit

theorem str_size_ (l : List UInt8) : (str l).size = l.length := by simp [str, ByteArray.size]
theorem str_app_ (a b : List UInt8) : str a ++ str b = str (a ++ b) := by
  have h : (str a ++ str b).data = (str (a ++ b)).data := by rw [ByteArray.data_append]; simp [str]
  exact congrArg ByteArray.mk h
theorem nat_app_ (a b : List UInt8) : nat_ (a ++ b) = nat_ a ++ nat_ b := List.map_append
def D16 : ByteArray := ⟨#[48, 49, 50, 51, 52, 53, 54, 55, 56, 57, 97, 98, 99, 100, 101, 102]⟩
def hexDB (n : Nat) : UInt8 := UInt8.ofNat (SynP.hexD n).toNat
def hexB : Nat → Nat → List UInt8
  | 0, n => [hexDB n]
  | f + 1, n => if n < 16 then [hexDB n] else hexB f (n / 16) ++ [hexDB (n % 16)]
theorem d16_at (n : Nat) (h : n < 16) : D16.extract n (n + 1) = str [hexDB n] := by
  have : ∀ k : Fin 16, D16.extract k.val (k.val + 1) = str [hexDB k.val] := by decide +kernel
  exact this ⟨n, h⟩
theorem nat_hexD (n : Nat) (h : n < 16) : nat_ [hexDB n] = [SynP.hexD n] := by
  have : ∀ k : Fin 16, nat_ [hexDB k.val] = [SynP.hexD k.val] := by decide +kernel
  exact this ⟨n, h⟩
theorem nat_hexB : ∀ (f n : Nat), n < 16 ^ (f + 1) → nat_ (hexB f n) = SynP.hexL f n
  | 0, n, h => nat_hexD n (by simpa using h)
  | f + 1, n, h => by
    unfold hexB SynP.hexL
    split
    · rename_i h1; exact nat_hexD n h1
    · rw [nat_app_, nat_hexB f (n / 16) (by rw [Nat.div_lt_iff_lt_mul (by decide)]; exact h), nat_hexD _ (Nat.mod_lt _ (by decide))]
theorem hexB_len : ∀ (f n : Nat), (hexB f n).length ≤ f + 1
  | 0, n => Nat.le_refl _
  | f + 1, n => by
    unfold hexB
    split
    · simp
    · rw [List.length_append]
      have := hexB_len f (n / 16)
      simp
      omega
theorem hexB_asc : ∀ (f n : Nat), n < 16 ^ (f + 1) → ∀ c ∈ hexB f n, c.toNat < 128 := by
  have h16 : ∀ k : Fin 16, (hexDB k.val).toNat < 128 := by decide +kernel
  intro f
  induction f with
  | zero =>
    intro n h c hc
    unfold hexB at hc
    rw [List.mem_singleton.1 hc]
    exact h16 ⟨n, by simpa using h⟩
  | succ f ih =>
    intro n h c hc
    unfold hexB at hc
    split at hc
    · rename_i h1
      rw [List.mem_singleton.1 hc]
      exact h16 ⟨n, h1⟩
    · rcases List.mem_append.1 hc with hc | hc
      · exact ih (n / 16) (by rw [Nat.div_lt_iff_lt_mul (by decide)]; exact h) c hc
      · rw [List.mem_singleton.1 hc]
        exact h16 ⟨n % 16, Nat.mod_lt _ (by decide)⟩

theorem below_of_drew_ {w w' : World} (h : Below w.drew.heap.size w.drew w') : Below w.heap.size w w' := ⟨h.os, h.tape, h.output, h.size, h.block⟩

end Go.Proofs.Ytmmmcfflhlkiiaa
