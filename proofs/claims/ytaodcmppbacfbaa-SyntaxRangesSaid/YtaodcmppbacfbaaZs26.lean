/- Chapter 10: the parser of patterns: brackets, whatever they are; alternatives, rows and atoms, whatever the text; Parse.
  Chapter 10: Parse at a text of bytes below 128; a tree's kids in memory.
  '==' and '!=' between two faults.
  Chapter 10: the laws' first line: a group, lazily again and again.
  Chapter 10: a quantifier of two numbers behind one letter: in plain Lean.
  Chapter 10: the law's number: a number's digits.
  Chapter 10: the walk of the law SyntaxTimes. -/
import Derived.Test.YtaodcmppbacfbaaZs17
import Derived.Test.YtaodcmppbacfbaaZs18
import Derived.Test.YtaodcmppbacfbaaZs19
import Derived.Test.YtaodcmppbacfbaaZs20
import Derived.Test.YtaodcmppbacfbaaZs25
import Derived.Test.YtaodcmppbacfbaaZs1
import Derived.Test.YtaodcmppbacfbaaZs2
import Derived.KernelRfl
import Derived.WalkSpells
import Derived.Deep.RegionWith
import Derived.Lib.ItoaNum
namespace Go.Proofs.Ytaodcmppbacfbaa
open Go.RowKit SetPure

theorem brk_any (m : Nat) (ha : AltsC m) : BrkC (m + 1) := by
  intro s w X p hsc hps hat h40 hn hnn
  have HSc := Lib.hid hsc
  rw [goS_brk _ _ _ h40]
  by_cases h32 : 32 ≤ s.opn.length
  · rw [if_pos h32]
    exact brk_full s w X p HSc hps hat hn h32
  rw [if_neg h32]
  by_cases h63 : SynP.pk X.rs (s.at_ + 1) = 63
  · rw [if_pos h63]
    by_cases h80 : SynP.pk X.rs (s.at_ + 2) = 80
    · rw [if_pos h80]
      cases hnm : SynP.name X.rs s.names s.at_ (s.at_ + 3) with
      | bad e k => exact brk_name_bad s w X p HSc hps hat hn h32 h63 h80 e k hnm
      | ok x =>
        obtain ⟨nm, j⟩ := x
        have hj := SynP.name_at hnm
        exact brk_name s w X p HSc hps hat hn nm j _ rfl m ha hnn h32 h63 h80 hnm hj.1 hj.2
    · rw [if_neg h80]
      cases hfl : SynP.flags X.rs s.at_ (X.rs.length + 1) true false s.fl [] [] (s.at_ + 2) with
      | bad e k => exact brk_flags_bad s w X p HSc hps hat hn h32 h63 h80 e k hfl
      | ok x =>
        obtain ⟨b, f, j⟩ := x
        have hj := SynP.flags_at _ _ _ _ _ _ _ hfl
        cases b with
        | false => exact brk_flags_no s w X p HSc hps hat hn h32 h63 h80 f j hfl hj.1
        | true => exact brk_flags_yes s w X p HSc hps hat hn f j _ rfl m ha hnn h32 h63 h80 hfl hj.1 hj.2
  · rw [if_neg h63]
    exact brk_group s w X p HSc hps hat hn _ rfl m ha hnn h32 h63

theorem all_any (n : Nat) : AltsC n ∧ RowC n ∧ AtomC n := by
  induction n using Nat.strongRecOn with
  | _ n ih =>
    refine ⟨alts_any n fun m hm => (ih m hm).2.1, row_any n fun m hm => (ih m hm).2.2, ?_⟩
    cases n with
    | zero =>
      intro s w X p _ _ hat hn
      exact absurd hn (by omega)
    | succ n => exact atom_any n (brk_any n (ih n (Nat.lt_succ_self n)).1)

/-- Parse, whatever the text. -/
theorem parse_any (d : ByteArray) (f : SynP.Fl) (w : World) : Calls Try.prog 9 #[.string d, .agg #[.bool f.fold, .bool f.lines, .bool f.dot, .bool f.lazy]] w fun e w' => PatEnd w (parseT d f) e w' :=
  parse_from d f w fun n => (all_any n).1

end Go.Proofs.Ytaodcmppbacfbaa

namespace Go.Proofs.Ytaodcmppbacfbaa
open Go.RowKit

/-- A text's bytes as numbers. -/
def nat_ (l : List UInt8) : List Int := l.map fun c => (c.toNat : Int)
theorem runes_asc : ∀ (l : List UInt8), (∀ c ∈ l, c.toNat < 128) → DecP.runes l = nat_ l
  | [], _ => DecP.runes_nil
  | c :: t, h => by
    rw [DecP.runes_ascii t (h c List.mem_cons_self), runes_asc t fun x hx => h x (List.mem_cons_of_mem _ hx)]
    rfl
theorem bad_asc : ∀ (l : List UInt8) (i : Nat), (∀ c ∈ l, c.toNat < 128) → DecP.badAt l i = none
  | [], i, _ => DecP.badAt_nil i
  | c :: t, i, h => by
    have h1 := DecP.one_ascii t (h c List.mem_cons_self)
    rw [DecP.badAt_good (List.cons_ne_nil _ _) (by rw [h1]; show ¬ (c.toNat : Int) < 0; omega), h1]
    exact bad_asc t _ fun x hx => h x (List.mem_cons_of_mem _ hx)
theorem places_asc : ∀ (l : List UInt8) (i : Nat), (∀ c ∈ l, c.toNat < 128) → DecP.places l i = (List.range' i l.length).map fun k : Nat => (k : Int)
  | [], i, _ => DecP.places_nil i
  | c :: t, i, h => by
    have h1 := DecP.one_ascii t (h c List.mem_cons_self)
    rw [DecP.places_cons (List.cons_ne_nil _ _), h1]
    show (i : Int) :: DecP.places t (i + 1) = _
    rw [places_asc t _ fun x hx => h x (List.mem_cons_of_mem _ hx)]
    rfl
theorem mark_asc (l : List UInt8) (h : ∀ c ∈ l, c.toNat < 128) : markN (str l) = 0 := by
  unfold markN
  rw [if_neg]
  intro hp
  have h2 : [239, 187, 191] <+: l := List.isPrefixOf_iff_prefix.1 hp
  cases l with
  | nil => cases h2.length_le
  | cons c t =>
    have h3 := h c List.mem_cons_self
    have h4 := (List.cons_prefix_cons.1 h2).1
    rw [← h4] at h3
    exact absurd h3 (by decide)
/-- Parse, of bytes below 128. -/
def ascR (n : Nat) : SynP.R (Option SynP.Nd × SynP.St) → PRes
  | .bad c k => .bad c (if k ≤ n then (k : Int) else 0)
  | .ok (some nd, s) => .ok nd s.names
  | .ok (none, _) => .bad 0 0
theorem parseT_asc (l : List UInt8) (f : SynP.Fl) (h : ∀ c ∈ l, c.toNat < 128) (hl : l.length ≤ 1024) : parseT (str l) f = ascR l.length (SynP.parse (nat_ l) clsT perlT f) := by
  have hB : patB (str l) = l := by
    unfold patB
    rw [mark_asc l h]
    rfl
  have hsz : (str l).size = l.length := by show l.toArray.size = l.length; simp
  unfold parseT
  rw [if_neg (by rw [hsz]; omega), hB, mark_asc l h, bad_asc l 0 h]
  unfold patRs
  rw [hB, runes_asc l h]
  cases SynP.parse (nat_ l) clsT perlT f with
  | bad c k =>
    show PRes.bad c ((patPl (str l)).getD k 0) = _
    unfold ascR patPl
    rw [hB, mark_asc l h, places_asc l 0 h, hsz]
    congr 1
    rw [List.getD_eq_getElem?_getD]
    rcases Nat.lt_trichotomy k l.length with hk | hk | hk
    · rw [List.getElem?_append_left (by simpa using hk), if_pos (by omega)]
      simp [hk]
    · subst hk
      rw [List.getElem?_append_right (by simp), if_pos (Nat.le_refl _)]
      simp
    · rw [List.getElem?_eq_none (by simp; omega), if_neg (by omega)]
      rfl
  | ok x =>
    obtain ⟨x, s⟩ := x
    cases x <;> rfl

theorem LiesL.nth {w : World} {A : Nat → Prop} : ∀ (js : List SynP.Nd) (rs : List RawN), rs.length = js.length → LiesL w A js rs → ∀ i (hi : i < js.length) (hr : i < rs.length), Lies w A js[i] rs[i]
  | [], _, _, _, i, hi, _ => absurd hi (by simp)
  | _ :: _, [], h, _, _, _, _ => by simp at h
  | j :: js, r :: rs, h, hl, 0, _, _ => by unfold LiesL at hl; exact hl.1
  | j :: js, r :: rs, h, hl, i + 1, hi, hr => by
    unfold LiesL at hl
    exact LiesL.nth js rs (by simpa using h) hl.2 i (by simpa using hi) (by simpa using hr)
/-- A kid of a tree in memory. -/
theorem KidsAt.nth {w : World} {A : Nat → Prop} {ad : Option Addr} {l : List RawN} (h : KidsAt w A ad l) (hn : 0 < l.length) : ∃ b off, ad = some ⟨b, off, none⟩ ∧ b < w.heap.size ∧ ∀ i (hi : i < l.length) (o : Nat), o < 9 → w.cell? ⟨b, off + (i * 9 + o), none⟩ = some (l[i].cells.getD o undef) := by
  obtain ⟨b, off, e, _, ⟨cs, fz, ht⟩, hc⟩ := h hn
  refine ⟨b, off, e, (Array.getElem?_eq_some_iff.1 ht).1, fun i hi o ho => ?_⟩
  rw [hc (i * 9 + o) (by omega)]
  rw [List.getD_eq_getElem?_getD, List.getD_eq_getElem?_getD]
  exact congrArg (fun x => some (x.getD undef)) (Enode.flat_at l i hi o ho)
end Go.Proofs.Ytaodcmppbacfbaa

namespace Go.Proofs.Ytaodcmppbacfbaa
open Go.RowKit

/-- Are two faults the same? -/
def faultEq (a b c d : Int) : Bool := a == c && b == d
theorem faultEq_iff (a b c d : Int) : faultEq a b c d = true ↔ a = c ∧ b = d := by simp [faultEq]
theorem faultEq_same (a b : Int) : faultEq a b a b = true := by simp [faultEq]
theorem faultEq_code {a b c d : Int} (h : a ≠ c) : faultEq a b c d = false := by simp [faultEq, h]
theorem stood_fault : Try.prog.stoodInHeld 34 = false := by kernel_rfl
@[go_sem] theorem guard_fault (op : BinOp) (x y : Operand) (xs ys : Array Value) (w : World) : (eqGuard op 34 x y (.agg xs) (.agg ys)).run Try.prog w = .ok () w := run_eqGuard_agg w op _ x y xs ys (by kernel_rfl)
theorem eq_fault (a b c d : Int) (w : World) : (Op.equalIn 10000 34 (.agg #[.int .i64 a, .int .i64 b]) (.agg #[.int .i64 c, .int .i64 d])).run Try.prog w = .ok (faultEq a b c d) w := by
  have u3 := Try.underlying3
  have a3 := Try.isAgg3
  have z3 := Try.sizeOf3
  have u4 := Try.underlying32
  have a4 := Try.isAgg32
  have z4 := Try.sizeOf32
  have hS : Try.prog.underlying 34 = some (.struct (Try.prog.fieldsOf 34)) := by kernel_rfl
  rw [show (10000 : Nat) = 9999 + 1 from rfl, run_equalIn_agg w 9999 34 _ _ hS stood_fault]
  simp only [Program.fieldsOf, Try.underlying34]
  go_simp
  by_cases h1 : a = c <;> by_cases h2 : b = d <;> simp [faultEq, h1, h2]
@[go_sem ↓] theorem neq_fault (a b c d : Int) (w : World) : (binOp .neq 34 (.agg #[.int .i64 a, .int .i64 b]) (.agg #[.int .i64 c, .int .i64 d])).run Try.prog w = .ok (.bool (!faultEq a b c d)) w := by
  rw [run_neq_struct, eq_fault]; rfl
@[go_sem ↓] theorem eql_fault (a b c d : Int) (w : World) : (binOp .eql 34 (.agg #[.int .i64 a, .int .i64 b]) (.agg #[.int .i64 c, .int .i64 d])).run Try.prog w = .ok (.bool (faultEq a b c d)) w := by
  rw [run_eql_struct, eq_fault]; rfl

end Go.Proofs.Ytaodcmppbacfbaa

namespace Go.Proofs.Ytaodcmppbacfbaa
open Go.RowKit

abbrev f0 : SynP.Fl := ⟨false, false, false, false⟩
theorem speak_parse : SynP.parse (nat_ [97, 40, 98, 124, 41, 42, 63]) clsT perlT f0 = .ok (some (.mk 8 none false 0 0 false 0 [] [.cls (SynP.one 97) false, .rep 0 (-1) true (.grp 1 [] (.mk 9 none false 0 0 false 0 [] [.cls (SynP.one 98) false, .leaf 0]))]), ⟨7, [], [[], []], f0⟩) := by kernel_rfl

theorem Lies.kids {w : World} {A : Nat → Prop} {kind : Nat} {set : Option (Int → Bool)} {fold : Bool} {least most : Int} {lazy : Bool} {cap : Nat} {name : List UInt8} {kids : List SynP.Nd} {r : RawN} (h : Lies w A (.mk kind set fold least most lazy cap name kids) r) :
    r.kn = kids.length ∧ ∃ rs : List RawN, rs.length = kids.length ∧ KidsAt w A r.kA rs ∧ LiesL w A kids rs := by
  unfold Lies at h
  exact ⟨h.2.2.2.2.2.2.2.2.1, h.2.2.2.2.2.2.2.2.2.2.2⟩
theorem speaks_parse (w : World) : Calls Try.prog 9 #[.string ⟨#[97, 40, 98, 124, 41, 42, 63]⟩, .agg #[.bool false, .bool false, .bool false, .bool false]] w fun e w' => Below w.heap.size w w' ∧
    ∃ (r1 : Option Addr) (r2 r3 : Nat) (r4 : Bool) (r5 r6 : Int) (r7 : Bool) (r8 : Int) (r9 : ByteArray) (rc : Nat) (A : Option Addr) (c b off : Nat), e = .returned (.tuple #[.agg #[.int .i64 8, .slice r1 r2 r3, .bool r4, .int .i64 r5, .int .i64 r6, .bool r7, .int .i64 r8, .string r9, .slice (some ⟨b, off, none⟩) 2 rc, .slice A 2 c], .agg #[.int .i64 0, .int .i64 0]]) ∧
      b < w'.heap.size ∧ w'.cell? ⟨b, off + 9, none⟩ = some (.int .i64 10) ∧ w'.cell? ⟨b, off + 14, none⟩ = some (.bool true) := by
  refine (parse_any (str [97, 40, 98, 124, 41, 42, 63]) f0 w).mono fun e w' h => ?_
  rw [parseT_asc _ _ (by decide) (by decide), speak_parse] at h
  obtain ⟨hb, r, A, c, rfl, hl, _, _, _⟩ := h
  refine ⟨hb, ?_⟩
  obtain ⟨hn, rs, hrs, hk, hls⟩ := hl.kids
  unfold Lies at hl
  obtain ⟨e1, _⟩ := hl
  obtain ⟨b, off, e2, hb2, hc⟩ := hk.nth (by rw [hrs]; decide)
  have h1 := LiesL.nth _ _ hrs hls 1 (by decide) (by rw [hrs]; decide)
  have c0 := hc 1 (by rw [hrs]; decide) 0 (by decide)
  have c5 := hc 1 (by rw [hrs]; decide) 5 (by decide)
  obtain ⟨r', hr'⟩ : ∃ r', rs[1]'(by rw [hrs]; decide) = r' := ⟨_, rfl⟩
  rw [hr'] at h1 c0 c5
  obtain ⟨r0, r1, r2, r3, r4, r5, r6, r7, r8, r9, ra, rb⟩ := r
  simp only at e1 e2 hn
  subst e1; subst e2; subst hn
  simp only [List.getElem_cons_succ, List.getElem_cons_zero, SynP.Nd.rep] at h1
  unfold Lies at h1
  obtain ⟨g1, _, _, _, _, g6, _⟩ := h1
  obtain ⟨s0, s1, s2, s3, s4, s5, s6, s7, s8, s9, sa, sb⟩ := r'
  simp only at g1 g6
  subst g1; subst g6
  exact ⟨_, _, _, _, _, _, _, _, _, _, _, _, b, off, rfl, hb2, c0, c5⟩

set_option maxRecDepth 100000 in
set_option maxHeartbeats 1600000 in
theorem speaks_any (w : World) : Calls Try.prog 7 #[] w fun e w' => e = .returned (.bool true) ∧ Below w.heap.size w w' := by
  go_enter Try.func7, Try.ntmps7
  go_upto_region 2 with (go_at_call 9; refine (speaks_parse _).mono ?_; rintro e w1 ⟨hb1, r1, r2, r3, r4, r5, r6, r7, r8, r9, rc, A, c, b, off, rfl, hb2, hc0, hc5⟩; have HB := Lib.hid hb1; clear hb1)
  have hfe := faultEq_same 0 0
  go_wp2_with fail
  go_ret
  refine ⟨rfl, ?_⟩
  exact (HB.out.alloc HB.out.size _).alloc (Nat.le_trans HB.out.size (by simp)) _

end Go.Proofs.Ytaodcmppbacfbaa

namespace Go.Proofs.Ytaodcmppbacfbaa.SynP

variable {rs : List Int} {cls : List UInt8 → Option (Int → Bool)} {perl : Int → Option (Int → Bool)}

theorem pk_drop {i : Nat} {c : Int} {t : List Int} (h : rs.drop i = c :: t) : pk rs i = c := by
  have h1 : (rs.drop i)[0]? = some c := by rw [h]; rfl
  rw [List.getElem?_drop, Nat.add_zero] at h1
  unfold pk
  rw [List.getD_eq_getElem?_getD, h1]
  rfl
theorem drop_next {i : Nat} {c : Int} {t : List Int} (h : rs.drop i = c :: t) : rs.drop (i + 1) = t := by
  rw [← List.drop_drop, h]
  rfl
theorem pk_end {i : Nat} (h : rs.drop i = []) : pk rs i = -1 := by
  have : rs.length ≤ i := by
    have := congrArg List.length h
    simp at this
    omega
  unfold pk
  rw [List.getD_eq_getElem?_getD, List.getElem?_eq_none this]
  rfl
/-- Digits, up to something that is none. -/
theorem digs_run : ∀ (ds : List Int) (f : Nat) (n : Int) (i : Nat) (c : Int) (t : List Int), rs.drop i = ds ++ c :: t → (∀ d ∈ ds, 48 ≤ d ∧ d ≤ 57) → ¬ (48 ≤ c ∧ c ≤ 57) → ds.length ≤ f →
    digs rs f n i = (ds.foldl (fun n c => 10 * n + c - 48) n, i + ds.length)
  | [], 0, n, i, c, t, _, _, _, _ => rfl
  | [], f + 1, n, i, c, t, h, _, hc, _ => by
    unfold digs
    rw [pk_drop h, if_neg hc]
    rfl
  | d :: ds, 0, n, i, c, t, _, _, _, hf => by simp at hf
  | d :: ds, f + 1, n, i, c, t, h, hd, hc, hf => by
    unfold digs
    rw [pk_drop h, if_pos (hd d List.mem_cons_self), digs_run ds f _ (i + 1) c t (drop_next h) (fun x hx => hd x (List.mem_cons_of_mem _ hx)) hc (by simpa using hf)]
    simp only [List.foldl_cons, List.length_cons, Prod.mk.injEq, true_and]
    omega

/-- The digits of a number below 1000. -/
def dec3 (n : Nat) : List Int := if n < 10 then [48 + (n : Int)] else if n < 100 then [48 + (n / 10 : Nat), 48 + (n % 10 : Nat)] else [48 + (n / 100 : Nat), 48 + (n / 10 % 10 : Nat), 48 + (n % 10 : Nat)]
theorem dec3_ok (n : Nat) (h : n < 1000) : (∀ d ∈ dec3 n, 48 ≤ d ∧ d ≤ 57) ∧ (dec3 n).foldl (fun n c => 10 * n + c - 48) (0 : Int) = n ∧ 1 ≤ (dec3 n).length ∧ (dec3 n).length ≤ 3 := by
  unfold dec3
  split
  · refine ⟨fun d hd => ?_, ?_, by simp, by simp⟩
    · simp at hd; omega
    · simp; omega
  split
  · refine ⟨fun d hd => ?_, ?_, by simp, by simp⟩
    · simp at hd; omega
    · simp; omega
  · refine ⟨fun d hd => ?_, ?_, by simp, by simp⟩
    · simp at hd; omega
    · simp; omega

/-- The text x{a,b} with or without a mark behind it. -/
def timesText (a b : Nat) (z : Bool) : List Int := [120, 123] ++ dec3 a ++ [44] ++ dec3 b ++ [125] ++ (if z then [63] else [])

theorem times_read (a b : Nat) (z : Bool) (ha : a < 1000) (hb : b < 1000) (hrs : rs = timesText a b z) :
    times rs 1 = some ((a : Int), (b : Int), 4 + (dec3 a).length + (dec3 b).length) ∧ rs.drop (4 + (dec3 a).length + (dec3 b).length) = (if z then [63] else []) := by
  obtain ⟨a1, a2, a3, a4⟩ := dec3_ok a ha
  obtain ⟨b1, b2, b3, b4⟩ := dec3_ok b hb
  have d1 : rs.drop 1 = 123 :: (dec3 a ++ 44 :: (dec3 b ++ 125 :: (if z then [63] else []))) := by rw [hrs]; simp [timesText]
  have d2 := drop_next d1
  have e1 := digs_run (rs := rs) (dec3 a) 4 0 (1 + 1) 44 _ d2 a1 (by decide) (by omega)
  rw [a2] at e1
  have d3 : rs.drop (1 + 1 + (dec3 a).length) = 44 :: (dec3 b ++ 125 :: (if z then [63] else [])) := by
    rw [← List.drop_drop, d2]; simp
  have d4 := drop_next d3
  have e2 := digs_run (rs := rs) (dec3 b) 4 0 (1 + 1 + (dec3 a).length + 1) 125 _ d4 b1 (by decide) (by omega)
  rw [b2] at e2
  have d5 : rs.drop (1 + 1 + (dec3 a).length + 1 + (dec3 b).length) = 125 :: (if z then [63] else []) := by
    rw [← List.drop_drop, d4]; simp
  have d6 := drop_next d5
  have hj : 1 + 1 + (dec3 a).length + 1 + (dec3 b).length + 1 = 4 + (dec3 a).length + (dec3 b).length := by omega
  rw [hj] at d6
  refine ⟨?_, d6⟩
  unfold times
  have p1 := pk_drop d1
  have n1 : ¬ 1 + 1 + (dec3 a).length = 1 + 1 := by omega
  have n2 : ¬ 1 + 1 + (dec3 a).length + 1 + (dec3 b).length = 1 + 1 + (dec3 a).length + 1 := by omega
  rw [if_neg (by rw [p1]; decide), if_neg (by rw [p1]; decide), if_neg (by rw [p1]; decide), if_neg (by rw [p1]; decide)]
  simp only [e1]
  rw [if_neg n1, if_pos (pk_drop d3)]
  simp only [e2]
  rw [if_pos (pk_drop d5), if_neg n2, hj]

theorem pk0 (a b : Nat) (z : Bool) (hrs : rs = timesText a b z) : pk rs 0 = 120 := by
  rw [hrs]; rfl
/-- The plain law of SyntaxTimes. -/
theorem times_parse (a b : Nat) (z : Bool) (ha : a < 1000) (hb : b < 1000) (hrs : rs = timesText a b z) :
    parse rs cls perl ⟨false, false, false, false⟩ = if 64 < a ∨ 64 < b ∨ b < a then .bad 23 1 else .ok (some (.rep a b z (.cls (one 120) false)), ⟨rs.length, [], [[]], ⟨false, false, false, false⟩⟩) := by
  obtain ⟨h1, h2⟩ := times_read (rs := rs) a b z ha hb hrs
  have p0 := pk0 a b z hrs
  have p1 : pk rs 1 = 123 := by rw [hrs]; rfl
  obtain ⟨j, hj⟩ : ∃ j, 4 + (dec3 a).length + (dec3 b).length = j := ⟨_, rfl⟩
  rw [hj] at h1 h2
  have hL : rs.length = j + (if z then 1 else 0) := by
    rw [hrs]
    cases z <;> simp [timesText] <;> omega
  obtain ⟨m, hm⟩ : ∃ m, 4 * rs.length + 8 = m + 6 := ⟨4 * rs.length + 2, by omega⟩
  have t0 : times rs 0 = none := by
    unfold times
    simp [p0]
  have hat : go rs cls perl (m + 4) .atom ⟨0, [], [[]], ⟨false, false, false, false⟩⟩ = .ok (some (.cls (one 120) false), ⟨1, [], [[]], ⟨false, false, false, false⟩⟩) := by
    rw [go]
    simp [p0]
  have hend : ∀ l : List Nd, pk rs rs.length = -1 := fun _ => by
    unfold pk
    simp
  have hrow2 : ∀ (l : List Nd), go rs cls perl (m + 3) (.row l false) ⟨rs.length, [], [[]], ⟨false, false, false, false⟩⟩ = .ok (some (whole 8 l), ⟨rs.length, [], [[]], ⟨false, false, false, false⟩⟩) := by
    intro l
    rw [go]
    simp [hend l]
  have hq : (if pk rs j = 63 then j + 1 else j) = rs.length ∧ decide (pk rs j = 63) = z := by
    cases z with
    | true => rw [pk_drop (by simpa using h2)]; simp [hL]
    | false => rw [pk_end (by simpa using h2)]; simp [hL]
  have hrow1 : go rs cls perl (m + 4) (.row [.cls (one 120) false] true) ⟨1, [], [[]], ⟨false, false, false, false⟩⟩ = if 64 < a ∨ 64 < b ∨ b < a then .bad 23 1 else .ok (some (.rep a b z (.cls (one 120) false)), ⟨rs.length, [], [[]], ⟨false, false, false, false⟩⟩) := by
    rw [go]
    simp only [p1, h1, hq.1]
    rw [if_neg (by decide), if_neg (by decide), if_neg (by decide)]
    by_cases hc : 64 < a ∨ 64 < b ∨ b < a
    · rw [if_pos hc, if_pos (by omega)]
    · rw [if_neg hc, if_neg (by omega), hrow2]
      simp [whole, hq.2]
  have hrow0 : go rs cls perl (m + 5) (.row [] false) ⟨0, [], [[]], ⟨false, false, false, false⟩⟩ = if 64 < a ∨ 64 < b ∨ b < a then .bad 23 1 else .ok (some (.rep a b z (.cls (one 120) false)), ⟨rs.length, [], [[]], ⟨false, false, false, false⟩⟩) := by
    rw [go]
    simp only [p0, t0, hat]
    rw [if_neg (by decide), if_neg (by decide)]
    exact hrow1
  unfold parse
  rw [hm, go, hrow0]
  by_cases hc : 64 < a ∨ 64 < b ∨ b < a
  · rw [if_pos hc]
  · rw [if_neg hc]
    simp only [hend [], Option.toList, List.nil_append, whole]
    rw [if_neg (by decide)]
end Go.Proofs.Ytaodcmppbacfbaa.SynP

namespace Go.Proofs.Ytaodcmppbacfbaa
open Go.Shelf Go.RowKit

def bI (l : List UInt8) : List Int := l.map fun c => (c.toNat : Int)
theorem str_size (l : List UInt8) : (str l).size = l.length := by simp [str, ByteArray.size]
theorem str_bI (l : List UInt8) : strOfNums (bI l) = str l := by
  unfold strOfNums bI str
  rw [List.map_map]
  have : ((fun n : Int => UInt8.ofNat n.toNat) ∘ fun c : UInt8 => (c.toNat : Int)) = id := by funext c; simp
  rw [this, List.map_id]
theorem str_dig (m : Int) (h0 : 0 ≤ m) (h1 : m < 10) : strOfNums [48 + m] = str [UInt8.ofNat (48 + m.toNat)] := by
  unfold strOfNums str
  simp only [List.map_cons, List.map_nil, show (48 + m).toNat = 48 + m.toNat by omega]
theorem str_app (a b : List UInt8) : str a ++ str b = str (a ++ b) := by
  have h : (str a ++ str b).data = (str (a ++ b)).data := by rw [ByteArray.data_append]; simp [str]
  exact congrArg ByteArray.mk h

theorem dec_len3 (n : Nat) (h : n < 1000) : (Lib.decDigits n).length ≤ 3 := by
  have : ∀ k : Fin 1000, (Lib.decDigits k.val).length ≤ 3 := by decide +kernel
  exact this ⟨n, h⟩
theorem conv_kept {w w1 : World} {x : Int} (hb : Below (w.alloc (.cells #[.int .u8 x] 5)).drew.heap.size (w.alloc (.cells #[.int .u8 x] 5)).drew w1) :
    (convert 44 9 (.slice (some ⟨w.heap.size, 0, none⟩) 1 1)).run Try.prog w1 = .ok (.string (strOfNums [x])) w1 := by
  refine run_convert_bytes_arg (P := Try.prog) w1 44 5 Try.underlying44 Try.underlying5 w.heap.size 0 1 1 [x] rfl (fun i hi => ?_) 9 Try.underlying9
  obtain rfl : i = 0 := by omega
  rw [hb.cell (p := ⟨w.heap.size, 0 + 0, none⟩) (by simp)]
  exact World.cell?_alloc_new w _ _ 0

theorem below_of_drew {w w' : World} (h : Below w.drew.heap.size w.drew w') : Below w.heap.size w w' := ⟨h.os, h.tape, h.output, h.size, h.block⟩

set_option maxRecDepth 100000 in
set_option maxHeartbeats 1000000 in
theorem number_nat (n : Nat) : n < 1000 → ∀ w : World, Calls Try.prog 8 #[.int .i64 n] w fun e w' => e = .returned (.string (str (Lib.decDigits n))) ∧ Below w.heap.size w w' := by
  induction n using Nat.strongRecOn with
  | ind n ih =>
  intro hn w
  obtain ⟨z, hz⟩ : ∃ z : Int, (n : Int) = z := ⟨_, rfl⟩
  rw [hz]
  have hz0 : 0 ≤ z := by omega
  have hz1 : z < 1000 := by omega
  by_cases h10 : z < 10
  · obtain ⟨D, hD⟩ : ∃ D, strOfNums [48 + z] = D := ⟨_, rfl⟩
    have HD := Lib.hid (show str (Lib.decDigits n) = D by rw [← hD, str_dig z hz0 h10, Lib.decDigits, dif_pos (by omega), show z.toNat = n by omega])
    have hconv := conv_one w (48 + z)
    rw [hD] at hconv
    clear ih hz hD
    go_enter Try.func8, Try.ntmps8
    go_wp2
    go_ret
    exact ⟨by rw [HD.out]; rfl, (Below.refl _ _).alloc (Nat.le_refl _) _⟩
  · have h10' : 10 ≤ z := by omega
    obtain ⟨q, hq⟩ : ∃ q, z / 10 = q := ⟨_, rfl⟩
    obtain ⟨m, hm⟩ : ∃ m, z % 10 = m := ⟨_, rfl⟩
    have hm0 : 0 ≤ m := by omega
    have hm1 : m < 10 := by omega
    obtain ⟨D, hD⟩ : ∃ D, strOfNums [48 + m] = D := ⟨_, rfl⟩
    obtain ⟨q1, hq1⟩ : ∃ q1, str (Lib.decDigits (n / 10)) = q1 := ⟨_, rfl⟩
    have HD := Lib.hid (show str (Lib.decDigits n) = q1 ++ D by
      rw [← hD, str_dig m hm0 hm1, Lib.decDigits, dif_neg (by omega), ← hq1, str_app, show m.toNat = n % 10 by omega])
    have HQ := Lib.hid (fun w => ih (n / 10) (by omega) (by omega) w)
    rw [show ((n / 10 : Nat) : Int) = q by omega, hq1] at HQ
    have hs1 : q1.size ≤ 19 := by rw [← hq1, str_size]; exact Nat.le_trans (dec_len3 _ (by omega)) (by decide)
    have hs2 : D.size = 1 := by rw [← hD, nums_size]; rfl
    have hs3 : q1.size + D.size ≤ 9223372036854775807 := by omega
    have hs4 := Lib.hid hs2
    have e1 : IntKind.i64.wrap (z.tdiv 10) = q := by rw [IntWalk.i64_quo z 10 (by omega), hq]
    have e2 : IntKind.i64.wrap (48 + m) = 48 + m := IntWalk.i64_in _ (by omega)
    have e3 : z.tmod 10 = m := by rw [IntWalk.rem_in z 10 hz0, hm]
    have e4 : IntKind.u8.wrap (48 + m) = 48 + m := IntWalk.u8_in _ (by omega)
    have hconv := fun w : World => conv_one w (48 + m)
    rw [hD] at hconv
    have hconv2 := fun w : World => conv_kept (w := w) (x := 48 + m) (Below.refl _ _)
    rw [hD] at hconv2
    have HDD := Lib.hid hD
    clear ih hz hD hq hm hq1 hs2
    go_enter Try.func8, Try.ntmps8
    go_wp2_with fail
    go_region_with ((go_at_call 8; refine (HQ.out _).mono ?_; rintro e w1 ⟨rfl, hb1⟩; (try (have hcv1 := conv_kept hb1; rw [HDD.out] at hcv1)); (try (have hz1 := hb1.size; simp only [World.heap_alloc_size, World.heap_drew] at hz1))))
    all_goals
      go_wp2
      go_ret
      refine ⟨by rw [HD.out]; rfl, ?_⟩
      first
        | exact (below_of_drew hb1).alloc (below_of_drew hb1).size _
        | exact ((Below.refl _ w).alloc (Nat.le_refl _) _).trans ((below_of_drew hb1).mono (by simp))

theorem dec3_dig (n : Nat) (h : n < 128) : nat_ (Lib.decDigits n) = SynP.dec3 n := by
  have : ∀ k : Fin 128, nat_ (Lib.decDigits k.val) = SynP.dec3 k.val := by decide +kernel
  exact this ⟨n, h⟩

end Go.Proofs.Ytaodcmppbacfbaa

namespace Go.Proofs.Ytaodcmppbacfbaa
open Go.RowKit

theorem mask127 (n : Int) : 0 ≤ bits BinOp.and IntKind.i64 n 127 ∧ bits BinOp.and IntKind.i64 n 127 ≤ 127 := by
  have h : (BitVec.ofInt 64 n &&& BitVec.ofInt 64 127).toNat ≤ 127 := by
    rw [BitVec.toNat_and]
    exact Nat.le_trans Nat.and_le_right (by decide)
  show 0 ≤ IntKind.i64.wrap ((BitVec.ofInt 64 n &&& BitVec.ofInt 64 127).toNat : Nat) ∧ IntKind.i64.wrap ((BitVec.ofInt 64 n &&& BitVec.ofInt 64 127).toNat : Nat) ≤ 127
  rw [IntKind.wrap_i64]
  omega
/-- The text x{a,b}, in bytes. -/
def timesB (a b : Nat) (z : Bool) : List UInt8 := [120, 123] ++ Lib.decDigits a ++ [44] ++ Lib.decDigits b ++ [125] ++ (if z then [63] else [])
theorem nat_app (a b : List UInt8) : nat_ (a ++ b) = nat_ a ++ nat_ b := List.map_append
theorem nat_times (a b : Nat) (z : Bool) (ha : a < 128) (hb : b < 128) : nat_ (timesB a b z) = SynP.timesText a b z := by
  unfold timesB SynP.timesText
  rw [nat_app, nat_app, nat_app, nat_app, nat_app, dec3_dig a ha, dec3_dig b hb]
  cases z <;> rfl
theorem asc_times (a b : Nat) (z : Bool) (ha : a < 128) (hb : b < 128) : (∀ c ∈ timesB a b z, c.toNat < 128) ∧ (timesB a b z).length ≤ 1024 := by
  have h : ∀ k : Fin 128, (∀ c ∈ Lib.decDigits k.val, c.toNat < 128) ∧ (Lib.decDigits k.val).length ≤ 3 := by decide +kernel
  obtain ⟨a1, a2⟩ := h ⟨a, ha⟩
  obtain ⟨b1, b2⟩ := h ⟨b, hb⟩
  simp only at a1 a2 b1 b2
  constructor
  · intro c hc
    unfold timesB at hc
    simp only [List.mem_append] at hc
    rcases hc with ((((hc | hc) | hc) | hc) | hc) | hc
    · revert c; decide
    · exact a1 c hc
    · revert c; decide
    · exact b1 c hc
    · revert c; decide
    · revert c; cases z <;> decide
  · unfold timesB
    simp only [List.length_append]
    cases z <;> simp <;> omega
theorem app_nil (x : ByteArray) : x ++ (⟨#[]⟩ : ByteArray) = x := by
  have h : (x ++ (⟨#[]⟩ : ByteArray)).data = x.data := by rw [ByteArray.data_append]; simp
  exact congrArg ByteArray.mk h
/-- What Parse tells of x{a,b}. -/
def TimesEnd (a b : Nat) (z : Bool) (w : World) (e : Ending) (w' : World) : Prop := Below w.heap.size w w' ∧
    if 64 < a ∨ 64 < b ∨ b < a then e = .returned (.tuple #[.agg zeroP, .agg #[.int .i64 23, .int .i64 1]])
    else ∃ (r1 : Option Addr) (r2 r3 : Nat) (r4 : Bool) (r8 : Int) (r9 : ByteArray) (ra : Option Addr) (rb rc : Nat) (A : Option Addr) (c : Nat), e = .returned (.tuple #[.agg #[.int .i64 10, .slice r1 r2 r3, .bool r4, .int .i64 a, .int .i64 b, .bool z, .int .i64 r8, .string r9, .slice ra rb rc, .slice A 1 c], .agg #[.int .i64 0, .int .i64 0]])
/-- Parse at x{a,b}. -/
theorem times_call (a b : Nat) (z : Bool) (ha : a < 128) (hb : b < 128) (w : World) : Calls Try.prog 9 #[.string (str (timesB a b z)), .agg #[.bool false, .bool false, .bool false, .bool false]] w fun e w' => TimesEnd a b z w e w' := by
  refine (parse_any (str (timesB a b z)) f0 w).mono fun e w' h => ?_
  obtain ⟨h1, h2⟩ := asc_times a b z ha hb
  rw [parseT_asc _ _ h1 h2, SynP.times_parse a b z (by omega) (by omega) (nat_times a b z ha hb)] at h
  unfold TimesEnd
  by_cases hc : 64 < a ∨ 64 < b ∨ b < a
  · rw [if_pos hc] at h ⊢
    obtain ⟨hb, he⟩ := h
    refine ⟨hb, ?_⟩
    rw [he, if_pos (by unfold timesB; simp only [List.length_append]; simp; omega)]
    rfl
  · rw [if_neg hc] at h ⊢
    obtain ⟨hb, r, A, c, rfl, hl, _, _, _⟩ := h
    refine ⟨hb, ?_⟩
    unfold SynP.Nd.rep Lies at hl
    obtain ⟨e1, _, _, e4, e5, e6, _⟩ := hl
    obtain ⟨r0, r1, r2, r3, r4, r5, r6, r7, r8, r9, ra, rb, rc⟩ := r
    simp only at e1 e4 e5 e6
    subst e1; subst e4; subst e5; subst e6
    exact ⟨_, _, _, _, _, _, _, _, _, _, _, rfl⟩

set_option maxRecDepth 100000 in
set_option maxHeartbeats 3200000 in
theorem law_times (x y : Int) (z : Bool) (w : World) : Calls Try.prog 3 #[.int .i64 x, .int .i64 y, .bool z] w fun e w' => e = .returned (.bool true) ∧ Below w.heap.size w w' := by
  obtain ⟨a, ha⟩ : ∃ a : Nat, bits BinOp.and IntKind.i64 x 127 = a := ⟨(bits BinOp.and IntKind.i64 x 127).toNat, by have := mask127 x; omega⟩
  obtain ⟨b, hb⟩ : ∃ b : Nat, bits BinOp.and IntKind.i64 y 127 = b := ⟨(bits BinOp.and IntKind.i64 y 127).toNat, by have := mask127 y; omega⟩
  have ha2 : a < 128 := by have := mask127 x; omega
  have hb2 : b < 128 := by have := mask127 y; omega
  have HNa := Lib.hid (fun w => number_nat a (by omega) w)
  have HNb := Lib.hid (fun w => number_nat b (by omega) w)
  have HP := Lib.hid (fun w => times_call a b z ha2 hb2 w)
  have hla := dec_len3 a (by omega)
  have hlb := dec_len3 b (by omega)
  obtain ⟨sa, hsa⟩ : ∃ sa, str (Lib.decDigits a) = sa := ⟨_, rfl⟩
  obtain ⟨sb, hsb⟩ : ∃ sb, str (Lib.decDigits b) = sb := ⟨_, rfl⟩
  have hza : sa.size ≤ 3 := by rw [← hsa, str_size]; exact hla
  have hzb : sb.size ≤ 3 := by rw [← hsb, str_size]; exact hlb
  have HT : Hid (str (timesB a b z) = ⟨#[120, 123]⟩ ++ sa ++ ⟨#[44]⟩ ++ sb ++ ⟨#[125]⟩ ++ (if z then ⟨#[63]⟩ else ⟨#[]⟩)) := Lib.hid (by
    unfold timesB
    rw [← str_app, ← str_app, ← str_app, ← str_app, ← str_app, hsa, hsb]
    cases z <;> rfl)
  rw [hsa] at HNa
  rw [hsb] at HNb
  rw [HT.out] at HP
  clear hla hlb hsa hsb HT
  go_enter Try.func3, Try.ntmps3
  go_upto_region 4 with (go_at_call 7; refine (speaks_any _).mono ?_; rintro e w1 ⟨rfl, hb1⟩; have HB1 := Lib.hid hb1; clear hb1)
  have T0 : Hid True := Lib.hid trivial
  have hs1 : 2 + sa.size ≤ 9223372036854775807 := by omega
  have hs2 : 2 + sa.size + 1 ≤ 9223372036854775807 := by omega
  have hs3 : 2 + sa.size + 1 + sb.size ≤ 9223372036854775807 := by omega
  have hs4 : 2 + sa.size + 1 + sb.size + 1 ≤ 9223372036854775807 := by omega
  have hs5 : 2 + sa.size + 1 + sb.size + 1 + 1 ≤ 9223372036854775807 := by omega
  go_upto_region 5 with (go_at_call 8; first | (clear T0; refine (HNa.out _).mono ?_; rintro e w2 ⟨rfl, hb2⟩; have HB2 := Lib.hid hb2; clear hb2) | (refine (HNb.out _).mono ?_; rintro e w3 ⟨rfl, hb3⟩; have HB3 := Lib.hid hb3; clear hb3))
  have hfe := faultEq_same 0 0
  have hfb := faultEq_same 23 1
  clear ha hb HNa HNb
  have hb13 := HB1.out.trans (HB2.out.mono HB1.out.size)
  have hb14 := hb13.trans (HB3.out.mono hb13.size)
  have HB4 := Lib.hid hb14
  clear hb13 hb14 HB1 HB2 HB3
  have HPt : Hid (∀ w, Calls Try.prog 9 #[.string (if z then ⟨#[120, 123]⟩ ++ sa ++ ⟨#[44]⟩ ++ sb ++ ⟨#[125]⟩ ++ ⟨#[63]⟩ else ⟨#[120, 123]⟩ ++ sa ++ ⟨#[44]⟩ ++ sb ++ ⟨#[125]⟩), .agg #[.bool false, .bool false, .bool false, .bool false]] w fun e w' => TimesEnd a b z w e w') := Lib.hid fun w => by
    have := HP.out w
    cases z with
    | true => exact this
    | false =>
      simp only [Bool.false_eq_true, if_false, app_nil] at this ⊢
      exact this
  unfold TimesEnd at HPt
  clear HP
  have h6 : ∀ n : Nat, 64 < n → decide ((64 : Int) < (n : Int)) = true := fun n h => decide_eq_true (by omega)
  have h7 : ∀ n : Nat, ¬ 64 < n → decide ((64 : Int) < (n : Int)) = false := fun n h => decide_eq_false (by omega)
  by_cases hc : 64 < a ∨ 64 < b ∨ b < a
  · simp only [if_pos hc] at HPt
    have hcs : decide ((64 : Int) < (a : Int)) = true ∨ decide ((64 : Int) < (a : Int)) = false ∧ decide ((64 : Int) < (b : Int)) = true ∨ decide ((64 : Int) < (a : Int)) = false ∧ decide ((64 : Int) < (b : Int)) = false ∧ decide (b < a) = true := by
      by_cases k1 : 64 < a
      · exact .inl (h6 a k1)
      · by_cases k2 : 64 < b
        · exact .inr (.inl ⟨h7 a k1, h6 b k2⟩)
        · exact .inr (.inr ⟨h7 a k1, h7 b k2, decide_eq_true (by omega)⟩)
    clear hc h6 h7
    rcases hcs with k1 | ⟨k1, k2⟩ | ⟨k1, k2, k3⟩
    all_goals
      cases z
      all_goals
        simp only [Bool.false_eq_true, if_false, if_true] at HPt
        go_wp2_with (go_at_call 9; refine (HPt.out _).mono ?_; rintro e w5 ⟨hb5, rfl⟩; have HB5 := Lib.hid hb5; clear hb5)
        go_ret
        refine ⟨rfl, ?_⟩
        have hb6 := HB4.out.trans (HB5.out.mono HB4.out.size)
        exact (hb6.alloc hb6.size _).alloc (Nat.le_trans hb6.size (by simp)) _
  · simp only [if_neg hc] at HPt
    have k1 := h7 a (by omega)
    have k2 := h7 b (by omega)
    have k3 : decide (b < a) = false := decide_eq_false (by omega)
    clear hc h6 h7
    cases z
    all_goals
      simp only [Bool.false_eq_true, if_false, if_true] at HPt
      go_wp2_with (go_at_call 9; refine (HPt.out _).mono ?_; rintro e w5 ⟨hb5, r1, r2, r3, r4, r8, r9, ra, rb, rc, A, c, rfl⟩; have HB5 := Lib.hid hb5; clear hb5)
      go_ret
      refine ⟨rfl, ?_⟩
      have hb6 := HB4.out.trans (HB5.out.mono HB4.out.size)
      exact (hb6.alloc hb6.size _).alloc (Nat.le_trans hb6.size (by simp)) _

end Go.Proofs.Ytaodcmppbacfbaa
