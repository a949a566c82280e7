/- Chapter 12: made of a tree without quantifiers; Simplify.
  Chapter 10: a quantifier of two numbers behind one letter: in plain Lean.
  Chapter 10: numbers by sixteen digits in a pattern: in plain Lean.
  Chapter 11: rows of plain signs, and brackets in brackets, read by the plain parser.
  A pattern of a word alone, each sign by its number, perhaps one of them a group: read by the plain parser.
  The word that a simple tree tells, in plain Lean; a word's pattern made simpler is itself, and tells the word.
  A set's size.
  Chapter 10: a set's size in the parser's tree.
  The walks of the program's encoder at UTF-8: put behind what is there, Encode of a list of scalars, the bytes of one.
  Chapter 18: the walk of Literal, of a tree that tells a word. -/
import Derived.Test.YtblkejnckbeieaaGreatDoorZk27
import Derived.Test.YtblkejnckbeieaaGreatDoorZk1
import Derived.Test.YtblkejnckbeieaaGreatDoorZk25
import Derived.Test.YtblkejnckbeieaaGreatDoorZk3
import Derived.Test.YtblkejnckbeieaaGreatDoorZk2
import Derived.Test.YtblkejnckbeieaaGreatDoorZk26
import Derived.Deep.DeepCutAuto
import Derived.Laws.BytesArg
namespace Go.Proofs.YtblkejnckbeieaaGreatDoor
open Go.RowKit SetPure

mutual
/-- A tree without quantifiers, in which no class folds. -/
def okF (cl : (Int → Bool) → Int → Bool) : SynP.Nd → Prop
  | .mk kind set fold _ _ _ _ _ kids => (kind = 1 → fold = false ∧ ∃ f, set = some f) ∧ (kind = 8 → (SynP.flatN 8 (SynP.mkL cl kids)).length ≤ 1000000) ∧ kind ≠ 9 ∧
      kind ≠ 10 ∧ kids.length ≤ 1000000 ∧ okFL cl kids
def okFL (cl : (Int → Bool) → Int → Bool) : List SynP.Nd → Prop
  | [] => True
  | x :: l => okF cl x ∧ okFL cl l
end
theorem okFL_mem {cl : (Int → Bool) → Int → Bool} : ∀ {l : List SynP.Nd}, okFL cl l → ∀ x ∈ l, okF cl x
  | [], _, x, hx => absurd hx List.not_mem_nil
  | y :: l, h, x, hx => by
    unfold okFL at h
    rcases List.mem_cons.1 hx with rfl | hx
    · exact h.1
    · exact okFL_mem h.2 x hx
theorem made_flat (cl : (Int → Bool) → Int → Bool) : ∀ (n : Nat) (nd : SynP.Nd), SizeOf.sizeOf nd ≤ n → okF cl nd → MadeC cl nd
  | 0, .mk .., h, _ => by simp at h
  | n + 1, .mk kind set fold least most lazy cap name kids, h, ho => by
    unfold okF at ho
    obtain ⟨o1, o8, o9, o10, ol, ok⟩ := ho
    have IH : ∀ x ∈ kids, MadeC cl x := fun x hx => made_flat cl n x (by
      have := List.sizeOf_lt_of_mem hx
      simp at h
      omega) (okFL_mem ok x hx)
    by_cases h1 : kind = 1
    · subst h1
      obtain ⟨rfl, f, rfl⟩ := o1 rfl
      exact made_cls_false cl least most lazy cap name kids f ol IH
    · by_cases h8 : kind = 8
      · subst h8
        exact made_cat cl set fold least most lazy cap name kids (o8 rfl) ol IH
      · exact made_other cl set fold least most lazy cap name kids kind h1 h8 o9 o10 ol IH

/-- Two results: a node's box and a number. -/
theorem retNI {fn : Func} {Q : Ending → World → Prop} {p q : Tmp} (h : fn.results = #[.cell p 29, .tmp q]) {a : Act} {w : World} {g : Nat} {fz : Nat × Nat} (r : RawN) (b : Value) (hp : a.tmps.getD p undef = .pointer (some ⟨g, 0, none⟩)) (hq : a.tmps.getD q undef = b) (hg : w.heap[g]? = some (.cells r.cells.toArray 29 fz)) (hd : a.defers = [])
    (hQ : Q (.returned (.tuple #[.agg r.cells.toArray, b])) w) : bodyPost Tryz.prog fn Q .ret a w := by
  refine bodyPost_ret (v := .tuple #[.agg r.cells.toArray, b]) ?_ hd hQ
  have hp' : a.tmps[p]?.getD undef = .pointer (some ⟨g, 0, none⟩) := by simpa using hp
  have hq' : a.tmps[q]?.getD undef = b := by simpa using hq
  simp [results, h, hp', hq', asAddr, run_loadVar_row w g _ 29 _ fz _ hg Tryz.underlying29 rfl sizeN]

set_option maxRecDepth 100000 in
set_option maxHeartbeats 6400000 in
/-- Simplify of a tree of few nodes that made makes simpler. -/
theorem simplify_any (cl : (Int → Bool) → Int → Bool) (nd : SynP.Nd) (hc : CountC nd) (hcb : SynP.cntN nd ≤ 8192) (hm : MadeC cl nd) (r : RawN) (P : Nat → Prop) (w : World) (hl : Lies w P nd r) :
    Calls Tryz.prog 12 #[.agg r.cells.toArray] w fun e w' => ∃ q : RawN, e = .returned (.tuple #[.agg q.cells.toArray, .int .i64 0]) ∧ Below w.heap.size w w' ∧ Lies w' (Qw w P) (SynP.mkN cl nd) q := by
  obtain ⟨N, hN⟩ : ∃ N, w.heap.size = N := ⟨_, rfl⟩
  have HNe := Lib.hid hN
  have HCb := Lib.hid hcb
  obtain ⟨c, hcc⟩ : ∃ c, SynP.cntN nd = c := ⟨_, rfl⟩
  unfold CountC at hc
  rw [hcc] at hc hcb
  obtain ⟨W0, hW0⟩ : ∃ W0, (w.alloc (.cells r.cells.toArray 29)).alloc (.cells zeroA 29) = W0 := ⟨_, rfl⟩
  have HS0 : Hid (W0.heap.size = N + 2) := Lib.hid (by rw [← hW0]; simp [hN])
  have HB : Hid (Below N w W0) := Lib.hid (by rw [← hW0, ← hN]; exact below_two w _ _)
  have HBx : Hid (BoxN W0 N r.cells.toArray) := Lib.hid (by rw [← hW0, ← hN]; exact (Below.heap_alloc _ _ _ (by simp)).trans (heap_alloc_new w _))
  have HBv : Hid (BoxN W0 (N + 1) zeroA) := Lib.hid (by
    rw [← hW0, ← hN]
    have := heap_alloc_new (w.alloc (.cells r.cells.toArray 29)) (.cells zeroA 29)
    rw [World.size_alloc] at this
    exact this)
  have hl0 : Lies W0 (fun k => P k ∧ k < N) nd r := Lies.on (StandN.below (by rw [hN]; exact HB.out)) _ _ (Lies.mono (fun k hk hlt => ⟨hk, by omega⟩) _ _ hl)
  have HC := Lib.hid (hc r _ W0 hl0)
  have HM : Hid (∀ wx, Below W0.heap.size W0 wx → Calls Tryz.prog 33 #[.agg r.cells.toArray] wx fun e w' => ∃ q : RawN, e = .returned (.agg q.cells.toArray) ∧ Below wx.heap.size wx w' ∧ Lies w' (Qw wx (fun k => P k ∧ k < N)) (SynP.mkN cl nd) q) := Lib.hid fun wx hb => hm r _ wx (Lies.on (StandN.below hb) _ _ hl0)
  obtain ⟨r0, r1, r2, r3, r4, r5, r6, r7, r8, r9, ra, rb, rc⟩ := r
  simp only [RawN.cells] at hW0 HBx HC HM ⊢
  clear hl hl0 hc hm hcc
  go_enter Tryz.func12, Tryz.ntmps12
  go_upto_region 1 with fail
  clear hW0 hN
  have hcW : ∀ o, W0.cell? ⟨N, o, none⟩ = #[Value.int .i64 r0, .slice r1 r2 r3, .bool r4, .int .i64 r5, .int .i64 r6, .bool r7, .int .i64 r8, .string r9, .slice ra rb rc][o]? := fun o => Lib.cell_of_heap HBx.out o
  go_wp2_with (first
    | (go_at_call 32; refine HC.out.mono ?_; rintro e w2 ⟨rfl, hb2⟩; have HB2 := Lib.hid hb2; clear hb2; replace hcW : ∀ o, w2.cell? ⟨N, o, none⟩ = #[Value.int .i64 r0, .slice r1 r2 r3, .bool r4, .int .i64 r5, .int .i64 r6, .bool r7, .int .i64 r8, .string r9, .slice ra rb rc][o]? := fun o => Lib.cell_of_heap ((HB2.out.block N HBx.out.lt).trans HBx.out) o)
    | (go_at_call 33; refine (HM.out _ HB2.out).mono ?_; rintro e w4 ⟨y, rfl, hb4, hl4⟩; have HB4 := Lib.hid (HB2.out.trans (hb4.mono HB2.out.size)); have HVw : Hid (BoxN w4 (N + 1) zeroA) := Lib.hid ((HB4.out.block (N + 1) HBv.out.lt).trans HBv.out); have HL4 := Lib.hid hl4; clear hb4 hl4)
    | (refine wpList_store_row rfl 29 (.tmp 2) (.tmp 9) rfl (N + 1) y.cells.toArray rfl rfl 29 _ HVw.out sizeN rfl (cellsN_one _) ?_))
  have hsz := HB2.out.size
  have h0 := HS0.out
  obtain ⟨e1, e2⟩ := box_ret (w := w) (by rw [HNe.out]; exact HB.out.trans (HB4.out.mono (by omega))) HVw.out (by rw [HNe.out]; omega) HL4.out (by
    rintro (⟨⟨_, h⟩, _⟩ | h)
    · omega
    · omega)
  refine retNI rfl y _ rfl rfl (setRow_heap _ _ _ _ _ _ HVw.out) rfl ⟨y, rfl, e1, ?_⟩
  refine Lies.mono (fun k hk _ => ?_) _ _ e2
  have h1 := HNe.out
  rcases hk with ⟨⟨h2, h3⟩, _⟩ | h2
  · exact .inl ⟨h2, by omega⟩
  · exact .inr (by omega)

/-- No class is closed. -/
def cl0 (f : Int → Bool) : Int → Bool := f
/-- Simplify of a tree. -/
def SimpC (nd out : SynP.Nd) : Prop := ∀ (r : RawN) (P : Nat → Prop) (w : World), Lies w P nd r → Calls Tryz.prog 12 #[.agg r.cells.toArray] w fun e w' => ∃ q : RawN, e = .returned (.tuple #[.agg q.cells.toArray, .int .i64 0]) ∧ Below w.heap.size w w' ∧ Lies w' (Qw w P) out q
theorem simp_flat (nd : SynP.Nd) (hf : SynP.fewN nd) (hc : SynP.cntN nd ≤ 8192) (ho : okF cl0 nd) : SimpC nd (SynP.mkN cl0 nd) := fun r P w hl =>
  simplify_any cl0 nd (count_all _ nd (Nat.le_refl _) hf) hc (made_flat cl0 _ nd (Nat.le_refl _) ho) r P w hl

end Go.Proofs.YtblkejnckbeieaaGreatDoor

namespace Go.Proofs.YtblkejnckbeieaaGreatDoor.SynP

variable {rs : List Int} {cls : List UInt8 → Option (Int → Bool)} {perl : Int → Option (Int → Bool)}

theorem pk_drop {i : Nat} {c : Int} {t : List Int} (h : rs.drop i = c :: t) : pk rs i = c := by
  have h1 : (rs.drop i)[0]? = some c := by rw [h]; rfl
  rw [List.getElem?_drop, Nat.add_zero] at h1
  unfold pk
  rw [List.getD_eq_getElem?_getD, h1]
  rfl
theorem drop_next {i : Nat} {c : Int} {t : List Int} (h : rs.drop i = c :: t) : rs.drop (i + 1) = t := by
  rw [← List.drop_drop, h]
  rfl
theorem pk_end {i : Nat} (h : rs.drop i = []) : pk rs i = -1 := by
  have : rs.length ≤ i := by
    have := congrArg List.length h
    simp at this
    omega
  unfold pk
  rw [List.getD_eq_getElem?_getD, List.getElem?_eq_none this]
  rfl
/-- Digits, up to something that is none. -/
theorem digs_run : ∀ (ds : List Int) (f : Nat) (n : Int) (i : Nat) (c : Int) (t : List Int), rs.drop i = ds ++ c :: t → (∀ d ∈ ds, 48 ≤ d ∧ d ≤ 57) → ¬ (48 ≤ c ∧ c ≤ 57) → ds.length ≤ f →
    digs rs f n i = (ds.foldl (fun n c => 10 * n + c - 48) n, i + ds.length)
  | [], 0, n, i, c, t, _, _, _, _ => rfl
  | [], f + 1, n, i, c, t, h, _, hc, _ => by
    unfold digs
    rw [pk_drop h, if_neg hc]
    rfl
  | d :: ds, 0, n, i, c, t, _, _, _, hf => by simp at hf
  | d :: ds, f + 1, n, i, c, t, h, hd, hc, hf => by
    unfold digs
    rw [pk_drop h, if_pos (hd d List.mem_cons_self), digs_run ds f _ (i + 1) c t (drop_next h) (fun x hx => hd x (List.mem_cons_of_mem _ hx)) hc (by simpa using hf)]
    simp only [List.foldl_cons, List.length_cons, Prod.mk.injEq, true_and]
    omega

/-- The digits of a number below 1000. -/
def dec3 (n : Nat) : List Int := if n < 10 then [48 + (n : Int)] else if n < 100 then [48 + (n / 10 : Nat), 48 + (n % 10 : Nat)] else [48 + (n / 100 : Nat), 48 + (n / 10 % 10 : Nat), 48 + (n % 10 : Nat)]
theorem dec3_ok (n : Nat) (h : n < 1000) : (∀ d ∈ dec3 n, 48 ≤ d ∧ d ≤ 57) ∧ (dec3 n).foldl (fun n c => 10 * n + c - 48) (0 : Int) = n ∧ 1 ≤ (dec3 n).length ∧ (dec3 n).length ≤ 3 := by
  unfold dec3
  split
  · refine ⟨fun d hd => ?_, ?_, by simp, by simp⟩
    · simp at hd; omega
    · simp; omega
  split
  · refine ⟨fun d hd => ?_, ?_, by simp, by simp⟩
    · simp at hd; omega
    · simp; omega
  · refine ⟨fun d hd => ?_, ?_, by simp, by simp⟩
    · simp at hd; omega
    · simp; omega

/-- The text x{a,b} with or without a mark behind it. -/
def timesText (a b : Nat) (z : Bool) : List Int := [120, 123] ++ dec3 a ++ [44] ++ dec3 b ++ [125] ++ (if z then [63] else [])

theorem times_read (a b : Nat) (z : Bool) (ha : a < 1000) (hb : b < 1000) (hrs : rs = timesText a b z) :
    times rs 1 = some ((a : Int), (b : Int), 4 + (dec3 a).length + (dec3 b).length) ∧ rs.drop (4 + (dec3 a).length + (dec3 b).length) = (if z then [63] else []) := by
  obtain ⟨a1, a2, a3, a4⟩ := dec3_ok a ha
  obtain ⟨b1, b2, b3, b4⟩ := dec3_ok b hb
  have d1 : rs.drop 1 = 123 :: (dec3 a ++ 44 :: (dec3 b ++ 125 :: (if z then [63] else []))) := by rw [hrs]; simp [timesText]
  have d2 := drop_next d1
  have e1 := digs_run (rs := rs) (dec3 a) 4 0 (1 + 1) 44 _ d2 a1 (by decide) (by omega)
  rw [a2] at e1
  have d3 : rs.drop (1 + 1 + (dec3 a).length) = 44 :: (dec3 b ++ 125 :: (if z then [63] else [])) := by
    rw [← List.drop_drop, d2]; simp
  have d4 := drop_next d3
  have e2 := digs_run (rs := rs) (dec3 b) 4 0 (1 + 1 + (dec3 a).length + 1) 125 _ d4 b1 (by decide) (by omega)
  rw [b2] at e2
  have d5 : rs.drop (1 + 1 + (dec3 a).length + 1 + (dec3 b).length) = 125 :: (if z then [63] else []) := by
    rw [← List.drop_drop, d4]; simp
  have d6 := drop_next d5
  have hj : 1 + 1 + (dec3 a).length + 1 + (dec3 b).length + 1 = 4 + (dec3 a).length + (dec3 b).length := by omega
  rw [hj] at d6
  refine ⟨?_, d6⟩
  unfold times
  have p1 := pk_drop d1
  have n1 : ¬ 1 + 1 + (dec3 a).length = 1 + 1 := by omega
  have n2 : ¬ 1 + 1 + (dec3 a).length + 1 + (dec3 b).length = 1 + 1 + (dec3 a).length + 1 := by omega
  rw [if_neg (by rw [p1]; decide), if_neg (by rw [p1]; decide), if_neg (by rw [p1]; decide), if_neg (by rw [p1]; decide)]
  simp only [e1]
  rw [if_neg n1, if_pos (pk_drop d3)]
  simp only [e2]
  rw [if_pos (pk_drop d5), if_neg n2, hj]

theorem pk0 (a b : Nat) (z : Bool) (hrs : rs = timesText a b z) : pk rs 0 = 120 := by
  rw [hrs]; rfl
/-- The plain law of SyntaxTimes. -/
theorem times_parse (a b : Nat) (z : Bool) (ha : a < 1000) (hb : b < 1000) (hrs : rs = timesText a b z) :
    parse rs cls perl ⟨false, false, false, false⟩ = if 64 < a ∨ 64 < b ∨ b < a then .bad 23 1 else .ok (some (.rep a b z (.cls (one 120) false)), ⟨rs.length, [], [[]], ⟨false, false, false, false⟩⟩) := by
  obtain ⟨h1, h2⟩ := times_read (rs := rs) a b z ha hb hrs
  have p0 := pk0 a b z hrs
  have p1 : pk rs 1 = 123 := by rw [hrs]; rfl
  obtain ⟨j, hj⟩ : ∃ j, 4 + (dec3 a).length + (dec3 b).length = j := ⟨_, rfl⟩
  rw [hj] at h1 h2
  have hL : rs.length = j + (if z then 1 else 0) := by
    rw [hrs]
    cases z <;> simp [timesText] <;> omega
  obtain ⟨m, hm⟩ : ∃ m, 4 * rs.length + 8 = m + 6 := ⟨4 * rs.length + 2, by omega⟩
  have t0 : times rs 0 = none := by
    unfold times
    simp [p0]
  have hat : go rs cls perl (m + 4) .atom ⟨0, [], [[]], ⟨false, false, false, false⟩⟩ = .ok (some (.cls (one 120) false), ⟨1, [], [[]], ⟨false, false, false, false⟩⟩) := by
    rw [go]
    simp [p0]
  have hend : ∀ l : List Nd, pk rs rs.length = -1 := fun _ => by
    unfold pk
    simp
  have hrow2 : ∀ (l : List Nd), go rs cls perl (m + 3) (.row l false) ⟨rs.length, [], [[]], ⟨false, false, false, false⟩⟩ = .ok (some (whole 8 l), ⟨rs.length, [], [[]], ⟨false, false, false, false⟩⟩) := by
    intro l
    rw [go]
    simp [hend l]
  have hq : (if pk rs j = 63 then j + 1 else j) = rs.length ∧ decide (pk rs j = 63) = z := by
    cases z with
    | true => rw [pk_drop (by simpa using h2)]; simp [hL]
    | false => rw [pk_end (by simpa using h2)]; simp [hL]
  have hrow1 : go rs cls perl (m + 4) (.row [.cls (one 120) false] true) ⟨1, [], [[]], ⟨false, false, false, false⟩⟩ = if 64 < a ∨ 64 < b ∨ b < a then .bad 23 1 else .ok (some (.rep a b z (.cls (one 120) false)), ⟨rs.length, [], [[]], ⟨false, false, false, false⟩⟩) := by
    rw [go]
    simp only [p1, h1, hq.1]
    rw [if_neg (by decide), if_neg (by decide), if_neg (by decide)]
    by_cases hc : 64 < a ∨ 64 < b ∨ b < a
    · rw [if_pos hc, if_pos (by omega)]
    · rw [if_neg hc, if_neg (by omega), hrow2]
      simp [whole, hq.2]
  have hrow0 : go rs cls perl (m + 5) (.row [] false) ⟨0, [], [[]], ⟨false, false, false, false⟩⟩ = if 64 < a ∨ 64 < b ∨ b < a then .bad 23 1 else .ok (some (.rep a b z (.cls (one 120) false)), ⟨rs.length, [], [[]], ⟨false, false, false, false⟩⟩) := by
    rw [go]
    simp only [p0, t0, hat]
    rw [if_neg (by decide), if_neg (by decide)]
    exact hrow1
  unfold parse
  rw [hm, go, hrow0]
  by_cases hc : 64 < a ∨ 64 < b ∨ b < a
  · rw [if_pos hc]
  · rw [if_neg hc]
    simp only [hend [], Option.toList, List.nil_append, whole]
    rw [if_neg (by decide)]
end Go.Proofs.YtblkejnckbeieaaGreatDoor.SynP

namespace Go.Proofs.YtblkejnckbeieaaGreatDoor.SynP

variable {rs : List Int} {cls : List UInt8 → Option (Int → Bool)} {perl : Int → Option (Int → Bool)}

/-- Digits of sixteen, up to something that is none. -/
theorem nums_run : ∀ (ds : List Int) (f : Nat) (n : Int) (i : Nat) (c : Int) (t : List Int), rs.drop i = ds ++ c :: t → (∀ d ∈ ds, 0 ≤ hexOf d) → hexOf c = -1 → ds.length ≤ f →
    nums rs f n i = (ds.foldl (fun n c => 16 * n + hexOf c) n, i + ds.length)
  | [], 0, n, i, c, t, _, _, _, _ => rfl
  | [], f + 1, n, i, c, t, h, _, hc, _ => by
    unfold nums
    rw [pk_drop h, if_neg (by rw [hc]; decide)]
    rfl
  | d :: ds, 0, n, i, c, t, _, _, _, hf => by simp at hf
  | d :: ds, f + 1, n, i, c, t, h, hd, hc, hf => by
    unfold nums
    rw [pk_drop h, if_pos (hd d List.mem_cons_self), nums_run ds f _ (i + 1) c t (drop_next h) (fun x hx => hd x (List.mem_cons_of_mem _ hx)) hc (by simpa using hf)]
    simp only [List.foldl_cons, List.length_cons, Prod.mk.injEq, true_and]
    omega

def hexD (n : Nat) : Int := if n < 10 then 48 + (n : Int) else 87 + (n : Int)
theorem hexD_of (n : Nat) (h : n < 16) : hexOf (hexD n) = n := by
  unfold hexD hexOf
  by_cases h1 : n < 10
  · rw [if_pos h1, if_pos (by omega)]; omega
  · rw [if_neg h1, if_neg (by omega), if_neg (by omega), if_pos (by omega)]; omega
/-- A number's digits of sixteen: at most f + 1. -/
def hexL : Nat → Nat → List Int
  | 0, n => [hexD n]
  | f + 1, n => if n < 16 then [hexD n] else hexL f (n / 16) ++ [hexD (n % 16)]
theorem hexL_ok : ∀ (f n : Nat), n < 16 ^ (f + 1) → (∀ d ∈ hexL f n, 0 ≤ hexOf d) ∧ (hexL f n).foldl (fun n c => 16 * n + hexOf c) (0 : Int) = n ∧ 1 ≤ (hexL f n).length ∧ (hexL f n).length ≤ f + 1
  | 0, n, h => by
    have hn : n < 16 := by simpa using h
    simp only [hexL]
    refine ⟨fun d hd => ?_, ?_, by simp, by simp⟩
    · obtain rfl : d = hexD n := by simpa using hd
      rw [hexD_of n hn]; omega
    · simp [hexD_of n hn]
  | f + 1, n, h => by
    unfold hexL
    by_cases hn : n < 16
    · rw [if_pos hn]
      refine ⟨fun d hd => ?_, ?_, by simp, by simp⟩
      · obtain rfl : d = hexD n := by simpa using hd
        rw [hexD_of n hn]; omega
      · simp [hexD_of n hn]
    · rw [if_neg hn]
      have h16 : n / 16 < 16 ^ (f + 1) := by
        rw [Nat.pow_succ] at h
        exact Nat.div_lt_of_lt_mul (by rw [Nat.mul_comm]; exact h)
      obtain ⟨h1, h2, h3, h4⟩ := hexL_ok f (n / 16) h16
      have hm := hexD_of (n % 16) (Nat.mod_lt _ (by decide))
      refine ⟨fun d hd => ?_, ?_, by simp, by simp; omega⟩
      · rcases List.mem_append.1 hd with hd | hd
        · exact h1 d hd
        · obtain rfl : d = hexD (n % 16) := by simpa using hd
          rw [hm]; omega
      · rw [List.foldl_append, h2]
        simp only [List.foldl_cons, List.foldl_nil, hm]
        omega
/-- A number in braces behind a stroke and an x. -/
theorem number_run (n from_ i : Nat) (t : List Int) (hn : n ≤ 1114111) (h : rs.drop i = 123 :: (hexL 5 n ++ 125 :: t)) :
    number rs from_ i = .ok ((n : Int), i + 1 + (hexL 5 n).length + 1) ∧ rs.drop (i + 1 + (hexL 5 n).length + 1) = t := by
  obtain ⟨h1, h2, h3, h4⟩ := hexL_ok 5 n (by omega)
  have d1 := drop_next h
  have e1 := nums_run (rs := rs) (hexL 5 n) 6 0 (i + 1) 125 t d1 h1 rfl h4
  rw [h2] at e1
  have d2 : rs.drop (i + 1 + (hexL 5 n).length) = 125 :: t := by rw [← List.drop_drop, d1]; simp
  refine ⟨?_, drop_next d2⟩
  unfold number
  rw [if_pos (pk_drop h)]
  simp only [e1]
  rw [if_neg]
  rw [pk_drop d2]
  omega

/-- An item that is a number by sixteen digits. -/
theorem item_run (n i : Nat) (t : List Int) (hn : n ≤ 1114111) (h : rs.drop i = 92 :: 120 :: 123 :: (hexL 5 n ++ 125 :: t)) :
    item rs cls perl i = .ok (one n, (n : Int), i + 2 + 1 + (hexL 5 n).length + 1) ∧ rs.drop (i + 2 + 1 + (hexL 5 n).length + 1) = t := by
  have d1 := drop_next h
  have d2 := drop_next d1
  obtain ⟨e1, e2⟩ := number_run (rs := rs) n i (i + 1 + 1) t hn d2
  refine ⟨?_, e2⟩
  unfold item
  rw [if_pos (pk_drop h)]
  unfold escape
  simp only [pk_drop d1]
  rw [if_neg (by decide), if_neg (by decide), if_pos trivial, e1]

/-- A list of one range of two numbers. -/
theorem items_run (from_ m a b i : Nat) (t : List Int) (ha : a ≤ 1114111) (hb : b ≤ 1114111)
    (h : rs.drop i = 92 :: 120 :: 123 :: (hexL 5 a ++ 125 :: 45 :: 92 :: 120 :: 123 :: (hexL 5 b ++ 125 :: 93 :: t))) :
    items rs cls perl from_ (m + 2) true (fun _ => false) i = if b < a then .bad 22 i else
      .ok (fun z => false || decide ((a : Int) ≤ z ∧ z ≤ b), i + 2 + 1 + (hexL 5 a).length + 1 + 1 + 2 + 1 + (hexL 5 b).length + 1) := by
  obtain ⟨e1, d1⟩ := item_run (rs := rs) (cls := cls) (perl := perl) a i _ ha h
  obtain ⟨j, hj⟩ : ∃ j, i + 2 + 1 + (hexL 5 a).length + 1 = j := ⟨_, rfl⟩
  rw [hj] at e1 d1 ⊢
  have d2 := drop_next d1
  obtain ⟨e2, d3⟩ := item_run (rs := rs) (cls := cls) (perl := perl) b (j + 1) _ hb d2
  obtain ⟨k, hk⟩ : ∃ k, j + 1 + 2 + 1 + (hexL 5 b).length + 1 = k := ⟨_, rfl⟩
  rw [hk] at e2 d3 ⊢
  unfold items
  rw [if_neg (by simp), if_neg (by rw [pk_drop h]; decide), e1]
  simp only []
  rw [if_pos (by rw [pk_drop d1, pk_drop d2]; exact ⟨by omega, rfl, by decide, by decide⟩), e2]
  simp only []
  by_cases hc : b < a
  · rw [if_pos hc, if_pos (by omega)]
  · rw [if_neg hc, if_neg (by omega)]
    unfold items
    rw [if_pos ⟨rfl, pk_drop d3⟩]

/-- The text of one range of two numbers, or of all but it. -/
def rangeText (a b : Nat) (no : Bool) : List Int := 91 :: ((if no then [94] else []) ++ 92 :: 120 :: 123 :: (hexL 5 a ++ 125 :: 45 :: 92 :: 120 :: 123 :: (hexL 5 b ++ 125 :: 93 :: [])))
/-- The plain law of SyntaxRanges. -/
theorem range_parse (a b : Nat) (no : Bool) (ha : a ≤ 1114111) (hb : b ≤ 1114111) (hrs : rs = rangeText a b no) :
    parse rs cls perl ⟨false, false, false, false⟩ = if b < a then .bad 22 (if no then 2 else 1) else
      .ok (some (.cls (if no then fun z => !(false || decide ((a : Int) ≤ z ∧ z ≤ b)) else fun z => false || decide ((a : Int) ≤ z ∧ z ≤ b)) false), ⟨rs.length, [], [[]], ⟨false, false, false, false⟩⟩) := by
  obtain ⟨i, hi⟩ : ∃ i, (if no then 2 else 1) = i := ⟨_, rfl⟩
  rw [hi]
  have hd : rs.drop i = 92 :: 120 :: 123 :: (hexL 5 a ++ 125 :: 45 :: 92 :: 120 :: 123 :: (hexL 5 b ++ 125 :: 93 :: [])) := by
    rw [hrs, ← hi]; cases no <;> rfl
  have p0 : pk rs 0 = 91 := by rw [hrs]; rfl
  have p1 : decide (pk rs 1 = 94) = no := by rw [hrs]; cases no <;> rfl
  have hL : rs.length = i + 2 + 1 + (hexL 5 a).length + 1 + 1 + 2 + 1 + (hexL 5 b).length + 1 + 1 := by
    rw [hrs, ← hi]
    cases no <;> simp [rangeText] <;> omega
  obtain ⟨m, hm⟩ : ∃ m, rs.length + 1 = m + 2 := ⟨rs.length - 1, by omega⟩
  have hit := items_run (rs := rs) (cls := cls) (perl := perl) 0 m a b i [] ha hb hd
  have hi2 : (if pk rs 1 = 94 then 1 + 1 else 1) = i := by
    rw [← hi, ← p1]
    by_cases e : pk rs 1 = 94 <;> simp [e]
  have hlist : list rs cls perl 0 1 = if b < a then .bad 22 i else .ok (if no then fun z => !(false || decide ((a : Int) ≤ z ∧ z ≤ b)) else fun z => false || decide ((a : Int) ≤ z ∧ z ≤ b), rs.length) := by
    unfold list
    simp only [hm, hi2, hit]
    by_cases hc : b < a
    · rw [if_pos hc, if_pos hc]
    · rw [if_neg hc, if_neg hc]
      simp only [← hL]
      rw [← p1]
      by_cases e : pk rs 1 = 94 <;> simp [e]
  obtain ⟨n, hn⟩ : ∃ n, 4 * rs.length + 8 = n + 6 := ⟨4 * rs.length + 2, by omega⟩
  have t0 : times rs 0 = none := by unfold times; simp [p0]
  have hend : pk rs rs.length = -1 := by unfold pk; simp
  have hrow2 : ∀ (l : List Nd) (q : Bool), go rs cls perl (n + 4) (.row l q) ⟨rs.length, [], [[]], ⟨false, false, false, false⟩⟩ = .ok (some (whole 8 l), ⟨rs.length, [], [[]], ⟨false, false, false, false⟩⟩) := by
    intro l q
    rw [go]
    simp [hend]
  have hatom : go rs cls perl (n + 4) .atom ⟨0, [], [[]], ⟨false, false, false, false⟩⟩ = if b < a then .bad 22 i else
      .ok (some (.cls (if no then fun z => !(false || decide ((a : Int) ≤ z ∧ z ≤ b)) else fun z => false || decide ((a : Int) ≤ z ∧ z ≤ b)) false), ⟨rs.length, [], [[]], ⟨false, false, false, false⟩⟩) := by
    rw [go]
    simp only [p0, Nat.zero_add, hlist]
    rw [if_neg (by decide), if_neg (by decide), if_neg (by decide), if_neg (by decide), if_pos trivial]
    by_cases hc : b < a
    · rw [if_pos hc, if_pos hc]
    · rw [if_neg hc, if_neg hc]
  have hrow0 : go rs cls perl (n + 5) (.row [] false) ⟨0, [], [[]], ⟨false, false, false, false⟩⟩ = if b < a then .bad 22 i else
      .ok (some (.cls (if no then fun z => !(false || decide ((a : Int) ≤ z ∧ z ≤ b)) else fun z => false || decide ((a : Int) ≤ z ∧ z ≤ b)) false), ⟨rs.length, [], [[]], ⟨false, false, false, false⟩⟩) := by
    rw [go]
    simp only [p0, t0, hatom]
    rw [if_neg (by decide), if_neg (by decide)]
    by_cases hc : b < a
    · rw [if_pos hc]
    · rw [if_neg hc]
      simp only [hrow2, Option.toList, List.nil_append, whole]
  unfold parse
  rw [hn, go, hrow0]
  by_cases hc : b < a
  · rw [if_pos hc]
  · rw [if_neg hc]
    simp only [hend, Option.toList, List.nil_append, whole]
    rw [if_neg (by decide)]
end Go.Proofs.YtblkejnckbeieaaGreatDoor.SynP

namespace Go.Proofs.YtblkejnckbeieaaGreatDoor.SynP

variable {rs : List Int} {cls : List UInt8 → Option (Int → Bool)} {perl : Int → Option (Int → Bool)}

def f0_ : Fl := ⟨false, false, false, false⟩
/-- A digit or a letter. -/
def alnum (c : Int) : Prop := 48 ≤ c ∧ c ≤ 57 ∨ 65 ≤ c ∧ c ≤ 90 ∨ 97 ≤ c ∧ c ≤ 122
theorem atom_plain {c : Int} (hc : alnum c) (n : Nat) (s : St) (h : pk rs s.at_ = c) : go rs cls perl (n + 1) .atom s = .ok (some (.cls (one c) s.fl.fold), { s with at_ := s.at_ + 1 }) := by
  unfold alnum at hc
  rw [go]
  simp only [h]
  rw [if_neg (by omega), if_neg (by omega), if_neg (by omega), if_neg (by omega), if_neg (by omega), if_neg (by omega)]
theorem times_plain {c : Int} (hc : alnum c) {i : Nat} (h : pk rs i = c) : times rs i = none := by
  unfold alnum at hc
  unfold times
  rw [h, if_neg (by omega), if_neg (by omega), if_neg (by omega), if_pos (by omega)]
/-- A row of plain signs, up to the end or a closing bracket. -/
theorem row_plain (opn : List Nat) (names : List (List UInt8)) (t : List Int) (ht : t = [] ∨ (opn ≠ [] ∧ ∃ u, t = 41 :: u)) : ∀ (cs : List Int) (n : Nat) (l : List Nd) (so : Bool) (i : Nat), (∀ c ∈ cs, alnum c) → rs.drop i = cs ++ t → cs.length < n →
    go rs cls perl n (.row l so) ⟨i, opn, names, f0_⟩ = .ok (some (whole 8 (l ++ cs.map fun c => .cls (one c) false)), ⟨i + cs.length, opn, names, f0_⟩)
  | [], 0, _, _, _, _, _, hn => absurd hn (Nat.lt_irrefl _)
  | [], n + 1, l, so, i, _, h, _ => by
    rw [go]
    rcases ht with rfl | ⟨ho, u, rfl⟩
    · simp [pk_end (rs := rs) (i := i) h]
    · simp [pk_drop (rs := rs) (i := i) h, ho]
  | c :: cs, 0, _, _, _, _, _, hn => absurd hn (Nat.not_lt_zero _)
  | c :: cs, n + 1, l, so, i, hc, h, hn => by
    have h1 := hc c List.mem_cons_self
    have hp : pk rs i = c := pk_drop h
    have ha : ∃ m, n = m + 1 := ⟨n - 1, by simp at hn; omega⟩
    obtain ⟨m, rfl⟩ := ha
    rw [go]
    simp only [hp, times_plain h1 hp, atom_plain (cls := cls) (perl := perl) h1 m ⟨i, opn, names, f0_⟩ hp]
    have h2 := h1
    unfold alnum at h2
    rw [if_neg (by omega), if_neg (by omega)]
    have := row_plain opn names t ht cs (m + 1) (l ++ [Nd.cls (one c) false]) true (i + 1) (fun x hx => hc x (List.mem_cons_of_mem _ hx)) (drop_next h) (by simpa using hn)
    simp only [Option.toList_some, Option.isSome_some, f0_] at this ⊢
    rw [this]
    simp
    omega
/-- The plain law of ShowPlain. -/
theorem plain_parse (hc : ∀ c ∈ rs, alnum c) : parse rs cls perl f0_ = .ok (some (whole 8 (rs.map fun c => .cls (one c) false)), ⟨rs.length, [], [[]], f0_⟩) := by
  unfold parse
  have e : 4 * rs.length + 8 = (4 * rs.length + 7) + 1 := by omega
  rw [e, go, row_plain [] [[]] [] (.inl rfl) rs _ [] false 0 hc (by simp) (by omega)]
  have hend : pk rs (0 + rs.length) = -1 := by unfold pk; simp
  simp only [hend]
  rw [if_neg (by decide)]
  simp [whole]

/-- Groups in groups, from the k-th on. -/
def deepT : Nat → Nat → Nd
  | _, 0 => .cls (one 97) false
  | k, m + 1 => .grp k [] (deepT (k + 1) m)
def deepS (m : Nat) : List Int := List.replicate m 40 ++ 97 :: List.replicate m 41
theorem deepS_succ (m : Nat) : deepS (m + 1) = 40 :: (deepS m ++ [41]) := by
  unfold deepS
  rw [List.replicate_succ, List.replicate_succ' (n := m) (a := (41 : Int))]
  simp
theorem deep_run : ∀ (m n i : Nat) (opn : List Nat) (names : List (List UInt8)) (t : List Int), (t = [] ∨ (opn ≠ [] ∧ ∃ u, t = 41 :: u)) → rs.drop i = deepS m ++ t → opn.length + m ≤ 32 → 3 * m + 4 ≤ n →
    go rs cls perl n (.alts []) ⟨i, opn, names, f0_⟩ = .ok (some (deepT names.length m), ⟨i + 2 * m + 1, opn, names ++ List.replicate m [], f0_⟩)
  | 0, n, i, opn, names, t, ht, h, ho, hn => by
    obtain ⟨n, rfl⟩ : ∃ k, n = k + 1 := ⟨n - 1, by omega⟩
    have h' : rs.drop i = [97] ++ t := h
    have hd := drop_next (rs := rs) (i := i) h'
    rw [go, row_plain opn names t ht [97] n [] false i (by simp [alnum]) h' (by simp; omega)]
    have hp : pk rs (i + [(97 : Int)].length) ≠ 124 := by
      rcases ht with rfl | ⟨_, u, rfl⟩
      · rw [show i + [(97 : Int)].length = i + 1 from rfl, pk_end hd]; decide
      · rw [show i + [(97 : Int)].length = i + 1 from rfl, pk_drop hd]; decide
    simp only []
    rw [if_neg hp]
    simp [whole, deepT]
  | m + 1, n, i, opn, names, t, ht, h, ho, hn => by
    obtain ⟨n, rfl⟩ : ∃ k, n = k + 4 := ⟨n - 4, by omega⟩
    rw [deepS_succ] at h
    have h' : rs.drop i = 40 :: (deepS m ++ 41 :: t) := by rw [h]; simp
    have hd := drop_next h'
    have p0 := pk_drop h'
    have ih := deep_run m (n + 1) (i + 1) (opn ++ [i]) (names ++ [[]]) (41 :: t) (.inr ⟨by simp, t, rfl⟩) hd (by simp; omega) (by omega)
    have d2 : rs.drop (i + 1 + 2 * m + 1) = 41 :: t := by
      rw [show i + 1 + 2 * m + 1 = i + 1 + (deepS m).length by simp [deepS]; omega, ← List.drop_drop, hd]
      simp
    have p2 := pk_drop d2
    have d3 := drop_next d2
    have p1 : pk rs (i + 1) = 40 ∨ pk rs (i + 1) = 97 := by
      cases m with
      | zero => exact .inr (pk_drop hd)
      | succ m => rw [deepS_succ] at hd; exact .inl (pk_drop hd)
    have hat : go rs cls perl (n + 2) .atom ⟨i, opn, names, f0_⟩ = .ok (some (.grp names.length [] (deepT (names.length + 1) m)), ⟨i + 2 * (m + 1) + 1, opn, names ++ List.replicate (m + 1) [], f0_⟩) := by
      rw [go]
      simp only [p0]
      rw [if_pos trivial, if_neg (by omega), if_neg (by rcases p1 with h | h <;> rw [h] <;> decide)]
      simp only [ih, p2]
      rw [if_neg (by simp)]
      simp only [List.length_append, List.length_singleton, Option.map_some, List.dropLast_concat, List.append_assoc]
      congr 3
      all_goals first
        | omega
        | (rw [List.replicate_succ]; rfl)
        | rfl
    have hrow : go rs cls perl (n + 3) (.row [] false) ⟨i, opn, names, f0_⟩ = .ok (some (.grp names.length [] (deepT (names.length + 1) m)), ⟨i + 2 * (m + 1) + 1, opn, names ++ List.replicate (m + 1) [], f0_⟩) := by
      rw [go]
      have ht0 : times rs i = none := by unfold times; simp [p0]
      simp only [p0, ht0, hat]
      rw [if_neg (by decide), if_neg (by decide)]
      rw [row_plain opn (names ++ List.replicate (m + 1) []) t ht [] (n + 2) _ _ (i + 2 * (m + 1) + 1) (by simp) (by rw [List.nil_append, show i + 2 * (m + 1) + 1 = i + 1 + 2 * m + 1 + 1 by omega]; exact d3) (by simp)]
      simp [whole]
    have hp : pk rs (i + 2 * (m + 1) + 1) ≠ 124 := by
      rw [show i + 2 * (m + 1) + 1 = i + 1 + 2 * m + 1 + 1 by omega]
      rcases ht with rfl | ⟨_, u, rfl⟩
      · rw [pk_end d3]; decide
      · rw [pk_drop d3]; decide
    rw [go]
    simp only [hrow]
    rw [if_neg hp]
    simp [whole, deepT]
/-- The plain law of ShowDeep. -/
theorem deep_parse (m : Nat) (hm : m ≤ 32) (hrs : rs = deepS m) : parse rs cls perl f0_ = .ok (some (deepT 1 m), ⟨2 * m + 1, [], [[]] ++ List.replicate m [], f0_⟩) := by
  have hl : rs.length = 2 * m + 1 := by rw [hrs]; simp [deepS]; omega
  unfold parse
  rw [deep_run m _ 0 [] [[]] [] (.inl rfl) (by rw [hrs]; simp) (by simpa using hm) (by omega)]
  simp
end Go.Proofs.YtblkejnckbeieaaGreatDoor.SynP

namespace Go.Proofs.YtblkejnckbeieaaGreatDoor.SynP

variable {rs : List Int} {cls : List UInt8 → Option (Int → Bool)} {perl : Int → Option (Int → Bool)}

/-- A sign by its number. -/
def pieceW (c : UInt8) : List Int := 92 :: 120 :: 123 :: (hexL 5 c.toNat ++ [125])
def partW (g : Bool) (c : UInt8) : List Int := if g then 40 :: (pieceW c ++ [41]) else pieceW c
/-- The word's text; the fd-th sign in brackets. -/
def wordW (fd : Int) : Nat → List UInt8 → List Int
  | _, [] => []
  | k, c :: cs => partW (decide ((k : Int) = fd)) c ++ wordW fd (k + 1) cs
theorem wordW_cons (fd : Int) (k : Nat) (c : UInt8) (cs : List UInt8) : wordW fd k (c :: cs) = partW (decide ((k : Int) = fd)) c ++ wordW fd (k + 1) cs := rfl
def sgnW (c : UInt8) : Nd := .cls (one (c.toNat : Int)) false
/-- The word's nodes. -/
def nodesW (fd : Int) : Nat → Nat → List UInt8 → List Nd
  | _, _, [] => []
  | k, g, c :: cs => if (k : Int) = fd then .grp g [] (sgnW c) :: nodesW fd (k + 1) (g + 1) cs else sgnW c :: nodesW fd (k + 1) g cs
theorem u8_small (c : UInt8) : c.toNat ≤ 1114111 := by have := UInt8.toNat_lt c; omega
theorem piece_len (c : UInt8) : (pieceW c).length = 4 + (hexL 5 c.toNat).length := by unfold pieceW; simp; omega
theorem times_92 {i : Nat} (h : pk rs i = 92) : times rs i = none := by unfold times; simp [h]
theorem times_40 {i : Nat} (h : pk rs i = 40) : times rs i = none := by unfold times; simp [h]
theorem atom_piece (n : Nat) (c : UInt8) (i : Nat) (opn : List Nat) (names : List (List UInt8)) (t : List Int) (h : rs.drop i = pieceW c ++ t) :
    go rs cls perl (n + 1) .atom ⟨i, opn, names, f0_⟩ = .ok (some (sgnW c), ⟨i + (pieceW c).length, opn, names, f0_⟩) ∧ rs.drop (i + (pieceW c).length) = t := by
  have h' : rs.drop i = 92 :: 120 :: 123 :: (hexL 5 c.toNat ++ 125 :: t) := by rw [h]; unfold pieceW; simp
  have p0 := pk_drop h'
  have d1 := drop_next h'
  have p1 := pk_drop d1
  obtain ⟨e1, e2⟩ := number_run (rs := rs) c.toNat i (i + 1 + 1) t (u8_small c) (drop_next d1)
  have el : i + 1 + 1 + 1 + (hexL 5 c.toNat).length + 1 = i + (pieceW c).length := by rw [piece_len]; omega
  rw [el] at e1 e2
  refine ⟨?_, e2⟩
  rw [go]
  simp only [p0, p1]
  rw [if_neg (by decide), if_neg (by decide), if_neg (by decide), if_neg (by decide), if_neg (by decide), if_pos trivial]
  have hs : signs 120 = none := rfl
  simp only [hs]
  unfold escape
  simp only [p1]
  rw [if_neg (by decide), if_neg (by decide), if_pos trivial, e1]
  rfl
theorem row_end (n i : Nat) (opn : List Nat) (names : List (List UInt8)) (l : List Nd) (so : Bool) (t : List Int) (ht : t = [] ∨ (opn ≠ [] ∧ ∃ u, t = 41 :: u)) (h : rs.drop i = t) :
    go rs cls perl (n + 1) (.row l so) ⟨i, opn, names, f0_⟩ = .ok (some (whole 8 l), ⟨i, opn, names, f0_⟩) := by
  rw [go]
  rcases ht with rfl | ⟨ho, u, rfl⟩
  · simp [pk_end (rs := rs) (i := i) h]
  · simp [pk_drop (rs := rs) (i := i) h, ho]
theorem alts_one (n : Nat) (c : UInt8) (i : Nat) (opn : List Nat) (names : List (List UInt8)) (t : List Int) (ho : opn ≠ []) (h : rs.drop i = pieceW c ++ 41 :: t) :
    go rs cls perl (n + 3) (.alts []) ⟨i, opn, names, f0_⟩ = .ok (some (sgnW c), ⟨i + (pieceW c).length, opn, names, f0_⟩) := by
  obtain ⟨e1, e2⟩ := atom_piece (cls := cls) (perl := perl) n c i opn names (41 :: t) h
  have h' : rs.drop i = 92 :: (120 :: 123 :: (hexL 5 c.toNat ++ [125]) ++ 41 :: t) := by rw [h]; rfl
  have p0 := pk_drop h'
  rw [go, go]
  simp only [p0, times_92 p0, e1]
  rw [if_neg (by decide), if_neg (by decide)]
  rw [row_end (cls := cls) (perl := perl) n _ opn names _ _ (41 :: t) (.inr ⟨ho, t, rfl⟩) e2]
  have p1 := pk_drop e2
  simp only [p1]
  rw [if_neg (by decide)]
  simp [whole]
theorem atom_group (n : Nat) (c : UInt8) (i : Nat) (names : List (List UInt8)) (t : List Int) (h : rs.drop i = 40 :: (pieceW c ++ 41 :: t)) :
    go rs cls perl (n + 4) .atom ⟨i, [], names, f0_⟩ = .ok (some (.grp names.length [] (sgnW c)), ⟨i + (pieceW c).length + 2, [], names ++ [[]], f0_⟩) ∧ rs.drop (i + (pieceW c).length + 2) = t := by
  have p0 := pk_drop h
  have d1 := drop_next h
  have e1 := alts_one (cls := cls) (perl := perl) n c (i + 1) [i] (names ++ [[]]) t (by simp) d1
  have d2 : rs.drop (i + 1 + (pieceW c).length) = 41 :: t := by rw [← List.drop_drop, d1]; simp
  have p1 : pk rs (i + 1) = 92 := pk_drop (t := 120 :: 123 :: (hexL 5 c.toNat ++ [125]) ++ 41 :: t) (by rw [d1]; rfl)
  have p2 := pk_drop d2
  refine ⟨?_, by rw [show i + (pieceW c).length + 2 = i + 1 + (pieceW c).length + 1 by omega]; exact drop_next d2⟩
  rw [go]
  simp only [p0, p1]
  rw [if_pos trivial, if_neg (by simp), if_neg (by decide)]
  simp only [List.nil_append, e1, p2]
  rw [if_neg (by simp)]
  simp only [Option.map_some, List.dropLast_singleton]
  congr 3
  omega
theorem row_word (fd : Int) : ∀ (cs : List UInt8) (n k i : Nat) (names : List (List UInt8)) (l : List Nd) (so : Bool), rs.drop i = wordW fd k cs → cs.length + 5 ≤ n →
    ∃ names2, go rs cls perl n (.row l so) ⟨i, [], names, f0_⟩ = .ok (some (whole 8 (l ++ nodesW fd k names.length cs)), ⟨i + (wordW fd k cs).length, [], names2, f0_⟩)
  | [], n, k, i, names, l, so, h, hn => by
    obtain ⟨m, rfl⟩ : ∃ m, n = m + 1 := ⟨n - 1, by omega⟩
    refine ⟨names, ?_⟩
    rw [row_end m i [] names l so [] (.inl rfl) h]
    simp [nodesW, wordW]
  | c :: cs, n, k, i, names, l, so, h, hn => by
    obtain ⟨m, rfl⟩ : ∃ m, n = m + 5 := ⟨n - 5, by simp at hn; omega⟩
    by_cases hk : (k : Int) = fd
    · have ew : wordW fd k (c :: cs) = 40 :: (pieceW c ++ 41 :: wordW fd (k + 1) cs) := by
        rw [wordW_cons, decide_eq_true hk]
        simp [partW]
      have en : nodesW fd k names.length (c :: cs) = .grp names.length [] (sgnW c) :: nodesW fd (k + 1) (names.length + 1) cs := by
        rw [nodesW, if_pos hk]
      rw [ew] at h ⊢
      rw [en]
      obtain ⟨e1, e2⟩ := atom_group (cls := cls) (perl := perl) m c i names _ h
      have p0 := pk_drop h
      obtain ⟨names2, e3⟩ := row_word fd cs (m + 4) (k + 1) (i + (pieceW c).length + 2) (names ++ [[]]) (l ++ [.grp names.length [] (sgnW c)]) true e2 (by simp at hn ⊢; omega)
      refine ⟨names2, ?_⟩
      rw [go]
      simp only [p0, times_40 p0, e1]
      rw [if_neg (by decide), if_neg (by decide)]
      simp only [Option.toList_some, Option.isSome_some]
      rw [e3]
      simp
      omega
    · have ew : wordW fd k (c :: cs) = pieceW c ++ wordW fd (k + 1) cs := by
        rw [wordW_cons, decide_eq_false hk]
        rfl
      have en : nodesW fd k names.length (c :: cs) = sgnW c :: nodesW fd (k + 1) names.length cs := by
        rw [nodesW, if_neg hk]
      rw [ew] at h ⊢
      rw [en]
      obtain ⟨e1, e2⟩ := atom_piece (cls := cls) (perl := perl) (m + 3) c i [] names _ h
      have p0 : pk rs i = 92 := pk_drop (t := 120 :: 123 :: (hexL 5 c.toNat ++ [125]) ++ wordW fd (k + 1) cs) (by rw [h]; rfl)
      obtain ⟨names2, e3⟩ := row_word fd cs (m + 4) (k + 1) (i + (pieceW c).length) names (l ++ [sgnW c]) true e2 (by simp at hn ⊢; omega)
      refine ⟨names2, ?_⟩
      rw [go]
      simp only [p0, times_92 p0, e1]
      rw [if_neg (by decide), if_neg (by decide)]
      simp only [Option.toList_some, Option.isSome_some]
      rw [e3]
      simp
      omega
theorem wordW_len (fd : Int) : ∀ (cs : List UInt8) (k : Nat), cs.length ≤ (wordW fd k cs).length
  | [], _ => Nat.zero_le _
  | c :: cs, k => by
    have ih := wordW_len fd cs (k + 1)
    rw [wordW_cons, List.length_append]
    have hp : 1 ≤ (partW (decide ((k : Int) = fd)) c).length := by
      unfold partW
      split
      · simp
      · rw [piece_len]; omega
    simp only [List.length_cons]
    omega
/-- The tree of a word's pattern. -/
def treeW (fd : Int) (cs : List UInt8) : Nd := whole 8 (nodesW fd 0 1 cs)
theorem word_parse (fd : Int) (cs : List UInt8) (hrs : rs = wordW fd 0 cs) : ∃ st, parse rs cls perl f0_ = .ok (some (treeW fd cs), st) := by
  have hl := wordW_len fd cs 0
  rw [← hrs] at hl
  unfold parse
  obtain ⟨n, hn⟩ : ∃ n, 4 * rs.length + 8 = n + 1 := ⟨4 * rs.length + 7, by omega⟩
  rw [hn]
  obtain ⟨names2, e⟩ := row_word (rs := rs) (cls := cls) (perl := perl) fd cs n 0 0 [[]] [] false (by rw [List.drop_zero]; exact hrs) (by omega)
  refine ⟨⟨rs.length, [], names2, f0_⟩, ?_⟩
  rw [go, e]
  have hend : pk rs (0 + (wordW fd 0 cs).length) = -1 := by rw [← hrs]; unfold pk; simp
  simp only [hend]
  rw [if_neg (by decide)]
  simp only [Option.toList_some, List.nil_append, ← hrs, Nat.zero_add]
  rfl
end Go.Proofs.YtblkejnckbeieaaGreatDoor.SynP

namespace Go.Proofs.YtblkejnckbeieaaGreatDoor.SynP

/-- All that the tree matches is this text. -/
inductive Lit : Nd → List UInt8 → Prop
  | none (set fold a b lz cap nm kids) : Lit (.mk 0 set fold a b lz cap nm kids) []
  | cls (c : UInt8) (h : c.toNat < 128) (fold a b lz cap nm kids) : Lit (.mk 1 (some (one (c.toNat : Int))) fold a b lz cap nm kids) [c]
  | grp (set fold a b lz cap nm x kids) (l : List UInt8) (h : Lit x l) : Lit (.mk 11 set fold a b lz cap nm (x :: kids)) l
  | cat (set fold a b lz cap nm) (kids : List Nd) (ls : List (List UInt8)) (hl : ls.length = kids.length) (h : ∀ (i : Nat) (h1 : i < kids.length) (h2 : i < ls.length), Lit kids[i] ls[i]) : Lit (.mk 8 set fold a b lz cap nm kids) ls.flatten
theorem lit_sgnW {c : UInt8} (h : c.toNat < 128) : Lit (sgnW c) [c] := Lit.cls c h ..
theorem lit_nodes (fd : Int) : ∀ (cs : List UInt8), (∀ c ∈ cs, c.toNat < 128) → ∀ (k g i : Nat) (h1 : i < (nodesW fd k g cs).length) (h2 : i < (cs.map fun c => [c]).length), Lit ((nodesW fd k g cs)[i]) ((cs.map fun c => [c])[i])
  | [], _, _, _, i, _, h2 => absurd h2 (by simp)
  | c :: cs, h, k, g, i, h1, h2 => by
    by_cases hk : (k : Int) = fd
    · have en : nodesW fd k g (c :: cs) = .grp g [] (sgnW c) :: nodesW fd (k + 1) (g + 1) cs := by rw [nodesW, if_pos hk]
      simp only [en] at h1 ⊢
      cases i with
      | zero => exact Lit.grp _ _ _ _ _ _ _ _ _ _ (lit_sgnW (h c List.mem_cons_self))
      | succ i => exact lit_nodes fd cs (fun x hx => h x (List.mem_cons_of_mem _ hx)) (k + 1) (g + 1) i (by simpa using h1) (by simpa using h2)
    · have en : nodesW fd k g (c :: cs) = sgnW c :: nodesW fd (k + 1) g cs := by rw [nodesW, if_neg hk]
      simp only [en] at h1 ⊢
      cases i with
      | zero => exact lit_sgnW (h c List.mem_cons_self)
      | succ i => exact lit_nodes fd cs (fun x hx => h x (List.mem_cons_of_mem _ hx)) (k + 1) g i (by simpa using h1) (by simpa using h2)
theorem nodes_len (fd : Int) : ∀ (cs : List UInt8) (k g : Nat), (nodesW fd k g cs).length = cs.length
  | [], _, _ => rfl
  | c :: cs, k, g => by
    rw [nodesW]
    split <;> simp [nodes_len fd cs]
theorem nodes_mem (fd : Int) : ∀ (cs : List UInt8) (k g : Nat), ∀ x ∈ nodesW fd k g cs, (∃ c, c ∈ cs ∧ x = sgnW c) ∨ ∃ (c : UInt8) (g' : Nat), c ∈ cs ∧ x = .grp g' [] (sgnW c)
  | [], _, _, x, hx => absurd hx List.not_mem_nil
  | c :: cs, k, g, x, hx => by
    rw [nodesW] at hx
    split at hx
    all_goals
      rcases List.mem_cons.1 hx with rfl | hx
      · first
          | exact .inl ⟨c, List.mem_cons_self, rfl⟩
          | exact .inr ⟨c, g, List.mem_cons_self, rfl⟩
      · rcases nodes_mem fd cs _ _ x hx with ⟨d, h1, h2⟩ | ⟨d, g', h1, h2⟩
        · exact .inl ⟨d, List.mem_cons_of_mem _ h1, h2⟩
        · exact .inr ⟨d, g', List.mem_cons_of_mem _ h1, h2⟩
theorem flat_ones : ∀ cs : List UInt8, (cs.map fun c => [c]).flatten = cs
  | [] => rfl
  | c :: cs => by rw [List.map_cons, List.flatten_cons, flat_ones cs]; rfl
theorem lit_word (fd : Int) (cs : List UInt8) (h : ∀ c ∈ cs, c.toNat < 128) : Lit (treeW fd cs) cs := by
  have hl := nodes_len fd cs 0 1
  have hn := lit_nodes fd cs h 0 1
  unfold treeW
  match hN : nodesW fd 0 1 cs with
  | [] =>
    rw [hN] at hl
    obtain rfl : cs = [] := List.eq_nil_of_length_eq_zero hl.symm
    exact Lit.none ..
  | [x] =>
    simp only [hN] at hl hn
    obtain ⟨c, rfl⟩ : ∃ c, cs = [c] := List.length_eq_one_iff.1 hl.symm
    exact hn 0 (by simp) (by simp)
  | x :: y :: l =>
    simp only [hN] at hl hn
    have e : whole 8 (x :: y :: l) = .mk 8 none false 0 0 false 0 [] (x :: y :: l) := rfl
    rw [e, ← flat_ones cs]
    exact Lit.cat _ _ _ _ _ _ _ _ _ (by rw [List.length_map, hl]) fun i h1 h2 => hn i h1 h2

section
variable (cl : (Int → Bool) → Int → Bool)
theorem mk_sgnW (c : UInt8) : mkN cl (sgnW c) = sgnW c := by
  unfold sgnW Nd.cls mkN
  rw [if_neg (by omega), if_pos rfl]
  simp only [Bool.false_eq_true, if_false, testOf]
  rw [lessF_one (by have := UInt8.toNat_lt c; omega)]
theorem mk_grpW (g : Nat) (c : UInt8) : mkN cl (.grp g [] (sgnW c)) = .grp g [] (sgnW c) := by
  unfold Nd.grp mkN
  rw [if_neg (by omega), if_neg (by omega), if_neg (by omega), if_neg (by omega), if_neg (by omega)]
  unfold mkL mkL
  rw [mk_sgnW]
theorem mk_nodes {l : List Nd} (h : ∀ x ∈ l, (∃ c, x = sgnW c) ∨ ∃ (c : UInt8) (g : Nat), x = .grp g [] (sgnW c)) : mkL cl l = l := by
  induction l with
  | nil => rfl
  | cons x l ih =>
    unfold mkL
    rw [ih fun y hy => h y (List.mem_cons_of_mem _ hy)]
    rcases h x List.mem_cons_self with ⟨c, rfl⟩ | ⟨c, g, rfl⟩
    · rw [mk_sgnW]
    · rw [mk_grpW]
theorem flat_nodes {l : List Nd} (h : ∀ x ∈ l, (∃ c, x = sgnW c) ∨ ∃ (c : UInt8) (g : Nat), x = .grp g [] (sgnW c)) : solidN (flatN 8 l) = l := by
  induction l with
  | nil => rfl
  | cons x l ih =>
    have ih := ih fun y hy => h y (List.mem_cons_of_mem _ hy)
    unfold solidN flatN at ih ⊢
    rw [List.flatMap_cons, List.filter_append, ih]
    rcases h x List.mem_cons_self with ⟨c, rfl⟩ | ⟨c, g, rfl⟩
    · rfl
    · rfl
theorem word_kinds (fd : Int) (cs : List UInt8) : ∀ x ∈ nodesW fd 0 1 cs, (∃ c, x = sgnW c) ∨ ∃ (c : UInt8) (g : Nat), x = .grp g [] (sgnW c) := fun x hx => by
  rcases nodes_mem fd cs 0 1 x hx with ⟨c, _, h⟩ | ⟨c, g, _, h⟩
  · exact .inl ⟨c, h⟩
  · exact .inr ⟨c, g, h⟩
theorem mk_word (fd : Int) (cs : List UInt8) : mkN cl (treeW fd cs) = treeW fd cs := by
  have hk := word_kinds fd cs
  unfold treeW
  match hN : nodesW fd 0 1 cs with
  | [] => show mkN cl (.leaf 0) = .leaf 0; rfl
  | [x] =>
    rw [hN] at hk
    show mkN cl x = x
    have := mk_nodes cl hk
    unfold mkL at this
    exact (List.cons.inj this).1
  | x :: y :: l =>
    rw [hN] at hk
    have e : whole 8 (x :: y :: l) = .mk 8 none false 0 0 false 0 [] (x :: y :: l) := rfl
    have e2 : mkN cl (.mk 8 none false 0 0 false 0 [] (x :: y :: l)) = rowN (mkL cl (x :: y :: l)) := by
      rw [mkN, if_neg (by omega), if_neg (by omega), if_pos rfl]
    rw [e, e2, mk_nodes cl hk]
    unfold rowN
    rw [flat_nodes hk]
    rfl
end
/-- A word's tree comes to few nodes. -/
theorem cntS_nodes : ∀ (l : List Nd) (s : Int), (∀ x ∈ l, (∃ c, x = sgnW c) ∨ ∃ (c : UInt8) (g : Nat), x = .grp g [] (sgnW c)) → 1 ≤ s → s + 2 * l.length ≤ 1000000 → cntS s l ≤ s + 2 * l.length
  | [], s, _, _, _ => by unfold cntS; simp
  | x :: l, s, h, h1, h2 => by
    have hx : 1 ≤ cntN x ∧ cntN x ≤ 2 := by
      rcases h x List.mem_cons_self with ⟨c, rfl⟩ | ⟨c, g, rfl⟩
      · have e : cntN (sgnW c) = 1 := by unfold sgnW Nd.cls cntN; rw [if_neg (by omega), if_neg (by omega), if_neg (by omega)]
        omega
      · have e : cntN (.grp g [] (sgnW c)) = 2 := by
          unfold Nd.grp cntN
          rw [if_neg (by omega), if_pos rfl]
          unfold cntH
          have e : cntN (sgnW c) = 1 := by unfold sgnW Nd.cls cntN; rw [if_neg (by omega), if_neg (by omega), if_neg (by omega)]
          rw [e]
          rfl
        omega
    rw [List.length_cons] at h2 ⊢
    unfold cntS
    have hc : capN (s + cntN x) = s + cntN x := by unfold capN; omega
    rw [hc]
    have := cntS_nodes l (s + cntN x) (fun y hy => h y (List.mem_cons_of_mem _ hy)) (by omega) (by omega)
    omega
theorem cnt_word (fd : Int) (cs : List UInt8) (hl : cs.length ≤ 1000) : cntN (treeW fd cs) ≤ 3000 := by
  have hk := word_kinds fd cs
  have hn := nodes_len fd cs 0 1
  have hm := cntS_nodes (nodesW fd 0 1 cs) 1 hk (by omega) (by omega)
  unfold treeW
  match hN : nodesW fd 0 1 cs with
  | [] => show cntN (.leaf 0) ≤ 3000; unfold Nd.leaf cntN; rw [if_neg (by omega), if_neg (by omega), if_neg (by omega)]; omega
  | [x] =>
    rw [hN] at hk hm
    show cntN x ≤ 3000
    unfold cntS cntS capN at hm
    simp at hm
    omega
  | x :: y :: l =>
    rw [hN] at hm hn
    have e : whole 8 (x :: y :: l) = .mk 8 none false 0 0 false 0 [] (x :: y :: l) := rfl
    have e2 : cntN (.mk 8 none false 0 0 false 0 [] (x :: y :: l)) = cntS 1 (x :: y :: l) := by rw [cntN, if_pos (.inl rfl)]
    rw [e, e2]
    omega
theorem few_word (fd : Int) (cs : List UInt8) : fewN (treeW fd cs) := by
  have hk := word_kinds fd cs
  have hs : ∀ c : UInt8, fewN (sgnW c) := fun c => by unfold sgnW Nd.cls fewN; exact ⟨fun h => absurd h (by decide), by unfold fewL; trivial⟩
  have hx : ∀ x ∈ nodesW fd 0 1 cs, fewN x := fun x hx => by
    rcases hk x hx with ⟨c, rfl⟩ | ⟨c, g, rfl⟩
    · exact hs c
    · unfold Nd.grp fewN
      refine ⟨fun h => absurd h (by decide), ?_⟩
      unfold fewL
      exact ⟨hs c, by unfold fewL; trivial⟩
  have hl : ∀ l : List Nd, (∀ x ∈ l, fewN x) → fewL l := fun l => by
    induction l with
    | nil => intro _; unfold fewL; trivial
    | cons y l ih => intro h; unfold fewL; exact ⟨h y List.mem_cons_self, ih fun z hz => h z (List.mem_cons_of_mem _ hz)⟩
  unfold treeW
  match hN : nodesW fd 0 1 cs with
  | [] => show fewN (.leaf 0); unfold Nd.leaf fewN; exact ⟨fun h => absurd h (by decide), by unfold fewL; trivial⟩
  | [x] => rw [hN] at hx; exact hx x (by simp)
  | x :: y :: l =>
    rw [hN] at hx
    have e : whole 8 (x :: y :: l) = .mk 8 none false 0 0 false 0 [] (x :: y :: l) := rfl
    rw [e]
    unfold fewN
    exact ⟨fun h => absurd h (by decide), hl _ hx⟩
end Go.Proofs.YtblkejnckbeieaaGreatDoor.SynP

namespace Go.Proofs.YtblkejnckbeieaaGreatDoor
open Go.RowKit SetPure

set_option maxHeartbeats 400000 in
theorem size_any (A : Option Addr) (c B : Nat) (l : List Rg) (w : World) (hcan : Canon l) (hA : SeqAt Epair w B A l) (hB : B ≤ w.heap.size) :
    Calls Tryz.prog 34 #[.slice A l.length c] w fun e w' => e = .returned (.int .i64 (sizeL l)) ∧ Below w.heap.size w w' := by
  have hok := Canon.ok hcan (by omega)
  have hlen := hcan.len
  have HA := Lib.hid hA
  have HO := Lib.hid hok
  clear hA hcan hok
  go_enter Tryz.func34, Tryz.ntmps34
  go_wp2
  go_loopw [3, 8] (fun n i wr => ∃ k : Nat, k ≤ l.length ∧ i = .int .i64 k ∧ n = .int .i64 (sizeL (l.take k)) ∧ Below w.heap.size w wr) (fun _ i _ => l.length + 1 - (intOf i).toNat)
  case atStart => exact ⟨0, by omega, rfl, rfl, Below.refl _ _⟩
  case round =>
    obtain ⟨k, hk, rfl, rfl, hbw⟩ := hrel
    have hz := hbw.size
    by_cases hlt : k < l.length
    · obtain ⟨b, off, rfl, hb, hc⟩ := (HA.out.below (hbw.mono hB)).pairs_ (by omega)
      obtain ⟨h0, h1⟩ := hc k hlt
      clear hc
      obtain ⟨⟨x, y⟩, hr⟩ : ∃ r, l.getD k (0, 0) = r := ⟨_, rfl⟩
      rw [hr] at h0 h1
      have hq := HO.out _ (mem_at' hlt hr)
      have hS := sizeL_bd (s := l.take k) (fun r hr => HO.out r (List.mem_of_mem_take hr))
      have hS2 : sizeL (l.take (k + 1)) = sizeL (l.take k) + (y - x + 1) := by rw [take_next' hlt hr, sizeL_append]; simp [sizeL]
      have hTk : ((l.take k).length : Int) ≤ 557056 := by rw [List.length_take]; omega
      have HS2 := Lib.hid hS2
      clear hS2 hr
      simp only at h0 h1 hq
      obtain ⟨q1, q2, q3⟩ := hq
      generalize sizeL (l.take k) = S at *
      obtain ⟨s1, s2⟩ := hS
      generalize (l.take k).length = T at *
      go_wp2
      go_roundw
      case rel => exact ⟨k + 1, by omega, by go_num, val_int (by rw [HS2.out]), hbw.alloc hz _⟩
      case measure => simp [intOf]; omega
    · go_wp2
      go_ret
      exact ⟨ret_int (by rw [List.take_of_length_le (by omega)]), hbw⟩

theorem set_size {w : World} {v : Value} {s : List Rg} (h : IsSet w v s) : Calls Tryz.prog 34 #[v] w fun e w' => e = .returned (.int .i64 (sizeL s)) ∧ Below w.heap.size w w' := by
  obtain ⟨⟨A, c, rfl, hc1, hc2, hA⟩, hcan⟩ := h
  exact size_any A c _ s w hcan hA (Nat.le_refl _)
theorem hold_size {W w : World} {L : List (Value × (Int → Bool))} {v : Value} {f : Int → Bool} (h : Hold W w L) (hv : (v, f) ∈ L) : Calls Tryz.prog 34 #[v] w fun e w' => e = .returned (.int .i64 (cntF f : Nat)) ∧ Hold W w' L := by
  obtain ⟨s, h1, h2⟩ := h.get hv
  refine (set_size h1).mono ?_
  rintro e w' ⟨rfl, hb⟩
  exact ⟨ret_int (by rw [h1.canon.size, cntF, show inB s = f from funext h2]), h.go hb⟩

end Go.Proofs.YtblkejnckbeieaaGreatDoor

namespace Go.Proofs.YtblkejnckbeieaaGreatDoor
open Go.RowKit SetPure

theorem SetV.size_ {w : World} {v : Value} {f : Int → Bool} (h : SetV w v f) (n : Int) (hn : (cntF (fun z => inR z && f z) : Int) = n) : Calls Tryz.prog 34 #[v] w fun e w' => e = .returned (.int .i64 n) ∧ Below w.heap.size w w' :=
  (hold_size h.hold (List.Mem.head _)).mono fun _ _ h => ⟨by rw [← hn]; exact h.1, h.2.1⟩
theorem cntF_range (a b : Int) (h0 : 0 ≤ a) (h1 : a ≤ b) (h2 : b ≤ 1114111) : (cntF (fun z => inR z && decide (a ≤ z ∧ z ≤ b)) : Int) = b - a + 1 := by
  obtain ⟨m, hm⟩ : ∃ m : Nat, a = m := ⟨a.toNat, by omega⟩
  obtain ⟨n, hn⟩ : ∃ n : Nat, b - a + 1 = n := ⟨(b - a + 1).toNat, by omega⟩
  unfold cntF
  rw [show 1114112 = m + (n + (1114112 - m - n)) by omega, cnt_add, cnt_add, cnt_none (lo := 0), cnt_all, cnt_none]
  · omega
  · intro x h3 h4
    rw [decide_eq_false (by omega), Bool.and_false]
  · intro x h3 h4
    rw [decide_eq_true (by omega), (inR_iff x).2 (by omega)]
    rfl
  · intro x h3 h4
    rw [decide_eq_false (by omega), Bool.and_false]
theorem cntF_one (b : Int) (h0 : 0 ≤ b) (h2 : b ≤ 1114111) : cntF (fun z => inR z && SynP.one b z) = 1 := by
  have h := cntF_range b b h0 (Int.le_refl _) h2
  have e : cntF (fun z => inR z && SynP.one b z) = cntF (fun z => inR z && decide (b ≤ z ∧ z ≤ b)) := cntF_congr fun z _ => by
    show (inR z && decide (z = b)) = _
    congr 1
    rw [decide_eq_decide]
    omega
  rw [e]
  omega


end Go.Proofs.YtblkejnckbeieaaGreatDoor

namespace Go.Proofs.YtblkejnckbeieaaGreatDoor
open Go.RowKit

def encU (r : Int) : List Int :=
  if r < 128 then [r] else if r < 2048 then [192 + r / 64, 128 + r % 64] else if r < 65536 then [224 + r / 4096, 128 + r / 64 % 64, 128 + r % 64]
  else [240 + r / 262144, 128 + r / 4096 % 64, 128 + r / 64 % 64, 128 + r % 64]
theorem encU_len (r : Int) : (encU r).length ≤ 4 := by unfold encU; repeat' (split <;> try simp)
set_option maxHeartbeats 1600000 in
set_option maxRecDepth 100000 in
theorem put_any (w0 : World) (v : Value) (l : List Int) (r : Int) (w : World) (h : Own Ebyte 5 w0 w v l) (hl : l.length ≤ 1000000000) (h0 : 0 ≤ r) (h1 : r ≤ 1114111) :
    Calls Tryz.prog 74 #[v, .int .i64 r, .int .i64 1] w (fun e w' => ∃ v', e = .returned v' ∧ Own Ebyte 5 w0 w' v' (l ++ encU r)) := by
  have HO := Lib.hid h
  obtain ⟨A, c, rfl, hlc, hc, hS⟩ := h.isSeq
  have HN := Lib.hid ((HO.out.alloc (.cells #[.slice A l.length c] 60)).alloc (.cells #[.int .i64 1] 3))
  clear h hS HO
  obtain ⟨n, hn⟩ : ∃ n, l.length = n := ⟨_, rfl⟩
  rw [hn] at hl hlc HN ⊢
  have HL := Lib.hid hn
  clear hn
  unfold encU
  by_cases c1 : r < 128
  · rw [if_pos c1]
    go_enter Tryz.func74, Tryz.ntmps74
    go_wp2_with (at_builtin; (refine wpList_append_seq _ rfl (.tmp 66) (.tmp 69) 60 rfl 1 elByte rfl (HN.out.alloc _) 1 rfl (SeqAt.new_at (E := Ebyte) _ [r] 5 (w.heap.size + 1 + 1) (by simp)) rfl (by have := HL.out; simp only [maxLen]; omega) (by have := HL.out; omega) ?_); intro v1 w1 ho1 hg1)
    go_ret
    exact ⟨_, rfl, ho1⟩
  · rw [if_neg c1]
    have e1 := and63 r h0 (by omega)
    have e2 := or128 (r % 64) (by omega) (by omega)
    by_cases c2 : r < 2048
    · rw [if_pos c2]
      have e3 := or192 (r / 64) (by omega) (by omega)
      go_enter Tryz.func74, Tryz.ntmps74
      go_wp2_with (at_builtin; (refine wpList_append_seq _ rfl (.tmp 74) (.tmp 83) 60 rfl 1 elByte rfl (HN.out.alloc _) 2 rfl (SeqAt.new_at (E := Ebyte) _ [192 + r / 64, 128 + r % 64] 5 (w.heap.size + 1 + 1) (by simp)) rfl (by have := HL.out; simp only [maxLen]; omega) (by have := HL.out; omega) ?_); intro v1 w1 ho1 hg1)
      go_ret
      exact ⟨_, rfl, ho1⟩
    · rw [if_neg c2]
      have e4 := and63 (r / 64) (by omega) (by omega)
      have e5 := or128 (r / 64 % 64) (by omega) (by omega)
      by_cases c3 : r < 65536
      · rw [if_pos c3]
        have e6 := or224 (r / 4096) (by omega) (by omega)
        go_enter Tryz.func74, Tryz.ntmps74
        go_wp2_with (at_builtin; (refine wpList_append_seq _ rfl (.tmp 88) (.tmp 102) 60 rfl 1 elByte rfl (HN.out.alloc _) 3 rfl (SeqAt.new_at (E := Ebyte) _ [224 + r / 4096, 128 + r / 64 % 64, 128 + r % 64] 5 (w.heap.size + 1 + 1) (by simp)) rfl (by have := HL.out; simp only [maxLen]; omega) (by have := HL.out; omega) ?_); intro v1 w1 ho1 hg1)
        go_ret
        exact ⟨_, rfl, ho1⟩
      · rw [if_neg c3]
        have e7 := and63 (r / 4096) (by omega) (by omega)
        have e8 := or128 (r / 4096 % 64) (by omega) (by omega)
        have e9 := or240 (r / 262144) (by omega) (by omega)
        go_enter Tryz.func74, Tryz.ntmps74
        go_wp2_with (at_builtin; (refine wpList_append_seq _ rfl (.tmp 9) (.tmp 28) 60 rfl 1 elByte rfl (HN.out.alloc _) 4 rfl (SeqAt.new_at (E := Ebyte) _ [240 + r / 262144, 128 + r / 4096 % 64, 128 + r / 64 % 64, 128 + r % 64] 5 (w.heap.size + 1 + 1) (by simp)) rfl (by have := HL.out; simp only [maxLen]; omega) (by have := HL.out; omega) ?_); intro v1 w1 ho1 hg1)
        go_ret
        exact ⟨_, rfl, ho1⟩

def isScalar (r : Int) : Prop := 0 ≤ r ∧ r ≤ 1114111 ∧ (r < 55296 ∨ 57343 < r)
def encAll (rs : List Int) : List Int := rs.flatMap encU
theorem encAll_len (rs : List Int) : (encAll rs).length ≤ 4 * rs.length := by
  induction rs with
  | nil => simp [encAll]
  | cons r rs ih =>
    have := encU_len r
    rw [show encAll (r :: rs) = encU r ++ encAll rs from rfl, List.length_append, List.length_cons]
    omega
theorem encAll_snoc (rs : List Int) (r : Int) : encAll (rs ++ [r]) = encAll rs ++ encU r := by simp [encAll]

set_option maxHeartbeats 1600000 in
theorem encodeL_any (A : Option Addr) (n c : Nat) (rs : List Int) (w : World) (hn : rs.length = n) (hn1 : n ≤ 100000000) (hS : SeqAt Eint w w.heap.size A rs) (hr : ∀ r ∈ rs, isScalar r) :
    Calls Tryz.prog 35 #[.slice A n c, .int .i64 1, .bool false] w fun e w' => e = .returned (.tuple #[.string (strOfNums (encAll rs)), .int .i64 0]) ∧ Below w.heap.size w w' := by
  have HS := Lib.hid hS
  have HR := Lib.hid hr
  have HN := Lib.hid hn
  clear hS hr hn
  go_enter Tryz.func35, Tryz.ntmps35
  go_wp2
  go_loopw [8, 24] (fun vo ix wr => ∃ k : Nat, k ≤ n ∧ ix = .int .i64 k ∧ Hid (Own Ebyte 5 w wr vo (encAll (rs.take k)))) (fun _ ix _ => n + 1 - (intOf ix).toNat)
  case atStart => exact ⟨0, by omega, rfl, Lib.hid (Own.nil_ w)⟩
  case round =>
    obtain ⟨k, hk, rfl, hown⟩ := hrel
    by_cases hlt : k < n
    · have hkl : k < rs.length := by rw [HN.out]; exact hlt
      obtain ⟨r, hrr⟩ : ∃ r, rs[k] = r := ⟨_, rfl⟩
      obtain ⟨g, off, rfl, hg, hcell⟩ := HS.out.int_ hkl
      rw [hrr] at hcell
      have hcr : wr.cell? ⟨g, off + k, none⟩ = some (.int .i64 r) := (hown.out.2.cell (p := ⟨g, off + k, none⟩) hg).trans hcell
      have hs := HR.out r (by rw [← hrr]; exact List.getElem_mem hkl)
      obtain ⟨h0, h1, h2⟩ := hs
      have HT : Hid (encAll (rs.take (k + 1)) = encAll (rs.take k) ++ encU r) := Lib.hid (by
        rw [← encAll_snoc, List.take_succ_eq_append_getElem hkl, hrr])
      have HL : Hid ((encAll (rs.take k)).length ≤ 1000000000) := Lib.hid (by
        have := encAll_len (rs.take k)
        rw [List.length_take] at this
        omega)
      have hkk : (k : Int) < (n : Int) := by omega
      have hk0 : (0 : Int) ≤ (k : Int) := by omega
      have q1 : decide (r < 0) = false := decide_eq_false (by omega)
      have q2 : decide (1114111 < r) = false := decide_eq_false (by omega)
      clear hcell hrr
      rcases h2 with h2 | h2
      · have q3 : decide (55296 ≤ r) = false := decide_eq_false (by omega)
        go_wp2_with (go_at_call 74; refine (put_any w _ _ r _ hown.out HL.out h0 h1).mono ?_; rintro e w1 ⟨v', rfl, ho⟩; have HO := Lib.hid ho; clear ho)
        go_roundw
        case rel => exact ⟨k + 1, by omega, by go_num, Lib.hid (by rw [HT.out]; exact HO.out)⟩
        case measure => simp [intOf]; omega
      · have q3 : (55296 : Int) ≤ r := by omega
        have q4 : decide (r ≤ 57343) = false := decide_eq_false (by omega)
        go_wp2_with (go_at_call 74; refine (put_any w _ _ r _ hown.out HL.out h0 h1).mono ?_; rintro e w1 ⟨v', rfl, ho⟩; have HO := Lib.hid ho; clear ho)
        go_roundw
        case rel => exact ⟨k + 1, by omega, by go_num, Lib.hid (by rw [HT.out]; exact HO.out)⟩
        case measure => simp [intOf]; omega
    · have hkn : ¬ (k : Int) < (n : Int) := by omega
      have ht : rs.take k = rs := List.take_of_length_le (by rw [HN.out]; omega)
      rw [ht] at hown
      have hcv := conv_own hown.out
      clear ht
      go_wp2
      go_ret2
      exact ⟨rfl, hown.out.2⟩

end Go.Proofs.YtblkejnckbeieaaGreatDoor

namespace Go.Proofs.YtblkejnckbeieaaGreatDoor
open Go.RowKit SetPure

/-- Literal tells the word, and that it is all. -/
def LitC (nd : SynP.Nd) (l : List UInt8) : Prop := ∀ (r : RawN) (P : Nat → Prop) (w : World), Lies w P nd r → Calls Tryz.prog 13 #[.agg r.cells.toArray] w fun e w' => e = .returned (.tuple #[.string (str l), .bool true]) ∧ Below w.heap.size w w'
/-- A set of one scalar: its row. -/
theorem SetV.row_one {w : World} {v : Value} {c : Int} (hc : 0 ≤ c ∧ c ≤ 1114111) (h : SetV w v (SynP.one c)) : ∃ b off cp, v = .slice (some ⟨b, off, none⟩) 1 cp ∧ b < w.heap.size ∧ w.cell? ⟨b, off, none⟩ = some (.int .i64 c) := by
  obtain ⟨s, h1, h2⟩ := h
  have hs : s = [(c, c)] := by
    refine Canon.unique h1.canon ?_ fun z => ?_
    · exact ⟨hc.1, Int.le_refl _, hc.2, trivial⟩
    · rw [← inB_iff, h2, InS_cons]
      simp only [Bool.and_eq_true, inR_iff, SynP.one, decide_eq_true_eq]
      constructor
      · rintro ⟨_, h⟩
        exact .inl (by omega)
      · rintro (h | h)
        · omega
        · exact absurd h (InS_nil _)
  subst hs
  obtain ⟨A, cp, rfl, _, _, hA⟩ := h1.1
  obtain ⟨b, off, rfl, hb, hcell⟩ := hA (by simp)
  exact ⟨b, off, cp, rfl, hb, hcell 0 (by show 0 < 1 * 2; decide)⟩
theorem enc_asc (c : UInt8) (h : c.toNat < 128) : strOfNums (encAll [(c.toNat : Int)]) = str [c] := by
  have e : encAll [(c.toNat : Int)] = [(c.toNat : Int)] := by unfold encAll encU; rw [List.flatMap_cons, List.flatMap_nil, if_pos (by omega)]; rfl
  rw [e]
  unfold strOfNums str
  simp

theorem flatten_le (ls : List (List UInt8)) (i : Nat) : ((ls.take i).flatten).length ≤ ls.flatten.length := by
  conv => rhs; rw [← List.take_append_drop i ls]
  rw [List.flatten_append, List.length_append]
  omega
theorem mem_flatten_len {ls : List (List UInt8)} {x : List UInt8} (h : x ∈ ls) : x.length ≤ ls.flatten.length := by
  induction ls with
  | nil => cases h
  | cons y ls ih =>
    rw [List.flatten_cons, List.length_append]
    rcases List.mem_cons.1 h with rfl | h
    · omega
    · have := ih h; omega
section
variable (set : Option (Int → Bool)) (fold : Bool) (a b : Int) (lz : Bool) (cap : Nat) (nm : List UInt8) (kids : List SynP.Nd)
set_option maxRecDepth 100000 in
set_option maxHeartbeats 3200000 in
theorem lit_none : LitC (.mk 0 set fold a b lz cap nm kids) [] := by
  intro r P w hl
  have hrk : r.kind = _ := hl.kind_z
  obtain ⟨r0, r1, r2, r3, r4, r5, r6, r7, r8, r9, ra, rb, rc⟩ := r
  simp only at hrk
  have hrk' : r0 = 0 := hrk
  subst hrk'
  obtain ⟨N, hN⟩ : ∃ N, w.heap.size = N := ⟨_, rfl⟩
  have HNe := Lib.hid hN
  have HX : Hid (BoxN (w.alloc (.cells #[.int .i64 0, .slice r1 r2 r3, .bool r4, .int .i64 r5, .int .i64 r6, .bool r7, .int .i64 r8, .string r9, .slice ra rb rc] 29)) N #[.int .i64 0, .slice r1 r2 r3, .bool r4, .int .i64 r5, .int .i64 r6, .bool r7, .int .i64 r8, .string r9, .slice ra rb rc]) := Lib.hid (by rw [← hN]; exact heap_alloc_new w _)
  have HB : Hid (Below N w (w.alloc (.cells #[.int .i64 0, .slice r1 r2 r3, .bool r4, .int .i64 r5, .int .i64 r6, .bool r7, .int .i64 r8, .string r9, .slice ra rb rc] 29))) := Lib.hid (by rw [← hN]; exact (Below.refl _ _).alloc (Nat.le_refl _) _)
  simp only [RawN.cells]
  clear hl hN hrk
  go_enter Tryz.func13, Tryz.ntmps13
  go_upto_region 1 with fail
  rw [HNe.out]
  generalize w.alloc (.cells #[.int .i64 0, .slice r1 r2 r3, .bool r4, .int .i64 r5, .int .i64 r6, .bool r7, .int .i64 r8, .string r9, .slice ra rb rc] 29) = W at HX HB ⊢
  have hcW : ∀ o, W.cell? ⟨N, o, none⟩ = #[Value.int .i64 0, .slice r1 r2 r3, .bool r4, .int .i64 r5, .int .i64 r6, .bool r7, .int .i64 r8, .string r9, .slice ra rb rc][o]? := fun o => Lib.cell_of_heap HX.out o
  go_wp2_with fail
  go_ret2
  exact ⟨rfl, by rw [HNe.out]; exact HB.out⟩

set_option maxRecDepth 100000 in
set_option maxHeartbeats 6400000 in
theorem lit_cls (c : UInt8) (hc : c.toNat < 128) : LitC (.mk 1 (some (SynP.one (c.toNat : Int))) fold a b lz cap nm kids) [c] := by
  intro r P w hl
  have hrk : r.kind = _ := hl.kind_z
  obtain ⟨r0, r1, r2, r3, r4, r5, r6, r7, r8, r9, ra, rb, rc⟩ := r
  simp only at hrk
  have hrk' : r0 = 1 := hrk
  subst hrk'
  have hset : SetV w (.slice r1 r2 r3) (SynP.one (c.toNat : Int)) := by
    have h := hl
    unfold Lies at h
    exact h.2.1
  obtain ⟨z1, z2, z3, e1, z4, z5⟩ := hset.row_one ⟨by omega, by omega⟩
  injection e1 with e1 e2 e3
  subst e1; subst e2; subst e3
  obtain ⟨N, hN⟩ : ∃ N, w.heap.size = N := ⟨_, rfl⟩
  have HNe := Lib.hid hN
  have HX : Hid (BoxN (w.alloc (.cells #[.int .i64 1, .slice (some ⟨z1, z2, none⟩) 1 r3, .bool r4, .int .i64 r5, .int .i64 r6, .bool r7, .int .i64 r8, .string r9, .slice ra rb rc] 29)) N #[.int .i64 1, .slice (some ⟨z1, z2, none⟩) 1 r3, .bool r4, .int .i64 r5, .int .i64 r6, .bool r7, .int .i64 r8, .string r9, .slice ra rb rc]) := Lib.hid (by rw [← hN]; exact heap_alloc_new w _)
  have HB : Hid (Below N w (w.alloc (.cells #[.int .i64 1, .slice (some ⟨z1, z2, none⟩) 1 r3, .bool r4, .int .i64 r5, .int .i64 r6, .bool r7, .int .i64 r8, .string r9, .slice ra rb rc] 29))) := Lib.hid (by rw [← hN]; exact (Below.refl _ _).alloc (Nat.le_refl _) _)
  simp only [RawN.cells]
  have HSet : Hid (SetV (w.alloc (.cells #[.int .i64 1, .slice (some ⟨z1, z2, none⟩) 1 r3, .bool r4, .int .i64 r5, .int .i64 r6, .bool r7, .int .i64 r8, .string r9, .slice ra rb rc] 29)) (.slice (some ⟨z1, z2, none⟩) 1 r3) (SynP.one (c.toNat : Int))) := Lib.hid (hset.on (KeepR.below ((Below.refl _ _).alloc (Nat.le_refl _) _)))
  have HZ : Hid ((w.alloc (.cells #[.int .i64 1, .slice (some ⟨z1, z2, none⟩) 1 r3, .bool r4, .int .i64 r5, .int .i64 r6, .bool r7, .int .i64 r8, .string r9, .slice ra rb rc] 29)).cell? ⟨z1, z2, none⟩ = some (.int .i64 (c.toNat : Int))) := Lib.hid ((World.cell?_alloc_lt w _ ⟨z1, z2, none⟩ z4).trans z5)
  have HZl : Hid (z1 < N) := Lib.hid (by omega)
  have hc1 : cntF (fun z => inR z && SynP.one (c.toNat : Int) z) = 1 := cntF_one _ (by omega) (by omega)
  have HC1 := Lib.hid hc1
  have HC := Lib.hid (enc_asc c hc)
  clear hl hN hrk hset z5 hc1
  go_enter Tryz.func13, Tryz.ntmps13
  go_upto_region 1 with fail
  rw [HNe.out]
  generalize w.alloc (.cells #[.int .i64 1, .slice (some ⟨z1, z2, none⟩) 1 r3, .bool r4, .int .i64 r5, .int .i64 r6, .bool r7, .int .i64 r8, .string r9, .slice ra rb rc] 29) = W at HX HB HSet HZ ⊢
  have hcW : ∀ o, W.cell? ⟨N, o, none⟩ = #[Value.int .i64 1, .slice (some ⟨z1, z2, none⟩) 1 r3, .bool r4, .int .i64 r5, .int .i64 r6, .bool r7, .int .i64 r8, .string r9, .slice ra rb rc][o]? := fun o => Lib.cell_of_heap HX.out o
  have HSz := Lib.hid (HSet.out.size_ 1 (by rw [HC1.out]; rfl))
  go_upto_region 7 with (go_at_call 34; refine HSz.out.mono ?_; rintro e w2 ⟨rfl, hb2⟩; have HB2 := Lib.hid hb2; clear hb2; replace hcW : ∀ o, w2.cell? ⟨N, o, none⟩ = #[Value.int .i64 1, .slice (some ⟨z1, z2, none⟩) 1 r3, .bool r4, .int .i64 r5, .int .i64 r6, .bool r7, .int .i64 r8, .string r9, .slice ra rb rc][o]? := fun o => Lib.cell_of_heap ((HB2.out.block N HX.out.lt).trans HX.out) o)
  have hcz : w2.cell? ⟨z1, z2, none⟩ = some (.int .i64 (c.toNat : Int)) := (HB2.out.cell (p := ⟨z1, z2, none⟩) (Nat.lt_trans HZl.out HX.out.lt)).trans HZ.out
  have HEn : Hid (Calls Tryz.prog 35 #[.slice (some ⟨w2.heap.size, 0, none⟩) 1 1, .int .i64 1, .bool false] (w2.alloc (.cells #[.int .i64 (c.toNat : Int)] 3)) fun e w' => e = .returned (.tuple #[.string (str [c]), .int .i64 0]) ∧ Below (w2.alloc (.cells #[.int .i64 (c.toNat : Int)] 3)).heap.size (w2.alloc (.cells #[.int .i64 (c.toNat : Int)] 3)) w') := Lib.hid (by
    have hseq : SeqAt Eint (w2.alloc (.cells #[.int .i64 (c.toNat : Int)] 3)) (w2.alloc (.cells #[.int .i64 (c.toNat : Int)] 3)).heap.size (some ⟨w2.heap.size, 0, none⟩) [(c.toNat : Int)] := by
      rw [World.size_alloc]
      exact SeqAt.new (E := Eint) w2 [(c.toNat : Int)] 3
    have := encodeL_any (some ⟨w2.heap.size, 0, none⟩) 1 1 [(c.toNat : Int)] _ rfl (by decide) hseq (fun r hr => by rw [List.mem_singleton.1 hr]; unfold isScalar; omega)
    rw [HC.out] at this
    exact this)
  go_wp2_with (go_at_call 35; refine HEn.out.mono ?_; rintro e w3 ⟨rfl, hb3⟩; have HB3 : Hid (Below w2.heap.size w2 w3) := Lib.hid (((Below.refl _ w2).alloc (Nat.le_refl _) _).trans (hb3.mono (by simp))); clear hb3)
  go_ret2
  have h1 := HB2.out.trans (HB3.out.mono HB2.out.size)
  exact ⟨rfl, by rw [HNe.out]; exact HB.out.trans (h1.mono (Nat.le_of_lt HX.out.lt))⟩

set_option maxRecDepth 100000 in
set_option maxHeartbeats 6400000 in
theorem lit_grp (x : SynP.Nd) (l : List UInt8) (ih : LitC x l) : LitC (.mk 11 set fold a b lz cap nm (x :: kids)) l := by
  intro r P w hl
  have hrk : r.kind = _ := hl.kind_z
  have hn := hl.kids_.1
  have hmax := hl.roomS
  obtain ⟨r0, r1, r2, r3, r4, r5, r6, r7, r8, r9, ra, rb, rc⟩ := r
  simp only at hrk hn hmax
  have hrk' : r0 = 11 := hrk
  subst hrk'
  obtain ⟨rs, hrs, hkk, hls⟩ := hl.kids_.2
  obtain ⟨z1, z2, z, e1, z4, z5, z6⟩ := hkk.kid_at hrs hls 0 (Nat.succ_pos _)
  simp only at e1
  subst e1
  have HC : Hid (∀ wx, Below w.heap.size w wx → Calls Tryz.prog 13 #[.agg z.cells.toArray] wx fun e w' => e = .returned (.tuple #[.string (str l), .bool true]) ∧ Below wx.heap.size wx w') := Lib.hid fun wx hb => ih z P wx (Lies.on (StandN.below hb) _ _ z5)
  have hrb : rb = kids.length + 1 := hn
  have hk0 : (0 : Int) < (rb : Int) := by omega
  clear hkk hls hrs z5 hrb
  obtain ⟨N, hN⟩ : ∃ N, w.heap.size = N := ⟨_, rfl⟩
  have HNe := Lib.hid hN
  have HX : Hid (BoxN (w.alloc (.cells #[.int .i64 11, .slice r1 r2 r3, .bool r4, .int .i64 r5, .int .i64 r6, .bool r7, .int .i64 r8, .string r9, .slice (some ⟨z1, z2, none⟩) rb rc] 29)) N #[.int .i64 11, .slice r1 r2 r3, .bool r4, .int .i64 r5, .int .i64 r6, .bool r7, .int .i64 r8, .string r9, .slice (some ⟨z1, z2, none⟩) rb rc]) := Lib.hid (by rw [← hN]; exact heap_alloc_new w _)
  have HB : Hid (Below N w (w.alloc (.cells #[.int .i64 11, .slice r1 r2 r3, .bool r4, .int .i64 r5, .int .i64 r6, .bool r7, .int .i64 r8, .string r9, .slice (some ⟨z1, z2, none⟩) rb rc] 29))) := Lib.hid (by rw [← hN]; exact (Below.refl _ _).alloc (Nat.le_refl _) _)
  simp only [RawN.cells]
  clear hl hN hrk hn hmax
  go_enter Tryz.func13, Tryz.ntmps13
  go_upto_region 1 with fail
  rw [HNe.out]
  generalize w.alloc (.cells #[.int .i64 11, .slice r1 r2 r3, .bool r4, .int .i64 r5, .int .i64 r6, .bool r7, .int .i64 r8, .string r9, .slice (some ⟨z1, z2, none⟩) rb rc] 29) = W at HX HB ⊢
  have hcW : ∀ o, W.cell? ⟨N, o, none⟩ = #[Value.int .i64 11, .slice r1 r2 r3, .bool r4, .int .i64 r5, .int .i64 r6, .bool r7, .int .i64 r8, .string r9, .slice (some ⟨z1, z2, none⟩) rb rc][o]? := fun o => Lib.cell_of_heap HX.out o
  have hbl : Below w.heap.size w W := by rw [HNe.out]; exact HB.out
  have mm : ∀ o, o < 9 → W.cell? ⟨z1, z2 + o, none⟩ = some (z.cells.getD o undef) := fun o ho => (hbl.cell (p := ⟨z1, z2 + o, none⟩) z4).trans (by have := z6 o ho; rwa [Nat.zero_mul, Nat.zero_add] at this)
  have HCW := Lib.hid (HC.out W hbl)
  obtain ⟨a0, a1, a2, a3, a4, a5, a6, a7, a8, a9, aa, ab, ac⟩ := z
  simp only [RawN.cells] at HCW
  have m0 : W.cell? ⟨z1, z2, none⟩ = some (.int .i64 a0) := mm 0 (by decide)
  have m1 : W.cell? ⟨z1, z2 + 1, none⟩ = some (.slice a1 a2 a3) := mm 1 (by decide)
  have m2 : W.cell? ⟨z1, z2 + 2, none⟩ = some (.bool a4) := mm 2 (by decide)
  have m3 : W.cell? ⟨z1, z2 + 3, none⟩ = some (.int .i64 a5) := mm 3 (by decide)
  have m4 : W.cell? ⟨z1, z2 + 4, none⟩ = some (.int .i64 a6) := mm 4 (by decide)
  have m5 : W.cell? ⟨z1, z2 + 5, none⟩ = some (.bool a7) := mm 5 (by decide)
  have m6 : W.cell? ⟨z1, z2 + 6, none⟩ = some (.int .i64 a8) := mm 6 (by decide)
  have m7 : W.cell? ⟨z1, z2 + 7, none⟩ = some (.string a9) := mm 7 (by decide)
  have m8 : W.cell? ⟨z1, z2 + 8, none⟩ = some (.slice aa ab ac) := mm 8 (by decide)
  clear mm z6 hbl HC
  go_wp2_with (go_at_call 13; refine HCW.out.mono ?_; rintro e w2 ⟨rfl, hb2⟩; have HB2 := Lib.hid hb2; clear hb2)
  go_ret2
  exact ⟨rfl, by rw [HNe.out]; exact HB.out.trans (HB2.out.mono (Nat.le_of_lt HX.out.lt))⟩

set_option maxRecDepth 100000 in
set_option maxHeartbeats 12800000 in
theorem lit_cat (ls : List (List UInt8)) (hls : ls.length = kids.length) (ih : ∀ (i : Nat) (h1 : i < kids.length) (h2 : i < ls.length), LitC kids[i] ls[i]) (hlen : ls.flatten.length ≤ 1000000) : LitC (.mk 8 set fold a b lz cap nm kids) ls.flatten := by
  have HIH := Lib.hid ih
  have HLs := Lib.hid hls
  have HLen := Lib.hid hlen
  clear ih hls hlen
  intro r P w hl
  have hrk : r.kind = _ := hl.kind_z
  have hn := hl.kids_.1
  have hmax := hl.roomS
  obtain ⟨r0, r1, r2, r3, r4, r5, r6, r7, r8, r9, ra, rb, rc⟩ := r
  simp only at hrk hn hmax
  have hrk' : r0 = 8 := hrk
  subst hrk'
  have HL := Lib.hid hl
  obtain ⟨N, hN⟩ : ∃ N, w.heap.size = N := ⟨_, rfl⟩
  have HNe := Lib.hid hN
  have HX : Hid (BoxN (w.alloc (.cells #[.int .i64 8, .slice r1 r2 r3, .bool r4, .int .i64 r5, .int .i64 r6, .bool r7, .int .i64 r8, .string r9, .slice ra rb rc] 29)) N #[.int .i64 8, .slice r1 r2 r3, .bool r4, .int .i64 r5, .int .i64 r6, .bool r7, .int .i64 r8, .string r9, .slice ra rb rc]) := Lib.hid (by rw [← hN]; exact heap_alloc_new w _)
  have HB : Hid (Below N w (w.alloc (.cells #[.int .i64 8, .slice r1 r2 r3, .bool r4, .int .i64 r5, .int .i64 r6, .bool r7, .int .i64 r8, .string r9, .slice ra rb rc] 29))) := Lib.hid (by rw [← hN]; exact (Below.refl _ _).alloc (Nat.le_refl _) _)
  simp only [RawN.cells]
  obtain ⟨rs, hrs, hkk, hll⟩ := HL.out.kids_.2
  have HRs := Lib.hid hrs
  have HK := Lib.hid hkk
  have HLL := Lib.hid hll
  have HKn : Hid (kids.length = rb) := Lib.hid hn.symm
  clear HL hrs hkk hll
  clear hl hN hrk hn
  go_enter Tryz.func13, Tryz.ntmps13
  go_upto_region 1 with fail
  rw [HNe.out]
  generalize w.alloc (.cells #[.int .i64 8, .slice r1 r2 r3, .bool r4, .int .i64 r5, .int .i64 r6, .bool r7, .int .i64 r8, .string r9, .slice ra rb rc] 29) = W at HX HB ⊢
  have hcW : ∀ o, W.cell? ⟨N, o, none⟩ = #[Value.int .i64 8, .slice r1 r2 r3, .bool r4, .int .i64 r5, .int .i64 r6, .bool r7, .int .i64 r8, .string r9, .slice ra rb rc][o]? := fun o => Lib.cell_of_heap HX.out o
  have HBW : Hid (Below w.heap.size w W) := Lib.hid (by rw [HNe.out]; exact HB.out)
  go_upto_region 13 with fail
  go_wp2_with fail
  clear hcW
  go_loopw [6, 48] (fun s6 s48 wr => ∃ (i : Nat) (q : ByteArray), i ≤ rb ∧ s48 = .int .i64 i ∧ s6 = .string q ∧ q.size ≤ 1000000 ∧ Hid (q = str (ls.take i).flatten) ∧ Hid (Below w.heap.size w wr)) (fun _ s48 _ => rb + 1 - (intOf s48).toNat)
  case atStart => exact ⟨0, ⟨#[]⟩, Nat.zero_le _, rfl, rfl, by decide, Lib.hid rfl, HBW⟩
  case round =>
    obtain ⟨i, q, hi, rfl, rfl, hq, HQ, HS⟩ := hrel
    by_cases hlt : i < rb
    · have hii : (i : Int) < (rb : Int) := by omega
      have hi0 : (0 : Int) ≤ (i : Int) := by omega
      have hij : i < kids.length := by rw [HKn.out]; exact hlt
      have hil : i < ls.length := by rw [HLs.out]; exact hij
      obtain ⟨z1, z2, z, rfl, z4, z5, z6⟩ := HK.out.kid_at HRs.out HLL.out i hij
      have hih := HIH.out i hij hil
      obtain ⟨x, hx⟩ : ∃ x, ls[i]'hil = x := ⟨_, rfl⟩
      have hT : (ls.take (i + 1)).flatten = (ls.take i).flatten ++ x := by rw [List.take_succ_eq_append_getElem hil, List.flatten_append, hx]; simp
      have hle : ((ls.take (i + 1)).flatten).length ≤ 1000000 := Nat.le_trans (flatten_le ls (i + 1)) HLen.out
      rw [hx] at hih
      have HT : Hid (str (ls.take (i + 1)).flatten = q ++ str x) := Lib.hid (by rw [hT, ← str_app_, HQ.out])
      have hqs : q.size = (ls.take i).flatten.length := by rw [HQ.out, str_size_]
      have hxs : q.size + (str x).size ≤ 1000000 := by
        rw [hT, List.length_append] at hle
        rw [str_size_]
        omega
      have HC : Hid (∀ wx, Below wr.heap.size wr wx → Calls Tryz.prog 13 #[.agg z.cells.toArray] wx fun e w' => e = .returned (.tuple #[.string (str x), .bool true]) ∧ Below wx.heap.size wx w') := Lib.hid fun wx hb => hih z P wx (Lies.on (StandN.below hb) _ _ (Lies.on (StandN.below HS.out) _ _ z5))
      have mm : ∀ o, o < 9 → wr.cell? ⟨z1, z2 + (i * 9 + o), none⟩ = some (z.cells.getD o undef) := fun o ho => (HS.out.cell (p := ⟨z1, z2 + (i * 9 + o), none⟩) z4).trans (z6 o ho)
      obtain ⟨sx, hsx⟩ : ∃ sx, str x = sx := ⟨_, rfl⟩
      rw [hsx] at HT HC hxs
      have HXs := Lib.hid (show (q ++ sx).size ≤ 1000000 by rw [ByteArray.size_append]; exact hxs)
      have z9 : ¬ q.size + sx.size > 9223372036854775807 := by omega
      obtain ⟨a0, a1, a2, a3, a4, a5, a6, a7, a8, a9, aa, ab, ac⟩ := z
      simp only [RawN.cells] at HC
      have m0 : wr.cell? ⟨z1, z2 + i * 9, none⟩ = some (.int .i64 a0) := mm 0 (by decide)
      have m1 : wr.cell? ⟨z1, z2 + i * 9 + 1, none⟩ = some (.slice a1 a2 a3) := mm 1 (by decide)
      have m2 : wr.cell? ⟨z1, z2 + i * 9 + 2, none⟩ = some (.bool a4) := mm 2 (by decide)
      have m3 : wr.cell? ⟨z1, z2 + i * 9 + 3, none⟩ = some (.int .i64 a5) := mm 3 (by decide)
      have m4 : wr.cell? ⟨z1, z2 + i * 9 + 4, none⟩ = some (.int .i64 a6) := mm 4 (by decide)
      have m5 : wr.cell? ⟨z1, z2 + i * 9 + 5, none⟩ = some (.bool a7) := mm 5 (by decide)
      have m6 : wr.cell? ⟨z1, z2 + i * 9 + 6, none⟩ = some (.int .i64 a8) := mm 6 (by decide)
      have m7 : wr.cell? ⟨z1, z2 + i * 9 + 7, none⟩ = some (.string a9) := mm 7 (by decide)
      have m8 : wr.cell? ⟨z1, z2 + i * 9 + 8, none⟩ = some (.slice aa ab ac) := mm 8 (by decide)
      have HBa : Hid (∀ o : Obj, Below wr.heap.size wr (wr.alloc o)) := Lib.hid fun o => (Below.refl _ wr).alloc (Nat.le_refl _) _
      clear mm z5 z6 hih hx hT hle hqs hsx hxs
      go_wp2_with (go_at_call 13; refine (HC.out _ (HBa.out _)).mono ?_; rintro e w4 ⟨rfl, hb4⟩; have HS4 := Lib.hid (HS.out.trans (((HBa.out (.cells #[.int .i64 a0, .slice a1 a2 a3, .bool a4, .int .i64 a5, .int .i64 a6, .bool a7, .int .i64 a8, .string a9, .slice aa ab ac] 29)).trans (hb4.mono (by simp))).mono HS.out.size)); clear hb4)
      exact ⟨⟨i + 1, q ++ sx, by omega, by simp, rfl, HXs.out, Lib.hid HT.out.symm, HS4⟩, by simp only [intOf]; omega⟩
    · obtain rfl : i = rb := by omega
      have hii : ¬ (i : Int) < (i : Int) := by omega
      have hT : ls.take i = ls := List.take_of_length_le (by rw [HLs.out, HKn.out]; exact Nat.le_refl _)
      rw [hT] at HQ
      have HQ' := HQ
      have HS' := HS
      clear HQ HS hT
      go_wp2_with fail
      go_ret2
      exact ⟨by rw [← HQ'.out]; rfl, HS'.out⟩
end
theorem lit_len : ∀ {nd : SynP.Nd} {l : List UInt8}, SynP.Lit nd l → l.length ≤ 1000000 → LitC nd l := by
  intro nd l h
  induction h with
  | none set fold a b lz cap nm kids => intro _; exact lit_none set fold a b lz cap nm kids
  | cls c hc fold a b lz cap nm kids => intro _; exact lit_cls fold a b lz cap nm kids c hc
  | grp set fold a b lz cap nm x kids l h ih => intro hl; exact lit_grp set fold a b lz cap nm kids x l (ih hl)
  | cat set fold a b lz cap nm kids ls hls h ih =>
    intro hl
    exact lit_cat set fold a b lz cap nm kids ls hls (fun i h1 h2 => ih i h1 h2 (Nat.le_trans (mem_flatten_len (List.getElem_mem h2)) hl)) hl

end Go.Proofs.YtblkejnckbeieaaGreatDoor
