/- Chapter 12: made of every tree of the kinds that are met; Simplify.
  Chapter 12: a sign so many times, and perhaps so many more: the text of what is made, in plain Lean.
  Chapter 10: numbers by sixteen digits in a pattern: in plain Lean.
  A pattern of a word alone, each sign by its number, perhaps one of them a group: read by the plain parser.
  The word that a simple tree tells, in plain Lean; a word's pattern made simpler is itself, and tells the word.
  Chapter 12: the law's number: a number's digits.
  Chapter 12: the walk of the law SimpleTimes.
  What every law's row asks behind its walk: the law returned true and nothing that was there has turned. -/
import Derived.Test.YtblkejnckbeieaaGreatDoorZj35
import Derived.Test.YtblkejnckbeieaaGreatDoorZj32
import Derived.Test.YtblkejnckbeieaaGreatDoorZj26
import Derived.Test.YtblkejnckbeieaaGreatDoorZj25
import Derived.Test.YtblkejnckbeieaaGreatDoorZj2
import Derived.Test.YtblkejnckbeieaaGreatDoorZj31
import Derived.Deep.RegionWith
import Derived.Lib.ItoaNum
import Derived.Test.YtblkejnckbeieaaGreatDoorRows
import Derived.WalkKit
import Derived.ProofKit
import Derived.OpenShut
import Derived.ShutString
import Derived.ChangeOld
import Derived.Below
import Derived.JoinedCond
namespace Go.Proofs.YtblkejnckbeieaaGreatDoor
open Go.RowKit SetPure

section
variable (cl : (Int → Bool) → Int → Bool)
variable (set : Option (Int → Bool)) (fold : Bool) (lazy : Bool) (cap : Nat) (name : List UInt8) (kids : List SynP.Nd)
set_option maxRecDepth 100000 in
set_option maxHeartbeats 3200000 in
theorem made_zero : MadeC cl (.mk 10 set fold 0 0 lazy cap name kids) := by
  have hE : SynP.mkN cl (.mk 10 set fold 0 0 lazy cap name kids) = .leaf 0 := by rw [SynP.mkN, if_pos ⟨rfl, rfl, rfl⟩]
  have HE := Lib.hid hE
  clear hE
  intro r P w hl
  have hn := hl.kids.1
  have hmax := hl.roomS
  have hrk := hl.kind_z
  have hrm := hl.nums
  obtain ⟨N, hN⟩ : ∃ N, w.heap.size = N := ⟨_, rfl⟩
  have HNe := Lib.hid hN
  obtain ⟨r0, r1, r2, r3, r4, r5, r6, r7, r8, r9, ra, rb, rc⟩ := r
  simp only at hn hmax hrk hrm
  obtain ⟨rfl, rfl⟩ := hrm
  have hrk' : r0 = 10 := hrk
  subst hrk'
  obtain ⟨W0, hW0⟩ : ∃ W0, (w.alloc (.cells #[.int .i64 10, .slice r1 r2 r3, .bool r4, .int .i64 0, .int .i64 0, .bool r7, .int .i64 r8, .string r9, .slice ra rb rc] 29)).alloc (.cells zeroA 29) = W0 := ⟨_, rfl⟩
  have HS0 : Hid (W0.heap.size = N + 2) := Lib.hid (by rw [← hW0]; simp [hN])
  have HB : Hid (Below N w W0) := Lib.hid (by rw [← hW0, ← hN]; exact below_two w _ _)
  have HBx : Hid (BoxN W0 N #[.int .i64 10, .slice r1 r2 r3, .bool r4, .int .i64 0, .int .i64 0, .bool r7, .int .i64 r8, .string r9, .slice ra rb rc]) := Lib.hid (by rw [← hW0, ← hN]; exact (Below.heap_alloc _ _ _ (by simp)).trans (heap_alloc_new w _))
  have HBv : Hid (BoxN W0 (N + 1) zeroA) := Lib.hid (by
    rw [← hW0, ← hN]
    have := heap_alloc_new (w.alloc (.cells #[.int .i64 10, .slice r1 r2 r3, .bool r4, .int .i64 0, .int .i64 0, .bool r7, .int .i64 r8, .string r9, .slice ra rb rc] 29)) (.cells zeroA 29)
    rw [World.size_alloc] at this
    exact this)
  have HL : Hid (Lies W0 (fun k => P k ∧ k < N) (.mk 10 set fold 0 0 lazy cap name kids) ⟨10, r1, r2, r3, r4, 0, 0, r7, r8, r9, ra, rb, rc⟩) := Lib.hid (Lies.on (StandN.below (by rw [hN]; exact HB.out)) _ _ (Lies.mono (fun k hk hlt => ⟨hk, by omega⟩) _ _ hl))
  simp only [RawN.cells]
  clear hl hn hrk hmax HL
  go_enter Tryz.func33, Tryz.ntmps33
  go_upto_region 1 with fail
  clear hW0 hN
  have hcW : ∀ o, W0.cell? ⟨N, o, none⟩ = #[Value.int .i64 10, .slice r1 r2 r3, .bool r4, .int .i64 0, .int .i64 0, .bool r7, .int .i64 r8, .string r9, .slice ra rb rc][o]? := fun o => Lib.cell_of_heap HBx.out o
  go_wp2_with (refine wpList_store_row rfl 29 (.tmp 2) (.tmp 19) rfl (N + 1) zeroN.cells.toArray rfl rfl 29 _ HBv.out sizeN rfl (cellsN_one _) ?_)
  refine retN rfl zeroN rfl (setRow_heap _ _ _ _ _ _ HBv.out) rfl ⟨zeroN, rfl, by rw [HNe.out]; exact below_setRow_ HB.out (Nat.le_succ _) _, ?_⟩
  rw [HE.out]
  exact Lies.leaf _ _ 0
end
mutual
/-- A tree of the kinds that are met: no class folds, quantifiers are over one class. -/
def okM (cl : (Int → Bool) → Int → Bool) : SynP.Nd → Prop
  | .mk kind set fold least most _ _ _ kids => (kind = 1 → fold = false ∧ ∃ f, set = some f) ∧ (kind = 8 → (SynP.flatN 8 (SynP.mkL cl kids)).length ≤ 1000000) ∧ kind ≠ 9 ∧
      (kind = 10 → 0 ≤ least ∧ least ≤ most ∧ most ≤ 1000 ∧ (SynP.firstN (SynP.mkL cl kids)).kind = 1) ∧ kids.length ≤ 1000000 ∧ okML cl kids
def okML (cl : (Int → Bool) → Int → Bool) : List SynP.Nd → Prop
  | [] => True
  | x :: l => okM cl x ∧ okML cl l
end
theorem okML_mem {cl : (Int → Bool) → Int → Bool} : ∀ {l : List SynP.Nd}, okML cl l → ∀ x ∈ l, okM cl x
  | [], _, x, hx => absurd hx List.not_mem_nil
  | y :: l, h, x, hx => by
    unfold okML at h
    rcases List.mem_cons.1 hx with rfl | hx
    · exact h.1
    · exact okML_mem h.2 x hx
theorem made_all (cl : (Int → Bool) → Int → Bool) : ∀ (n : Nat) (nd : SynP.Nd), SizeOf.sizeOf nd ≤ n → okM cl nd → MadeC cl nd
  | 0, .mk .., h, _ => by simp at h
  | n + 1, .mk kind set fold least most lazy cap name kids, h, ho => by
    unfold okM at ho
    obtain ⟨o1, o8, o9, o10, ol, ok⟩ := ho
    have IH : ∀ x ∈ kids, MadeC cl x := fun x hx => made_all cl n x (by
      have := List.sizeOf_lt_of_mem hx
      simp at h
      omega) (okML_mem ok x hx)
    by_cases h1 : kind = 1
    · subst h1
      obtain ⟨rfl, f, rfl⟩ := o1 rfl
      exact made_cls_false cl least most lazy cap name kids f ol IH
    · by_cases h8 : kind = 8
      · subst h8
        exact made_cat cl set fold least most lazy cap name kids (o8 rfl) ol IH
      · by_cases h10 : kind = 10
        · subst h10
          obtain ⟨p1, p2, p3, p4⟩ := o10 rfl
          by_cases hz : least = 0
          · by_cases hm : most = 0
            · subst hz; subst hm
              exact made_zero cl set fold lazy cap name kids
            · exact made_rep0 cl set fold least most lazy cap name kids p1 p2 p3 ⟨hz, hm⟩ p4 ol IH
          · exact made_rep1 cl set fold least most lazy cap name kids p1 p2 p3 hz p4 ol IH
        · exact made_other cl set fold least most lazy cap name kids kind h1 h8 o9 h10 ol IH

/-- Two results: a node's box and a number. -/
theorem retNI {fn : Func} {Q : Ending → World → Prop} {p q : Tmp} (h : fn.results = #[.cell p 29, .tmp q]) {a : Act} {w : World} {g : Nat} {fz : Nat × Nat} (r : RawN) (b : Value) (hp : a.tmps.getD p undef = .pointer (some ⟨g, 0, none⟩)) (hq : a.tmps.getD q undef = b) (hg : w.heap[g]? = some (.cells r.cells.toArray 29 fz)) (hd : a.defers = [])
    (hQ : Q (.returned (.tuple #[.agg r.cells.toArray, b])) w) : bodyPost Tryz.prog fn Q .ret a w := by
  refine bodyPost_ret (v := .tuple #[.agg r.cells.toArray, b]) ?_ hd hQ
  have hp' : a.tmps[p]?.getD undef = .pointer (some ⟨g, 0, none⟩) := by simpa using hp
  have hq' : a.tmps[q]?.getD undef = b := by simpa using hq
  simp [results, h, hp', hq', asAddr, run_loadVar_row w g _ 29 _ fz _ hg Tryz.underlying29 rfl sizeN]

set_option maxRecDepth 100000 in
set_option maxHeartbeats 6400000 in
/-- Simplify of a tree of few nodes that made makes simpler. -/
theorem simplify_any (cl : (Int → Bool) → Int → Bool) (nd : SynP.Nd) (hc : CountC nd) (hcb : SynP.cntN nd ≤ 8192) (hm : MadeC cl nd) (r : RawN) (P : Nat → Prop) (w : World) (hl : Lies w P nd r) :
    Calls Tryz.prog 12 #[.agg r.cells.toArray] w fun e w' => ∃ q : RawN, e = .returned (.tuple #[.agg q.cells.toArray, .int .i64 0]) ∧ Below w.heap.size w w' ∧ Lies w' (Qw w P) (SynP.mkN cl nd) q := by
  obtain ⟨N, hN⟩ : ∃ N, w.heap.size = N := ⟨_, rfl⟩
  have HNe := Lib.hid hN
  have HCb := Lib.hid hcb
  obtain ⟨c, hcc⟩ : ∃ c, SynP.cntN nd = c := ⟨_, rfl⟩
  unfold CountC at hc
  rw [hcc] at hc hcb
  obtain ⟨W0, hW0⟩ : ∃ W0, (w.alloc (.cells r.cells.toArray 29)).alloc (.cells zeroA 29) = W0 := ⟨_, rfl⟩
  have HS0 : Hid (W0.heap.size = N + 2) := Lib.hid (by rw [← hW0]; simp [hN])
  have HB : Hid (Below N w W0) := Lib.hid (by rw [← hW0, ← hN]; exact below_two w _ _)
  have HBx : Hid (BoxN W0 N r.cells.toArray) := Lib.hid (by rw [← hW0, ← hN]; exact (Below.heap_alloc _ _ _ (by simp)).trans (heap_alloc_new w _))
  have HBv : Hid (BoxN W0 (N + 1) zeroA) := Lib.hid (by
    rw [← hW0, ← hN]
    have := heap_alloc_new (w.alloc (.cells r.cells.toArray 29)) (.cells zeroA 29)
    rw [World.size_alloc] at this
    exact this)
  have hl0 : Lies W0 (fun k => P k ∧ k < N) nd r := Lies.on (StandN.below (by rw [hN]; exact HB.out)) _ _ (Lies.mono (fun k hk hlt => ⟨hk, by omega⟩) _ _ hl)
  have HC := Lib.hid (hc r _ W0 hl0)
  have HM : Hid (∀ wx, Below W0.heap.size W0 wx → Calls Tryz.prog 33 #[.agg r.cells.toArray] wx fun e w' => ∃ q : RawN, e = .returned (.agg q.cells.toArray) ∧ Below wx.heap.size wx w' ∧ Lies w' (Qw wx (fun k => P k ∧ k < N)) (SynP.mkN cl nd) q) := Lib.hid fun wx hb => hm r _ wx (Lies.on (StandN.below hb) _ _ hl0)
  obtain ⟨r0, r1, r2, r3, r4, r5, r6, r7, r8, r9, ra, rb, rc⟩ := r
  simp only [RawN.cells] at hW0 HBx HC HM ⊢
  clear hl hl0 hc hm hcc
  go_enter Tryz.func12, Tryz.ntmps12
  go_upto_region 1 with fail
  clear hW0 hN
  have hcW : ∀ o, W0.cell? ⟨N, o, none⟩ = #[Value.int .i64 r0, .slice r1 r2 r3, .bool r4, .int .i64 r5, .int .i64 r6, .bool r7, .int .i64 r8, .string r9, .slice ra rb rc][o]? := fun o => Lib.cell_of_heap HBx.out o
  go_wp2_with (first
    | (go_at_call 32; refine HC.out.mono ?_; rintro e w2 ⟨rfl, hb2⟩; have HB2 := Lib.hid hb2; clear hb2; replace hcW : ∀ o, w2.cell? ⟨N, o, none⟩ = #[Value.int .i64 r0, .slice r1 r2 r3, .bool r4, .int .i64 r5, .int .i64 r6, .bool r7, .int .i64 r8, .string r9, .slice ra rb rc][o]? := fun o => Lib.cell_of_heap ((HB2.out.block N HBx.out.lt).trans HBx.out) o)
    | (go_at_call 33; refine (HM.out _ HB2.out).mono ?_; rintro e w4 ⟨y, rfl, hb4, hl4⟩; have HB4 := Lib.hid (HB2.out.trans (hb4.mono HB2.out.size)); have HVw : Hid (BoxN w4 (N + 1) zeroA) := Lib.hid ((HB4.out.block (N + 1) HBv.out.lt).trans HBv.out); have HL4 := Lib.hid hl4; clear hb4 hl4)
    | (refine wpList_store_row rfl 29 (.tmp 2) (.tmp 9) rfl (N + 1) y.cells.toArray rfl rfl 29 _ HVw.out sizeN rfl (cellsN_one _) ?_))
  have hsz := HB2.out.size
  have h0 := HS0.out
  obtain ⟨e1, e2⟩ := box_ret (w := w) (by rw [HNe.out]; exact HB.out.trans (HB4.out.mono (by omega))) HVw.out (by rw [HNe.out]; omega) HL4.out (by
    rintro (⟨⟨_, h⟩, _⟩ | h)
    · omega
    · omega)
  refine retNI rfl y _ rfl rfl (setRow_heap _ _ _ _ _ _ HVw.out) rfl ⟨y, rfl, e1, ?_⟩
  refine Lies.mono (fun k hk _ => ?_) _ _ e2
  have h1 := HNe.out
  rcases hk with ⟨⟨h2, h3⟩, _⟩ | h2
  · exact .inl ⟨h2, by omega⟩
  · exact .inr (by omega)

end Go.Proofs.YtblkejnckbeieaaGreatDoor

namespace Go.Proofs.YtblkejnckbeieaaGreatDoor.SynP

/-- So many perhaps, one in another. -/
def tailW (c : UInt8) : Nat → List UInt8
  | 0 => []
  | 1 => [c, 63]
  | n + 2 => [40, 63, 58, c] ++ tailW c (n + 1) ++ [41, 63]
/-- The text that is wanted. -/
def wantW (c : UInt8) (a b : Nat) : List UInt8 := if a + b = 0 then emptyT else List.replicate a c ++ tailW c b
theorem flat_same : ∀ l : List Nd, (∀ x ∈ l, x.kind ≠ 8) → flatN 8 l = l
  | [], _ => rfl
  | x :: l, h => by
    have ih := flat_same l fun y hy => h y (List.mem_cons_of_mem _ hy)
    unfold flatN at ih ⊢
    rw [List.flatMap_cons, if_neg (h x List.mem_cons_self), ih]
    rfl
theorem okL_app : ∀ l : List Nd, (∀ x ∈ l, okN x) → okL l
  | [], _ => by unfold okL; trivial
  | x :: l, h => by
    unfold okL
    exact ⟨h x List.mem_cons_self, okL_app l fun y hy => h y (List.mem_cons_of_mem _ hy)⟩
section
variable (c : UInt8)
def sgn : Nd := .cls (one (c.toNat : Int)) false
theorem row_x0 : rowN [sgn c, .leaf 0] = sgn c := rfl
theorem row_xt (y : Nd) : rowN [sgn c, .rep 0 1 false y] = .mk 8 none false 0 0 false 0 [] [sgn c, .rep 0 1 false y] := rfl
theorem t01 : timesT_ decS 0 1 false = [63] := rfl
variable {c} (hc : alnum (c.toNat : Int))
include hc
theorem sgn_text : shN (sgn c) = [c] := by
  unfold sgn Nd.cls
  rw [sh1, clsTxt_one hc]
  simp
theorem sgn_ok : okN (sgn c) := by
  unfold sgn Nd.cls okN
  refine ⟨fun _ => ⟨_, rfl, _, hc, rfl⟩, fun h => absurd h (by decide), fun h => absurd h (by decide), .inl rfl, ?_⟩
  unfold okL
  trivial
theorem tail_text : ∀ n : Nat, ∃ y, tailN false (sgn c) (n + 1) = .rep 0 1 false y ∧ okN (tailN false (sgn c) (n + 1)) ∧ shN (tailN false (sgn c) (n + 1)) = tailW c (n + 1)
  | 0 => by
    have e : tailN false (sgn c) (0 + 1) = .rep 0 1 false (sgn c) := rfl
    refine ⟨_, e, ?_, ?_⟩
    · rw [e]
      unfold Nd.rep okN
      refine ⟨fun h => absurd h (by decide), fun _ => by decide, fun h => absurd h (by decide), .inr (.inr (.inr ⟨.inl rfl, by simp⟩)), ?_⟩
      unfold okL
      exact ⟨sgn_ok hc, by unfold okL; trivial⟩
    · rw [e]
      unfold Nd.rep
      rw [sh10, t01]
      show wrapT [8, 9, 10] ((sgn c).kind, shN (sgn c)) ++ [63] = _
      rw [sgn_text hc]
      rfl
  | n + 1 => by
    obtain ⟨y, h1, h2, h3⟩ := tail_text n
    have e : tailN false (sgn c) (n + 1 + 1) = .rep 0 1 false (rowN [sgn c, tailN false (sgn c) (n + 1)]) := rfl
    rw [h1] at e h2 h3
    rw [row_xt] at e
    refine ⟨_, e, ?_, ?_⟩
    · rw [e]
      unfold Nd.rep okN
      refine ⟨fun h => absurd h (by decide), fun _ => by decide, fun h => absurd h (by decide), .inr (.inr (.inr ⟨.inl rfl, by simp⟩)), ?_⟩
      unfold okL
      refine ⟨?_, by unfold okL; trivial⟩
      unfold okN
      refine ⟨fun h => absurd h (by decide), fun h => absurd h (by decide), fun h => absurd h (by decide), .inr (.inl rfl), ?_⟩
      unfold okL
      refine ⟨sgn_ok hc, ?_⟩
      unfold okL
      exact ⟨h2, by unfold okL; trivial⟩
    · rw [e]
      unfold Nd.rep
      rw [sh10, t01]
      show wrapT [8, 9, 10] (8, shN (.mk 8 none false 0 0 false 0 [] [sgn c, .rep 0 1 false y])) ++ [63] = _
      rw [sh8]
      show [40, 63, 58] ++ (wrapT [8, 9] ((sgn c).kind, shN (sgn c)) ++ (wrapT [8, 9] (10, shN (.rep 0 1 false y)) ++ [])) ++ [41] ++ [63] = _
      rw [sgn_text hc, h3]
      show [40, 63, 58] ++ ([c] ++ (tailW c (n + 1) ++ [])) ++ [41] ++ [63] = [40, 63, 58, c] ++ tailW c (n + 1) ++ [41, 63]
      simp
theorem kids_sgn (a : Nat) : (kidsT (List.replicate a (sgn c))).flatMap (wrapT [8, 9]) = List.replicate a c := by
  induction a with
  | zero => rfl
  | succ a ih =>
    unfold kidsT at ih ⊢
    rw [List.replicate_succ, List.map_cons, List.flatMap_cons, ih, sgn_text hc]
    rfl
/-- The text of what is made of a sign a times, and b times more perhaps. -/
theorem times_text (a b : Nat) (h : a + b ≠ 0) : okN (timesN a (a + b : Nat) false (sgn c)) ∧ shN (timesN a (a + b : Nat) false (sgn c)) = wantW c a b := by
  have e1 : timesN a (a + b : Nat) false (sgn c) = rowN (List.replicate a (sgn c) ++ [tailN false (sgn c) b]) := by
    unfold timesN
    rw [if_neg (by omega), show ((a : Int)).toNat = a by omega, show (((a + b : Nat) : Int) - (a : Int)).toNat = b by omega]
  rw [e1]
  unfold wantW
  rw [if_neg h]
  have hs : ∀ x ∈ List.replicate a (sgn c), x.kind = 1 := fun x hx => by rw [List.eq_of_mem_replicate hx]; rfl
  cases b with
  | zero =>
    have e2 : rowN (List.replicate a (sgn c) ++ [tailN false (sgn c) 0]) = whole 8 (List.replicate a (sgn c)) := by
      unfold rowN
      rw [flat_same _ (fun x hx => by
        rcases List.mem_append.1 hx with h | h
        · rw [hs x h]; decide
        · rw [List.mem_singleton.1 h]; show ¬ (0 : Nat) = 8; decide)]
      unfold solidN
      rw [List.filter_append]
      have h1 : (List.replicate a (sgn c)).filter (fun x => x.kind != 0) = List.replicate a (sgn c) := List.filter_eq_self.2 fun x hx => by rw [hs x hx]; rfl
      rw [h1]
      show whole 8 (List.replicate a (sgn c) ++ []) = _
      rw [List.append_nil]
    rw [e2]
    show _ ∧ _ = List.replicate a c ++ []
    rw [List.append_nil]
    match a, h with
    | 1, _ => exact ⟨sgn_ok hc, sgn_text hc⟩
    | a + 2, _ =>
      have e3 : whole 8 (List.replicate (a + 2) (sgn c)) = .mk 8 none false 0 0 false 0 [] (List.replicate (a + 2) (sgn c)) := rfl
      rw [e3, sh8, kids_sgn hc]
      refine ⟨?_, rfl⟩
      unfold okN
      exact ⟨fun h => absurd h (by decide), fun h => absurd h (by decide), fun h => absurd h (by decide), .inr (.inl rfl), okL_app _ fun x hx => by rw [List.eq_of_mem_replicate hx]; exact sgn_ok hc⟩
  | succ b =>
    obtain ⟨y, h1, h2, h3⟩ := tail_text hc b
    rw [h1] at h2 h3
    rw [h1, ← h3]
    have e2 : rowN (List.replicate a (sgn c) ++ [.rep 0 1 false y]) = whole 8 (List.replicate a (sgn c) ++ [.rep 0 1 false y]) := by
      unfold rowN
      rw [flat_same _ (fun x hx => by
        rcases List.mem_append.1 hx with h | h
        · rw [hs x h]; decide
        · rw [List.mem_singleton.1 h]; show ¬ (10 : Nat) = 8; decide)]
      unfold solidN
      rw [List.filter_eq_self.2 fun x hx => by
        rcases List.mem_append.1 hx with h | h
        · rw [hs x h]; rfl
        · rw [List.mem_singleton.1 h]; rfl]
    rw [e2]
    match a with
    | 0 => exact ⟨h2, rfl⟩
    | a + 1 =>
      have e3 : whole 8 (List.replicate (a + 1) (sgn c) ++ [.rep 0 1 false y]) = .mk 8 none false 0 0 false 0 [] (List.replicate (a + 1) (sgn c) ++ [.rep 0 1 false y]) := by
        rw [List.replicate_succ]
        cases a with
        | zero => rfl
        | succ a => rfl
      rw [e3, sh8]
      refine ⟨?_, ?_⟩
      · unfold okN
        refine ⟨fun h => absurd h (by decide), fun h => absurd h (by decide), fun h => absurd h (by decide), .inr (.inl rfl), okL_app _ fun x hx => ?_⟩
        rcases List.mem_append.1 hx with h | h
        · rw [List.eq_of_mem_replicate h]; exact sgn_ok hc
        · rw [List.mem_singleton.1 h]; exact h2
      · have h4 := kids_sgn hc (a + 1)
        unfold kidsT at h4 ⊢
        rw [List.map_append, List.flatMap_append, h4]
        show List.replicate (a + 1) c ++ (wrapT [8, 9] (10, shN (.rep 0 1 false y)) ++ []) = _
        rw [List.append_nil]
        rfl
end
theorem tailW_len (c : UInt8) : ∀ b : Nat, (tailW c b).length ≤ 6 * b
  | 0 => Nat.zero_le _
  | 1 => by show 2 ≤ 6; omega
  | n + 2 => by
    have := tailW_len c (n + 1)
    show ([40, 63, 58, c] ++ tailW c (n + 1) ++ [41, 63]).length ≤ _
    simp only [List.length_append, List.length_cons, List.length_nil]
    omega
end Go.Proofs.YtblkejnckbeieaaGreatDoor.SynP

namespace Go.Proofs.YtblkejnckbeieaaGreatDoor.SynP

variable {rs : List Int} {cls : List UInt8 → Option (Int → Bool)} {perl : Int → Option (Int → Bool)}

/-- Digits of sixteen, up to something that is none. -/
theorem nums_run : ∀ (ds : List Int) (f : Nat) (n : Int) (i : Nat) (c : Int) (t : List Int), rs.drop i = ds ++ c :: t → (∀ d ∈ ds, 0 ≤ hexOf d) → hexOf c = -1 → ds.length ≤ f →
    nums rs f n i = (ds.foldl (fun n c => 16 * n + hexOf c) n, i + ds.length)
  | [], 0, n, i, c, t, _, _, _, _ => rfl
  | [], f + 1, n, i, c, t, h, _, hc, _ => by
    unfold nums
    rw [pk_drop h, if_neg (by rw [hc]; decide)]
    rfl
  | d :: ds, 0, n, i, c, t, _, _, _, hf => by simp at hf
  | d :: ds, f + 1, n, i, c, t, h, hd, hc, hf => by
    unfold nums
    rw [pk_drop h, if_pos (hd d List.mem_cons_self), nums_run ds f _ (i + 1) c t (drop_next h) (fun x hx => hd x (List.mem_cons_of_mem _ hx)) hc (by simpa using hf)]
    simp only [List.foldl_cons, List.length_cons, Prod.mk.injEq, true_and]
    omega

def hexD (n : Nat) : Int := if n < 10 then 48 + (n : Int) else 87 + (n : Int)
theorem hexD_of (n : Nat) (h : n < 16) : hexOf (hexD n) = n := by
  unfold hexD hexOf
  by_cases h1 : n < 10
  · rw [if_pos h1, if_pos (by omega)]; omega
  · rw [if_neg h1, if_neg (by omega), if_neg (by omega), if_pos (by omega)]; omega
/-- A number's digits of sixteen: at most f + 1. -/
def hexL : Nat → Nat → List Int
  | 0, n => [hexD n]
  | f + 1, n => if n < 16 then [hexD n] else hexL f (n / 16) ++ [hexD (n % 16)]
theorem hexL_ok : ∀ (f n : Nat), n < 16 ^ (f + 1) → (∀ d ∈ hexL f n, 0 ≤ hexOf d) ∧ (hexL f n).foldl (fun n c => 16 * n + hexOf c) (0 : Int) = n ∧ 1 ≤ (hexL f n).length ∧ (hexL f n).length ≤ f + 1
  | 0, n, h => by
    have hn : n < 16 := by simpa using h
    simp only [hexL]
    refine ⟨fun d hd => ?_, ?_, by simp, by simp⟩
    · obtain rfl : d = hexD n := by simpa using hd
      rw [hexD_of n hn]; omega
    · simp [hexD_of n hn]
  | f + 1, n, h => by
    unfold hexL
    by_cases hn : n < 16
    · rw [if_pos hn]
      refine ⟨fun d hd => ?_, ?_, by simp, by simp⟩
      · obtain rfl : d = hexD n := by simpa using hd
        rw [hexD_of n hn]; omega
      · simp [hexD_of n hn]
    · rw [if_neg hn]
      have h16 : n / 16 < 16 ^ (f + 1) := by
        rw [Nat.pow_succ] at h
        exact Nat.div_lt_of_lt_mul (by rw [Nat.mul_comm]; exact h)
      obtain ⟨h1, h2, h3, h4⟩ := hexL_ok f (n / 16) h16
      have hm := hexD_of (n % 16) (Nat.mod_lt _ (by decide))
      refine ⟨fun d hd => ?_, ?_, by simp, by simp; omega⟩
      · rcases List.mem_append.1 hd with hd | hd
        · exact h1 d hd
        · obtain rfl : d = hexD (n % 16) := by simpa using hd
          rw [hm]; omega
      · rw [List.foldl_append, h2]
        simp only [List.foldl_cons, List.foldl_nil, hm]
        omega
/-- A number in braces behind a stroke and an x. -/
theorem number_run (n from_ i : Nat) (t : List Int) (hn : n ≤ 1114111) (h : rs.drop i = 123 :: (hexL 5 n ++ 125 :: t)) :
    number rs from_ i = .ok ((n : Int), i + 1 + (hexL 5 n).length + 1) ∧ rs.drop (i + 1 + (hexL 5 n).length + 1) = t := by
  obtain ⟨h1, h2, h3, h4⟩ := hexL_ok 5 n (by omega)
  have d1 := drop_next h
  have e1 := nums_run (rs := rs) (hexL 5 n) 6 0 (i + 1) 125 t d1 h1 rfl h4
  rw [h2] at e1
  have d2 : rs.drop (i + 1 + (hexL 5 n).length) = 125 :: t := by rw [← List.drop_drop, d1]; simp
  refine ⟨?_, drop_next d2⟩
  unfold number
  rw [if_pos (pk_drop h)]
  simp only [e1]
  rw [if_neg]
  rw [pk_drop d2]
  omega

/-- An item that is a number by sixteen digits. -/
theorem item_run (n i : Nat) (t : List Int) (hn : n ≤ 1114111) (h : rs.drop i = 92 :: 120 :: 123 :: (hexL 5 n ++ 125 :: t)) :
    item rs cls perl i = .ok (one n, (n : Int), i + 2 + 1 + (hexL 5 n).length + 1) ∧ rs.drop (i + 2 + 1 + (hexL 5 n).length + 1) = t := by
  have d1 := drop_next h
  have d2 := drop_next d1
  obtain ⟨e1, e2⟩ := number_run (rs := rs) n i (i + 1 + 1) t hn d2
  refine ⟨?_, e2⟩
  unfold item
  rw [if_pos (pk_drop h)]
  unfold escape
  simp only [pk_drop d1]
  rw [if_neg (by decide), if_neg (by decide), if_pos trivial, e1]

/-- A list of one range of two numbers. -/
theorem items_run (from_ m a b i : Nat) (t : List Int) (ha : a ≤ 1114111) (hb : b ≤ 1114111)
    (h : rs.drop i = 92 :: 120 :: 123 :: (hexL 5 a ++ 125 :: 45 :: 92 :: 120 :: 123 :: (hexL 5 b ++ 125 :: 93 :: t))) :
    items rs cls perl from_ (m + 2) true (fun _ => false) i = if b < a then .bad 22 i else
      .ok (fun z => false || decide ((a : Int) ≤ z ∧ z ≤ b), i + 2 + 1 + (hexL 5 a).length + 1 + 1 + 2 + 1 + (hexL 5 b).length + 1) := by
  obtain ⟨e1, d1⟩ := item_run (rs := rs) (cls := cls) (perl := perl) a i _ ha h
  obtain ⟨j, hj⟩ : ∃ j, i + 2 + 1 + (hexL 5 a).length + 1 = j := ⟨_, rfl⟩
  rw [hj] at e1 d1 ⊢
  have d2 := drop_next d1
  obtain ⟨e2, d3⟩ := item_run (rs := rs) (cls := cls) (perl := perl) b (j + 1) _ hb d2
  obtain ⟨k, hk⟩ : ∃ k, j + 1 + 2 + 1 + (hexL 5 b).length + 1 = k := ⟨_, rfl⟩
  rw [hk] at e2 d3 ⊢
  unfold items
  rw [if_neg (by simp), if_neg (by rw [pk_drop h]; decide), e1]
  simp only []
  rw [if_pos (by rw [pk_drop d1, pk_drop d2]; exact ⟨by omega, rfl, by decide, by decide⟩), e2]
  simp only []
  by_cases hc : b < a
  · rw [if_pos hc, if_pos (by omega)]
  · rw [if_neg hc, if_neg (by omega)]
    unfold items
    rw [if_pos ⟨rfl, pk_drop d3⟩]

/-- The text of one range of two numbers, or of all but it. -/
def rangeText (a b : Nat) (no : Bool) : List Int := 91 :: ((if no then [94] else []) ++ 92 :: 120 :: 123 :: (hexL 5 a ++ 125 :: 45 :: 92 :: 120 :: 123 :: (hexL 5 b ++ 125 :: 93 :: [])))
/-- The plain law of SyntaxRanges. -/
theorem range_parse (a b : Nat) (no : Bool) (ha : a ≤ 1114111) (hb : b ≤ 1114111) (hrs : rs = rangeText a b no) :
    parse rs cls perl ⟨false, false, false, false⟩ = if b < a then .bad 22 (if no then 2 else 1) else
      .ok (some (.cls (if no then fun z => !(false || decide ((a : Int) ≤ z ∧ z ≤ b)) else fun z => false || decide ((a : Int) ≤ z ∧ z ≤ b)) false), ⟨rs.length, [], [[]], ⟨false, false, false, false⟩⟩) := by
  obtain ⟨i, hi⟩ : ∃ i, (if no then 2 else 1) = i := ⟨_, rfl⟩
  rw [hi]
  have hd : rs.drop i = 92 :: 120 :: 123 :: (hexL 5 a ++ 125 :: 45 :: 92 :: 120 :: 123 :: (hexL 5 b ++ 125 :: 93 :: [])) := by
    rw [hrs, ← hi]; cases no <;> rfl
  have p0 : pk rs 0 = 91 := by rw [hrs]; rfl
  have p1 : decide (pk rs 1 = 94) = no := by rw [hrs]; cases no <;> rfl
  have hL : rs.length = i + 2 + 1 + (hexL 5 a).length + 1 + 1 + 2 + 1 + (hexL 5 b).length + 1 + 1 := by
    rw [hrs, ← hi]
    cases no <;> simp [rangeText] <;> omega
  obtain ⟨m, hm⟩ : ∃ m, rs.length + 1 = m + 2 := ⟨rs.length - 1, by omega⟩
  have hit := items_run (rs := rs) (cls := cls) (perl := perl) 0 m a b i [] ha hb hd
  have hi2 : (if pk rs 1 = 94 then 1 + 1 else 1) = i := by
    rw [← hi, ← p1]
    by_cases e : pk rs 1 = 94 <;> simp [e]
  have hlist : list rs cls perl 0 1 = if b < a then .bad 22 i else .ok (if no then fun z => !(false || decide ((a : Int) ≤ z ∧ z ≤ b)) else fun z => false || decide ((a : Int) ≤ z ∧ z ≤ b), rs.length) := by
    unfold list
    simp only [hm, hi2, hit]
    by_cases hc : b < a
    · rw [if_pos hc, if_pos hc]
    · rw [if_neg hc, if_neg hc]
      simp only [← hL]
      rw [← p1]
      by_cases e : pk rs 1 = 94 <;> simp [e]
  obtain ⟨n, hn⟩ : ∃ n, 4 * rs.length + 8 = n + 6 := ⟨4 * rs.length + 2, by omega⟩
  have t0 : times rs 0 = none := by unfold times; simp [p0]
  have hend : pk rs rs.length = -1 := by unfold pk; simp
  have hrow2 : ∀ (l : List Nd) (q : Bool), go rs cls perl (n + 4) (.row l q) ⟨rs.length, [], [[]], ⟨false, false, false, false⟩⟩ = .ok (some (whole 8 l), ⟨rs.length, [], [[]], ⟨false, false, false, false⟩⟩) := by
    intro l q
    rw [go]
    simp [hend]
  have hatom : go rs cls perl (n + 4) .atom ⟨0, [], [[]], ⟨false, false, false, false⟩⟩ = if b < a then .bad 22 i else
      .ok (some (.cls (if no then fun z => !(false || decide ((a : Int) ≤ z ∧ z ≤ b)) else fun z => false || decide ((a : Int) ≤ z ∧ z ≤ b)) false), ⟨rs.length, [], [[]], ⟨false, false, false, false⟩⟩) := by
    rw [go]
    simp only [p0, Nat.zero_add, hlist]
    rw [if_neg (by decide), if_neg (by decide), if_neg (by decide), if_neg (by decide), if_pos trivial]
    by_cases hc : b < a
    · rw [if_pos hc, if_pos hc]
    · rw [if_neg hc, if_neg hc]
  have hrow0 : go rs cls perl (n + 5) (.row [] false) ⟨0, [], [[]], ⟨false, false, false, false⟩⟩ = if b < a then .bad 22 i else
      .ok (some (.cls (if no then fun z => !(false || decide ((a : Int) ≤ z ∧ z ≤ b)) else fun z => false || decide ((a : Int) ≤ z ∧ z ≤ b)) false), ⟨rs.length, [], [[]], ⟨false, false, false, false⟩⟩) := by
    rw [go]
    simp only [p0, t0, hatom]
    rw [if_neg (by decide), if_neg (by decide)]
    by_cases hc : b < a
    · rw [if_pos hc]
    · rw [if_neg hc]
      simp only [hrow2, Option.toList, List.nil_append, whole]
  unfold parse
  rw [hn, go, hrow0]
  by_cases hc : b < a
  · rw [if_pos hc]
  · rw [if_neg hc]
    simp only [hend, Option.toList, List.nil_append, whole]
    rw [if_neg (by decide)]
end Go.Proofs.YtblkejnckbeieaaGreatDoor.SynP

namespace Go.Proofs.YtblkejnckbeieaaGreatDoor.SynP

variable {rs : List Int} {cls : List UInt8 → Option (Int → Bool)} {perl : Int → Option (Int → Bool)}

/-- A sign by its number. -/
def pieceW (c : UInt8) : List Int := 92 :: 120 :: 123 :: (hexL 5 c.toNat ++ [125])
def partW (g : Bool) (c : UInt8) : List Int := if g then 40 :: (pieceW c ++ [41]) else pieceW c
/-- The word's text; the fd-th sign in brackets. -/
def wordW (fd : Int) : Nat → List UInt8 → List Int
  | _, [] => []
  | k, c :: cs => partW (decide ((k : Int) = fd)) c ++ wordW fd (k + 1) cs
theorem wordW_cons (fd : Int) (k : Nat) (c : UInt8) (cs : List UInt8) : wordW fd k (c :: cs) = partW (decide ((k : Int) = fd)) c ++ wordW fd (k + 1) cs := rfl
def sgnW (c : UInt8) : Nd := .cls (one (c.toNat : Int)) false
/-- The word's nodes. -/
def nodesW (fd : Int) : Nat → Nat → List UInt8 → List Nd
  | _, _, [] => []
  | k, g, c :: cs => if (k : Int) = fd then .grp g [] (sgnW c) :: nodesW fd (k + 1) (g + 1) cs else sgnW c :: nodesW fd (k + 1) g cs
theorem u8_small (c : UInt8) : c.toNat ≤ 1114111 := by have := UInt8.toNat_lt c; omega
theorem piece_len (c : UInt8) : (pieceW c).length = 4 + (hexL 5 c.toNat).length := by unfold pieceW; simp; omega
theorem times_92 {i : Nat} (h : pk rs i = 92) : times rs i = none := by unfold times; simp [h]
theorem times_40 {i : Nat} (h : pk rs i = 40) : times rs i = none := by unfold times; simp [h]
theorem atom_piece (n : Nat) (c : UInt8) (i : Nat) (opn : List Nat) (names : List (List UInt8)) (t : List Int) (h : rs.drop i = pieceW c ++ t) :
    go rs cls perl (n + 1) .atom ⟨i, opn, names, f0_⟩ = .ok (some (sgnW c), ⟨i + (pieceW c).length, opn, names, f0_⟩) ∧ rs.drop (i + (pieceW c).length) = t := by
  have h' : rs.drop i = 92 :: 120 :: 123 :: (hexL 5 c.toNat ++ 125 :: t) := by rw [h]; unfold pieceW; simp
  have p0 := pk_drop h'
  have d1 := drop_next h'
  have p1 := pk_drop d1
  obtain ⟨e1, e2⟩ := number_run (rs := rs) c.toNat i (i + 1 + 1) t (u8_small c) (drop_next d1)
  have el : i + 1 + 1 + 1 + (hexL 5 c.toNat).length + 1 = i + (pieceW c).length := by rw [piece_len]; omega
  rw [el] at e1 e2
  refine ⟨?_, e2⟩
  rw [go]
  simp only [p0, p1]
  rw [if_neg (by decide), if_neg (by decide), if_neg (by decide), if_neg (by decide), if_neg (by decide), if_pos trivial]
  have hs : signs 120 = none := rfl
  simp only [hs]
  unfold escape
  simp only [p1]
  rw [if_neg (by decide), if_neg (by decide), if_pos trivial, e1]
  rfl
theorem row_end (n i : Nat) (opn : List Nat) (names : List (List UInt8)) (l : List Nd) (so : Bool) (t : List Int) (ht : t = [] ∨ (opn ≠ [] ∧ ∃ u, t = 41 :: u)) (h : rs.drop i = t) :
    go rs cls perl (n + 1) (.row l so) ⟨i, opn, names, f0_⟩ = .ok (some (whole 8 l), ⟨i, opn, names, f0_⟩) := by
  rw [go]
  rcases ht with rfl | ⟨ho, u, rfl⟩
  · simp [pk_end (rs := rs) (i := i) h]
  · simp [pk_drop (rs := rs) (i := i) h, ho]
theorem alts_one (n : Nat) (c : UInt8) (i : Nat) (opn : List Nat) (names : List (List UInt8)) (t : List Int) (ho : opn ≠ []) (h : rs.drop i = pieceW c ++ 41 :: t) :
    go rs cls perl (n + 3) (.alts []) ⟨i, opn, names, f0_⟩ = .ok (some (sgnW c), ⟨i + (pieceW c).length, opn, names, f0_⟩) := by
  obtain ⟨e1, e2⟩ := atom_piece (cls := cls) (perl := perl) n c i opn names (41 :: t) h
  have h' : rs.drop i = 92 :: (120 :: 123 :: (hexL 5 c.toNat ++ [125]) ++ 41 :: t) := by rw [h]; rfl
  have p0 := pk_drop h'
  rw [go, go]
  simp only [p0, times_92 p0, e1]
  rw [if_neg (by decide), if_neg (by decide)]
  rw [row_end (cls := cls) (perl := perl) n _ opn names _ _ (41 :: t) (.inr ⟨ho, t, rfl⟩) e2]
  have p1 := pk_drop e2
  simp only [p1]
  rw [if_neg (by decide)]
  simp [whole]
theorem atom_group (n : Nat) (c : UInt8) (i : Nat) (names : List (List UInt8)) (t : List Int) (h : rs.drop i = 40 :: (pieceW c ++ 41 :: t)) :
    go rs cls perl (n + 4) .atom ⟨i, [], names, f0_⟩ = .ok (some (.grp names.length [] (sgnW c)), ⟨i + (pieceW c).length + 2, [], names ++ [[]], f0_⟩) ∧ rs.drop (i + (pieceW c).length + 2) = t := by
  have p0 := pk_drop h
  have d1 := drop_next h
  have e1 := alts_one (cls := cls) (perl := perl) n c (i + 1) [i] (names ++ [[]]) t (by simp) d1
  have d2 : rs.drop (i + 1 + (pieceW c).length) = 41 :: t := by rw [← List.drop_drop, d1]; simp
  have p1 : pk rs (i + 1) = 92 := pk_drop (t := 120 :: 123 :: (hexL 5 c.toNat ++ [125]) ++ 41 :: t) (by rw [d1]; rfl)
  have p2 := pk_drop d2
  refine ⟨?_, by rw [show i + (pieceW c).length + 2 = i + 1 + (pieceW c).length + 1 by omega]; exact drop_next d2⟩
  rw [go]
  simp only [p0, p1]
  rw [if_pos trivial, if_neg (by simp), if_neg (by decide)]
  simp only [List.nil_append, e1, p2]
  rw [if_neg (by simp)]
  simp only [Option.map_some, List.dropLast_singleton]
  congr 3
  omega
theorem row_word (fd : Int) : ∀ (cs : List UInt8) (n k i : Nat) (names : List (List UInt8)) (l : List Nd) (so : Bool), rs.drop i = wordW fd k cs → cs.length + 5 ≤ n →
    ∃ names2, go rs cls perl n (.row l so) ⟨i, [], names, f0_⟩ = .ok (some (whole 8 (l ++ nodesW fd k names.length cs)), ⟨i + (wordW fd k cs).length, [], names2, f0_⟩)
  | [], n, k, i, names, l, so, h, hn => by
    obtain ⟨m, rfl⟩ : ∃ m, n = m + 1 := ⟨n - 1, by omega⟩
    refine ⟨names, ?_⟩
    rw [row_end m i [] names l so [] (.inl rfl) h]
    simp [nodesW, wordW]
  | c :: cs, n, k, i, names, l, so, h, hn => by
    obtain ⟨m, rfl⟩ : ∃ m, n = m + 5 := ⟨n - 5, by simp at hn; omega⟩
    by_cases hk : (k : Int) = fd
    · have ew : wordW fd k (c :: cs) = 40 :: (pieceW c ++ 41 :: wordW fd (k + 1) cs) := by
        rw [wordW_cons, decide_eq_true hk]
        simp [partW]
      have en : nodesW fd k names.length (c :: cs) = .grp names.length [] (sgnW c) :: nodesW fd (k + 1) (names.length + 1) cs := by
        rw [nodesW, if_pos hk]
      rw [ew] at h ⊢
      rw [en]
      obtain ⟨e1, e2⟩ := atom_group (cls := cls) (perl := perl) m c i names _ h
      have p0 := pk_drop h
      obtain ⟨names2, e3⟩ := row_word fd cs (m + 4) (k + 1) (i + (pieceW c).length + 2) (names ++ [[]]) (l ++ [.grp names.length [] (sgnW c)]) true e2 (by simp at hn ⊢; omega)
      refine ⟨names2, ?_⟩
      rw [go]
      simp only [p0, times_40 p0, e1]
      rw [if_neg (by decide), if_neg (by decide)]
      simp only [Option.toList_some, Option.isSome_some]
      rw [e3]
      simp
      omega
    · have ew : wordW fd k (c :: cs) = pieceW c ++ wordW fd (k + 1) cs := by
        rw [wordW_cons, decide_eq_false hk]
        rfl
      have en : nodesW fd k names.length (c :: cs) = sgnW c :: nodesW fd (k + 1) names.length cs := by
        rw [nodesW, if_neg hk]
      rw [ew] at h ⊢
      rw [en]
      obtain ⟨e1, e2⟩ := atom_piece (cls := cls) (perl := perl) (m + 3) c i [] names _ h
      have p0 : pk rs i = 92 := pk_drop (t := 120 :: 123 :: (hexL 5 c.toNat ++ [125]) ++ wordW fd (k + 1) cs) (by rw [h]; rfl)
      obtain ⟨names2, e3⟩ := row_word fd cs (m + 4) (k + 1) (i + (pieceW c).length) names (l ++ [sgnW c]) true e2 (by simp at hn ⊢; omega)
      refine ⟨names2, ?_⟩
      rw [go]
      simp only [p0, times_92 p0, e1]
      rw [if_neg (by decide), if_neg (by decide)]
      simp only [Option.toList_some, Option.isSome_some]
      rw [e3]
      simp
      omega
theorem wordW_len (fd : Int) : ∀ (cs : List UInt8) (k : Nat), cs.length ≤ (wordW fd k cs).length
  | [], _ => Nat.zero_le _
  | c :: cs, k => by
    have ih := wordW_len fd cs (k + 1)
    rw [wordW_cons, List.length_append]
    have hp : 1 ≤ (partW (decide ((k : Int) = fd)) c).length := by
      unfold partW
      split
      · simp
      · rw [piece_len]; omega
    simp only [List.length_cons]
    omega
/-- The tree of a word's pattern. -/
def treeW (fd : Int) (cs : List UInt8) : Nd := whole 8 (nodesW fd 0 1 cs)
theorem word_parse (fd : Int) (cs : List UInt8) (hrs : rs = wordW fd 0 cs) : ∃ st, parse rs cls perl f0_ = .ok (some (treeW fd cs), st) := by
  have hl := wordW_len fd cs 0
  rw [← hrs] at hl
  unfold parse
  obtain ⟨n, hn⟩ : ∃ n, 4 * rs.length + 8 = n + 1 := ⟨4 * rs.length + 7, by omega⟩
  rw [hn]
  obtain ⟨names2, e⟩ := row_word (rs := rs) (cls := cls) (perl := perl) fd cs n 0 0 [[]] [] false (by rw [List.drop_zero]; exact hrs) (by omega)
  refine ⟨⟨rs.length, [], names2, f0_⟩, ?_⟩
  rw [go, e]
  have hend : pk rs (0 + (wordW fd 0 cs).length) = -1 := by rw [← hrs]; unfold pk; simp
  simp only [hend]
  rw [if_neg (by decide)]
  simp only [Option.toList_some, List.nil_append, ← hrs, Nat.zero_add]
  rfl
end Go.Proofs.YtblkejnckbeieaaGreatDoor.SynP

namespace Go.Proofs.YtblkejnckbeieaaGreatDoor.SynP

/-- All that the tree matches is this text. -/
inductive Lit : Nd → List UInt8 → Prop
  | none (set fold a b lz cap nm kids) : Lit (.mk 0 set fold a b lz cap nm kids) []
  | cls (c : UInt8) (h : c.toNat < 128) (fold a b lz cap nm kids) : Lit (.mk 1 (some (one (c.toNat : Int))) fold a b lz cap nm kids) [c]
  | grp (set fold a b lz cap nm x kids) (l : List UInt8) (h : Lit x l) : Lit (.mk 11 set fold a b lz cap nm (x :: kids)) l
  | cat (set fold a b lz cap nm) (kids : List Nd) (ls : List (List UInt8)) (hl : ls.length = kids.length) (h : ∀ (i : Nat) (h1 : i < kids.length) (h2 : i < ls.length), Lit kids[i] ls[i]) : Lit (.mk 8 set fold a b lz cap nm kids) ls.flatten
theorem lit_sgnW {c : UInt8} (h : c.toNat < 128) : Lit (sgnW c) [c] := Lit.cls c h ..
theorem lit_nodes (fd : Int) : ∀ (cs : List UInt8), (∀ c ∈ cs, c.toNat < 128) → ∀ (k g i : Nat) (h1 : i < (nodesW fd k g cs).length) (h2 : i < (cs.map fun c => [c]).length), Lit ((nodesW fd k g cs)[i]) ((cs.map fun c => [c])[i])
  | [], _, _, _, i, _, h2 => absurd h2 (by simp)
  | c :: cs, h, k, g, i, h1, h2 => by
    by_cases hk : (k : Int) = fd
    · have en : nodesW fd k g (c :: cs) = .grp g [] (sgnW c) :: nodesW fd (k + 1) (g + 1) cs := by rw [nodesW, if_pos hk]
      simp only [en] at h1 ⊢
      cases i with
      | zero => exact Lit.grp _ _ _ _ _ _ _ _ _ _ (lit_sgnW (h c List.mem_cons_self))
      | succ i => exact lit_nodes fd cs (fun x hx => h x (List.mem_cons_of_mem _ hx)) (k + 1) (g + 1) i (by simpa using h1) (by simpa using h2)
    · have en : nodesW fd k g (c :: cs) = sgnW c :: nodesW fd (k + 1) g cs := by rw [nodesW, if_neg hk]
      simp only [en] at h1 ⊢
      cases i with
      | zero => exact lit_sgnW (h c List.mem_cons_self)
      | succ i => exact lit_nodes fd cs (fun x hx => h x (List.mem_cons_of_mem _ hx)) (k + 1) g i (by simpa using h1) (by simpa using h2)
theorem nodes_len (fd : Int) : ∀ (cs : List UInt8) (k g : Nat), (nodesW fd k g cs).length = cs.length
  | [], _, _ => rfl
  | c :: cs, k, g => by
    rw [nodesW]
    split <;> simp [nodes_len fd cs]
theorem nodes_mem (fd : Int) : ∀ (cs : List UInt8) (k g : Nat), ∀ x ∈ nodesW fd k g cs, (∃ c, c ∈ cs ∧ x = sgnW c) ∨ ∃ (c : UInt8) (g' : Nat), c ∈ cs ∧ x = .grp g' [] (sgnW c)
  | [], _, _, x, hx => absurd hx List.not_mem_nil
  | c :: cs, k, g, x, hx => by
    rw [nodesW] at hx
    split at hx
    all_goals
      rcases List.mem_cons.1 hx with rfl | hx
      · first
          | exact .inl ⟨c, List.mem_cons_self, rfl⟩
          | exact .inr ⟨c, g, List.mem_cons_self, rfl⟩
      · rcases nodes_mem fd cs _ _ x hx with ⟨d, h1, h2⟩ | ⟨d, g', h1, h2⟩
        · exact .inl ⟨d, List.mem_cons_of_mem _ h1, h2⟩
        · exact .inr ⟨d, g', List.mem_cons_of_mem _ h1, h2⟩
theorem flat_ones : ∀ cs : List UInt8, (cs.map fun c => [c]).flatten = cs
  | [] => rfl
  | c :: cs => by rw [List.map_cons, List.flatten_cons, flat_ones cs]; rfl
theorem lit_word (fd : Int) (cs : List UInt8) (h : ∀ c ∈ cs, c.toNat < 128) : Lit (treeW fd cs) cs := by
  have hl := nodes_len fd cs 0 1
  have hn := lit_nodes fd cs h 0 1
  unfold treeW
  match hN : nodesW fd 0 1 cs with
  | [] =>
    rw [hN] at hl
    obtain rfl : cs = [] := List.eq_nil_of_length_eq_zero hl.symm
    exact Lit.none ..
  | [x] =>
    simp only [hN] at hl hn
    obtain ⟨c, rfl⟩ : ∃ c, cs = [c] := List.length_eq_one_iff.1 hl.symm
    exact hn 0 (by simp) (by simp)
  | x :: y :: l =>
    simp only [hN] at hl hn
    have e : whole 8 (x :: y :: l) = .mk 8 none false 0 0 false 0 [] (x :: y :: l) := rfl
    rw [e, ← flat_ones cs]
    exact Lit.cat _ _ _ _ _ _ _ _ _ (by rw [List.length_map, hl]) fun i h1 h2 => hn i h1 h2

section
variable (cl : (Int → Bool) → Int → Bool)
theorem mk_sgnW (c : UInt8) : mkN cl (sgnW c) = sgnW c := by
  unfold sgnW Nd.cls mkN
  rw [if_neg (by omega), if_pos rfl]
  simp only [Bool.false_eq_true, if_false, testOf]
  rw [lessF_one (by have := UInt8.toNat_lt c; omega)]
theorem mk_grpW (g : Nat) (c : UInt8) : mkN cl (.grp g [] (sgnW c)) = .grp g [] (sgnW c) := by
  unfold Nd.grp mkN
  rw [if_neg (by omega), if_neg (by omega), if_neg (by omega), if_neg (by omega), if_neg (by omega)]
  unfold mkL mkL
  rw [mk_sgnW]
theorem mk_nodes {l : List Nd} (h : ∀ x ∈ l, (∃ c, x = sgnW c) ∨ ∃ (c : UInt8) (g : Nat), x = .grp g [] (sgnW c)) : mkL cl l = l := by
  induction l with
  | nil => rfl
  | cons x l ih =>
    unfold mkL
    rw [ih fun y hy => h y (List.mem_cons_of_mem _ hy)]
    rcases h x List.mem_cons_self with ⟨c, rfl⟩ | ⟨c, g, rfl⟩
    · rw [mk_sgnW]
    · rw [mk_grpW]
theorem flat_nodes {l : List Nd} (h : ∀ x ∈ l, (∃ c, x = sgnW c) ∨ ∃ (c : UInt8) (g : Nat), x = .grp g [] (sgnW c)) : solidN (flatN 8 l) = l := by
  induction l with
  | nil => rfl
  | cons x l ih =>
    have ih := ih fun y hy => h y (List.mem_cons_of_mem _ hy)
    unfold solidN flatN at ih ⊢
    rw [List.flatMap_cons, List.filter_append, ih]
    rcases h x List.mem_cons_self with ⟨c, rfl⟩ | ⟨c, g, rfl⟩
    · rfl
    · rfl
theorem word_kinds (fd : Int) (cs : List UInt8) : ∀ x ∈ nodesW fd 0 1 cs, (∃ c, x = sgnW c) ∨ ∃ (c : UInt8) (g : Nat), x = .grp g [] (sgnW c) := fun x hx => by
  rcases nodes_mem fd cs 0 1 x hx with ⟨c, _, h⟩ | ⟨c, g, _, h⟩
  · exact .inl ⟨c, h⟩
  · exact .inr ⟨c, g, h⟩
theorem mk_word (fd : Int) (cs : List UInt8) : mkN cl (treeW fd cs) = treeW fd cs := by
  have hk := word_kinds fd cs
  unfold treeW
  match hN : nodesW fd 0 1 cs with
  | [] => show mkN cl (.leaf 0) = .leaf 0; rfl
  | [x] =>
    rw [hN] at hk
    show mkN cl x = x
    have := mk_nodes cl hk
    unfold mkL at this
    exact (List.cons.inj this).1
  | x :: y :: l =>
    rw [hN] at hk
    have e : whole 8 (x :: y :: l) = .mk 8 none false 0 0 false 0 [] (x :: y :: l) := rfl
    have e2 : mkN cl (.mk 8 none false 0 0 false 0 [] (x :: y :: l)) = rowN (mkL cl (x :: y :: l)) := by
      rw [mkN, if_neg (by omega), if_neg (by omega), if_pos rfl]
    rw [e, e2, mk_nodes cl hk]
    unfold rowN
    rw [flat_nodes hk]
    rfl
end
/-- A word's tree comes to few nodes. -/
theorem cntS_nodes : ∀ (l : List Nd) (s : Int), (∀ x ∈ l, (∃ c, x = sgnW c) ∨ ∃ (c : UInt8) (g : Nat), x = .grp g [] (sgnW c)) → 1 ≤ s → s + 2 * l.length ≤ 1000000 → cntS s l ≤ s + 2 * l.length
  | [], s, _, _, _ => by unfold cntS; simp
  | x :: l, s, h, h1, h2 => by
    have hx : 1 ≤ cntN x ∧ cntN x ≤ 2 := by
      rcases h x List.mem_cons_self with ⟨c, rfl⟩ | ⟨c, g, rfl⟩
      · have e : cntN (sgnW c) = 1 := by unfold sgnW Nd.cls cntN; rw [if_neg (by omega), if_neg (by omega), if_neg (by omega)]
        omega
      · have e : cntN (.grp g [] (sgnW c)) = 2 := by
          unfold Nd.grp cntN
          rw [if_neg (by omega), if_pos rfl]
          unfold cntH
          have e : cntN (sgnW c) = 1 := by unfold sgnW Nd.cls cntN; rw [if_neg (by omega), if_neg (by omega), if_neg (by omega)]
          rw [e]
          rfl
        omega
    rw [List.length_cons] at h2 ⊢
    unfold cntS
    have hc : capN (s + cntN x) = s + cntN x := by unfold capN; omega
    rw [hc]
    have := cntS_nodes l (s + cntN x) (fun y hy => h y (List.mem_cons_of_mem _ hy)) (by omega) (by omega)
    omega
theorem cnt_word (fd : Int) (cs : List UInt8) (hl : cs.length ≤ 1000) : cntN (treeW fd cs) ≤ 3000 := by
  have hk := word_kinds fd cs
  have hn := nodes_len fd cs 0 1
  have hm := cntS_nodes (nodesW fd 0 1 cs) 1 hk (by omega) (by omega)
  unfold treeW
  match hN : nodesW fd 0 1 cs with
  | [] => show cntN (.leaf 0) ≤ 3000; unfold Nd.leaf cntN; rw [if_neg (by omega), if_neg (by omega), if_neg (by omega)]; omega
  | [x] =>
    rw [hN] at hk hm
    show cntN x ≤ 3000
    unfold cntS cntS capN at hm
    simp at hm
    omega
  | x :: y :: l =>
    rw [hN] at hm hn
    have e : whole 8 (x :: y :: l) = .mk 8 none false 0 0 false 0 [] (x :: y :: l) := rfl
    have e2 : cntN (.mk 8 none false 0 0 false 0 [] (x :: y :: l)) = cntS 1 (x :: y :: l) := by rw [cntN, if_pos (.inl rfl)]
    rw [e, e2]
    omega
theorem few_word (fd : Int) (cs : List UInt8) : fewN (treeW fd cs) := by
  have hk := word_kinds fd cs
  have hs : ∀ c : UInt8, fewN (sgnW c) := fun c => by unfold sgnW Nd.cls fewN; exact ⟨fun h => absurd h (by decide), by unfold fewL; trivial⟩
  have hx : ∀ x ∈ nodesW fd 0 1 cs, fewN x := fun x hx => by
    rcases hk x hx with ⟨c, rfl⟩ | ⟨c, g, rfl⟩
    · exact hs c
    · unfold Nd.grp fewN
      refine ⟨fun h => absurd h (by decide), ?_⟩
      unfold fewL
      exact ⟨hs c, by unfold fewL; trivial⟩
  have hl : ∀ l : List Nd, (∀ x ∈ l, fewN x) → fewL l := fun l => by
    induction l with
    | nil => intro _; unfold fewL; trivial
    | cons y l ih => intro h; unfold fewL; exact ⟨h y List.mem_cons_self, ih fun z hz => h z (List.mem_cons_of_mem _ hz)⟩
  unfold treeW
  match hN : nodesW fd 0 1 cs with
  | [] => show fewN (.leaf 0); unfold Nd.leaf fewN; exact ⟨fun h => absurd h (by decide), by unfold fewL; trivial⟩
  | [x] => rw [hN] at hx; exact hx x (by simp)
  | x :: y :: l =>
    rw [hN] at hx
    have e : whole 8 (x :: y :: l) = .mk 8 none false 0 0 false 0 [] (x :: y :: l) := rfl
    rw [e]
    unfold fewN
    exact ⟨fun h => absurd h (by decide), hl _ hx⟩
end Go.Proofs.YtblkejnckbeieaaGreatDoor.SynP

namespace Go.Proofs.YtblkejnckbeieaaGreatDoor
open Go.Shelf Go.RowKit

def bI (l : List UInt8) : List Int := l.map fun c => (c.toNat : Int)
theorem str_size (l : List UInt8) : (str l).size = l.length := by simp [str, ByteArray.size]
theorem str_bI (l : List UInt8) : strOfNums (bI l) = str l := by
  unfold strOfNums bI str
  rw [List.map_map]
  have : ((fun n : Int => UInt8.ofNat n.toNat) ∘ fun c : UInt8 => (c.toNat : Int)) = id := by funext c; simp
  rw [this, List.map_id]
theorem str_dig (m : Int) (h0 : 0 ≤ m) (h1 : m < 10) : strOfNums [48 + m] = str [UInt8.ofNat (48 + m.toNat)] := by
  unfold strOfNums str
  simp only [List.map_cons, List.map_nil, show (48 + m).toNat = 48 + m.toNat by omega]
theorem str_app (a b : List UInt8) : str a ++ str b = str (a ++ b) := by
  have h : (str a ++ str b).data = (str (a ++ b)).data := by rw [ByteArray.data_append]; simp [str]
  exact congrArg ByteArray.mk h

theorem dec_len3 (n : Nat) (h : n < 1000) : (Lib.decDigits n).length ≤ 3 := by
  have : ∀ k : Fin 1000, (Lib.decDigits k.val).length ≤ 3 := by decide +kernel
  exact this ⟨n, h⟩
theorem conv_kept {w w1 : World} {x : Int} (hb : Below (w.alloc (.cells #[.int .u8 x] 5)).drew.heap.size (w.alloc (.cells #[.int .u8 x] 5)).drew w1) :
    (convert 60 9 (.slice (some ⟨w.heap.size, 0, none⟩) 1 1)).run Tryz.prog w1 = .ok (.string (strOfNums [x])) w1 := by
  refine run_convert_bytes_arg (P := Tryz.prog) w1 60 5 Tryz.underlying60 Tryz.underlying5 w.heap.size 0 1 1 [x] rfl (fun i hi => ?_) 9 Tryz.underlying9
  obtain rfl : i = 0 := by omega
  rw [hb.cell (p := ⟨w.heap.size, 0 + 0, none⟩) (by simp)]
  exact World.cell?_alloc_new w _ _ 0

theorem below_of_drew {w w' : World} (h : Below w.drew.heap.size w.drew w') : Below w.heap.size w w' := ⟨h.os, h.tape, h.output, h.size, h.block⟩

set_option maxRecDepth 100000 in
set_option maxHeartbeats 1000000 in
theorem number_nat (n : Nat) : n < 1000 → ∀ w : World, Calls Tryz.prog 24 #[.int .i64 n] w fun e w' => e = .returned (.string (str (Lib.decDigits n))) ∧ Below w.heap.size w w' := by
  induction n using Nat.strongRecOn with
  | ind n ih =>
  intro hn w
  obtain ⟨z, hz⟩ : ∃ z : Int, (n : Int) = z := ⟨_, rfl⟩
  rw [hz]
  have hz0 : 0 ≤ z := by omega
  have hz1 : z < 1000 := by omega
  by_cases h10 : z < 10
  · obtain ⟨D, hD⟩ : ∃ D, strOfNums [48 + z] = D := ⟨_, rfl⟩
    have HD := Lib.hid (show str (Lib.decDigits n) = D by rw [← hD, str_dig z hz0 h10, Lib.decDigits, dif_pos (by omega), show z.toNat = n by omega])
    have hconv := conv_one w (48 + z)
    rw [hD] at hconv
    clear ih hz hD
    go_enter Tryz.func24, Tryz.ntmps24
    go_wp2
    go_ret
    exact ⟨by rw [HD.out]; rfl, (Below.refl _ _).alloc (Nat.le_refl _) _⟩
  · have h10' : 10 ≤ z := by omega
    obtain ⟨q, hq⟩ : ∃ q, z / 10 = q := ⟨_, rfl⟩
    obtain ⟨m, hm⟩ : ∃ m, z % 10 = m := ⟨_, rfl⟩
    have hm0 : 0 ≤ m := by omega
    have hm1 : m < 10 := by omega
    obtain ⟨D, hD⟩ : ∃ D, strOfNums [48 + m] = D := ⟨_, rfl⟩
    obtain ⟨q1, hq1⟩ : ∃ q1, str (Lib.decDigits (n / 10)) = q1 := ⟨_, rfl⟩
    have HD := Lib.hid (show str (Lib.decDigits n) = q1 ++ D by
      rw [← hD, str_dig m hm0 hm1, Lib.decDigits, dif_neg (by omega), ← hq1, str_app, show m.toNat = n % 10 by omega])
    have HQ := Lib.hid (fun w => ih (n / 10) (by omega) (by omega) w)
    rw [show ((n / 10 : Nat) : Int) = q by omega, hq1] at HQ
    have hs1 : q1.size ≤ 19 := by rw [← hq1, str_size]; exact Nat.le_trans (dec_len3 _ (by omega)) (by decide)
    have hs2 : D.size = 1 := by rw [← hD, nums_size]; rfl
    have hs3 : q1.size + D.size ≤ 9223372036854775807 := by omega
    have hs4 := Lib.hid hs2
    have e1 : IntKind.i64.wrap (z.tdiv 10) = q := by rw [IntWalk.i64_quo z 10 (by omega), hq]
    have e2 : IntKind.i64.wrap (48 + m) = 48 + m := IntWalk.i64_in _ (by omega)
    have e3 : z.tmod 10 = m := by rw [IntWalk.rem_in z 10 hz0, hm]
    have e4 : IntKind.u8.wrap (48 + m) = 48 + m := IntWalk.u8_in _ (by omega)
    have hconv := fun w : World => conv_one w (48 + m)
    rw [hD] at hconv
    have hconv2 := fun w : World => conv_kept (w := w) (x := 48 + m) (Below.refl _ _)
    rw [hD] at hconv2
    have HDD := Lib.hid hD
    clear ih hz hD hq hm hq1 hs2
    go_enter Tryz.func24, Tryz.ntmps24
    go_wp2_with fail
    go_region_with ((go_at_call 24; refine (HQ.out _).mono ?_; rintro e w1 ⟨rfl, hb1⟩; (try (have hcv1 := conv_kept hb1; rw [HDD.out] at hcv1)); (try (have hz1 := hb1.size; simp only [World.heap_alloc_size, World.heap_drew] at hz1))))
    all_goals
      go_wp2
      go_ret
      refine ⟨by rw [HD.out]; rfl, ?_⟩
      first
        | exact (below_of_drew hb1).alloc (below_of_drew hb1).size _
        | exact ((Below.refl _ w).alloc (Nat.le_refl _) _).trans ((below_of_drew hb1).mono (by simp))

theorem dec3_dig (n : Nat) (h : n < 128) : nat_ (Lib.decDigits n) = SynP.dec3 n := by
  have : ∀ k : Fin 128, nat_ (Lib.decDigits k.val) = SynP.dec3 k.val := by decide +kernel
  exact this ⟨n, h⟩

/-- The text x{a,b}, in bytes. -/
def timesB (a b : Nat) (z : Bool) : List UInt8 := [120, 123] ++ Lib.decDigits a ++ [44] ++ Lib.decDigits b ++ [125] ++ (if z then [63] else [])
theorem nat_app (a b : List UInt8) : nat_ (a ++ b) = nat_ a ++ nat_ b := List.map_append
theorem nat_times (a b : Nat) (z : Bool) (ha : a < 128) (hb : b < 128) : nat_ (timesB a b z) = SynP.timesText a b z := by
  unfold timesB SynP.timesText
  rw [nat_app, nat_app, nat_app, nat_app, nat_app, dec3_dig a ha, dec3_dig b hb]
  cases z <;> rfl
theorem asc_times (a b : Nat) (z : Bool) (ha : a < 128) (hb : b < 128) : (∀ c ∈ timesB a b z, c.toNat < 128) ∧ (timesB a b z).length ≤ 1024 := by
  have h : ∀ k : Fin 128, (∀ c ∈ Lib.decDigits k.val, c.toNat < 128) ∧ (Lib.decDigits k.val).length ≤ 3 := by decide +kernel
  obtain ⟨a1, a2⟩ := h ⟨a, ha⟩
  obtain ⟨b1, b2⟩ := h ⟨b, hb⟩
  simp only at a1 a2 b1 b2
  constructor
  · intro c hc
    unfold timesB at hc
    simp only [List.mem_append] at hc
    rcases hc with ((((hc | hc) | hc) | hc) | hc) | hc
    · revert c; decide
    · exact a1 c hc
    · revert c; decide
    · exact b1 c hc
    · revert c; decide
    · revert c; cases z <;> decide
  · unfold timesB
    simp only [List.length_append]
    cases z <;> simp <;> omega
end Go.Proofs.YtblkejnckbeieaaGreatDoor

namespace Go.Proofs.YtblkejnckbeieaaGreatDoor
open Go.RowKit SetPure

/-- No class is closed. -/
def cl0 (f : Int → Bool) : Int → Bool := f
section
variable (c : UInt8) (a m : Nat)
/-- A sign so many times. -/
def repT : SynP.Nd := .rep a m false (SynP.sgn c)
theorem few_rep (h : a ≤ m) (hm : m ≤ 1000) : SynP.fewN (repT c a m) := by
  unfold repT SynP.Nd.rep SynP.fewN
  refine ⟨fun _ => ⟨by omega, by omega, .inr ⟨by omega, by omega⟩⟩, ?_⟩
  unfold SynP.fewL
  refine ⟨?_, by unfold SynP.fewL; trivial⟩
  unfold SynP.sgn SynP.Nd.cls SynP.fewN
  exact ⟨fun h => absurd h (by decide), by unfold SynP.fewL; trivial⟩
theorem cnt_rep (_h : a ≤ m) (hm : m ≤ 64) : SynP.cntN (repT c a m) ≤ 8192 := by
  have e : SynP.cntN (SynP.sgn c) = 1 := by unfold SynP.sgn SynP.Nd.cls SynP.cntN; rw [if_neg (by omega), if_neg (by omega), if_neg (by omega)]
  have e2 : SynP.cntN (repT c a m) = SynP.timesC a m 1 := by
    unfold repT SynP.Nd.rep
    rw [SynP.cntN, if_neg (by omega), if_neg (by omega), if_pos rfl]
    unfold SynP.cntH
    rw [e]
  rw [e2]
  unfold SynP.timesC SynP.capN
  rw [if_neg (by omega)]
  omega
theorem mk_rep : SynP.mkN cl0 (repT c a m) = if a = 0 ∧ m = 0 then .leaf 0 else SynP.timesN a m false (SynP.sgn c) := by
  unfold repT SynP.Nd.rep
  rw [SynP.mkN]
  by_cases h : a = 0 ∧ m = 0
  · rw [if_pos (by omega), if_pos h]
  · rw [if_neg (by omega), if_neg h, if_neg (by omega), if_neg (by omega), if_neg (by omega), if_pos rfl]
    unfold SynP.mkL
    rw [show SynP.mkN cl0 (SynP.sgn c) = SynP.sgn c from SynP.mk_sgnW cl0 c]
    rfl
theorem okM_rep (h : a ≤ m) (hm : m ≤ 1000) : okM cl0 (repT c a m) := by
  unfold repT SynP.Nd.rep okM
  refine ⟨fun h => absurd h (by decide), fun h => absurd h (by decide), by decide, fun _ => ⟨by omega, by omega, by omega, ?_⟩, by simp, ?_⟩
  · unfold SynP.mkL
    rw [show SynP.mkN cl0 (SynP.sgn c) = SynP.sgn c from SynP.mk_sgnW cl0 c]
    rfl
  · unfold okML
    refine ⟨?_, by unfold okML; trivial⟩
    unfold SynP.sgn SynP.Nd.cls okM
    exact ⟨fun _ => ⟨rfl, _, rfl⟩, fun h => absurd h (by decide), by decide, fun h => absurd h (by decide), by simp, by unfold okML; trivial⟩
/-- Simplify of a tree. -/
def SimpC (nd out : SynP.Nd) : Prop := ∀ (r : RawN) (P : Nat → Prop) (w : World), Lies w P nd r → Calls Tryz.prog 12 #[.agg r.cells.toArray] w fun e w' => ∃ q : RawN, e = .returned (.tuple #[.agg q.cells.toArray, .int .i64 0]) ∧ Below w.heap.size w w' ∧ Lies w' (Qw w P) out q
theorem simp_of (nd : SynP.Nd) (hf : SynP.fewN nd) (hc : SynP.cntN nd ≤ 8192) (ho : okM cl0 nd) : SimpC nd (SynP.mkN cl0 nd) := fun r P w hl =>
  simplify_any cl0 nd (count_all _ nd (Nat.le_refl _) hf) hc (made_all cl0 _ nd (Nat.le_refl _) ho) r P w hl
theorem simp_rep (h : a ≤ m) (hm : m ≤ 64) : SimpC (repT c a m) (if a = 0 ∧ m = 0 then .leaf 0 else SynP.timesN a m false (SynP.sgn c)) := by
  have := simp_of (repT c a m) (few_rep c a m h (by omega)) (cnt_rep c a m h hm) (okM_rep c a m h (by omega))
  rwa [mk_rep] at this
end

set_option maxRecDepth 100000 in
set_option maxHeartbeats 3200000 in
theorem show_empty : ShowC (SynP.Nd.leaf 0) := by
  intro r P w hl
  have h0 : r.kind = 0 := hl.kind_z
  obtain ⟨r0, r1, r2, r3, r4, r5, r6, r7, r8, r9, ra, rb, rc⟩ := r
  simp only at h0
  subst h0
  simp only [RawN.cells]
  clear hl
  go_enter Tryz.func25, Tryz.ntmps25
  go_wp2
  go_ret
  exact ⟨rfl, (Below.refl _ _).alloc (Nat.le_refl _) _⟩

theorem text_len (a b : Nat) (h : a + b ≤ 100) : (SynP.wantW 120 a b).length ≤ 1000 := by
  unfold SynP.wantW
  split
  · decide
  · have := SynP.tailW_len 120 b
    simp only [List.length_append, List.length_replicate]
    omega
theorem alnum_x : SynP.alnum ((120 : UInt8).toNat : Int) := by unfold SynP.alnum; decide
/-- What is shown of what Simplify makes. -/
theorem show_rep_ (c : UInt8) (hc : SynP.alnum (c.toNat : Int)) (a b : Nat) (h : a + b ≤ 64) (hlen : (SynP.wantW c a b).length ≤ 1000000) : ∃ out, SimpC (repT c a (a + b)) out ∧ ShowC out ∧ SynP.shN out = SynP.wantW c a b := by
  have hs := simp_rep c a (a + b) (by omega) h
  by_cases h0 : a = 0 ∧ a + b = 0
  · rw [if_pos h0] at hs
    refine ⟨_, hs, show_empty, ?_⟩
    unfold SynP.wantW
    rw [if_pos h0.2]
    unfold SynP.Nd.leaf
    rw [SynP.sh0]
  · rw [if_neg h0] at hs
    obtain ⟨o1, o2⟩ := SynP.times_text hc a b (by omega)
    refine ⟨_, hs, show_all _ _ (Nat.le_refl _) o1 (by rw [o2]; exact hlen), o2⟩

theorem sp12_parse : SynP.parse (nat_ [97, 123, 50, 44, 51, 125]) clsT perlT f0 = .ok (some (repT 97 2 3), ⟨6, [], [[]], f0⟩) := by kernel_rfl
theorem alnum_97 : SynP.alnum ((97 : UInt8).toNat : Int) := by unfold SynP.alnum; decide

set_option maxRecDepth 100000 in
set_option maxHeartbeats 6400000 in
theorem sp12_any (w : World) : Calls Tryz.prog 23 #[] w fun e w' => e = .returned (.bool true) ∧ Below w.heap.size w w' := by
  have HP : Hid (∀ w, Calls Tryz.prog 11 #[.string ⟨#[97, 123, 50, 44, 51, 125]⟩, .agg #[.bool false, .bool false, .bool false, .bool false]] w (TreeEnd (repT 97 2 3) w)) := Lib.hid fun w => tree_end [97, 123, 50, 44, 51, 125] (repT 97 2 3) _ (by decide) (by decide) sp12_parse w
  obtain ⟨out, hs, hsh, htx⟩ := show_rep_ 97 alnum_97 2 1 (by decide) (by decide)
  have HSm := Lib.hid hs
  have HSh := Lib.hid hsh
  have HTx : Hid (SynP.shN out = [97, 97, 97, 63]) := Lib.hid htx
  have hfe := faultEq_same 0 0
  clear hs hsh htx
  go_enter Tryz.func23, Tryz.ntmps23
  go_upto_region 2 with (first
      | (go_at_call 11; refine (HP.out _).mono ?_; rintro e w2 ⟨hb2, ⟨r0, r1, r2, r3, r4, r5, r6, r7, r8, r9, ra, rb, rc⟩, A, n, c, rfl, hl2⟩; have HB2 := Lib.hid (hb2); have HL2 := Lib.hid hl2; clear hb2 hl2; simp only [RawN.cells, List.cons_append, List.nil_append]))
  obtain ⟨P, hP⟩ : ∃ P, w2.heap.size = P := ⟨_, rfl⟩
  have hps := PatS.start (pc := #[.int .i64 r0, .slice r1 r2 r3, .bool r4, .int .i64 r5, .int .i64 r6, .bool r7, .int .i64 r8, .string r9, .slice ra rb rc, .slice A n c]) (fc := #[.int .i64 0, .int .i64 0]) HB2.out hP
  have hl3 := Lies.on (StandN.below (below_two w2 (.cells #[.int .i64 r0, .slice r1 r2 r3, .bool r4, .int .i64 r5, .int .i64 r6, .bool r7, .int .i64 r8, .string r9, .slice ra rb rc, .slice A n c] 32) (.cells #[.int .i64 0, .int .i64 0] 35))) _ _ HL2.out
  rw [hP]
  generalize (w2.alloc (.cells #[.int .i64 r0, .slice r1 r2 r3, .bool r4, .int .i64 r5, .int .i64 r6, .bool r7, .int .i64 r8, .string r9, .slice ra rb rc, .slice A n c] 32)).alloc (.cells #[.int .i64 0, .int .i64 0] 35) = W3 at hps hl3 ⊢
  have HS3 := Lib.hid hps
  have HL3 := Lib.hid hl3
  have hcP := HS3.out.pcell
  have hcF := HS3.out.fcell
  clear hps hl3 hP HB2 HL2 HP
  have HSc := Lib.hid (HSm.out ⟨r0, r1, r2, r3, r4, r5, r6, r7, r8, r9, ra, rb, rc⟩ _ W3 HL3.out)
  simp only [RawN.cells] at HSc
  clear HSm
  go_upto_region 3 with (go_at_call 12; refine HSc.out.mono ?_; rintro e w4 ⟨⟨q0, q1, q2, q3, q4, q5, q6, q7, q8, q9, qa, qb, qc⟩, rfl, hb4, hl4⟩; have HS4 := Lib.hid (HS3.out.below hb4); have HL4 := Lib.hid hl4; clear hb4 hl4)
  obtain ⟨M, hM⟩ : ∃ M, w4.heap.size = M := ⟨_, rfl⟩
  have hba : Below w4.heap.size w4 (w4.alloc (.cells #[.int .i64 q0, .slice q1 q2 q3, .bool q4, .int .i64 q5, .int .i64 q6, .bool q7, .int .i64 q8, .string q9, .slice qa qb qc] 29)) := (Below.refl _ _).alloc (Nat.le_refl _) _
  have hs5 := HS4.out.below hba
  have hl5 := Lies.on (StandN.below hba) _ _ HL4.out
  have hq5 := heap_alloc_new w4 (.cells #[.int .i64 q0, .slice q1 q2 q3, .bool q4, .int .i64 q5, .int .i64 q6, .bool q7, .int .i64 q8, .string q9, .slice qa qb qc] 29)
  rw [hM] at hq5 ⊢
  clear hba hM hcP hcF
  generalize w4.alloc (.cells #[.int .i64 q0, .slice q1 q2 q3, .bool q4, .int .i64 q5, .int .i64 q6, .bool q7, .int .i64 q8, .string q9, .slice qa qb qc] 29) = W5 at hs5 hl5 hq5 ⊢
  have HS5 := Lib.hid hs5
  have HL5 := Lib.hid hl5
  have hcF := HS5.out.fcell
  have hcq : ∀ o, W5.cell? ⟨M, o, none⟩ = #[Value.int .i64 q0, .slice q1 q2 q3, .bool q4, .int .i64 q5, .int .i64 q6, .bool q7, .int .i64 q8, .string q9, .slice qa qb qc][o]? := fun o => Lib.cell_of_heap hq5 o
  clear hs5 hl5 hq5 HSc HS4 HL4 HS3 HL3
  have HC : Hid (Calls Tryz.prog 25 #[.agg #[.int .i64 q0, .slice q1 q2 q3, .bool q4, .int .i64 q5, .int .i64 q6, .bool q7, .int .i64 q8, .string q9, .slice qa qb qc]] W5 fun e w' => e = .returned (.string ⟨#[97, 97, 97, 63]⟩) ∧ Below W5.heap.size W5 w') := Lib.hid (by
    have := HSh.out _ _ W5 HL5.out
    rw [HTx.out] at this
    exact this)
  clear hcF
  go_wp2_with (go_at_call 25; refine HC.out.mono ?_; rintro e w6 ⟨rfl, hb6⟩)
  go_ret
  exact ⟨rfl, HS5.out.bel.trans (hb6.mono HS5.out.bel.size)⟩

theorem mask31 (n : Int) : 0 ≤ bits BinOp.and IntKind.i64 n 31 ∧ bits BinOp.and IntKind.i64 n 31 ≤ 31 := by
  have h : (BitVec.ofInt 64 n &&& BitVec.ofInt 64 31).toNat ≤ 31 := by
    rw [BitVec.toNat_and]
    exact Nat.le_trans Nat.and_le_right (by decide)
  show 0 ≤ IntKind.i64.wrap ((BitVec.ofInt 64 n &&& BitVec.ofInt 64 31).toNat : Nat) ∧ IntKind.i64.wrap ((BitVec.ofInt 64 n &&& BitVec.ofInt 64 31).toNat : Nat) ≤ 31
  rw [IntKind.wrap_i64]
  omega
theorem tail_next (i : Nat) (h : 0 < i) : str (SynP.tailW 120 (i + 1)) = ⟨#[40, 63, 58, 120]⟩ ++ str (SynP.tailW 120 i) ++ ⟨#[41, 63]⟩ := by
  obtain ⟨j, rfl⟩ : ∃ j, i = j + 1 := ⟨i - 1, by omega⟩
  have e : SynP.tailW 120 (j + 1 + 1) = [40, 63, 58, 120] ++ SynP.tailW 120 (j + 1) ++ [41, 63] := rfl
  rw [e, ← str_app_, ← str_app_]
  rfl
theorem head_next (k b : Nat) : str (List.replicate (k + 1) 120 ++ SynP.tailW 120 b) = ⟨#[120]⟩ ++ str (List.replicate k 120 ++ SynP.tailW 120 b) := by
  rw [List.replicate_succ, show (⟨#[120]⟩ : ByteArray) = str [120] from rfl, str_app_]
  rfl
theorem parse_rep (a m : Nat) (h : a ≤ m) (hm : m ≤ 64) (w : World) : Calls Tryz.prog 11 #[.string (str (timesB a m false)), .agg #[.bool false, .bool false, .bool false, .bool false]] w (TreeEnd (repT 120 a m) w) := by
  obtain ⟨h1, h2⟩ := asc_times a m false (by omega) (by omega)
  have hp := SynP.times_parse (cls := clsT) (perl := perlT) a m false (by omega) (by omega) (nat_times a m false (by omega) (by omega))
  rw [if_neg (by omega)] at hp
  exact tree_end _ _ _ h1 h2 hp w

set_option maxRecDepth 100000 in
set_option maxHeartbeats 12800000 in
theorem law_stimes (x y : Int) (w : World) : Calls Tryz.prog 7 #[.int .i64 x, .int .i64 y] w fun e w' => e = .returned (.bool true) ∧ Below w.heap.size w w' := by
  obtain ⟨a, ha⟩ : ∃ a : Nat, bits BinOp.and IntKind.i64 x 31 = a := ⟨(bits BinOp.and IntKind.i64 x 31).toNat, by have := mask31 x; omega⟩
  obtain ⟨b, hb⟩ : ∃ b : Nat, bits BinOp.and IntKind.i64 y 31 = b := ⟨(bits BinOp.and IntKind.i64 y 31).toNat, by have := mask31 y; omega⟩
  have ha2 : a ≤ 31 := by have := mask31 x; omega
  have hb2 : b ≤ 31 := by have := mask31 y; omega
  have HNa := Lib.hid (fun w => number_nat a (by omega) w)
  have HNb : Hid (∀ w, Calls Tryz.prog 24 #[.int .i64 ((a : Int) + (b : Int))] w fun e w' => e = .returned (.string (str (Lib.decDigits (a + b)))) ∧ Below w.heap.size w w') := Lib.hid (fun w => number_nat (a + b) (by omega) w)
  have HP := Lib.hid (fun w => parse_rep a (a + b) (by omega) (by omega) w)
  have hlen := text_len a b (by omega)
  obtain ⟨out, hs, hsh, htx⟩ := show_rep_ 120 alnum_x a b (by omega) (by omega)
  have HSm := Lib.hid hs
  have HSh := Lib.hid hsh
  have HTx := Lib.hid htx
  have hla := dec_len3 a (by omega)
  have hlb := dec_len3 (a + b) (by omega)
  obtain ⟨sa, hsa⟩ : ∃ sa, str (Lib.decDigits a) = sa := ⟨_, rfl⟩
  obtain ⟨sb, hsb⟩ : ∃ sb, str (Lib.decDigits (a + b)) = sb := ⟨_, rfl⟩
  have hza : sa.size ≤ 3 := by rw [← hsa, str_size]; exact hla
  have hzb : sb.size ≤ 3 := by rw [← hsb, str_size]; exact hlb
  have HT : Hid (str (timesB a (a + b) false) = ⟨#[120, 123]⟩ ++ sa ++ ⟨#[44]⟩ ++ sb ++ ⟨#[125]⟩) := Lib.hid (by
    unfold timesB
    rw [← str_app, ← str_app, ← str_app, ← str_app, ← str_app, hsa, hsb]
    have h : ∀ q : ByteArray, q ++ str [] = q := fun q => congrArg ByteArray.mk (show (q ++ str []).data = q.data by rw [ByteArray.data_append]; simp [str])
    simp only [Bool.false_eq_true, if_false]
    rw [h]
    rfl)
  rw [hsa] at HNa
  rw [hsb] at HNb
  rw [HT.out] at HP
  clear hla hlb hsa hsb HT hs hsh htx
  go_enter Tryz.func7, Tryz.ntmps7
  go_upto_region 4 with (go_at_call 23; refine (sp12_any _).mono ?_; rintro e w1 ⟨rfl, hb1⟩; have HB1 := Lib.hid hb1; clear hb1)
  have T0 : Hid True := Lib.hid trivial
  have hs1 : 2 + sa.size ≤ 9223372036854775807 := by omega
  have hs2 : 2 + sa.size + 1 ≤ 9223372036854775807 := by omega
  have hs3 : 2 + sa.size + 1 + sb.size ≤ 9223372036854775807 := by omega
  have hs4 : 2 + sa.size + 1 + sb.size + 1 ≤ 9223372036854775807 := by omega
  go_upto_region 5 with (first
      | (go_at_call 11; refine (HP.out _).mono ?_; rintro e w2 ⟨hb2, ⟨r0, r1, r2, r3, r4, r5, r6, r7, r8, r9, ra, rb, rc⟩, A, n, c, rfl, hl2⟩; have HB2 := Lib.hid (HBn.out.trans (hb2.mono HBn.out.size)); have HL2 := Lib.hid hl2; clear hb2 hl2; simp only [RawN.cells, List.cons_append, List.nil_append])
      | (go_at_call 24; (first | (clear T0; refine (HNa.out _).mono ?_; rintro e w2 ⟨rfl, hb2⟩; have HBm := Lib.hid (HB1.out.trans (hb2.mono HB1.out.size)); clear hb2) | (refine (HNb.out _).mono ?_; rintro e w3 ⟨rfl, hb3⟩; have HBn := Lib.hid (HBm.out.trans (hb3.mono HBm.out.size)); clear hb3))))
  obtain ⟨P, hP⟩ : ∃ P, w2.heap.size = P := ⟨_, rfl⟩
  have hps := PatS.start (pc := #[.int .i64 r0, .slice r1 r2 r3, .bool r4, .int .i64 r5, .int .i64 r6, .bool r7, .int .i64 r8, .string r9, .slice ra rb rc, .slice A n c]) (fc := #[.int .i64 0, .int .i64 0]) HB2.out hP
  have hl3 := Lies.on (StandN.below (below_two w2 (.cells #[.int .i64 r0, .slice r1 r2 r3, .bool r4, .int .i64 r5, .int .i64 r6, .bool r7, .int .i64 r8, .string r9, .slice ra rb rc, .slice A n c] 32) (.cells #[.int .i64 0, .int .i64 0] 35))) _ _ HL2.out
  rw [hP]
  generalize (w2.alloc (.cells #[.int .i64 r0, .slice r1 r2 r3, .bool r4, .int .i64 r5, .int .i64 r6, .bool r7, .int .i64 r8, .string r9, .slice ra rb rc, .slice A n c] 32)).alloc (.cells #[.int .i64 0, .int .i64 0] 35) = W3 at hps hl3 ⊢
  have HS3 := Lib.hid hps
  have HL3 := Lib.hid hl3
  have hcP := HS3.out.pcell
  have hcF := HS3.out.fcell
  clear hps hl3 hP HB2 HL2 HP
  clear HNa HNb ha hb hs1 hs2 hs3 hs4 hza hzb
  have hfe := faultEq_same 0 0
  have HSc := Lib.hid (HSm.out ⟨r0, r1, r2, r3, r4, r5, r6, r7, r8, r9, ra, rb, rc⟩ _ W3 HL3.out)
  simp only [RawN.cells] at HSc
  clear HSm
  go_upto_region 6 with (go_at_call 12; refine HSc.out.mono ?_; rintro e w4 ⟨⟨q0, q1, q2, q3, q4, q5, q6, q7, q8, q9, qa, qb, qc⟩, rfl, hb4, hl4⟩; have HS4 := Lib.hid (HS3.out.below hb4); have HL4 := Lib.hid hl4; clear hb4 hl4)
  obtain ⟨M, hM⟩ : ∃ M, w4.heap.size = M := ⟨_, rfl⟩
  have hba : Below w4.heap.size w4 (w4.alloc (.cells #[.int .i64 q0, .slice q1 q2 q3, .bool q4, .int .i64 q5, .int .i64 q6, .bool q7, .int .i64 q8, .string q9, .slice qa qb qc] 29)) := (Below.refl _ _).alloc (Nat.le_refl _) _
  have hs5 := HS4.out.below hba
  have hl5 := Lies.on (StandN.below hba) _ _ HL4.out
  have hq5 := heap_alloc_new w4 (.cells #[.int .i64 q0, .slice q1 q2 q3, .bool q4, .int .i64 q5, .int .i64 q6, .bool q7, .int .i64 q8, .string q9, .slice qa qb qc] 29)
  rw [hM] at hq5 ⊢
  clear hba hM hcP hcF
  generalize w4.alloc (.cells #[.int .i64 q0, .slice q1 q2 q3, .bool q4, .int .i64 q5, .int .i64 q6, .bool q7, .int .i64 q8, .string q9, .slice qa qb qc] 29) = W5 at hs5 hl5 hq5 ⊢
  have HS5 := Lib.hid hs5
  have HL5 := Lib.hid hl5
  have hcF := HS5.out.fcell
  have hcq : ∀ o, W5.cell? ⟨M, o, none⟩ = #[Value.int .i64 q0, .slice q1 q2 q3, .bool q4, .int .i64 q5, .int .i64 q6, .bool q7, .int .i64 q8, .string q9, .slice qa qb qc][o]? := fun o => Lib.cell_of_heap hq5 o
  clear hs5 hl5 hq5 HSc HS4 HL4 HS3 HL3
  obtain ⟨S, hS⟩ : ∃ S, str (SynP.wantW 120 a b) = S := ⟨_, rfl⟩
  have HSe := Lib.hid hS
  have HC : Hid (Calls Tryz.prog 25 #[.agg #[.int .i64 q0, .slice q1 q2 q3, .bool q4, .int .i64 q5, .int .i64 q6, .bool q7, .int .i64 q8, .string q9, .slice qa qb qc]] W5 fun e w' => e = .returned (.string S) ∧ Below W5.heap.size W5 w') := Lib.hid (by
    have := HSh.out _ _ W5 HL5.out
    rw [HTx.out, hS] at this
    exact this)
  clear hS HSh HTx hlen
  go_wp2_with fail
  clear hcF hfe
  go_loop [9, 10] (fun s9 s10 => ∃ (i : Nat) (q : ByteArray), i ≤ b ∧ s10 = .int .i64 i ∧ s9 = .string q ∧ q.size ≤ 6 * i ∧ Hid (q = str (SynP.tailW 120 i))) (fun _ s10 => b + 1 - (intOf s10).toNat)
  case atStart => exact ⟨0, ⟨#[]⟩, Nat.zero_le _, rfl, rfl, Nat.zero_le _, Lib.hid rfl⟩
  case round =>
    obtain ⟨i, q, hi, rfl, rfl, hq6, HQ⟩ := hrel
    by_cases hlt : i < b
    · have hii : (i : Int) < (b : Int) := by omega
      by_cases h0 : i = 0
      · subst h0
        go_wp2
        go_round
        case rel => exact ⟨1, ⟨#[120, 63]⟩, by omega, rfl, rfl, by decide, Lib.hid rfl⟩
        case measure => simp [intOf]
      · have hi0 : ¬ (i : Int) = 0 := by omega
        have z1 : ¬ 4 + q.size > 9223372036854775807 := by omega
        have z2 : ¬ 4 + q.size + 2 > 9223372036854775807 := by omega
        have HQ2 : Hid ((⟨#[40, 63, 58, 120]⟩ : ByteArray) ++ q ++ ⟨#[41, 63]⟩ = str (SynP.tailW 120 (i + 1))) := Lib.hid (by rw [tail_next i (by omega), ← HQ.out])
        have hsz : ((⟨#[40, 63, 58, 120]⟩ : ByteArray) ++ q ++ ⟨#[41, 63]⟩).size = 4 + q.size + 2 := by rw [ByteArray.size_append, ByteArray.size_append]; rfl
        have HSz := Lib.hid hsz
        clear hsz h0
        go_wp2
        go_round
        case rel => exact ⟨i + 1, _, by omega, by simp, rfl, by have := HSz.out; omega, HQ2⟩
        case measure => simp [intOf]; omega
    · obtain rfl : i = b := by omega
      have hii : ¬ (i : Int) < (i : Int) := by omega
      clear hlt hi
      go_wp2
      go_loop [9, 11] (fun s9 s11 => ∃ (k : Nat) (q : ByteArray), k ≤ a ∧ s11 = .int .i64 k ∧ s9 = .string q ∧ q.size ≤ 186 + k ∧ Hid (q = str (List.replicate k 120 ++ SynP.tailW 120 i))) (fun _ s11 => a + 1 - (intOf s11).toNat)
      case atStart => exact ⟨0, q, Nat.zero_le _, rfl, rfl, by omega, Lib.hid (by rw [HQ.out]; rfl)⟩
      case round =>
        clear hq6 HQ
        obtain ⟨k, q, hk, rfl, rfl, hq6, HQ⟩ := hrel
        by_cases hlt : k < a
        · have hkk : (k : Int) < (a : Int) := by omega
          have z1 : ¬ 1 + q.size > 9223372036854775807 := by omega
          have HQ2 : Hid ((⟨#[120]⟩ : ByteArray) ++ q = str (List.replicate (k + 1) 120 ++ SynP.tailW 120 i)) := Lib.hid (by rw [head_next, ← HQ.out])
          have hsz : ((⟨#[120]⟩ : ByteArray) ++ q).size = 1 + q.size := by rw [ByteArray.size_append]; rfl
          have HSz := Lib.hid hsz
          clear hsz
          go_wp2
          go_round
          case rel => exact ⟨k + 1, _, by omega, by simp, rfl, by have := HSz.out; omega, HQ2⟩
          case measure => simp [intOf]; omega
        · obtain rfl : k = a := by omega
          have hkk : ¬ (k : Int) < (k : Int) := by omega
          clear hlt hk
          by_cases h0 : k + i = 0
          · have h1 : (k : Int) + (i : Int) = 0 := by omega
            obtain rfl : (⟨#[40, 63, 58, 41]⟩ : ByteArray) = S := by
              rw [← HSe.out]
              unfold SynP.wantW
              rw [if_pos h0]
              rfl
            clear h0
            go_wp2_with (go_at_call 25; refine HC.out.mono ?_; rintro e w6 ⟨rfl, hb6⟩)
            go_ret
            exact ⟨rfl, HS5.out.bel.trans (hb6.mono HS5.out.bel.size)⟩
          · have h1 : ¬ (k : Int) + (i : Int) = 0 := by omega
            obtain rfl : q = S := by
              rw [← HSe.out, HQ.out]
              unfold SynP.wantW
              rw [if_neg h0]
            clear h0
            go_wp2_with (go_at_call 25; refine HC.out.mono ?_; rintro e w6 ⟨rfl, hb6⟩)
            go_ret
            exact ⟨rfl, HS5.out.bel.trans (hb6.mono HS5.out.bel.size)⟩

end Go.Proofs.YtblkejnckbeieaaGreatDoor

namespace Go.Proofs.YtblkejnckbeieaaGreatDoor
open Go.ChangeShapes Go.WideShapes Go.ChangeAt Go.RowKit

theorem ownKnob_ : ownKnob Tryz.prog.godebug = none := by kernel_rfl
theorem laidOut_ : laidOutB Tryz.prog = true := by kernel_rfl

/-- The arguments read behind the call as they did ahead of it. -/
theorem trodAll_below {H : Type} {enc : TypeId × Value → H} {P : Program} {W W' : World} (hl : laidOutB P = true) (hb : Below W.heap.size W W') :
    ∀ (ts : List TypeId) (vs : List Value) (ds : List (DataW H)) (ps : List MemPlace), (ts.all fun t => P.readableRec t && decide (t < P.types.size)) = true →
      DataW.TrodAll enc P W 0 (fun _ => true) true ts vs ds ps → (∀ x ∈ ps, x.block < W.heap.size) → DataW.TrodAll enc P W' 0 (fun b => decide (b < W.heap.size)) true ts vs ds ps
  | [], [], [], _, _, h, _ => h
  | t :: ts, v :: vs, d :: ds, ps, hr, h, hlt => by
    obtain ⟨p, q, h1, h2, rfl⟩ := h
    simp only [List.all_cons, Bool.and_eq_true, decide_eq_true_eq] at hr
    exact ⟨p, q, Below.trod hl hr.1.1 hr.1.2 h1 hb (fun x hx => hlt x (List.mem_append_left _ hx)), trodAll_below hl hb ts vs ds q (by simpa using hr.2) h2 (fun x hx => hlt x (List.mem_append_right _ hx)), rfl⟩
  | [], _ :: _, _, _, _, h, _ => h.elim
  | [], [], _ :: _, _, _, h, _ => h.elim
  | _ :: _, [], _, _, _, h, _ => h.elim
  | _ :: _, _ :: _, [], _, _, h, _ => h.elim

/-- The row's step behind the walk, of a law that lists no variable. -/
theorem law_post {H : Type} {enc : TypeId × Value → H} {P : Program} {f : Func} {s : ChangeSpec} {tb : TypeId} {W W' : World} {args : Array Value} {ds gs : List (DataW H)} {before : List MemPlace}
    (hl : laidOutB P = true) (hr : (f.params.toList.all fun t => P.readableRec t && decide (t < P.types.size)) = true) (hvars : s.vars = []) (hres : f.resultTypes = #[tb]) (hub : P.underlying tb = some .bool)
    (hW : DataW.Whole enc P f.params.toList s.vars false W args.toList ds gs before) (hfn : s.fn H (ds ++ gs) = { results := [.lit (.bool true)], args := ds })
    (hb : Below W.heap.size W W') : s.post enc P f false true false false W args (.bool true) W' := by
  have hW' := hW
  obtain ⟨p, q, hA, hV, rfl, hfz, hnd⟩ := hW
  rw [hvars] at hV
  obtain ⟨rfl, rfl⟩ := trodVars_none hV
  rw [List.append_nil] at hfn hW'
  refine ⟨ds, [], p, [], p, [], by simpa using hW', ?_, ?_, ?_, hb.frame _, fun h => by cases h⟩
  · rw [List.append_nil, hfn, hres]
    exact trodAll_mk1 (shut_bool hub _)
  · rw [List.append_nil, hfn]
    exact trodAll_below hl hb _ _ _ _ hr hA (fun x hx => hW'.lt x (by simpa using hx))
  · rw [hvars, List.append_nil, hfn]
    rfl

end Go.Proofs.YtblkejnckbeieaaGreatDoor
