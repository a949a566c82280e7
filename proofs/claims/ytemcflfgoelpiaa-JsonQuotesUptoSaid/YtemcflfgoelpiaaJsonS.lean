/- The walk of the JSON parser's Parse. -/
import Derived.Test.YtemcflfgoelpiaaJsonR
import Derived.Test.YtemcflfgoelpiaaDecX
namespace Go.Proofs.Ytemcflfgoelpiaa
open Go.RowKit

/-- What Parse tells of a text. -/
def parseT (s : List UInt8) : JsonP.Res := if 1048576 < s.length then .bad 2 else match DecP.badAt (120 :: s) 0 with
  | some _ => .bad 17
  | none => JsonP.parse s
def ParseEnd (w : World) : JsonP.Res → Ending → World → Prop
  | .ok j _, e, w' => Below w.heap.size w w' ∧ ∃ r : Raw, e = .returned (.tuple #[.agg r.cells.toArray, .agg #[.int .i64 0, .int .i64 0]]) ∧ Lies w' (fun k => w.heap.size ≤ k) j r
  | .bad c, e, w' => Below w.heap.size w w' ∧ ∃ p : Int, e = .returned (.tuple #[.agg #[.int .i64 0, .string ⟨#[]⟩, .slice none 0 0, .slice none 0 0], .agg #[.int .i64 c, .int .i64 p]])

/-- What Parse holds: its two results' blocks. -/
structure ParS (w wr : World) (V : Nat) (v : Array Value) : Prop where
  bel : Below V w wr
  val : wr.heap[V]? = some (.cells v 37)
  flt : wr.heap[V + 1]? = some (.cells #[.int .i64 0, .int .i64 0] 29)
theorem ParS.start (w : World) : ParS w ((w.alloc (.cells #[.int .i64 0, .string ⟨#[]⟩, .slice none 0 0, .slice none 0 0] 37)).alloc (.cells #[.int .i64 0, .int .i64 0] 29)) w.heap.size #[.int .i64 0, .string ⟨#[]⟩, .slice none 0 0, .slice none 0 0] :=
  ⟨((Below.refl _ w).alloc (Nat.le_refl _) _).alloc (by simp) _, (Below.heap_alloc _ _ _ (by simp)).trans (heap_alloc_new w _), by
    have := heap_alloc_new (w.alloc (.cells #[.int .i64 0, .string ⟨#[]⟩, .slice none 0 0, .slice none 0 0] 37)) (.cells #[.int .i64 0, .int .i64 0] 29)
    simpa using this⟩
theorem ParS.lt {w wr : World} {V : Nat} {v : Array Value} (h : ParS w wr V v) : V + 1 < wr.heap.size := (Array.getElem?_eq_some_iff.1 h.flt).1
theorem ParS.below {w wr wx : World} {V : Nat} {v : Array Value} (h : ParS w wr V v) (k : Below wr.heap.size wr wx) : ParS w wx V v := by
  have := h.lt
  exact ⟨h.bel.trans (k.mono (by omega)), (k.block V (by omega)).trans h.val, (k.block (V + 1) (by omega)).trans h.flt⟩
theorem ParS.mv {w wr wx : World} {V p : Nat} {v : Array Value} (h : ParS w wr V v) (k : Mv p wr wx) (hp : V + 1 < p) : ParS w wx V v := by
  have := h.lt
  exact ⟨Mv.to_below h.bel k (by omega) (by omega), (k.heap (by omega) (by omega)).trans h.val, (k.heap (by omega) (by omega)).trans h.flt⟩

set_option maxRecDepth 100000 in
set_option maxHeartbeats 1600000 in
theorem parse_long (s : ByteArray) (w : World) (hs : 1048576 < s.size) :
    Calls Try.prog 12 #[.string s] w fun e w' => ParseEnd w (.bad 2) e w' := by
  have hss : (1048576 : Int) < (s.size : Int) := by omega
  go_enter_defers Try.func12, Try.ntmps12
  go_wp2
  refine Exists.intro (.tuple #[.agg #[.int .i64 0, .string ⟨#[]⟩, .slice none 0 0, .slice none 0 0], .agg #[.int .i64 2, .int .i64 0]]) (And.intro ?_ ⟨((Below.refl _ w).alloc (Nat.le_refl _) _).alloc (by simp) _, 0, rfl⟩)
  simp [results, Try.results12, go_sem]

set_option maxRecDepth 100000 in
set_option maxHeartbeats 1600000 in
theorem parse_bad17 (s : ByteArray) (w : World) (hs : s.size ≤ 1048576) (p : Nat) (hp : DecP.badAt (120 :: s.data.toList) 0 = some p) :
    Calls Try.prog 12 #[.string s] w fun e w' => ParseEnd w (.bad 17) e w' := by
  have hss : ¬ (1048576 : Int) < (s.size : Int) := by omega
  have HC : Hid (∀ W, Calls Try.prog 10 #[.string (xs s), .int .i64 1, .bool true] W fun e w' => e = .returned (.tuple #[.agg #[.int .i64 0, .slice none 0 0, .slice none 0 0, .int .i64 0], .agg #[.int .i64 17, .int .i64 p]]) ∧ Below W.heap.size W w') := Lib.hid fun W => by
    refine (decode_any (xs s) true W (by rw [xs_size]; omega) (xs_mark s)).mono fun e w' h => ?_
    unfold DecEnd badS at h
    rw [xs_list] at h
    simp only [if_true, hp] at h
    exact ⟨h.2, h.1⟩
  clear hp
  go_enter_defers Try.func12, Try.ntmps12
  go_upto_region 5 with (go_at_call 10; refine (HC.out _).mono ?_; rintro e w3 ⟨rfl, hb3⟩)
  obtain ⟨V, hV⟩ : ∃ V, w.heap.size = V := ⟨_, rfl⟩
  have hz3 := hb3.size
  simp only [World.size_alloc] at hz3
  have h0 := ParS.start w
  have h1 := h0.below (hb3)
  have h2 := (h1.below ((Below.refl _ _).alloc (Nat.le_refl _) (.cells #[.int .i64 0, .slice none 0 0, .slice none 0 0, .int .i64 0] 26))).below ((Below.refl _ _).alloc (Nat.le_refl _) (.cells #[.int .i64 17, .int .i64 p] 29))
  have hF := heap_alloc_new (w3.alloc (.cells #[.int .i64 0, .slice none 0 0, .slice none 0 0, .int .i64 0] 26)) (.cells #[.int .i64 17, .int .i64 p] 29)
  simp only [World.size_alloc] at hF
  generalize (w3.alloc (.cells #[.int .i64 0, .slice none 0 0, .slice none 0 0, .int .i64 0] 26)).alloc (.cells #[.int .i64 17, .int .i64 p] 29) = W at h2 hF ⊢
  rw [hV] at h2 ⊢
  obtain ⟨F, hFe⟩ : ∃ F, w3.heap.size + 1 = F := ⟨_, rfl⟩
  rw [hFe] at hF ⊢
  have hcV := fun o => Lib.cell_of_heap h2.val o
  have hzV := fun o => Lib.frozen_of_heap h2.val o
  have hcT := fun o => Lib.cell_of_heap h2.flt o
  have hzT := fun o => Lib.frozen_of_heap h2.flt o
  have hcF := fun o => Lib.cell_of_heap hF o
  have hFV : ¬ F = V := by omega
  have hFT : ¬ F = V + 1 := by omega
  have hVF : ¬ V = F := by omega
  have hTF : ¬ V + 1 = F := by omega
  have hVT1 : ¬ V = V + 1 := by omega
  have hVT2 : ¬ V + 1 = V := by omega
  have H2 := Lib.hid h2
  have HVe := Lib.hid hV
  have hp0 : (0 : Int) ≤ (p : Int) := by omega
  clear h0 h1 h2 hF hFe hV hb3 hz3
  go_region
  all_goals
    go_wp2
    refine Exists.intro (.tuple #[.agg #[.int .i64 0, .string ⟨#[]⟩, .slice none 0 0, .slice none 0 0], .agg #[.int .i64 17, .int .i64 (wrap64 ((p : Int) - 1))]]) (And.intro ?_ ⟨?_, _, rfl⟩)
    · simp [results, Try.results12, go_sem, hcV, hcT]
    · rw [HVe.out]
      repeat (first | (with_reducible refine Below.setCell ?_ (by first | exact Nat.le_refl _ | exact Nat.le_succ _) _) | (with_reducible refine Below.drew ?_) | (with_reducible exact H2.out.bel))

/-- The door, where a fault was thrown. -/
theorem parse_panic {w W : World} {V c : Nat} {i : Nat} {a0 a1 a2 a3 : Value} (h : ParS w W V #[a0, a1, a2, a3]) (hV : w.heap.size = V) (tmps : Array Value) (h2 : tmps.getD 2 undef = .pointer (some ⟨V, 0, none⟩)) (h3 : tmps.getD 3 undef = .pointer (some ⟨V + 1, 0, none⟩)) :
    bodyPostD Try.prog Try.f12 (fun e w' => ParseEnd w (.bad c) e w') (.panic [{ v := .iface 69 (.agg #[.int .i64 c, .int .i64 i]), recovered := false }])
      { tmps := tmps, defers := [{ target := .fn (.func 28) #[.pointer (some ⟨V, 0, none⟩), .pointer (some ⟨V + 1, 0, none⟩)], args := #[] }] } W := by
  rw [Array.getD_eq_getD_getElem?] at h2 h3
  refine leaves_cons (f := 28) (args := #[.pointer (some ⟨V, 0, none⟩), .pointer (some ⟨V + 1, 0, none⟩)]) (by simp) (by simp [go_sem]) ?_
  refine (catch_panicking V (V + 1) (by omega) c i [] a0 a1 a2 a3 _ _ W h.val h.flt).mono ?_
  rintro e u' w'' ⟨rfl, rfl, hb, hv, hf⟩
  have hcV := fun o => Lib.cell_of_heap hv o
  have hcT := fun o => Lib.cell_of_heap hf o
  refine Exists.intro (.tuple #[.agg #[.int .i64 0, .string ⟨#[]⟩, .slice none 0 0, .slice none 0 0], .agg #[.int .i64 c, .int .i64 i]]) (And.intro ?_ ⟨by rw [hV]; exact h.bel.trans hb, _, rfl⟩)
  simp [results, Try.results12, go_sem, h2, h3, hcV, hcT]
/-- The door, where all went well. -/
theorem parse_return {w W : World} {V : Nat} {j : JsonP.J} {t : List UInt8} {r : Raw} (h : ParS w W V r.cells.toArray) (hV : w.heap.size = V) (hl : Lies W (fun k => w.heap.size ≤ k) j r) (tmps : Array Value) (h2 : tmps.getD 2 undef = .pointer (some ⟨V, 0, none⟩)) (h3 : tmps.getD 3 undef = .pointer (some ⟨V + 1, 0, none⟩)) :
    bodyPostD Try.prog Try.f12 (fun e w' => ParseEnd w (.ok j t) e w') .ret
      { tmps := tmps, defers := [{ target := .fn (.func 28) #[.pointer (some ⟨V, 0, none⟩), .pointer (some ⟨V + 1, 0, none⟩)], args := #[] }] } W := by
  rw [Array.getD_eq_getD_getElem?] at h2 h3
  refine leaves_cons (f := 28) (args := #[.pointer (some ⟨V, 0, none⟩), .pointer (some ⟨V + 1, 0, none⟩)]) (by simp) (by simp [go_sem]) ?_
  refine (catch_idle V (V + 1) W).mono ?_
  rintro e u' w'' ⟨rfl, rfl, rfl⟩
  have hcV := fun o => Lib.cell_of_heap h.val o
  have hcT := fun o => Lib.cell_of_heap h.flt o
  obtain ⟨rk, rt, ra, rn, rc, ra2, rn2, rc2⟩ := r
  simp only [Raw.cells] at hcV
  refine Exists.intro (.tuple #[.agg #[.int .i64 rk, .string rt, .slice ra rn rc, .slice ra2 rn2 rc2], .agg #[.int .i64 0, .int .i64 0]]) (And.intro ?_ ⟨by rw [hV]; exact h.bel, _, rfl, hl⟩)
  simp [results, Try.results12, go_sem, h2, h3, hcV, hcT]
theorem ParS.store {w wr : World} {V : Nat} {a0 a1 a2 a3 : Value} (h : ParS w wr V #[a0, a1, a2, a3]) (b0 b1 b2 b3 : Value) : ParS w ((((wr.setCell ⟨V, 0, none⟩ b0).setCell ⟨V, 1, none⟩ b1).setCell ⟨V, 2, none⟩ b2).setCell ⟨V, 3, none⟩ b3) V #[b0, b1, b2, b3] :=
  ⟨(((h.bel.setCell (p := ⟨V, 0, none⟩) (Nat.le_refl _) _).setCell (p := ⟨V, 1, none⟩) (Nat.le_refl _) _).setCell (p := ⟨V, 2, none⟩) (Nat.le_refl _) _).setCell (p := ⟨V, 3, none⟩) (Nat.le_refl _) _, cells_set h.val b0 b1 b2 b3, by
    rw [Below.heap_setCell _ ⟨V, 3, none⟩ _ _ (by simp), Below.heap_setCell _ ⟨V, 2, none⟩ _ _ (by simp), Below.heap_setCell _ ⟨V, 1, none⟩ _ _ (by simp), Below.heap_setCell _ ⟨V, 0, none⟩ _ _ (by simp)]
    exact h.flt⟩
theorem stand_val (wr : World) (V : Nat) (b0 b1 b2 b3 : Value) (A : Nat → Prop) (hA : ¬ A V) : Stand A wr ((((wr.setCell ⟨V, 0, none⟩ b0).setCell ⟨V, 1, none⟩ b1).setCell ⟨V, 2, none⟩ b2).setCell ⟨V, 3, none⟩ b3) := by
  have hst : ∀ (w : World) (o : Nat) (u : Value), Stand A w (w.setCell ⟨V, o, none⟩ u) := fun w o u => Stand.set ⟨V, o, none⟩ u hA
  refine ⟨by simp [World.setCell], fun k hk hlt => ?_⟩
  rw [(hst _ 3 b3).block k hk (by simpa [World.setCell] using hlt), (hst _ 2 b2).block k hk (by simpa [World.setCell] using hlt), (hst _ 1 b1).block k hk (by simpa [World.setCell] using hlt), (hst _ 0 b0).block k hk hlt]
theorem stand_flt (wr : World) (T : Nat) (b0 b1 : Value) (A : Nat → Prop) (hA : ¬ A T) : Stand A wr ((wr.setCell ⟨T, 0, none⟩ b0).setCell ⟨T, 1, none⟩ b1) := by
  have hst : ∀ (w : World) (o : Nat) (u : Value), Stand A w (w.setCell ⟨T, o, none⟩ u) := fun w o u => Stand.set ⟨T, o, none⟩ u hA
  refine ⟨by simp [World.setCell], fun k hk hlt => ?_⟩
  rw [(hst _ 1 b1).block k hk (by simpa [World.setCell] using hlt), (hst _ 0 b0).block k hk hlt]
theorem ParS.flt0 {w wr : World} {V : Nat} {v : Array Value} (h : ParS w wr V v) : ParS w ((wr.setCell ⟨V + 1, 0, none⟩ (.int .i64 0)).setCell ⟨V + 1, 1, none⟩ (.int .i64 0)) V v :=
  ⟨(h.bel.setCell (p := ⟨V + 1, 0, none⟩) (Nat.le_succ _) _).setCell (p := ⟨V + 1, 1, none⟩) (Nat.le_succ _) _, by
    rw [Below.heap_setCell _ ⟨V + 1, 1, none⟩ _ _ (by simp), Below.heap_setCell _ ⟨V + 1, 0, none⟩ _ _ (by simp)]
    exact h.val, by
    have := h.flt
    simp only [World.setCell, Array.getElem?_modify, if_true, this, Option.map_some]
    rfl⟩
theorem parse_ok {s t : List UInt8} {j : JsonP.J} (h : JsonP.value (2 * s.length + 2) 0 s = .ok j t) : JsonP.parse s = if JsonP.blanks t = [] then .ok j [] else .bad 20 := by unfold JsonP.parse; rw [h]
theorem parse_no {s : List UInt8} {c : Nat} (h : JsonP.value (2 * s.length + 2) 0 s = .bad c) : JsonP.parse s = .bad c := by unfold JsonP.parse; rw [h]

set_option maxRecDepth 100000 in
set_option maxHeartbeats 3200000 in
theorem parse_good (s : ByteArray) (w : World) (hs : s.size ≤ 1048576) (hp : DecP.badAt (120 :: s.data.toList) 0 = none) :
    Calls Try.prog 12 #[.string s] w fun e w' => ParseEnd w (JsonP.parse s.data.toList) e w' := by
  have hss : ¬ (1048576 : Int) < (s.size : Int) := by omega
  have HC : Hid (∀ W, Calls Try.prog 10 #[.string (xs s), .int .i64 1, .bool true] W fun e w' => Below W.heap.size W w' ∧ ∃ Ar nr cr Ap np cp bad, e = .returned (.tuple #[.agg #[.int .i64 1, .slice Ar nr cr, .slice Ap np cp, .int .i64 bad], .agg #[.int .i64 0, .int .i64 0]])) := Lib.hid fun W => by
    refine (decode_any (xs s) true W (by rw [xs_size]; omega) (xs_mark s)).mono fun e w' h => ?_
    unfold DecEnd badS at h
    rw [xs_list] at h
    simp only [if_true, hp] at h
    obtain ⟨h1, a1, a2, a3, a4, a5, a6, a7, h2, _, _⟩ := h
    exact ⟨h1, a1, a2, a3, a4, a5, a6, a7, h2⟩
  have hmf : ∀ (fn : Fn) (first cap : Array Value) (w : World), (Instr.makeFunc fn first cap).run Try.prog w = .ok (.func fn first cap) w := fun _ _ _ _ => rfl
  clear hp
  obtain ⟨R, hR⟩ : ∃ R, JsonP.parse s.data.toList = R := ⟨_, rfl⟩
  have HR := Lib.hid hR
  rw [hR]
  clear hR
  go_enter_defers Try.func12, Try.ntmps12
  go_upto_region 6 with (go_at_call 10; refine (HC.out _).mono ?_; rintro e w3 ⟨hb3, Ar, nr, cr, Ap, np, cp, bad, rfl⟩)
  obtain ⟨V, hV⟩ : ∃ V, w.heap.size = V := ⟨_, rfl⟩
  have hz3 := hb3.size
  simp only [World.size_alloc] at hz3
  have h0 := ParS.start w
  have h1 := h0.below (hb3)
  have h2 := (h1.below ((Below.refl _ _).alloc (Nat.le_refl _) (.cells #[.int .i64 1, .slice Ar nr cr, .slice Ap np cp, .int .i64 bad] 26))).below ((Below.refl _ _).alloc (Nat.le_refl _) (.cells #[.int .i64 0, .int .i64 0] 29))
  generalize (w3.alloc (.cells #[.int .i64 1, .slice Ar nr cr, .slice Ap np cp, .int .i64 bad] 26)).alloc (.cells #[.int .i64 0, .int .i64 0] 29) = W at h2 ⊢
  rw [hV] at h2 ⊢
  have H2 := Lib.hid h2
  have HVe := Lib.hid hV
  clear h0 h1 h2 hV hb3 hz3
  go_upto_region 8 with fail
  have h3 := H2.out.below ((Below.refl _ _).alloc (Nat.le_refl _) (.cells #[.string s, .int .i64 0] 73))
  have hPl : V + 1 < W.heap.size := H2.out.lt
  obtain ⟨P, hP⟩ : ∃ P, W.heap.size = P := ⟨_, rfl⟩
  have hA3 : At (W.alloc (.cells #[.string s, .int .i64 0] 73)) P s s.data.toList := ⟨0, Nat.zero_le _, rfl, by rw [← hP]; exact heap_alloc_new W _⟩
  rw [hP] at hPl ⊢
  generalize W.alloc (.cells #[.string s, .int .i64 0] 73) = W3 at h3 hA3 ⊢
  have H3 := Lib.hid h3
  have HA3 := Lib.hid hA3
  clear h3 hA3 hP H2
  cases hv : JsonP.value (2 * s.data.toList.length + 2) 0 s.data.toList with
  | bad c =>
    obtain rfl : .bad c = R := by rw [← HR.out, parse_no hv]
    have HVc : Hid (∀ W, At W P s s.data.toList → Calls Try.prog 29 #[.pointer (some ⟨P, 0, none⟩), .int .i64 0] W fun e w' => Threw W P c e w') := Lib.hid fun W hW => by
      have := value_all (2 * s.data.toList.length + 2) 0 s.data.toList W P s hs hW (by omega) (by omega)
      rw [hv] at this
      exact this
    clear hv
    go_wp2_with (go_at_call 29; refine (HVc.out _ HA3.out).mono ?_; rintro e w4 ⟨hm4, i4, rfl⟩)
    exact parse_panic (H3.out.mv hm4 hPl) HVe.out _ rfl rfl
  | ok j t =>
    have HR2 : Hid (R = if JsonP.blanks t = [] then .ok j [] else .bad 20) := Lib.hid (by rw [← HR.out, parse_ok hv])
    clear HR
    have HVc : Hid (∀ W, At W P s s.data.toList → Calls Try.prog 29 #[.pointer (some ⟨P, 0, none⟩), .int .i64 0] W fun e w' => ∃ r : Raw, e = .returned (.agg r.cells.toArray) ∧ Mv P W w' ∧ At w' P s t ∧ Lies w' (fun k => W.heap.size ≤ k) j r) := Lib.hid fun W hW => by
      have := value_all (2 * s.data.toList.length + 2) 0 s.data.toList W P s hs hW (by omega) (by omega)
      rw [hv] at this
      exact this
    clear hv
    have hP3 : P < W3.heap.size := HA3.out.lt
    have HW3 := Lib.hid (H3.out.bel.size)
    go_upto_region 9 with (go_at_call 29; refine (HVc.out _ HA3.out).mono ?_; rintro e w4 ⟨r, rfl, hm4, ha4, hl4⟩; obtain ⟨rk, rt, ra, rn, rc, ra2, rn2, rc2⟩ := r; simp only [Raw.cells]; have H4 := Lib.hid (H3.out.mv hm4 hPl); have HA4 := Lib.hid ha4; have HL4 := Lib.hid hl4; have hcV := fun o => Lib.cell_of_heap H4.out.val o; have hzV := fun o => Lib.frozen_of_heap H4.out.val o; clear hm4 ha4 hl4)
    have H5 := Lib.hid (H4.out.store (.int .i64 rk) (.string rt) (.slice ra rn rc) (.slice ra2 rn2 rc2))
    have HA5 : Hid (At ((((w4.setCell ⟨V, 0, none⟩ (.int .i64 rk)).setCell ⟨V, 1, none⟩ (.string rt)).setCell ⟨V, 2, none⟩ (.slice ra rn rc)).setCell ⟨V, 3, none⟩ (.slice ra2 rn2 rc2)) P s t) := Lib.hid (HA4.out.far ((stand_val w4 V _ _ _ _ (fun k => k = P) (by show ¬ V = P; omega)).block P rfl HA4.out.lt))
    have HL5 := Lib.hid (Lies.on (stand_val w4 V (.int .i64 rk) (.string rt) (.slice ra rn rc) (.slice ra2 rn2 rc2) _ (by show ¬ W3.heap.size ≤ V; omega)) _ _ HL4.out)
    generalize (((w4.setCell ⟨V, 0, none⟩ (.int .i64 rk)).setCell ⟨V, 1, none⟩ (.string rt)).setCell ⟨V, 2, none⟩ (.slice ra rn rc)).setCell ⟨V, 3, none⟩ (.slice ra2 rn2 rc2) = W5 at H5 HA5 HL5 ⊢
    clear hcV hzV H4 HA4 HL4 H3 HA3 HVc
    go_upto_region 10 with (go_at_call 30; refine (blanks_any _ P s t hs HA5.out).mono ?_; rintro e w6 ⟨rfl, hm6, ha6⟩; have H6 := Lib.hid (H5.out.mv hm6 hPl); have HA6 := Lib.hid ha6; have HL6 := Lib.hid (Lies.on (Stand.mv hm6 (fun h => by omega)) _ _ HL5.out); clear hm6 ha6)
    obtain ⟨i, h1, h2, hc, hz, hn⟩ := HA6.out.cells
    have H2' := Lib.hid h2
    clear h2 hn
    by_cases hi : i < s.size
    · have hne : ¬ JsonP.blanks t = [] := by rw [← H2'.out, drop_cons hi]; exact List.cons_ne_nil _ _
      obtain rfl : R = .bad 20 := by rw [HR2.out, if_neg hne]
      have hii : (i : Int) < (s.size : Int) := by omega
      clear hne
      go_wp2_with (go_at_call 31; refine (fail_any 20 _ P s _ HA6.out).mono ?_; rintro e w9 ⟨hm9, i9, rfl⟩)
      exact parse_panic (H6.out.mv hm9 hPl) HVe.out _ rfl rfl
    · have hne : JsonP.blanks t = [] := by rw [← H2'.out, drop_none (by omega)]
      obtain rfl : R = .ok j [] := by rw [HR2.out, if_pos hne]
      have hii : ¬ (i : Int) < (s.size : Int) := by omega
      have hcV := fun o => Lib.cell_of_heap H6.out.val o
      have hzV := fun o => Lib.frozen_of_heap H6.out.val o
      have hcT := fun o => Lib.cell_of_heap H6.out.flt o
      have hzT := fun o => Lib.frozen_of_heap H6.out.flt o
      have hVT1 : ¬ V = V + 1 := by omega
      have hVT2 : ¬ V + 1 = V := by omega
      have HLz := Lib.hid (Lies.on (stand_flt _ (V + 1) (.int .i64 0) (.int .i64 0) _ (by show ¬ W3.heap.size ≤ V + 1; omega)) _ _ (Lies.on (stand_val w6 V (.int .i64 rk) (.string rt) (.slice ra rn rc) (.slice ra2 rn2 rc2) _ (by show ¬ W3.heap.size ≤ V; omega)) _ _ HL6.out))
      have HPz := Lib.hid (H6.out.store (.int .i64 rk) (.string rt) (.slice ra rn rc) (.slice ra2 rn2 rc2)).flt0
      clear hne
      go_wp2
      exact parse_return (r := ⟨rk, rt, ra, rn, rc, ra2, rn2, rc2⟩) HPz.out HVe.out (Lies.mono (fun k hk _ => by have := HW3.out; omega) _ _ HLz.out) _ rfl rfl

/-- Parse, whatever the text. -/
theorem parse_any (s : ByteArray) (w : World) : Calls Try.prog 12 #[.string s] w fun e w' => ParseEnd w (parseT s.data.toList) e w' := by
  have hl : s.data.toList.length = s.size := Array.length_toList
  unfold parseT
  by_cases h1 : 1048576 < s.size
  · rw [if_pos (by rw [hl]; exact h1)]
    exact parse_long s w h1
  · rw [if_neg (by rw [hl]; exact h1)]
    cases hp : DecP.badAt (120 :: s.data.toList) 0 with
    | some p => exact parse_bad17 s w (by omega) p hp
    | none => exact parse_good s w (by omega) hp

end Go.Proofs.Ytemcflfgoelpiaa
