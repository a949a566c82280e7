/- Chapter 25: the walk of args' Parse: a text that is unpacked. -/
import Derived.Test.YtgekkhkmgfbcdaaDoorArgsParse
import Derived.Test.YtgekkhkmgfbcdaaDoorArgsSetPl
import Derived.StillTailTactics
import Derived.Laws.Tables
import Derived.Laws.CopyRow
import Derived.Deep.MidRow
import Derived.Deep.LoopGhost
namespace Go.Proofs.YtgekkhkmgfbcdaaDoor
open Go.Shelf Go.RowKit

/-- Unpack of a text that is one: the texts lie in new memory. -/
theorem unpack_lo {s : ByteArray} {l : List ByteArray} (w : World) (hs : s.size ≤ 1099511627776) (hB : Base w) (h : ArgsP.unp s.data.toList 0 = .ok (txt l)) :
    Calls Tryd.prog 11 #[.string s] w fun e w' => ∃ A c, e = .returned (.tuple #[.slice A l.length c, .agg #[.int .i64 0, .int .i64 0]]) ∧ l.length ≤ c ∧ c ≤ maxLen ∧ Below w.heap.size w w' ∧
      (0 < l.length → ∃ g o, A = some ⟨g, o, none⟩ ∧ w.heap.size ≤ g ∧ g < w'.heap.size ∧ ∀ k, k < l.length → w'.cell? ⟨g, o + k, none⟩ = some (.string (l.getD k ⟨#[]⟩))) := by
  refine (unpack_any s w hs hB).mono ?_
  rintro e w' ⟨hb, hr⟩
  rw [h] at hr
  obtain ⟨v, rfl, hv, ho⟩ := hr
  rw [show (txt l).map bytesOf = l from map_bytes l] at hv
  obtain ⟨A, c, rfl, h1, h2, h3⟩ := hv
  refine ⟨A, c, rfl, h1, h2, hb, fun hn => ?_⟩
  obtain ⟨g, o, rfl, hg, hc⟩ := h3.strs_ hn
  exact ⟨g, o, rfl, ho g rfl, hg, hc⟩

theorem pinv_start {W : World} {N : Nat} {A : Option Addr} {c : Nat} {L : List ByteArray} (h0 : W.heap[N]? = some (.cells opt0.toArray 39)) (h1 : W.heap[N + 1]? = some (.cells #[.string ⟨#[]⟩] 9)) (h2 : W.heap[N + 1 + 1]? = some (.cells #[.int .i64 0, .int .i64 0] 27))
    (hL : 0 < L.length → ∃ g o, A = some ⟨g, o, none⟩ ∧ N + 2 < g ∧ g < W.heap.size ∧ ∀ k, k < L.length → W.cell? ⟨g, o + k, none⟩ = some (.string (L.getD k ⟨#[]⟩))) :
    PInv ((((W.alloc (.cells #[.slice A L.length c] 22)).alloc (.cells (allPl N (N + 1) (List.range 18)).toArray 78)).drew).alloc (.cells #[.int .i64 0] 3)) N W.heap.size (W.heap.size + 1) (W.heap.size + 2) A c L (List.range 18) vs0 0 := by
  obtain ⟨o1, ho1⟩ : ∃ o, o = Obj.cells #[.slice A L.length c] 22 := ⟨_, rfl⟩
  obtain ⟨o2, ho2⟩ : ∃ o, o = Obj.cells (allPl N (N + 1) (List.range 18)).toArray 78 := ⟨_, rfl⟩
  obtain ⟨o3, ho3⟩ : ∃ o, o = Obj.cells #[.int .i64 0] 3 := ⟨_, rfl⟩
  have hr := PlRow.new N (N + 1) (W.alloc o1)
  rw [← ho2] at hr
  rw [← ho1, ← ho2, ← ho3]
  have s1 : (W.alloc o1).heap.size = W.heap.size + 1 := by simp
  have s2 : ((W.alloc o1).alloc o2).drew.heap.size = W.heap.size + 2 := by simp
  have l2 := heap_lt h2
  have b1 : Below W.heap.size W ((((W.alloc o1).alloc o2).drew).alloc o3) := ((((Below.refl _ W).alloc (Nat.le_refl _) _).alloc (by omega) _).drew).alloc (by omega) _
  have b2 : Below (W.heap.size + 1) (W.alloc o1) ((((W.alloc o1).alloc o2).drew).alloc o3) := by
    have := (((Below.refl (W.alloc o1).heap.size (W.alloc o1)).alloc (Nat.le_refl _) o2).drew).alloc (by omega) o3
    rwa [s1] at this
  have k3 := Below.heap_alloc ((W.alloc o1).alloc o2).drew o3 (W.heap.size + 1) (by omega)
  have hn3 := heap_alloc_new ((W.alloc o1).alloc o2).drew o3
  rw [s2] at hn3
  rw [s1] at hr
  refine ⟨⟨by omega, by omega, by omega, by simp⟩, rfl, ?_, ?_, ?_, ?_, hr.heap k3, by rw [hn3, ho3], fun hn => ?_⟩
  · rw [b1.block N (by omega), h0, opt0_eq]
  · rw [b1.block (N + 1) (by omega), h1]; rfl
  · rw [b1.block (N + 2) (by omega), h2]
  · rw [b2.block W.heap.size (by omega), heap_alloc_new, ho1]
  · obtain ⟨g, o, e, g1, g2, g3⟩ := hL hn
    exact ⟨g, o, e, g1, g2, fun k hk => (b1.cell (p := ⟨g, o + k, none⟩) g2).trans (g3 k hk)⟩

theorem optInfo : (Tryd.prog.info? 39).map (·.size) = some 17 := by kernel_rfl
theorem wpList_store_same {P : Program} {ops : Array Oper} {rest : List Oper} {o : Oper} {a : Act} {w : World} {Q : Exit → Act → World → Prop} (hgd : o.guard = none) (ty : TypeId) (x y : Operand) (ho : o.op = .store ty x y)
    (g : Nat) (cells : Array Value) (hx : a.eval x = .pointer (some ⟨g, 0, none⟩)) (hy : a.eval y = .agg cells)
    (t : TypeId) (hg : w.heap[g]? = some (.cells cells t (0, 0))) (hi : (P.info? ty).map (·.size) = some cells.size) (h1 : cells.all (·.oneCell') = true)
    (h : wpList P ops Q rest (a.put o.dst undef) w) : wpList P ops Q (o :: rest) a w :=
  wpList_store_row hgd ty x y ho g cells hx hy t cells hg hi rfl h1 (by rw [setRow_self _ _ _ _ _ hg]; exact h)
/-- The end of all pairs. -/
theorem ret_same {w wr : World} {N pl q pi : Nat} {A : Option Addr} {c : Nat} {L : List ByteArray} {R : List Nat} {vs : List Value} {i : Int} {z : ByteArray} (hI : PInv wr N pl q pi A c L R vs i) (hz : vs.getD 17 undef = .string z) (hN : w.heap.size ≤ N) (hb : Below w.heap.size w wr)
    (a : Act) (hd : a.defers = []) (k2 : a.tmps[2]? = some (.pointer (some ⟨N, 0, none⟩))) (k3 : a.tmps[3]? = some (.pointer (some ⟨N + 1, 0, none⟩))) (k4 : a.tmps[4]? = some (.pointer (some ⟨N + 1 + 1, 0, none⟩))) :
    bodyPost Tryd.prog Tryd.f13 (RetParse (vs, 0, 0) w) Exit.ret a (((wr.setCell ⟨N + 1, 0, none⟩ (.string z)).setCell ⟨N + 1 + 1, 0, none⟩ (.int .i64 0)).setCell ⟨N + 1 + 1, 1, none⟩ (.int .i64 0)) := by
  refine ret_parse hI.len hd k2 k3 k4 ?_ ?_ ?_ (((hb.setCell (p := ⟨N + 1, 0, none⟩) (by show w.heap.size ≤ N + 1; omega) _).setCell (p := ⟨N + 1 + 1, 0, none⟩) (by show w.heap.size ≤ N + 1 + 1; omega) _).setCell (p := ⟨N + 1 + 1, 1, none⟩) (by show w.heap.size ≤ N + 1 + 1; omega) _)
  · rw [heap_setCell_ne _ (by show N + 1 + 1 ≠ N; omega), heap_setCell_ne _ (by show N + 1 + 1 ≠ N; omega), heap_setCell_ne _ (by show N + 1 ≠ N; omega)]
    exact hI.opt
  · rw [heap_setCell_ne _ (by show N + 1 + 1 ≠ N + 1; omega), heap_setCell_ne _ (by show N + 1 + 1 ≠ N + 1; omega), hz]
    have := heap_setCells_same [.string z] 0 _ wr hI.blb rfl
    exact this
  · have h2 : (wr.setCell ⟨N + 1, 0, none⟩ (.string z)).heap[N + 1 + 1]? = some (.cells #[.int .i64 0, .int .i64 0] 27) := by
      rw [heap_setCell_ne _ (by show N + 1 ≠ N + 1 + 1; omega)]
      exact hI.flt
    exact heap_setCells_same [.int .i64 0, .int .i64 0] 0 _ _ h2 rfl

/-- The end of the pairs. -/
def resV (r : Except Nat (List Value)) : List Value × Int × Int := match r with | .error i => (vs0, 29, (i : Int)) | .ok vs => (vs, 0, 0)

/-- Values of one cell each. -/
def Ones (vs : List Value) : Prop := ∀ v ∈ vs, v.oneCell' = true
theorem Ones.start : Ones vs0 := by
  intro v hv
  simp only [vs0, List.mem_append, List.mem_replicate] at hv
  rcases hv with (⟨_, rfl⟩ | ⟨_, rfl⟩) | ⟨_, rfl⟩ <;> rfl
theorem Ones.set {vs : List Value} (h : Ones vs) (j : Nat) {u : Value} (hu : u.oneCell' = true) : Ones (vs.set j u) := fun v hv => by
  rcases List.mem_or_eq_of_mem_set hv with h1 | rfl
  · exact h v h1
  · exact hu
/-- The last value is a text. -/
def Str17 (vs : List Value) : Prop := ∃ z, vs.getD 17 undef = .string z
theorem Str17.start : Str17 vs0 := ⟨_, rfl⟩
theorem Str17.set {vs : List Value} (h : Str17 vs) (hl : vs.length = 18) {j : Nat} {u : Value} (hu : j = 17 → ∃ z, u = .string z) : Str17 (vs.set j u) := by
  unfold Str17 at h ⊢
  by_cases hj : j = 17
  · subst hj
    rw [List.getD_eq_getElem?_getD, List.getElem?_set_self (by omega)]
    exact hu rfl
  · rw [List.getD_eq_getElem?_getD, List.getElem?_set_ne hj, ← List.getD_eq_getElem?_getD]
    exact h
theorem setR_str {j : Nat} {y : ByteArray} {u : Value} (h : setR j y = some u) (hj : j = 17) : ∃ z, u = .string z := by
  subst hj
  exact ⟨y, (Option.some.inj h).symm⟩
theorem setR_one {j : Nat} {y : ByteArray} {u : Value} (h : setR j y = some u) : u.oneCell' = true := by
  unfold setR at h
  split at h
  · cases hn : ArgsP.numL y.data.toList with
    | none => rw [hn] at h; cases h
    | some n => rw [hn] at h; injection h with h; subst h; rfl
  · split at h
    · split at h
      · injection h with h; subst h; rfl
      · split at h
        · injection h with h; subst h; rfl
        · cases h
    · injection h with h; subst h; rfl
theorem Ones.get {vs : List Value} (h : Ones vs) (hl : vs.length = 18) {j : Nat} (hj : j < 18) : (vs.getD j undef).oneCell' = true := by
  rw [List.getD_eq_getElem?_getD, List.getElem?_eq_getElem (by omega)]
  exact h _ (List.getElem_mem _)
theorem Ones.opt {vs : List Value} (h : Ones vs) (hl : vs.length = 18) : ∀ x ∈ optC vs, x.oneCell' = true := by
  intro x hx
  obtain ⟨j, hj, rfl⟩ := List.mem_map.1 hx
  have : ∀ j ∈ permN, j < 18 := by decide
  exact h.get hl (this j hj)

/-- What stands at the loop's head. -/
def LoopP (w wr : World) (N pl : Nat) (A : Option Addr) (c : Nat) (L : List ByteArray) (P : List Value × Int × Int) (gg : Nat) (s6 s7 : Value) : Prop :=
  ∃ (q pi i : Nat) (R : List Nat) (vs : List Value), s6 = .slice (some ⟨q, 0, none⟩) R.length 18 ∧ s7 = .pointer (some ⟨pi, 0, none⟩) ∧ PInv wr N pl q pi A c L R vs i ∧ Left R ∧ Hid (Ones vs) ∧ Hid (Str17 vs) ∧ Below w.heap.size w wr ∧ i ≤ L.length + 1 ∧ L.length + 2 - i ≤ gg ∧ P = resV (prs (L.drop i) i R vs)

/-- Behind the test of a pair: it is bad, or its value is laid. -/
def Pair (w wx : World) (N pl q pi : Nat) (A : Option Addr) (c : Nat) (L : List ByteArray) (R : List Nat) (vs : List Value) (i : Nat) (z : Int) (P : List Value × Int × Int) (s50 : Value) : Prop :=
  (s50 = .bool true ∧ P = (vs0, 29, (i : Int)) ∧ Below w.heap.size w wx ∧ ∃ vs', PInv wx N pl q pi A c L R vs' i) ∨
  (s50 = .bool false ∧ ∃ (p : Nat) (u : Value), z = p ∧ p < R.length ∧ i + 2 ≤ L.length ∧ Below w.heap.size w wx ∧ u.oneCell' = true ∧ (R.getD p 0 = 17 → ∃ z, u = .string z) ∧ PInv wx N pl q pi A c L R (vs.set (R.getD p 0) u) i ∧
    P = resV (prs (L.drop (i + 2)) (i + 2) (R.erase (R.getD p 0)) (vs.set (R.getD p 0) u)))

theorem drop_two {L : List ByteArray} {i : Nat} (h : i + 1 < L.length) : L.drop i = L.getD i ⟨#[]⟩ :: L.getD (i + 1) ⟨#[]⟩ :: L.drop (i + 2) := by
  rw [drop_getD (by omega) rfl, drop_getD (k := i + 1) h rfl]
theorem drop_one {L : List ByteArray} {i : Nat} (h : i + 1 = L.length) : L.drop i = [L.getD i ⟨#[]⟩] := by
  rw [drop_getD (by omega) rfl, List.drop_of_length_le (by omega)]
theorem bad_end {w W : World} {N : Nat} {code at_ : Int} (h0 : W.heap[N]? = some (.cells (optC vs0).toArray 39)) (h1 : W.heap[N + 1]? = some (.cells #[.string ⟨#[]⟩] 9))
    (h2 : W.heap[N + 1 + 1]? = some (.cells #[.int .i64 code, .int .i64 at_] 27)) (hb : Below w.heap.size w W) (a : Act) (hd : a.defers = []) (k2 : a.tmps[2]? = some (.pointer (some ⟨N, 0, none⟩))) (k3 : a.tmps[3]? = some (.pointer (some ⟨N + 1, 0, none⟩))) (k4 : a.tmps[4]? = some (.pointer (some ⟨N + 1 + 1, 0, none⟩))) :
    bodyPost Tryd.prog Tryd.f13 (RetParse (vs0, code, at_) w) Exit.ret a W.drew := by
  have e : W.drew.heap = W.heap := rfl
  exact ret_parse (W := W.drew) rfl hd k2 k3 k4 (by rw [e]; exact h0) (by rw [e]; exact h1) (by rw [e]; exact h2) hb.drew
theorem optC_lit (vs : List Value) : ∃ x0 x1 x2 x3 x4 x5 x6 x7 x8 x9 x10 x11 x12 x13 x14 x15 x16, optC vs = [x0, x1, x2, x3, x4, x5, x6, x7, x8, x9, x10, x11, x12, x13, x14, x15, x16] := ⟨_, _, _, _, _, _, _, _, _, _, _, _, _, _, _, _, _, rfl⟩
theorem set_below {w wx : World} {a : Addr} {u : Value} {w0 : World} (h0 : Below w0.heap.size w0 w) (ha : w0.heap.size ≤ a.block) (h : Below w.heap.size (w.setCell a u) wx) : Below w0.heap.size w0 wx :=
  (h0.setCell (p := a) ha u).trans (h.mono h0.size)

def dvalBound (s : List UInt8) (k n : Nat) : Prop := k = ArgsP.digs 7 s ∧ n = ArgsP.dval (s.take k) ∧ k ≤ 7
theorem dvalBound.lt {s : List UInt8} {k n : Nat} (h : dvalBound s k n) : n < 10000000 := by
  obtain ⟨h1, h2, h3⟩ := h
  have hd := ArgsP.digs_all 7 s
  rw [← h1] at hd
  have := ArgsP.dval_lt hd
  rw [← h2] at this
  have h7 : 10 ^ (s.take k).length ≤ 10 ^ 7 := Nat.pow_le_pow_right (by omega) (by rw [List.length_take]; omega)
  omega
theorem unp_le (s : List UInt8) : ∀ (m i : Nat) (l : List (List UInt8)), s.length - i ≤ m → ArgsP.unp s i = .ok l → ∀ x ∈ l, x.length ≤ 9999999 := by
  intro m
  induction m with
  | zero =>
    intro i l hm h x hx
    rw [ArgsP.unp_end (by omega)] at h
    injection h with h
    subst h
    cases hx
  | succ m ih =>
    intro i l hm h x hx
    by_cases hi : i < s.length
    · cases ho : ArgsP.oneL (s.drop i) with
      | none => rw [ArgsP.unp_bad hi ho] at h; cases h
      | some p =>
        obtain ⟨k, n⟩ := p
        obtain ⟨h1, h2, h3, h4, h5, h6, h7, h8⟩ := ArgsP.oneL_some ho
        rw [ArgsP.unp_good hi ho] at h
        cases hr : ArgsP.unp s (i + k + 2 + n) with
        | error e => rw [hr] at h; cases h
        | ok r =>
          rw [hr] at h
          injection h with h
          subst h
          rcases List.mem_cons.1 hx with rfl | hx
          · have hd : dvalBound (s.drop i) k n := ⟨h4, h5, h2⟩
            have := hd.lt
            rw [List.length_take]
            omega
          · exact ih _ r (by omega) hr x hx
    · rw [ArgsP.unp_end (by omega)] at h
      injection h with h
      subst h
      cases hx

set_option maxRecDepth 100000 in
set_option maxHeartbeats 4000000 in
theorem parse_ok (s : ByteArray) (L : List ByteArray) (w : World) (hs : s.size ≤ 1099511627776) (hB : Base w) (hw : 4 ≤ w.heap.size) (hy9 : ∀ k, (L.getD k ⟨#[]⟩).size ≤ 140737488355328) (h : ArgsP.unp s.data.toList 0 = .ok (txt L)) (P : List Value × Int × Int)
    (hP : P = resV (prs L 0 (List.range 18) vs0)) :
    Calls Tryd.prog 13 #[.string s] w (RetParse P w) := by
  have H := Lib.hid hB
  have HU := Lib.hid h
  have HP := Lib.hid hP
  have HY9 := Lib.hid hy9
  clear hB h hP hy9
  go_enter Tryd.func13, Tryd.ntmps13
  go_wp2_with fail
  refine (unpack_lo (l := L) _ hs (H.out.below (((((Below.refl _ w).alloc (Nat.le_refl _) _).alloc (by simp) _).alloc (by simp; omega) _))) HU.out).mono ?_
  rintro e w1 ⟨A, c, rfl, hc1, hc2, hb1, hL⟩
  obtain ⟨h0, h1, h2, hb, hz⟩ := three_kept hb1
  have hL' := Lib.hid (fun hn => by obtain ⟨g, o, e1, e2, e3, e4⟩ := hL hn; exact ⟨g, o, e1, by simp at e2; omega, e3, e4⟩ : 0 < L.length → ∃ g o, A = some ⟨g, o, none⟩ ∧ w.heap.size + 2 < g ∧ g < w1.heap.size ∧ ∀ k, k < L.length → w1.cell? ⟨g, o + k, none⟩ = some (.string (L.getD k ⟨#[]⟩)))
  clear hL
  generalize hN : w.heap.size = N at h0 h1 h2 hz hL' ⊢
  obtain ⟨n, hn⟩ : ∃ n, L.length = n := ⟨_, rfl⟩
  have HLn := Lib.hid hn
  have c2 := fun o => Lib.cell_of_heap h2 o
  have f2 := fun o => Lib.frozen_of_heap h2 o
  have HN := Lib.hid hN
  have H0 := Lib.hid h0
  have H1 := Lib.hid h1
  have H2 := Lib.hid h2
  rw [hn] at hc1 ⊢
  clear h0 h1 h2 hb1 hN hn
  have z0 : N < w1.heap.size := by omega
  have z1 : N + 1 < w1.heap.size := by omega
  unfold maxLen at hc2
  go_upto_region 4 with fail
  obtain ⟨W1, hW1⟩ : ∃ W1, W1 = (w1.setCell ⟨N + 1 + 1, 0, none⟩ (.int .i64 0)).setCell ⟨N + 1 + 1, 1, none⟩ (.int .i64 0) := ⟨_, rfl⟩
  have hchain : W1 = w1.setCells (N + 1 + 1) 0 [.int .i64 0, .int .i64 0] := hW1
  rw [← hW1]
  have hNe := HN.out
  have k2 : W1.heap[N + 1 + 1]? = some (.cells #[.int .i64 0, .int .i64 0] 27) := by rw [hchain]; exact heap_setCells_same [.int .i64 0, .int .i64 0] 0 _ _ H2.out rfl
  have k0 : W1.heap[N]? = some (.cells opt0.toArray 39) := by rw [hchain, World.heap_setCells_other _ _ _ _ (by omega) (by omega)]; exact H0.out
  have k1 : W1.heap[N + 1]? = some (.cells #[.string ⟨#[]⟩] 9) := by rw [hchain, World.heap_setCells_other _ _ _ _ (by omega) (by omega)]; exact H1.out
  have hsz : W1.heap.size = w1.heap.size := by rw [hchain, size_setCells_]
  have hbW : Below w.heap.size w W1 := by rw [hchain]; exact below_setCells_ (by omega) _ _ _ hb
  have hPI := pinv_start (A := A) (c := c) (L := L) k0 k1 k2 (fun hn => by
    obtain ⟨g, o, e1, e2, e3, e4⟩ := hL'.out hn
    exact ⟨g, o, e1, by omega, by omega, fun k hk => by
      rw [hchain, World.cell?_setCells_out _ _ _ _ _ (fun e _ => by simp only at e; omega)]
      exact e4 k hk⟩)
  rw [hsz] at hPI
  have HPI := Lib.hid hPI
  have HSZ := Lib.hid hsz
  have HW := Lib.hid hbW
  clear k0 k1 k2 hPI hW1 hchain hNe c2 f2 H0 H1 H2 hL' hb hsz hbW
  go_wp2_with (go_at_call 25; refine (places_any N (N + 1) _).mono ?_; rintro e w2 ⟨rfl, rfl⟩)
  obtain ⟨pl, hpl⟩ : ∃ pl, w1.heap.size = pl := ⟨_, rfl⟩
  rw [hpl] at HPI HSZ ⊢
  clear hpl z0 z1 hz
  go_loopg [6, 7] (n + 3) (fun gg s6 s7 wr => LoopP w wr N pl A c L P gg s6 s7)
  case atStart =>
    refine ⟨pl + 1, pl + 2, 0, List.range 18, vs0, by rw [HSZ.out]; rfl, by rw [HSZ.out], ?_, Left.start, Lib.hid Ones.start, Lib.hid Str17.start, ?_, by omega, by rw [HLn.out]; omega, HP.out⟩
    · have := HPI.out; rw [HLn.out] at this; exact this
    · exact (((HW.out.alloc HW.out.size _).alloc (by have := HW.out.size; simp; omega) _).alloc (by have := HW.out.size; simp; omega) _).drew
  case round =>
    obtain ⟨q, pi, i, R, vs, rfl, rfl, hI, hR, HOne, HStr, hbw, hi, hgg, hPi⟩ := hrel
    have hlt := hI.lt
    have HI := Lib.hid hI
    have HPi := Lib.hid hPi
    have ki := Lib.cell_of_heap hI.cnt 0
    have kl := Lib.cell_of_heap hI.lst 0
    rw [HLn.out] at kl hi hgg
    obtain ⟨m, hm⟩ : ∃ m, R.length = m := ⟨_, rfl⟩
    have HM := Lib.hid hm
    have hm18 : m ≤ 18 := by rw [← hm]; exact hR.len
    rw [hm]
    have ki' : wr.cell? ⟨pi, 0, none⟩ = some (.int .i64 (i : Int)) := ki
    have kl' : wr.cell? ⟨pl, 0, none⟩ = some (.slice A n c) := kl
    clear hI hPi ki kl hm
    by_cases hin : i < n
    · obtain ⟨g, o, rfl, hg1, hg2, hg3⟩ := HI.out.txt (by rw [HLn.out]; omega)
      have hxi := hg3 i (by rw [HLn.out]; exact hin)
      obtain ⟨x, hx⟩ : ∃ x, L.getD i ⟨#[]⟩ = x := ⟨_, rfl⟩
      rw [hx] at hxi
      have HX := Lib.hid hx
      have HG := Lib.hid hg3
      clear hg3 hx
      have hind : decide ((i : Int) < (n : Int)) = true := by simp; omega
      have HIdx := Lib.hid (index_any N (N + 1) q R x pl pi g o n c i wr HI.out.row (by omega) (by rw [HM.out]; exact hm18) kl' ki' (by omega) (by omega) (by simpa using hxi))
      rw [HM.out] at HIdx
      go_upto_region 9 with (go_at_call 26; refine HIdx.out.mono ?_; rintro e w3 ⟨z, rfl, hz, hb3⟩)
      have hI3 := Lib.hid (HI.out.below hb3)
      have hb13 := hbw.trans (hb3.mono hbw.size)
      have ki3 := (hb3.cell (p := ⟨pi, 0, none⟩) (show pi < wr.heap.size by omega)).trans ki'
      have kl3 := (hb3.cell (p := ⟨pl, 0, none⟩) (show pl < wr.heap.size by omega)).trans kl'
      have hwN := HN.out
      have hlt3 := hI3.out.lt
      clear HIdx hxi
      go_cut [50] (fun s50 wx => Pair w wx N pl q pi (some ⟨g, o, none⟩) c L R vs i z P s50)
      case first =>
        have HZ := Lib.hid hz
        clear hz
        rcases HZ.out with ⟨rfl, hno⟩ | ⟨p, rfl, hp, hkey⟩
        · have HE : Hid (P = (vs0, 29, (i : Int))) := Lib.hid (by rw [HPi.out, drop_getD (by rw [HLn.out]; exact hin) HX.out, prs_none (idx_none hno)]; rfl)
          clear hno
          go_quiet (fail)
          go_wp2
          go_meet
          exact Or.inl ⟨rfl, HE.out, below_drewN hb13 _, vs, hI3.out.below (below_drewN (Below.refl _ _) _)⟩
        · have hpn : decide ((p : Int) < 0) = false := by simp
          have hp0 : (0 : Int) ≤ (p : Int) := by omega
          obtain ⟨hk1, hk2, hk3⟩ := idx_some hR hp hkey
          by_cases hlast : i + 1 = n
          · have HE : Hid (P = (vs0, 29, (i : Int))) := Lib.hid (by rw [HPi.out, drop_one (by rw [HLn.out]; exact hlast)]; rfl)
            have hge : decide ((n : Int) ≤ (i : Int) + 1) = true := by simp; omega
            clear hk1 hk2 hk3 hkey hp hlast
            go_quiet (fail)
            go_wp2
            go_meet
            exact Or.inl ⟨rfl, HE.out, below_drewN hb13 _, vs, hI3.out.below (below_drewN (Below.refl _ _) _)⟩
          · have hge : decide ((n : Int) ≤ (i : Int) + 1) = false := by simp; omega
            have hi1 : i + 1 < n := by omega
            obtain ⟨y, hyy⟩ : ∃ y, L.getD (i + 1) ⟨#[]⟩ = y := ⟨_, rfl⟩
            have hyc := (hb3.cell (p := ⟨g, o + (i + 1), none⟩) (show g < wr.heap.size by omega)).trans (HG.out (i + 1) (by rw [HLn.out]; exact hi1))
            rw [hyy] at hyc
            obtain ⟨j, hj⟩ : ∃ j, R.getD p 0 = j := ⟨_, rfl⟩
            obtain ⟨a0, a1, a2, a3⟩ := hI3.out.row.at_ hp
            rw [hj] at a0 a1 a2 a3 hk1 hk2 hk3
            obtain ⟨v1, hv1⟩ : ∃ v, (encPl N (N + 1) j)[1]? = some v := ⟨_, rfl⟩
            obtain ⟨v2, hv2⟩ : ∃ v, (encPl N (N + 1) j)[2]? = some v := ⟨_, rfl⟩
            obtain ⟨v3, hv3⟩ : ∃ v, (encPl N (N + 1) j)[3]? = some v := ⟨_, rfl⟩
            rw [hv1] at a1
            rw [hv2] at a2
            rw [hv3] at a3
            have hdrop : L.drop i = x :: y :: L.drop (i + 2) := by rw [drop_two (by rw [HLn.out]; exact hi1), HX.out, hyy]
            have HS := Lib.hid (fun wx (hbx : Below w3.heap.size w3 wx) hy => set_pl (hI3.out.below hbx) (by omega) (H.out.below (hb13.trans (hbx.mono hb13.size))) hk3 y hy v1 v2 v3 hv1 hv2 hv3)
            have HBad : Hid (setR j y = none → P = (vs0, 29, (i : Int))) := Lib.hid fun e => by rw [HPi.out, hdrop, prs_bad hk1 hk2 e]; rfl
            have HGood : Hid (∀ u, setR j y = some u → P = resV (prs (L.drop (i + 2)) (i + 2) (R.erase j) (vs.set j u))) := Lib.hid fun u e => by rw [HPi.out, hdrop, prs_good hk1 hk2 e]
            have HJ := Lib.hid hj
            have hpm : (p : Int) < (m : Int) := by rw [← HM.out]; omega
            have hi2 : (i : Int) + 1 < (n : Int) := by omega
            have hi3 : (0 : Int) ≤ (i : Int) + 1 := by omega
            have HP2 := Lib.hid hp
            have hwr : IntKind.i64.wrap ((i : Int) + 1) = (i : Int) + 1 := by rw [IntKind.wrap_i64]; omega
            have hys : y.size ≤ 140737488355328 := by rw [← hyy]; exact HY9.out _
            clear hk1 hk2 hkey hlast hdrop hv1 hv2 hv3 hj hyy hp
            refine wp_region_still_tail 19 (by kernel_rfl) (by kernel_rfl) ?_
            obtain ⟨W, hW⟩ : ∃ W : World, W = { w3 with drawn := w3.drawn + 1 } := ⟨_, rfl⟩
            rw [← hW]
            have ki4 : W.cell? ⟨pi, 0, none⟩ = some (.int .i64 (i : Int)) := by rw [hW]; exact ki3
            have kl4 : W.cell? ⟨pl, 0, none⟩ = some (.slice (some ⟨g, o, none⟩) n c) := by rw [hW]; exact kl3
            have b0 : W.cell? ⟨q, p * 4, none⟩ = some (.string (keyN j)) := by rw [hW]; exact a0
            have b1 : W.cell? ⟨q, p * 4 + 1, none⟩ = some v1 := by rw [hW]; exact a1
            have b2 : W.cell? ⟨q, p * 4 + 2, none⟩ = some v2 := by rw [hW]; exact a2
            have b3 : W.cell? ⟨q, p * 4 + 3, none⟩ = some v3 := by rw [hW]; exact a3
            have by4 : W.cell? ⟨g, o + (i + 1), none⟩ = some (.string y) := by rw [hW]; exact hyc
            have HW3 := Lib.hid hW
            clear ki3 kl3 a0 a1 a2 a3 hyc hW
            generalize keyN j = key at b0 HS
            simp only [List.take_succ_cons, List.take_zero, List.drop_succ_cons, List.drop_zero]
            repeat still_step
            try refine wpStill_nil ?_
            go_wp2_with (go_at_call 28; refine (HS.out W (by rw [HW3.out]; exact (Below.refl _ w3).drew) hys).mono ?_; rintro e w4 ⟨ok, u, rfl, ho1, ho0, hw4⟩)
            have hIW := hI3.out.below (w' := W) (by rw [HW3.out]; exact (Below.refl _ w3).drew)
            have hbW : Below w.heap.size w W := by rw [HW3.out]; exact hb13.drew
            have hbl : w.heap.size ≤ (valA N (N + 1) j).block := by
              obtain ⟨⟨b, o, e, hb⟩, _⟩ := hIW.val hk3
              rw [e, hwN]
              exact hb
            have hI4 := hIW.set hk3 hw4
            have hb4 := set_below hbW hbl hw4
            cases ok
            · go_meet
              exact Or.inl ⟨rfl, HBad.out (ho0 rfl), hb4, _, hI4⟩
            · go_meet
              exact Or.inr ⟨rfl, p, u, rfl, HP2.out, by rw [HLn.out]; omega, hb4, setR_one (ho1 rfl), (by rw [HJ.out]; exact setR_str (ho1 rfl)), by rw [HJ.out]; exact hI4, by rw [HJ.out]; exact HGood.out u (ho1 rfl)⟩
      case rest =>
        rcases hcut with ⟨rfl, hPe, hbx, vs', hIx⟩ | ⟨rfl, p, u, rfl, hp, hi2, hbx, hu1, hu17, hIx, hPe⟩
        · have ki5 := Lib.cell_of_heap hIx.cnt 0
          have hltx := hIx.lt
          have l17 := hIx.len
          have c2 := fun o => Lib.cell_of_heap hIx.flt o
          have f2 := fun o => Lib.frozen_of_heap hIx.flt o
          have f0 := fun o => Lib.frozen_of_heap hIx.opt o
          have c0 := fun o => Lib.cell_of_heap hIx.opt o
          have f1 := fun o => Lib.frozen_of_heap hIx.blb o
          have c1 := fun o => Lib.cell_of_heap hIx.blb o
          have HIx := Lib.hid hIx
          obtain ⟨x0, x1, x2, x3, x4, x5, x6, x7, x8, x9, x10, x11, x12, x13, x14, x15, x16, hx⟩ := optC_lit vs'
          obtain ⟨z, hz⟩ : ∃ z, vs'.getD 17 undef = z := ⟨_, rfl⟩
          rw [hx] at c0
          rw [hz] at c1
          have HXL := Lib.hid hx
          have HZ := Lib.hid hz
          clear hIx hx hz
          go_upto_region 10 with fail
          go_region
          all_goals
            go_wp2
            obtain ⟨r0, r1, r2, r3⟩ := wiped (w := w) (x := .int .i64 29) (y := .int .i64 i) HIx.out.opt rfl HIx.out.blb rfl HIx.out.flt rfl (Nat.le_of_eq hwN) hbx
            rw [← opt0_eq] at r0
            rw [hPe]
            have key := bad_end r0 r1 r2 r3
            simp only [opt0, World.setCells, Nat.zero_add, Nat.reduceAdd] at key
            exact key _ rfl rfl rfl rfl
        · have HD := Lib.hid (delete_any N (N + 1) q R p wc hIx.row hR.len hp)
          rw [HM.out, show (((p + 1 : Nat)) : Int) = (p : Int) + 1 by omega] at HD
          have hpm : p < m := by rw [← HM.out]; exact hp
          have hwr : IntKind.i64.wrap ((p : Int) + 1) = (p : Int) + 1 := by rw [IntKind.wrap_i64]; omega
          have HE := Lib.hid (erase_at hR.1 hp)
          have hlE : (R.erase (R.getD p 0)).length = m - 1 := by rw [← HE.out, List.length_eraseIdx_of_lt hp, HM.out]
          have HIx := Lib.hid hIx
          have hcnt := hIx.cnt
          clear hIx
          go_upto_region 12 with (go_at_call 29; refine HD.out.mono ?_; rintro e w5 ⟨rfl, hrow5, hg5⟩)
          rw [HE.out] at hrow5
          have hI5 := HIx.out.del hg5 hrow5
          have ki5 := Lib.cell_of_heap hI5.cnt 0
          have hlt5 := hI5.lt
          have hi2n : i + 2 ≤ n := by rw [HLn.out] at hi2; exact hi2
          have hb5 : Below w.heap.size w w5 := hbx.grown hg5 hbx.size (fun k e => by cases e; have := hlt5.1; have := hlt5.2.1; omega)
          go_wp2
          go_roundg (gk - 1)
          case rel =>
            rw [show ((i : Int) + 2) = ((i + 2 : Nat) : Int) by omega]
            exact ⟨q, w5.heap.size, i + 2, R.erase (R.getD p 0), vs.set (R.getD p 0) u, by rw [hlE], rfl, hI5.recount _, hR.erase _, Lib.hid (HOne.out.set _ hu1), Lib.hid (HStr.out.set HI.out.len hu17), hb5.alloc hb5.size _, by rw [HLn.out] at hi2 ⊢; omega, by rw [HLn.out]; omega, hPe⟩
          case measure => exact Nat.sub_lt (by omega) (by decide)
    · have hind : decide ((i : Int) < (n : Int)) = false := by simp; omega
      have hI := HI.out
      have l17 := hI.len
      have c2 := fun o => Lib.cell_of_heap hI.flt o
      have f2 := fun o => Lib.frozen_of_heap hI.flt o
      have f1 := fun o => Lib.frozen_of_heap hI.blb o
      have c1 := fun o => Lib.cell_of_heap hI.blb o
      have HOpt := Lib.hid hI.opt
      obtain ⟨z, hz⟩ := HStr.out
      rw [hz] at c1
      have HZ := Lib.hid hz
      have hPe : P = (vs, 0, 0) := by rw [HPi.out, List.drop_of_length_le (by rw [HLn.out]; omega)]; rfl
      have hwN := HN.out
      have hone := Lib.hid (all_oneCell_toArray (HOne.out.opt l17))
      have key := ret_same (w := w) HI.out hz (Nat.le_of_eq hwN) hbw
      rw [← hPe] at key
      have HK := Lib.hid key
      have hN1 : ¬ N + 1 = N := by omega
      clear hI hz key hPe
      go_wp2_with (first
        | (refine wpList_load_row rfl 39 (.tmp 2) rfl N rfl 39 _ (0, 0) _ HOpt.out Tryd.underlying39 rfl optInfo ?_)
        | (refine wpList_store_same rfl 39 (.tmp 2) (.tmp 60) rfl N _ rfl rfl 39 HOpt.out optInfo hone.out ?_))
      refine HK.out _ ?h2 ?h3 ?h4 ?h5
      all_goals rfl

end Go.Proofs.YtgekkhkmgfbcdaaDoor
