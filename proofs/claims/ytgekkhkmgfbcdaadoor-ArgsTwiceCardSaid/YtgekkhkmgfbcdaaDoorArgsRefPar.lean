/- Chapter 25: the walk of the document's Parse. -/
import Derived.Test.YtgekkhkmgfbcdaaDoorArgsParseB
import Derived.Test.YtgekkhkmgfbcdaaDoorArgsRefNum
import Derived.Test.YtgekkhkmgfbcdaaDoorArgsRefUnp
import Derived.Laws.CopyOwn
namespace Go.Proofs.YtgekkhkmgfbcdaaDoor
open Go.Shelf Go.RowKit

def keyC : List Value := (List.range 18).map fun j => .string (keyN j)
theorem keys_any (w : World) : Calls Tryd.prog 18 #[] w fun e w' => e = .returned (.slice (some ⟨w.heap.size, 0, none⟩) 18 18) ∧ w' = w.alloc (.cells keyC.toArray 9) := by
  go_enter Tryd.func18, Tryd.ntmps18
  go_wp2
  go_ret
  exact ⟨rfl, rfl⟩

/-- The flags of the keys that came. -/
def metC (R : List Nat) : List Value := (List.range 18).map fun j => .bool (!decide (j ∈ R))
theorem metC_len (R : List Nat) : (metC R).length = 18 := by simp [metC]
theorem metC_at {R : List Nat} {j : Nat} (h : j < 18) : (metC R)[j]? = some (.bool (!decide (j ∈ R))) := by simp [metC, h]
theorem metC_start : metC (List.range 18) = List.replicate 18 (.bool false) := rfl
theorem metC_set {R : List Nat} (hR : R.Nodup) {j : Nat} (hj : j < 18) : (metC R).set j (.bool true) = metC (R.erase j) := by
  refine List.ext_getElem? fun t => ?_
  rw [List.getElem?_set]
  by_cases ht : t < 18
  · by_cases he : j = t
    · subst he
      rw [if_pos rfl, if_pos (by rw [metC_len]; exact ht), metC_at ht]
      have : j ∉ R.erase j := fun h => (List.Nodup.mem_erase_iff hR).1 h |>.1 rfl
      simp [this]
    · rw [if_neg he, metC_at ht, metC_at ht]
      have : t ∈ R.erase j ↔ t ∈ R := ⟨List.mem_of_mem_erase, fun h => (List.Nodup.mem_erase_iff hR).2 ⟨fun e => he e.symm, h⟩⟩
      simp [this]
  · by_cases he : j = t
    · omega
    · rw [if_neg he, List.getElem?_eq_none (by rw [metC_len]; omega), List.getElem?_eq_none (by rw [metC_len]; omega)]
theorem keyC_at {j : Nat} (h : j < 18) : keyC[j]? = some (.string (keyN j)) := by simp [keyC, h]

/-- What the document's Parse holds. -/
structure RInv (w : World) (N K M : Nat) (A : Option Addr) (L : List ByteArray) (R : List Nat) (vs : List Value) : Prop where
  lt : N + 1 < K ∧ K < M ∧ M < w.heap.size
  len : vs.length = 18
  res : w.heap[N]? = some (.cells vs0.toArray 46)
  val : w.heap[N + 1]? = some (.cells vs.toArray 46)
  key : w.heap[K]? = some (.cells keyC.toArray 9)
  met : w.heap[M]? = some (.cells (metC R).toArray 81)
  txt : 0 < L.length → ∃ g o, A = some ⟨g, o, none⟩ ∧ N + 1 < g ∧ g < K ∧ ∀ k, k < L.length → w.cell? ⟨g, o + k, none⟩ = some (.string (L.getD k ⟨#[]⟩))

def RetParD (p : List Value × Int × Int) (w : World) (e : Ending) (w' : World) : Prop :=
  e = .returned (.tuple #[.agg p.1.toArray, .int .i64 p.2.1, .int .i64 p.2.2]) ∧ Below w.heap.size w w'

section
variable {w w' : World} {N K M : Nat} {A : Option Addr} {L : List ByteArray} {R : List Nat} {vs : List Value}
theorem RInv.heap (h : RInv w N K M A L R vs) (hw : w'.heap = w.heap) : RInv w' N K M A L R vs := by
  refine ⟨by rw [hw]; exact h.lt, h.len, by rw [hw]; exact h.res, by rw [hw]; exact h.val, by rw [hw]; exact h.key, by rw [hw]; exact h.met, fun hn => ?_⟩
  obtain ⟨g, o, e, h1, h2, h3⟩ := h.txt hn
  exact ⟨g, o, e, h1, h2, fun k hk => (cell_heap (by rw [hw]) _).trans (h3 k hk)⟩
theorem heap_set_same {w : World} {b o : Nat} {v : Value} {l : List Value} {T : TypeId} (h : w.heap[b]? = some (.cells l.toArray T)) : (w.setCell ⟨b, o, none⟩ v).heap[b]? = some (.cells (l.set o v).toArray T) := by
  simp only [World.setCell, Array.getElem?_modify, if_true, h, Option.map_some]
  simp
theorem RInv.step (h : RInv w N K M A L R vs) (hR : R.Nodup) {j : Nat} (hj : j < 18) (u : Value) : RInv ((w.setCell ⟨M, j, none⟩ (.bool true)).setCell ⟨N + 1, j, none⟩ u) N K M A L (R.erase j) (vs.set j u) := by
  have hlt := h.lt
  have hne : ∀ b, b ≠ M → b ≠ N + 1 → ((w.setCell ⟨M, j, none⟩ (.bool true)).setCell ⟨N + 1, j, none⟩ u).heap[b]? = w.heap[b]? := fun b h1 h2 => by
    rw [heap_setCell_ne _ (fun e => h2 e.symm), heap_setCell_ne _ (fun e => h1 e.symm)]
  refine ⟨by rw [size_setCell, size_setCell]; exact hlt, by rw [List.length_set]; exact h.len, (hne N (by omega) (by omega)).trans h.res, ?_, (hne K (by omega) (by omega)).trans h.key, ?_, fun hn => ?_⟩
  · exact heap_set_same (by rw [heap_setCell_ne _ (by show M ≠ N + 1; omega)]; exact h.val)
  · rw [heap_setCell_ne _ (by show N + 1 ≠ M; omega), heap_set_same h.met, metC_set hR hj]
  · obtain ⟨g, o, e, h1, h2, h3⟩ := h.txt hn
    exact ⟨g, o, e, h1, h2, fun k hk => (cell_heap (hne g (by omega) (by omega)) _).trans (h3 k hk)⟩
end

set_option maxRecDepth 100000 in
set_option maxHeartbeats 4000000 in
/-- What the document's Parse hands back, read from its result's cells. -/
theorem ret_parD {w W : World} {a : Act} {N : Nat} {vs : List Value} {code at_ : Int} (hl : vs.length = 18) (hd : a.defers = []) (h2 : a.tmps[2]? = some (.pointer (some ⟨N, 0, none⟩))) (h3 : a.tmps[3]? = some (.int .i64 code)) (h4 : a.tmps[4]? = some (.int .i64 at_))
    (k0 : W.heap[N]? = some (.cells vs.toArray 46)) (hb : Below w.heap.size w W) :
    bodyPost Tryd.prog Tryd.f14 (RetParD (vs, code, at_) w) Exit.ret a W := by
  have c0 := fun o => Lib.cell_of_heap k0 o
  refine bodyPost_ret (v := .tuple #[.agg vs.toArray, .int .i64 code, .int .i64 at_]) ?_ hd ⟨rfl, hb⟩
  match vs, hl with
  | [a0, a1, a2, a3, a4, a5, a6, a7, a8, a9, a10, a11, a12, a13, a14, a15, a16, a17], _ =>
    simp [results, Tryd.results14, go_sem, h2, h3, h4, c0]

def vs0L : List Value := [.int .i64 0, .int .i64 0, .int .i64 0, .int .i64 0, .int .i64 0, .bool false, .bool false, .bool false, .bool false, .bool false, .bool false, .bool false, .bool false, .bool false, .bool false, .string ⟨#[]⟩, .string ⟨#[]⟩, .string ⟨#[]⟩]
theorem vs0_eq : vs0 = vs0L := rfl

theorem two_kept {w w1 : World} {a b : Obj} (hb : Below ((w.alloc a).alloc b).heap.size ((w.alloc a).alloc b) w1) :
    w1.heap[w.heap.size]? = some a ∧ w1.heap[w.heap.size + 1]? = some b ∧ Below w.heap.size w w1 ∧ w.heap.size + 1 < w1.heap.size := by
  have hs := hb.size
  have e1 : (w.alloc a).heap.size = w.heap.size + 1 := by simp
  have e2 : ((w.alloc a).alloc b).heap.size = w.heap.size + 1 + 1 := by simp
  have h1 := heap_alloc_new (w.alloc a) b
  have h0 := heap_alloc_new w a
  rw [e1] at h1
  have k0 := Below.heap_alloc (w.alloc a) b w.heap.size (by omega)
  exact ⟨(hb.block _ (by omega)).trans (k0.trans h0), (hb.block _ (by omega)).trans h1, (((Below.refl _ w).alloc (Nat.le_refl _) a).alloc (by omega) b).trans (hb.mono (by omega)), by omega⟩
theorem refInfo : (Tryd.prog.info? 46).map (·.size) = some 18 := by kernel_rfl
theorem retD_row {w W : World} {N : Nat} {vs : List Value} {code at_ : Int} {cs : Array Value} (hl : vs.length = 18) (h0 : W.heap[N]? = some (.cells cs 46)) (hN : w.heap.size ≤ N) (hb : Below w.heap.size w W)
    (a : Act) (hd : a.defers = []) (h2 : a.tmps[2]? = some (.pointer (some ⟨N, 0, none⟩))) (h3 : a.tmps[3]? = some (.int .i64 code)) (h4 : a.tmps[4]? = some (.int .i64 at_)) :
      bodyPost Tryd.prog Tryd.f14 (RetParD (vs, code, at_) w) Exit.ret a (W.setRow N vs.toArray) :=
  ret_parD hl hd h2 h3 h4 (setRow_heap _ _ _ _ _ _ h0) (below_setRow hb hN _)
theorem vs0_ones : vs0.toArray.all (·.oneCell') = true := all_oneCell_toArray Ones.start

set_option maxRecDepth 100000 in
set_option maxHeartbeats 4000000 in
theorem refParse_err (s : ByteArray) (i : Nat) (w : World) (hs : s.size ≤ 1099511627776) (h : ArgsP.unp s.data.toList 0 = .error i) :
    Calls Tryd.prog 14 #[.string s] w (RetParD (vs0, 4, i) w) := by
  have HU := Lib.hid (fun w => refUnpack_any s w hs)
  have HE := Lib.hid h
  clear h
  go_enter Tryd.func14, Tryd.ntmps14
  go_wp2_with fail
  refine (HU.out _).mono ?_
  rintro e w1 ⟨hb1, hr⟩
  rw [HE.out] at hr
  obtain rfl := hr
  obtain ⟨O, hO⟩ : ∃ O, O = Obj.cells #[.int .i64 0, .int .i64 0, .int .i64 0, .int .i64 0, .int .i64 0, .bool false, .bool false, .bool false, .bool false, .bool false, .bool false, .bool false, .bool false, .bool false, .bool false, .string ⟨#[]⟩, .string ⟨#[]⟩, .string ⟨#[]⟩] 46 := ⟨_, rfl⟩
  rw [← hO] at hb1
  obtain ⟨k0, k1, hb, z1⟩ := two_kept hb1
  have hO' : O = Obj.cells vs0.toArray 46 := hO
  rw [hO'] at k0 k1
  have H0 := Lib.hid k0
  have H1 := Lib.hid k1
  have HK := Lib.hid (fun a hd h2 h3 h4 => ret_parD (a := a) (code := 4) (at_ := (i : Int)) (show vs0.length = 18 from rfl) hd h2 h3 h4 k0 hb)
  clear k0 k1 hb hb1 hO hO' z1
  generalize w.heap.size = N at H0 H1 HK ⊢
  go_wp2_with (first
    | (refine wpList_load_row rfl 46 (.tmp 5) rfl (N + 1) rfl 46 _ (0, 0) _ H1.out Tryd.underlying46 rfl refInfo ?_)
    | (refine wpList_store_same rfl 46 (.tmp 2) (.tmp 24) rfl N _ rfl rfl 46 H0.out refInfo vs0_ones ?_))
  refine HK.out _ ?h2 ?h3 ?h4 ?h5
  all_goals rfl

/-- The search among the keys. -/
def KAt (x : ByteArray) (j : Nat) (z : Int) : Prop := (z = -1 ∧ ∀ t, t < j → keyN t ≠ x) ∨ (∃ t : Nat, t < j ∧ z = t ∧ keyN t = x)
theorem KAt.start (x : ByteArray) : KAt x 0 (-1) := Or.inl ⟨rfl, fun t h => absurd h (Nat.not_lt_zero _)⟩
theorem KAt.yes {x : ByteArray} {j : Nat} (h : keyN j = x) : KAt x (j + 1) j := Or.inr ⟨j, by omega, rfl, h⟩
theorem KAt.no {x : ByteArray} {j : Nat} {z : Int} (h : KAt x j z) (hne : keyN j ≠ x) : KAt x (j + 1) z := by
  rcases h with ⟨h1, h2⟩ | ⟨t, h1, h2, h3⟩
  · refine Or.inl ⟨h1, fun t ht => ?_⟩
    rcases Nat.lt_or_ge t j with h | h
    · exact h2 t h
    · obtain rfl : t = j := by omega
      exact hne
  · exact Or.inr ⟨t, by omega, h2, h3⟩
theorem KAt.bounds {x : ByteArray} {j : Nat} {z : Int} (h : KAt x j z) : -1 ≤ z ∧ z < j := by
  rcases h with ⟨h1, _⟩ | ⟨t, h1, h2, _⟩ <;> omega
theorem KAt.key {x : ByteArray} {z : Int} (h : KAt x 18 z) : (z = -1 ∧ keyOf x = none) ∨ ∃ j : Nat, z = j ∧ j < 18 ∧ keyOf x = some j := by
  rcases h with ⟨h1, h2⟩ | ⟨t, h1, h2, h3⟩
  · refine Or.inl ⟨h1, ?_⟩
    cases hk : keyOf x with
    | none => rfl
    | some j => exact absurd (keyOf_some.1 hk).2 (h2 j (keyOf_some.1 hk).1)
  · exact Or.inr ⟨t, h2, h1, keyOf_some.2 ⟨h1, h3⟩⟩

end Go.Proofs.YtgekkhkmgfbcdaaDoor
