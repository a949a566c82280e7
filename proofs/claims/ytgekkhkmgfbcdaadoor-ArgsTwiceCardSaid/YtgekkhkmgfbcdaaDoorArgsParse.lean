/- Chapter 25: the walk of args' Parse. -/
import Derived.Test.YtgekkhkmgfbcdaaDoorArgsParM
import Derived.Test.YtgekkhkmgfbcdaaDoorArgsCutLaw
import Derived.Deep.RegionHeld3
import Derived.RegionTactic
namespace Go.Proofs.YtgekkhkmgfbcdaaDoor
open Go.Shelf Go.RowKit

/-- What Parse tells of a text: the values (none, if something is wrong), the error's number and its place. -/
def parseV (s : List UInt8) : List Value × Int × Int :=
  match ArgsP.unp s 0 with
  | .error i => (vs0, 4, i)
  | .ok l => match prs (l.map bytesOf) 0 (List.range 18) vs0 with
    | .error i => (vs0, 29, i)
    | .ok vs => (vs, 0, 0)
def RetParse (p : List Value × Int × Int) (w : World) (e : Ending) (w' : World) : Prop :=
  e = .returned (.tuple #[.agg (optC p.1).toArray, p.1.getD 17 undef, .agg #[.int .i64 p.2.1, .int .i64 p.2.2]]) ∧ Below w.heap.size w w'

def opt0 : List Value := [.int .i64 0, .int .i64 0, .int .i64 0, .int .i64 0, .bool false, .bool false, .bool false, .bool false, .bool false, .bool false, .bool false, .bool false, .bool false, .bool false, .int .i64 0, .string ⟨#[]⟩, .string ⟨#[]⟩]
theorem opt0_eq : optC vs0 = opt0 := rfl

theorem three_kept {w w1 : World} {a b c : Obj} (hb : Below (((w.alloc a).alloc b).alloc c).heap.size (((w.alloc a).alloc b).alloc c) w1) :
    w1.heap[w.heap.size]? = some a ∧ w1.heap[w.heap.size + 1]? = some b ∧ w1.heap[w.heap.size + 1 + 1]? = some c ∧ Below w.heap.size w w1 ∧ w.heap.size + 1 + 1 < w1.heap.size := by
  have hs := hb.size
  have e1 : (w.alloc a).heap.size = w.heap.size + 1 := by simp
  have e2 : ((w.alloc a).alloc b).heap.size = w.heap.size + 1 + 1 := by simp
  have e3 : (((w.alloc a).alloc b).alloc c).heap.size = w.heap.size + 1 + 1 + 1 := by simp
  have h2 := heap_alloc_new ((w.alloc a).alloc b) c
  have h1 := heap_alloc_new (w.alloc a) b
  have h0 := heap_alloc_new w a
  rw [e1] at h1
  rw [e2] at h2
  have k1 := Below.heap_alloc ((w.alloc a).alloc b) c (w.heap.size + 1) (by omega)
  have k0 := Below.heap_alloc ((w.alloc a).alloc b) c w.heap.size (by omega)
  have k00 := Below.heap_alloc (w.alloc a) b w.heap.size (by omega)
  refine ⟨(hb.block _ (by omega)).trans (k0.trans (k00.trans h0)), (hb.block _ (by omega)).trans (k1.trans h1), (hb.block _ (by omega)).trans h2, ?_, by omega⟩
  exact ((((Below.refl _ w).alloc (Nat.le_refl _) a).alloc (by omega) b).alloc (by omega) c).trans (hb.mono (by omega))

theorem heap_setCells_same {b : Nat} {T : TypeId} (vs : List Value) : ∀ (o : Nat) (cs : Array Value) (w : World), w.heap[b]? = some (.cells cs T) → cs.size = o + vs.length →
    (w.setCells b o vs).heap[b]? = some (.cells (cs.toList.take o ++ vs).toArray T) := by
  induction vs with
  | nil =>
    intro o cs w h hs
    rw [List.append_nil, List.take_of_length_le (by rw [Array.length_toList]; simp at hs; omega)]
    exact h
  | cons v vs ih =>
    intro o cs w h hs
    rw [List.length_cons] at hs
    have h1 : (w.setCell ⟨b, o, none⟩ v).heap[b]? = some (.cells (cs.setIfInBounds o v) T) := by
      simp only [World.setCell, Array.getElem?_modify, if_true, h, Option.map_some]
      rfl
    have h2 := ih (o + 1) (cs.setIfInBounds o v) (w.setCell ⟨b, o, none⟩ v) h1 (by rw [Array.size_setIfInBounds]; omega)
    show ((w.setCell ⟨b, o, none⟩ v).setCells b (o + 1) vs).heap[b]? = _
    rw [h2, Array.toList_setIfInBounds, List.take_set]
    congr 3
    rw [List.take_add_one, Array.getElem?_toList, Array.getElem?_eq_getElem (by omega)]
    rw [List.set_append_right _ _ (by rw [List.length_take, Array.length_toList]; omega)]
    have e : o - (List.take o cs.toList).length = 0 := by rw [List.length_take, Array.length_toList]; omega
    rw [e]
    simp

theorem size_setCells_ (b : Nat) : ∀ (vs : List Value) (o : Nat) (w : World), (w.setCells b o vs).heap.size = w.heap.size
  | [], _, _ => rfl
  | v :: r, o, w => by show ((w.setCell ⟨b, o, none⟩ v).setCells b (o + 1) r).heap.size = _; rw [size_setCells_ b r, size_setCell]
theorem below_setCells_ {B b : Nat} {a : World} (hb : B ≤ b) : ∀ (vs : List Value) (o : Nat) (w : World), Below B a w → Below B a (w.setCells b o vs)
  | [], _, _, h => h
  | v :: r, o, w, h => below_setCells_ hb r (o + 1) _ (h.setCell (p := ⟨b, o, none⟩) hb v)
theorem heap_lt {w : World} {b : Nat} {o : Obj} (h : w.heap[b]? = some o) : b < w.heap.size := (Array.getElem?_eq_some_iff.1 h).1
/-- The results' cells, all laid anew. -/
theorem wiped {w w1 : World} {N : Nat} {x y : Value} {c0 c1 c2 : Array Value} {T0 T1 T2 : TypeId} (h0 : w1.heap[N]? = some (.cells c0 T0)) (s0 : c0.size = 17) (h1 : w1.heap[N + 1]? = some (.cells c1 T1)) (s1 : c1.size = 1)
    (h2 : w1.heap[N + 1 + 1]? = some (.cells c2 T2)) (s2 : c2.size = 2) (hN : w.heap.size ≤ N) (hb : Below w.heap.size w w1) :
    (((w1.setCells N 0 opt0).setCells (N + 1) 0 [.string ⟨#[]⟩]).setCells (N + 1 + 1) 0 [x, y]).heap[N]? = some (.cells opt0.toArray T0) ∧
    (((w1.setCells N 0 opt0).setCells (N + 1) 0 [.string ⟨#[]⟩]).setCells (N + 1 + 1) 0 [x, y]).heap[N + 1]? = some (.cells #[.string ⟨#[]⟩] T1) ∧
    (((w1.setCells N 0 opt0).setCells (N + 1) 0 [.string ⟨#[]⟩]).setCells (N + 1 + 1) 0 [x, y]).heap[N + 1 + 1]? = some (.cells #[x, y] T2) ∧
    Below w.heap.size w (((w1.setCells N 0 opt0).setCells (N + 1) 0 [.string ⟨#[]⟩]).setCells (N + 1 + 1) 0 [x, y]) := by
  have l0 := heap_lt h0
  have l1 := heap_lt h1
  have l2 := heap_lt h2
  have z1 := size_setCells_ N opt0 0 w1
  have z2 := size_setCells_ (N + 1) [.string ⟨#[]⟩] 0 (w1.setCells N 0 opt0)
  refine ⟨?_, ?_, ?_, ?_⟩
  · rw [World.heap_setCells_other _ _ _ _ (by omega) (by omega), World.heap_setCells_other _ _ _ _ (by omega) (by omega), heap_setCells_same _ _ _ _ h0 (by rw [s0]; rfl)]
    rfl
  · rw [World.heap_setCells_other _ _ _ _ (by omega) (by omega), heap_setCells_same _ _ c1 _ (by rw [World.heap_setCells_other _ _ _ _ (by omega) (by omega)]; exact h1) (by rw [s1]; rfl)]
    rfl
  · rw [heap_setCells_same _ _ c2 _ (by rw [World.heap_setCells_other _ _ _ _ (by omega) (by omega), World.heap_setCells_other _ _ _ _ (by omega) (by omega)]; exact h2) (by rw [s2]; rfl)]
    rfl
  · exact below_setCells_ (by omega) _ _ _ (below_setCells_ (by omega) _ _ _ (below_setCells_ hN _ _ _ hb))

set_option maxRecDepth 100000 in
set_option maxHeartbeats 4000000 in
/-- What Parse hands back, read from its results' cells. -/
theorem ret_parse {w W : World} {a : Act} {N : Nat} {vs : List Value} {code at_ : Int} (hl : vs.length = 18) (hd : a.defers = []) (h2 : a.tmps[2]? = some (.pointer (some ⟨N, 0, none⟩))) (h3 : a.tmps[3]? = some (.pointer (some ⟨N + 1, 0, none⟩))) (h4 : a.tmps[4]? = some (.pointer (some ⟨N + 1 + 1, 0, none⟩)))
    (k0 : W.heap[N]? = some (.cells (optC vs).toArray 39)) (k1 : W.heap[N + 1]? = some (.cells #[vs.getD 17 undef] 9)) (k2 : W.heap[N + 1 + 1]? = some (.cells #[.int .i64 code, .int .i64 at_] 27)) (hb : Below w.heap.size w W) :
    bodyPost Tryd.prog Tryd.f13 (RetParse (vs, code, at_) w) Exit.ret a W := by
  have c0 := fun o => Lib.cell_of_heap k0 o
  have c1 := fun o => Lib.cell_of_heap k1 o
  have c2 := fun o => Lib.cell_of_heap k2 o
  refine bodyPost_ret (v := .tuple #[.agg (optC vs).toArray, vs.getD 17 undef, .agg #[.int .i64 code, .int .i64 at_]]) ?_ hd ⟨rfl, hb⟩
  match vs, hl with
  | [a0, a1, a2, a3, a4, a5, a6, a7, a8, a9, a10, a11, a12, a13, a14, a15, a16, a17], _ =>
    simp only [optC, permN, List.map_cons, List.map_nil, List.getD_cons_succ, List.getD_cons_zero] at c0 c1 ⊢
    simp [results, Tryd.results13, go_sem, h2, h3, h4, c0, c1, c2]

theorem ret_parse2 {w W : World} {a : Act} {N : Nat} {code at_ : Int} (o : Obj) (hd : a.defers = []) (h2 : a.tmps[2]? = some (.pointer (some ⟨N, 0, none⟩))) (h3 : a.tmps[3]? = some (.pointer (some ⟨N + 1, 0, none⟩))) (h4 : a.tmps[4]? = some (.pointer (some ⟨N + 1 + 1, 0, none⟩)))
    (k0 : W.heap[N]? = some (.cells opt0.toArray 39)) (k1 : W.heap[N + 1]? = some (.cells #[.string ⟨#[]⟩] 9)) (k2 : W.heap[N + 1 + 1]? = some (.cells #[.int .i64 code, .int .i64 at_] 27)) (hb : Below w.heap.size w W) :
    bodyPost Tryd.prog Tryd.f13 (RetParse (vs0, code, at_) w) Exit.ret a (W.alloc o).drew := by
  have e0 : (W.alloc o).drew.heap[N]? = W.heap[N]? := Below.heap_alloc W o N (heap_lt k0)
  have e1 : (W.alloc o).drew.heap[N + 1]? = W.heap[N + 1]? := Below.heap_alloc W o (N + 1) (heap_lt k1)
  have e2 : (W.alloc o).drew.heap[N + 1 + 1]? = W.heap[N + 1 + 1]? := Below.heap_alloc W o (N + 1 + 1) (heap_lt k2)
  rw [← opt0_eq] at k0
  exact ret_parse rfl hd h2 h3 h4 (e0.trans k0) (e1.trans k1) (e2.trans k2) ((hb.alloc hb.size _).drew)

set_option maxRecDepth 100000 in
set_option maxHeartbeats 4000000 in
theorem parse_err (s : ByteArray) (i : Nat) (w : World) (hs : s.size ≤ 1099511627776) (hB : Base w) (h : ArgsP.unp s.data.toList 0 = .error i) :
    Calls Tryd.prog 13 #[.string s] w (RetParse (vs0, 4, i) w) := by
  have H := Lib.hid hB
  have HU := Lib.hid h
  clear hB h
  go_enter Tryd.func13, Tryd.ntmps13
  go_wp2_with fail
  refine (unpack_err (i := i) _ hs (H.out.below (((((Below.refl _ w).alloc (Nat.le_refl _) _).alloc (by simp) _).alloc (by simp; omega) _))) HU.out).mono ?_
  rintro e w1 ⟨rfl, hb1⟩
  obtain ⟨h0, h1, h2, hb, hz⟩ := three_kept hb1
  generalize hN : w.heap.size = N at h0 h1 h2 hz ⊢
  have c0 := fun o => Lib.cell_of_heap h0 o
  have c1 := fun o => Lib.cell_of_heap h1 o
  have c2 := fun o => Lib.cell_of_heap h2 o
  have f0 := fun o => Lib.frozen_of_heap h0 o
  have f1 := fun o => Lib.frozen_of_heap h1 o
  have f2 := fun o => Lib.frozen_of_heap h2 o
  have HN := Lib.hid hN
  have H0 := Lib.hid h0
  have H1 := Lib.hid h1
  have H2 := Lib.hid h2
  clear h0 h1 h2 hb1 hN
  have z0 : N < w1.heap.size := by omega
  have z1 : N + 1 < w1.heap.size := by omega
  go_upto_region 3 with fail
  go_region
  all_goals
    go_wp2
    have h2' := heap_setCells_same [.int .i64 4, .int .i64 i] 0 _ _ H2.out rfl
    have h0' : (w1.setCells (N + 1 + 1) 0 [.int .i64 4, .int .i64 i]).heap[N]? = _ := (World.heap_setCells_other _ _ _ _ (by omega) (by omega)).trans H0.out
    have h1' : (w1.setCells (N + 1 + 1) 0 [.int .i64 4, .int .i64 i]).heap[N + 1]? = _ := (World.heap_setCells_other _ _ _ _ (by omega) (by omega)).trans H1.out
    have hN' := HN.out
    obtain ⟨r0, r1, r2, r3⟩ := wiped (w := w) (x := .int .i64 4) (y := .int .i64 i) h0' rfl h1' rfl h2' rfl (by omega) (below_setCells_ (by omega) _ _ _ hb)
    have key := fun (a : Act) hd k2 k3 k4 => ret_parse2 (w := w) (a := a) (N := N) (.cells #[.slice none 0 0] 22) hd k2 k3 k4 r0 r1 r2 r3
    simp only [opt0, World.setCells, Nat.zero_add, Nat.reduceAdd] at key
    exact key _ rfl rfl rfl rfl

end Go.Proofs.YtgekkhkmgfbcdaaDoor
