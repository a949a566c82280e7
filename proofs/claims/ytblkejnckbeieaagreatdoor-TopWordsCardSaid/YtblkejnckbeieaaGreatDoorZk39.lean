/- What the bound of an '..UptoSaid' gives: a list's length.
  Laying of flat data into a world's variable; an argument that is a text.
  Chapter 18 and the tops: what the rows' listed variables give the walks; a world for the witness.
  What every law's row asks behind its walk: the law returned true and nothing that was there has turned.
  An argument that is a text, opened with the form's own bound on its size.
  A number's digits of sixteen, in bytes.
  The tops: a word's pattern in bytes; the places that Places tells and Next finds, in plain Lean.
  The tops: the walk of hex.
  The tops: the walk of the law TopWords. -/
import Derived.Test.YtblkejnckbeieaaGreatDoorZk37
import Derived.Test.YtblkejnckbeieaaGreatDoorZk25
import Derived.Test.YtblkejnckbeieaaGreatDoorZk28
import Derived.Test.YtblkejnckbeieaaGreatDoorZk36
import Derived.Test.YtblkejnckbeieaaGreatDoorZk2
import Derived.Test.YtblkejnckbeieaaGreatDoorRows
import Derived.WalkKit
import Derived.ProofKit
import Derived.OpenShut
import Derived.Deep.DeepWitnessRowRef
import Derived.LaidSub
import Derived.Lib.LaidTab
import Derived.Stop.LaidErr
import Derived.ShutString
import Derived.ChangeOld
import Derived.Below
import Derived.JoinedCond
import Derived.Deep.CondSized
import Derived.Deep.RegionWith
namespace Go.Proofs.YtblkejnckbeieaaGreatDoor

theorem bulk_one {H : Type} (d : DataW H) : 1 ≤ Rows.uptoBulk d := by
  cases d with
  | lit l => cases l <;> simp [Rows.uptoBulk]
  | nil => simp [Rows.uptoBulk]
  | ptr d => simp [Rows.uptoBulk]
  | slice elems spare => simp [Rows.uptoBulk]
  | agg parts => simp [Rows.uptoBulk]
  | iface t d => simp [Rows.uptoBulk]
  | map entries => simp [Rows.uptoBulk]
  | held h => simp [Rows.uptoBulk]
theorem bulk_len {H : Type} (l : List (DataW H)) : l.length ≤ Rows.uptoBulkAll l := by
  induction l with
  | nil => simp [Rows.uptoBulkAll]
  | cons x r ih => have := bulk_one x; simp only [Rows.uptoBulkAll, List.length_cons]; omega
theorem bulk_part {H : Type} {d : DataW H} {l : List (DataW H)} (h : d ∈ l) : Rows.uptoBulk d ≤ Rows.uptoBulkAll l := by
  induction l with
  | nil => cases h
  | cons x r ih =>
    simp only [Rows.uptoBulkAll]
    rcases List.mem_cons.1 h with rfl | h
    · omega
    · have := ih h; omega
/-- A list among what came in is no longer than the bound. -/
theorem bulk_list {H : Type} {d : DataW H} {ds : List (DataW H)} {n : Nat} (hk : Rows.uptoSmall H ds = true) (hd : d ∈ ds) (h : d = .nil ∨ ∃ elems spare, d = .slice elems spare ∧ elems.length = n) (h0 : d = .nil → n = 0) : n ≤ 1048576 := by
  have hb : Rows.uptoBulkAll ds ≤ 1048576 := of_decide_eq_true hk
  have hp := bulk_part hd
  rcases h with rfl | ⟨elems, spare, rfl, rfl⟩
  · rw [h0 rfl]; omega
  · have := bulk_len elems
    simp only [Rows.uptoBulk] at hp
    omega

end Go.Proofs.YtblkejnckbeieaaGreatDoor

namespace Go.Proofs.YtblkejnckbeieaaGreatDoor
open Go.ChangeShapes Go.WideShapes Go.ChangeAt Go.RowKit

mutual
/-- The cells of a datum that is all numbers. -/
def flatD : DataW Unit → List Value
  | .lit (.int k n) => [.int k n]
  | .lit (.bool b) => [.bool b]
  | .lit (.float k b) => [.float k b]
  | .agg parts => flatDs parts
  | _ => []
def flatDs : List (DataW Unit) → List Value
  | [] => []
  | d :: r => flatD d ++ flatDs r
end
def lay (d : DataW Unit) : Obj → Obj
  | .cells _ t frozen => .cells (flatD d).toArray t frozen
  | o => o

section
variable {H : Type} {enc : TypeId × Value → H} {P : Program} {W : World}
theorem open_text {t : TypeId} {v : Value} {d : DataW H} {p : List MemPlace} (ht : P.underlying t = some .string) (hv : ∃ s, v = .string s)
    (h : DataW.Trod enc P W 0 (fun _ => true) true t v d p) : ∃ s : ByteArray, v = .string s ∧ d = .lit (.string s.data.toList) ∧ p = [] ∧ s.size ≤ maxLen := by
  obtain ⟨s, rfl⟩ := hv
  obtain ⟨fuel, hf⟩ := h
  have hcs : (Value.string s).cells.toList = [.string s] := by simp [Value.cells]
  rw [hcs] at hf
  obtain ⟨s', e, hx, hn⟩ := DataW.trod_string ht hf
  simp only [List.cons.injEq, and_true, Value.string.injEq] at e
  subst e
  simp only [Prod.mk.injEq] at hx
  exact ⟨s, rfl, hx.1, hx.2, hn⟩
end

/-- A text among what came in is no longer than the bound. -/
theorem text_bulk {H : Type} {s : ByteArray} {ds : List (DataW H)} (hk : Rows.uptoSmall H ds = true) (hd : DataW.lit (.string s.data.toList) ∈ ds) : s.size ≤ 1048576 := by
  have hb : Rows.uptoBulkAll ds ≤ 1048576 := of_decide_eq_true hk
  have hp := bulk_part hd
  have h2 : s.data.toList.length = s.size := by rw [Array.length_toList]; rfl
  simp only [Rows.uptoBulk] at hp
  omega

end Go.Proofs.YtblkejnckbeieaaGreatDoor

namespace Go.Proofs.YtblkejnckbeieaaGreatDoor
open Go.ChangeShapes Go.WideShapes Go.ChangeAt Go.RowKit Go.Lib

section
open Go.Shelf
def laysM143_ren : Go.Shelf.Ren := ⟨fun | 143 => 75 | 219 => 106 | 217 => 145 | 225 => 146 | 224 => 147 | 267 => 148 | 266 => 178 | 314 => 179 | n => n, fun | 9 => 9 | 3 => 3 | 4 => 4 | 5 => 5 | 46 => 130 | 146 => 217 | 51 => 159 | n => n, fun | 1 => 1 | n => n⟩
theorem laysM143P : Go.Proofs.LaysM.n143 Tryz.prog laysM143_ren := {
  mixed := by kernel_rfl
  f143 := Tryz.func75.trans (congrArg some (by kernel_rfl))
  f217 := Tryz.func145.trans (congrArg some (by kernel_rfl))
  f219 := Tryz.func106.trans (congrArg some (by kernel_rfl))
  f224 := Tryz.func147.trans (congrArg some (by kernel_rfl))
  f225 := Tryz.func146.trans (congrArg some (by kernel_rfl))
  f266 := Tryz.func178.trans (congrArg some (by kernel_rfl))
  f267 := Tryz.func148.trans (congrArg some (by kernel_rfl))
  f314 := Tryz.func179.trans (congrArg some (by kernel_rfl))
  t3 := Tryz.underlying3
  a3 := Tryz.isAgg3
  z3 := Tryz.sizeOf3
  v3 := Tryz.zeroValue3
  t4 := Tryz.underlying4
  a4 := Tryz.isAgg4
  z4 := Tryz.sizeOf4
  v4 := Tryz.zeroValue4
  t5 := Tryz.underlying5
  a5 := Tryz.isAgg5
  z5 := Tryz.sizeOf5
  v5 := Tryz.zeroValue5
  t9 := Tryz.underlying9
  a9 := Tryz.isAgg9
  z9 := Tryz.sizeOf9
  v9 := Tryz.zeroValue9
  t46 := Tryz.underlying130
  a46 := Tryz.isAgg130
  z46 := Tryz.sizeOf130
  v46 := Tryz.zeroValue130
  t51 := Tryz.underlying159
  a51 := Tryz.isAgg159
  z51 := Tryz.sizeOf159
  v51 := Tryz.zeroValue159
  t146 := Tryz.underlying217
  a146 := Tryz.isAgg217
  z146 := Tryz.sizeOf217
  v146 := Tryz.zeroValue217
  g1 := by kernel_rfl
  i3 := by kernel_rfl
  i4 := by kernel_rfl
  i5 := by kernel_rfl
  i9 := by kernel_rfl
  i46 := by kernel_rfl
  i51 := by kernel_rfl
  i146 := by kernel_rfl
  m1 := by kernel_rfl
  s1_3 := fun w h => Go.Proofs.cell_of_shapedOpen_int (zero := #[.int .i64 0]) (t := 3) h (of_decide_eq_true (by kernel_rfl)) (by kernel_rfl) rfl (by kernel_rfl) (by kernel_rfl) Tryz.underlying3 }
open Go.RowKit Go.Lib in
end

theorem trod_float {H : Type} {enc : TypeId × Value → H} {P : Program} {w : World} {base : Nat} {sp : Nat → Bool} {held : Bool} {fuel : Nat} {t : TypeId} {cs : List Value} {x : DataW H × List MemPlace} {k : FloatKind}
    (ht : P.underlying t = some (.float k)) (h : DataW.trod enc P w base sp held fuel t cs = some x) : ∃ n, cs = [.float k n] ∧ x = (.lit (.float k n), []) := by
  cases fuel with
  | zero => simp [DataW.trod] at h
  | succ fuel =>
    unfold DataW.trod at h
    rw [ht] at h
    split at h <;> simp_all
def tabDataF {H : Type} (k : FloatKind) (zs : List Nat) : DataW H := .agg (zs.map fun z => .lit (.float k z))
theorem cells_of_tabF {H : Type} {enc : TypeId × Value → H} {P : Program} {w : World} {base : Nat} {sp : Nat → Bool} {held : Bool} {fuel : Nat} {t e : TypeId} {n : Nat} {k : FloatKind} {cs : List Value} {zs : List Nat} {p : List MemPlace}
    (ht : P.underlying t = some (.array n e)) (he : P.underlying e = some (.float k)) (hce : P.cellsOf e = 1) (hct : P.cellsOf t = n)
    (h : DataW.trod enc P w base sp held fuel t cs = some (tabDataF k zs, p)) : cs = zs.map fun z => Value.float k z := by
  cases fuel with
  | zero => simp [DataW.trod] at h
  | succ fuel =>
    simp only [DataW.trod, ht, hce, hct, Nat.mul_one] at h
    split at h
    · rename_i hl
      obtain ⟨xs, hm, hx⟩ := Option.map_eq_some_iff.1 h
      have hxs : xs.map (·.1) = zs.map fun z => (DataW.lit (.float k z) : DataW H) := by
        have := congrArg Prod.fst hx
        simpa [tabDataF] using this
      have hxl : xs.length = n := by simpa using mapM_length hm
      have hzl : zs.length = n := by
        have := congrArg List.length hxs
        simp at this
        omega
      apply List.ext_getElem?
      intro i
      by_cases hi : i < n
      · obtain ⟨b, hb, hf⟩ := mapM_at hm i i (by simp [hi])
        obtain ⟨z, hc, rfl⟩ := trod_float he hf
        have h1 : cs[i]? = some (.float k z) := by
          have := congrArg (·[0]?) hc
          simpa [List.getElem?_take, List.getElem?_drop] using this
        have h2 : (xs.map (·.1))[i]? = some (DataW.lit (.float k z) : DataW H) := by simp [hb]
        rw [hxs] at h2
        simp only [List.getElem?_map, Option.map_eq_some_iff, DataW.lit.injEq, Lit.float.injEq, true_and] at h2
        obtain ⟨z', hz', rfl⟩ := h2
        simp [h1, hz']
      · rw [List.getElem?_eq_none (by omega), List.getElem?_eq_none (by simp; omega)]
    · cases h
theorem tabF_of_head {P : Program} {W : World} {name : String} {k : FloatKind} {zs : List Nat} {rest : List (String × DataW Unit)} {g : Nat} {t e : TypeId} {n : Nat}
    (hg : P.globalNamed name = some g) (hty : (P.globals[g]?).map (·.type) = some t) (ht : P.underlying t = some (.array n e)) (he : P.underlying e = some (.float k)) (hce : P.cellsOf e = 1) (hct : P.cellsOf t = n)
    (h : laidMet P ((name, tabDataF k zs) :: rest) W) : W.var? P name = some (zs.map fun z => Value.float k z).toArray := by
  obtain ⟨ps, ⟨g', t', cs, fuel, p, q, hg', ht', hvar, hd, _, _⟩, _⟩ := h
  obtain rfl := Option.some.inj (hg.symm.trans hg')
  obtain rfl := Option.some.inj (hty.symm.trans ht')
  rw [hvar, ← cells_of_tabF ht he hce hct hd]

theorem g_sin : Tryz.prog.globalNamed "math._sin" = some 3 := by kernel_rfl
theorem g_sinType : (Tryz.prog.globals[3]?).map (·.type) = some 212 := by kernel_rfl
theorem g_cos : Tryz.prog.globalNamed "math._cos" = some 2 := by kernel_rfl
theorem g_cosType : (Tryz.prog.globals[2]?).map (·.type) = some 212 := by kernel_rfl
theorem cells_f64 : Tryz.prog.cellsOf 145 = 1 := by kernel_rfl
theorem cells_six : Tryz.prog.cellsOf 212 = 6 := by kernel_rfl

/-- What the walks ask of the world in which the call begins. -/
abbrev Base (W : World) : Prop := BaseP W
theorem base_of_laid {W : World} (hL : laidMet Tryz.prog Rows.prefixPlacesRow.laid W) (hsh : W.ShapedOpen Tryz.prog) : Base W := by
  obtain ⟨mm, hmm⟩ := laysM143P.s1_3 W hsh
  have lm : 1 < W.heap.size := World.block_lt_of_cell? _ _ hmm
  have h2 := hL.tail
  have v1 := tabF_of_head (zs := [4460209587652500685, 13716528389658582877, 4523617212962785441, 13774824197404483331, 4575957461383575504, 13818544856648471880]) (k := .f64) g_sin g_sinType Tryz.underlying212 Tryz.underlying145 cells_f64 cells_six hL
  have v2 := tabF_of_head (zs := [13666448263388469915, 4477121864728985349, 13732177093698800582, 4537941361668146421, 13787419979223748497, 4586165620538955083]) (k := .f64) g_cos g_cosType Tryz.underlying212 Tryz.underlying145 cells_f64 cells_six h2
  have c1 := fun j => World.var?_cell g_sin v1 j
  have c2 := fun j => World.var?_cell g_cos v2 j
  have l1 : 3 < W.heap.size := World.block_lt_of_cell? _ _ (c1 0)
  have l2 : 2 < W.heap.size := World.block_lt_of_cell? _ _ (c2 0)
  refine ⟨fun w' hb => ⟨fun j => (hb.cell (p := ⟨2, j, none⟩) l2).trans (c2 j), fun j => (hb.cell (p := ⟨3, j, none⟩) l1).trans (c1 j)⟩, mm, fun w' hb => (hb.cell (p := ⟨1, 0, none⟩) lm).trans hmm⟩

/-- A world for the witness: the settled one, the listed variables laid as the text lays them. -/
noncomputable def laidWorld (os : Os) : World :=
  let w0 := World.holding Tryz.prog os ⟨#[], #[], []⟩
  { w0 with heap := ((w0.heap.modify 3 (lay Rows.laid_math_sin)).modify 2 (lay Rows.laid_math_cos)).modify 6 (lay Rows.laid_math_mPi4) }
set_option maxRecDepth 100000 in
theorem laid_met (os : Os) (args : Array Value) : laidMet Tryz.prog Rows.prefixPlacesRow.laid ((laidWorld os).forCall (fun _ _ => 0) ⟨#[], args, []⟩).memory :=
  laidMet_of_run' 8 (by kernel_rfl) (by kernel_rfl)

end Go.Proofs.YtblkejnckbeieaaGreatDoor

namespace Go.Proofs.YtblkejnckbeieaaGreatDoor
open Go.ChangeShapes Go.WideShapes Go.ChangeAt Go.RowKit

theorem ownKnob_ : ownKnob Tryz.prog.godebug = none := by kernel_rfl
theorem laidOut_ : laidOutB Tryz.prog = true := by kernel_rfl

/-- The arguments read behind the call as they did ahead of it. -/
theorem trodAll_below {H : Type} {enc : TypeId × Value → H} {P : Program} {W W' : World} (hl : laidOutB P = true) (hb : Below W.heap.size W W') :
    ∀ (ts : List TypeId) (vs : List Value) (ds : List (DataW H)) (ps : List MemPlace), (ts.all fun t => P.readableRec t && decide (t < P.types.size)) = true →
      DataW.TrodAll enc P W 0 (fun _ => true) true ts vs ds ps → (∀ x ∈ ps, x.block < W.heap.size) → DataW.TrodAll enc P W' 0 (fun b => decide (b < W.heap.size)) true ts vs ds ps
  | [], [], [], _, _, h, _ => h
  | t :: ts, v :: vs, d :: ds, ps, hr, h, hlt => by
    obtain ⟨p, q, h1, h2, rfl⟩ := h
    simp only [List.all_cons, Bool.and_eq_true, decide_eq_true_eq] at hr
    exact ⟨p, q, Below.trod hl hr.1.1 hr.1.2 h1 hb (fun x hx => hlt x (List.mem_append_left _ hx)), trodAll_below hl hb ts vs ds q (by simpa using hr.2) h2 (fun x hx => hlt x (List.mem_append_right _ hx)), rfl⟩
  | [], _ :: _, _, _, _, h, _ => h.elim
  | [], [], _ :: _, _, _, h, _ => h.elim
  | _ :: _, [], _, _, _, h, _ => h.elim
  | _ :: _, _ :: _, [], _, _, h, _ => h.elim

/-- The row's step behind the walk, of a law that lists no variable. -/
theorem law_post {H : Type} {enc : TypeId × Value → H} {P : Program} {f : Func} {s : ChangeSpec} {tb : TypeId} {W W' : World} {args : Array Value} {ds gs : List (DataW H)} {before : List MemPlace}
    (hl : laidOutB P = true) (hr : (f.params.toList.all fun t => P.readableRec t && decide (t < P.types.size)) = true) (hvars : s.vars = []) (hres : f.resultTypes = #[tb]) (hub : P.underlying tb = some .bool)
    (hW : DataW.Whole enc P f.params.toList s.vars false W args.toList ds gs before) (hfn : s.fn H (ds ++ gs) = { results := [.lit (.bool true)], args := ds })
    (hb : Below W.heap.size W W') : s.post enc P f false true false false W args (.bool true) W' := by
  have hW' := hW
  obtain ⟨p, q, hA, hV, rfl, hfz, hnd⟩ := hW
  rw [hvars] at hV
  obtain ⟨rfl, rfl⟩ := trodVars_none hV
  rw [List.append_nil] at hfn hW'
  refine ⟨ds, [], p, [], p, [], by simpa using hW', ?_, ?_, ?_, hb.frame _, fun h => by cases h⟩
  · rw [List.append_nil, hfn, hres]
    exact trodAll_mk1 (shut_bool hub _)
  · rw [List.append_nil, hfn]
    exact trodAll_below hl hb _ _ _ _ hr hA (fun x hx => hW'.lt x (by simpa using hx))
  · rw [hvars, List.append_nil, hfn]
    rfl

end Go.Proofs.YtblkejnckbeieaaGreatDoor

namespace Go.Proofs.YtblkejnckbeieaaGreatDoor
open Go.ChangeShapes Go.WideShapes Go.ChangeAt Go.RowKit
section
variable {H : Type} {enc : TypeId × Value → H} {P : Program} {W : World}
theorem open_str {t : TypeId} {v : Value} {d : DataW H} {p : List MemPlace} {ts : List TypeId} {ds : List (DataW H)} {j : Nat} (ht : P.underlying t = some .string) (hv : ∃ s, v = .string s)
    (h : DataW.Trod enc P W 0 (fun _ => true) true t v d p) (hsz : (DataW.weightsEach P ts ds).all (· ≤ reachBytes) = true) (hj : ts[j]? = some t) (hd : ds[j]? = some d) :
    ∃ s : ByteArray, v = .string s ∧ s.size ≤ 140737488355328 ∧ p = [] := by
  obtain ⟨s, rfl⟩ := hv
  obtain ⟨fuel, hf⟩ := h
  have hcs : (Value.string s).cells.toList = [.string s] := by simp [Value.cells]
  rw [hcs] at hf
  obtain ⟨s', e, hx, _⟩ := DataW.trod_string ht hf
  simp only [List.cons.injEq, and_true, Value.string.injEq] at e
  subst e
  simp only [Prod.mk.injEq] at hx
  obtain ⟨rfl, rfl⟩ := hx
  have := sized_string hsz hj hd
  have h2 : s.data.toList.length = s.size := by rw [Array.length_toList]; rfl
  refine ⟨s, rfl, ?_, rfl⟩
  simp only [reachBytes] at this
  omega
end
end Go.Proofs.YtblkejnckbeieaaGreatDoor

namespace Go.Proofs.YtblkejnckbeieaaGreatDoor
open Go.Shelf Go.RowKit

theorem nat_app_ (a b : List UInt8) : nat_ (a ++ b) = nat_ a ++ nat_ b := List.map_append
def D16 : ByteArray := ⟨#[48, 49, 50, 51, 52, 53, 54, 55, 56, 57, 97, 98, 99, 100, 101, 102]⟩
def hexDB (n : Nat) : UInt8 := UInt8.ofNat (SynP.hexD n).toNat
def hexB : Nat → Nat → List UInt8
  | 0, n => [hexDB n]
  | f + 1, n => if n < 16 then [hexDB n] else hexB f (n / 16) ++ [hexDB (n % 16)]
theorem d16_at (n : Nat) (h : n < 16) : D16.extract n (n + 1) = str [hexDB n] := by
  have : ∀ k : Fin 16, D16.extract k.val (k.val + 1) = str [hexDB k.val] := by decide +kernel
  exact this ⟨n, h⟩
theorem nat_hexD (n : Nat) (h : n < 16) : nat_ [hexDB n] = [SynP.hexD n] := by
  have : ∀ k : Fin 16, nat_ [hexDB k.val] = [SynP.hexD k.val] := by decide +kernel
  exact this ⟨n, h⟩
theorem nat_hexB : ∀ (f n : Nat), n < 16 ^ (f + 1) → nat_ (hexB f n) = SynP.hexL f n
  | 0, n, h => nat_hexD n (by simpa using h)
  | f + 1, n, h => by
    unfold hexB SynP.hexL
    split
    · rename_i h1; exact nat_hexD n h1
    · rw [nat_app_, nat_hexB f (n / 16) (by rw [Nat.div_lt_iff_lt_mul (by decide)]; exact h), nat_hexD _ (Nat.mod_lt _ (by decide))]
theorem hexB_len : ∀ (f n : Nat), (hexB f n).length ≤ f + 1
  | 0, n => Nat.le_refl _
  | f + 1, n => by
    unfold hexB
    split
    · simp
    · rw [List.length_append]
      have := hexB_len f (n / 16)
      simp
      omega
theorem hexB_asc : ∀ (f n : Nat), n < 16 ^ (f + 1) → ∀ c ∈ hexB f n, c.toNat < 128 := by
  have h16 : ∀ k : Fin 16, (hexDB k.val).toNat < 128 := by decide +kernel
  intro f
  induction f with
  | zero =>
    intro n h c hc
    unfold hexB at hc
    rw [List.mem_singleton.1 hc]
    exact h16 ⟨n, by simpa using h⟩
  | succ f ih =>
    intro n h c hc
    unfold hexB at hc
    split at hc
    · rename_i h1
      rw [List.mem_singleton.1 hc]
      exact h16 ⟨n, h1⟩
    · rcases List.mem_append.1 hc with hc | hc
      · exact ih (n / 16) (by rw [Nat.div_lt_iff_lt_mul (by decide)]; exact h) c hc
      · rw [List.mem_singleton.1 hc]
        exact h16 ⟨n % 16, Nat.mod_lt _ (by decide)⟩

theorem below_of_drew_ {w w' : World} (h : Below w.drew.heap.size w.drew w') : Below w.heap.size w w' := ⟨h.os, h.tape, h.output, h.size, h.block⟩

end Go.Proofs.YtblkejnckbeieaaGreatDoor

namespace Go.Proofs.YtblkejnckbeieaaGreatDoor
open Go.RowKit WaveP

def pieceB (c : UInt8) : List UInt8 := [92, 120, 123] ++ hexB 5 c.toNat ++ [125]
def partB (g : Bool) (c : UInt8) : List UInt8 := if g then [40] ++ pieceB c ++ [41] else pieceB c
/-- A word's pattern. -/
def wordB (fd : Int) : Nat → List UInt8 → List UInt8
  | _, [] => []
  | k, c :: cs => partB (decide ((k : Int) = fd)) c ++ wordB fd (k + 1) cs
theorem nat_piece (c : UInt8) : nat_ (pieceB c) = SynP.pieceW c := by
  unfold pieceB SynP.pieceW
  rw [nat_app_, nat_app_, nat_hexB 5 c.toNat (by have := UInt8.toNat_lt c; omega)]
  rfl
theorem nat_part (g : Bool) (c : UInt8) : nat_ (partB g c) = SynP.partW g c := by
  unfold partB SynP.partW
  cases g with
  | false => exact nat_piece c
  | true =>
    simp only [if_true]
    rw [nat_app_, nat_app_, nat_piece]
    rfl
theorem nat_word (fd : Int) : ∀ (cs : List UInt8) (k : Nat), nat_ (wordB fd k cs) = SynP.wordW fd k cs
  | [], _ => rfl
  | c :: cs, k => by
    rw [SynP.wordW_cons, ← nat_part, ← nat_word fd cs (k + 1), ← nat_app_]
    rfl
theorem piece_asc (c : UInt8) : (∀ x ∈ pieceB c, x.toNat < 128) ∧ (pieceB c).length ≤ 10 := by
  have h1 := hexB_asc 5 c.toNat (by have := UInt8.toNat_lt c; omega)
  have h2 := hexB_len 5 c.toNat
  unfold pieceB
  constructor
  · intro x hx
    simp only [List.mem_append] at hx
    rcases hx with (hx | hx) | hx
    · revert x; decide
    · exact h1 x hx
    · revert x; decide
  · simp only [List.length_append, List.length_cons, List.length_nil]
    omega
theorem part_asc (g : Bool) (c : UInt8) : (∀ x ∈ partB g c, x.toNat < 128) ∧ (partB g c).length ≤ 12 := by
  obtain ⟨h1, h2⟩ := piece_asc c
  unfold partB
  cases g with
  | false => exact ⟨h1, by show (pieceB c).length ≤ 12; omega⟩
  | true =>
    simp only [if_true]
    constructor
    · intro x hx
      simp only [List.mem_append] at hx
      rcases hx with (hx | hx) | hx
      · revert x; decide
      · exact h1 x hx
      · revert x; decide
    · simp only [List.length_append, List.length_cons, List.length_nil]
      omega
theorem word_asc (fd : Int) : ∀ (cs : List UInt8) (k : Nat), (∀ x ∈ wordB fd k cs, x.toNat < 128) ∧ (wordB fd k cs).length ≤ 12 * cs.length
  | [], _ => ⟨fun x hx => absurd hx List.not_mem_nil, Nat.zero_le _⟩
  | c :: cs, k => by
    obtain ⟨h1, h2⟩ := word_asc fd cs (k + 1)
    obtain ⟨h3, h4⟩ := part_asc (decide ((k : Int) = fd)) c
    have e : wordB fd k (c :: cs) = partB (decide ((k : Int) = fd)) c ++ wordB fd (k + 1) cs := rfl
    rw [e]
    constructor
    · intro x hx
      rcases List.mem_append.1 hx with hx | hx
      · exact h3 x hx
      · exact h1 x hx
    · rw [List.length_append, List.length_cons]
      omega
theorem word_app (fd : Int) : ∀ (a b : List UInt8) (k : Nat), wordB fd k (a ++ b) = wordB fd k a ++ wordB fd (k + a.length) b
  | [], b, k => rfl
  | c :: a, b, k => by
    have e : wordB fd k (c :: a) = partB (decide ((k : Int) = fd)) c ++ wordB fd (k + 1) a := rfl
    have e2 : wordB fd k (c :: a ++ b) = partB (decide ((k : Int) = fd)) c ++ wordB fd (k + 1) (a ++ b) := rfl
    rw [e, e2, word_app fd a b (k + 1), List.append_assoc, List.length_cons, show k + 1 + a.length = k + (a.length + 1) by omega]
theorem word_snoc (fd : Int) (l : List UInt8) (k : Nat) (hk : k < l.length) : wordB fd 0 (l.take (k + 1)) = wordB fd 0 (l.take k) ++ partB (decide ((k : Int) = fd)) l[k] := by
  rw [List.take_succ_eq_append_getElem hk, word_app, List.length_take, Nat.min_eq_left (Nat.le_of_lt hk), Nat.zero_add]
  show _ ++ (partB _ l[k] ++ wordB fd (k + 1) []) = _
  show _ ++ (partB _ l[k] ++ []) = _
  rw [List.append_nil]

theorem okF_sgn (c : UInt8) : okF cl0 (SynP.sgnW c) := by
  unfold SynP.sgnW SynP.Nd.cls okF
  exact ⟨fun _ => ⟨rfl, _, rfl⟩, fun h => absurd h (by decide), by decide, by decide, by simp, by unfold okFL; trivial⟩
theorem okF_grp (g : Nat) (c : UInt8) : okF cl0 (.grp g [] (SynP.sgnW c)) := by
  unfold SynP.Nd.grp okF
  refine ⟨fun h => absurd h (by decide), fun h => absurd h (by decide), by decide, by decide, by simp, ?_⟩
  unfold okFL okFL
  exact ⟨okF_sgn c, trivial⟩
theorem okFL_all : ∀ {l : List SynP.Nd}, (∀ x ∈ l, okF cl0 x) → okFL cl0 l
  | [], _ => by unfold okFL; trivial
  | x :: l, h => by unfold okFL; exact ⟨h x List.mem_cons_self, okFL_all fun y hy => h y (List.mem_cons_of_mem _ hy)⟩
theorem flat_len_nodes {l : List SynP.Nd} (h : ∀ x ∈ l, (∃ c, x = SynP.sgnW c) ∨ ∃ (c : UInt8) (g : Nat), x = .grp g [] (SynP.sgnW c)) : (SynP.flatN 8 l).length = l.length := by
  induction l with
  | nil => rfl
  | cons x l ih =>
    have ih := ih fun y hy => h y (List.mem_cons_of_mem _ hy)
    unfold SynP.flatN at ih ⊢
    rw [List.flatMap_cons, List.length_append, ih, List.length_cons]
    rcases h x List.mem_cons_self with ⟨c, rfl⟩ | ⟨c, g, rfl⟩
    · show 1 + _ = _; omega
    · show 1 + _ = _; omega
theorem okF_word (fd : Int) (cs : List UInt8) (hl : cs.length ≤ 1000) : okF cl0 (SynP.treeW fd cs) := by
  have hk := SynP.word_kinds fd cs
  have hn := SynP.nodes_len fd cs 0 1
  have hx : ∀ x ∈ SynP.nodesW fd 0 1 cs, okF cl0 x := fun x hx => by
    rcases hk x hx with ⟨c, rfl⟩ | ⟨c, g, rfl⟩
    · exact okF_sgn c
    · exact okF_grp g c
  unfold SynP.treeW
  match hN : SynP.nodesW fd 0 1 cs with
  | [] =>
    show okF cl0 (.leaf 0)
    unfold SynP.Nd.leaf okF
    exact ⟨fun h => absurd h (by decide), fun h => absurd h (by decide), by decide, by decide, by simp, by unfold okFL; trivial⟩
  | [x] => rw [hN] at hx; exact hx x (by simp)
  | x :: y :: l =>
    rw [hN] at hx hk hn
    have e : SynP.whole 8 (x :: y :: l) = .mk 8 none false 0 0 false 0 [] (x :: y :: l) := rfl
    rw [e]
    unfold okF
    refine ⟨fun h => absurd h (by decide), fun _ => ?_, by decide, by decide, by omega, okFL_all hx⟩
    rw [SynP.mk_nodes cl0 hk, flat_len_nodes hk]
    omega
/-- Simplify of a word's tree is the tree. -/
theorem simp_word (fd : Int) (cs : List UInt8) (hl : cs.length ≤ 1000) : SimpC (SynP.treeW fd cs) (SynP.treeW fd cs) := by
  have := simp_flat (SynP.treeW fd cs) (SynP.few_word fd cs) (by have := SynP.cnt_word fd cs hl; omega) (okF_word fd cs hl)
  rwa [SynP.mk_word] at this

/-- The places that are told one behind the other. -/
def PlC (t s : List UInt8) : Nat → List Int → Prop
  | a, [] => nextW t s a = -1
  | a, x :: r => ∃ p : Nat, x = p ∧ p ≤ t.length ∧ nextW t s a = (p : Int) ∧ PlC t s (p + 1) r
theorem PlC.congr {t s : List UInt8} {a b : Nat} (h : nextW t s a = nextW t s b) : ∀ {l : List Int}, PlC t s b l → PlC t s a l
  | [], k => by unfold PlC at k ⊢; rw [h]; exact k
  | x :: r, k => by unfold PlC at k ⊢; rw [h]; exact k
def selL (f : Nat → Bool) (l : List Nat) : List Int := (l.filter f).map fun p : Nat => (p : Int)
theorem plN_sel (f : Nat → Bool) : ∀ n : Nat, plN f n = selL f (List.range n)
  | 0 => rfl
  | n + 1 => by
    rw [plN_succ, plN_sel f n, List.range_succ]
    unfold selL
    rw [List.filter_append, List.map_append]
    congr 1
    cases hf : f n <;> simp [hf]
theorem plC_from (t s : List UInt8) (f : Nat → Bool) (n : Nat) (hs : s ≠ []) (hn : t.length < n + s.length) (hle : ∀ p, p < n → p < t.length) (hf : ∀ p, p < n → f p = Lib.occAt t s p) : ∀ (m a : Nat), a + m = n → PlC t s a (selL f (List.range' a m))
  | 0, a, h => by
    show nextW t s a = -1
    exact nextW_end hs (by omega)
  | m + 1, a, h => by
    have ih := plC_from t s f n hs hn hle hf m (a + 1) (by omega)
    have ha := hle a (by omega)
    have hfa := hf a (by omega)
    rw [List.range'_succ]
    unfold selL at ih ⊢
    cases ho : f a with
    | true =>
      rw [List.filter_cons_of_pos (by exact ho), List.map_cons]
      exact ⟨a, rfl, by omega, nextW_hit (by omega) (by rw [← hfa, ho]), ih⟩
    | false =>
      rw [List.filter_cons_of_neg (by rw [ho]; decide)]
      exact PlC.congr (nextW_miss ha (by rw [← hfa, ho])) ih
theorem plL_all (t s : ByteArray) (h0 : 0 < s.size) (h1 : s.size ≤ 1024) : PlC t.data.toList s.data.toList 0 (plL t s) := by
  have hts := size_list t
  have hss := size_list s
  have hl := agL_len_ t s h0 h1
  unfold plL
  rw [plN_sel, List.range_eq_range']
  refine plC_from _ _ _ (agL t s).length (fun e => by rw [e] at hss; have h7 : s.size = 0 := hss; omega) (by omega) (fun p hp => by omega) (fun p hp => is_occ t s h0 h1 p (by omega)) _ 0 (by omega)
end Go.Proofs.YtblkejnckbeieaaGreatDoor

namespace Go.Proofs.YtblkejnckbeieaaGreatDoor
open Go.Shelf Go.RowKit

set_option maxRecDepth 100000 in
set_option maxHeartbeats 1600000 in
theorem topHex_any (f : Nat) : f ≤ 5 → ∀ (n : Nat), n < 16 ^ (f + 1) → n ≤ 1114111 → ∀ w : World, Calls Tryz.prog 10 #[.int .i64 n] w fun e w' => e = .returned (.string (str (hexB f n))) ∧ Below w.heap.size w w' := by
  induction f with
  | zero =>
    intro _ n hn hn2 w
    have h16 : n < 16 := by simpa using hn
    have hx := d16_at n h16
    unfold D16 at hx
    have hz1 : (n : Int) < 16 := by omega
    have hz0 : (0 : Int) ≤ (n : Int) := by omega
    show Calls _ _ _ _ fun e w' => e = .returned (.string (str [hexDB n])) ∧ _
    obtain ⟨S, hS⟩ : ∃ S, str [hexDB n] = S := ⟨_, rfl⟩
    rw [hS] at hx ⊢
    clear hS hn hn2
    go_enter Tryz.func10, Tryz.ntmps10
    go_wp2_with fail
    go_ret
    exact ⟨rfl, Below.refl _ _⟩
  | succ f ih =>
    intro hf n hn hn2 w
    by_cases h16 : n < 16
    · have hx := d16_at n h16
      unfold D16 at hx
      have hz1 : (n : Int) < 16 := by omega
      have hz0 : (0 : Int) ≤ (n : Int) := by omega
      unfold hexB
      rw [if_pos h16]
      obtain ⟨S, hS⟩ : ∃ S, str [hexDB n] = S := ⟨_, rfl⟩
      rw [hS] at hx ⊢
      clear hS hn hn2 ih
      go_enter Tryz.func10, Tryz.ntmps10
      go_wp2_with fail
      go_ret
      exact ⟨rfl, Below.refl _ _⟩
    · unfold hexB
      rw [if_neg h16, ← str_app_]
      have HQ := Lib.hid (fun w => ih (by omega) (n / 16) (by rw [Nat.div_lt_iff_lt_mul (by decide)]; exact hn) (by omega) w)
      have hl := hexB_len f (n / 16)
      obtain ⟨z, hz⟩ : ∃ z : Int, (n : Int) = z := ⟨_, rfl⟩
      obtain ⟨q, hq⟩ : ∃ q : Nat, n / 16 = q := ⟨_, rfl⟩
      obtain ⟨m, hm⟩ : ∃ m : Nat, n % 16 = m := ⟨_, rfl⟩
      have hm1 : m < 16 := by omega
      have hx := d16_at m hm1
      unfold D16 at hx
      rw [hq] at HQ hl ⊢
      rw [hm]
      obtain ⟨S1, hS1⟩ : ∃ S1, str (hexB f q) = S1 := ⟨_, rfl⟩
      obtain ⟨S2, hS2⟩ : ∃ S2, str [hexDB m] = S2 := ⟨_, rfl⟩
      have hs1 : S1.size ≤ 6 := by rw [← hS1, str_size_]; omega
      have hs2 : S2.size = 1 := by rw [← hS2, str_size_]; rfl
      rw [hS1] at HQ ⊢
      rw [hS2] at hx ⊢
      rw [hz]
      have e1 : IntKind.i64.wrap (z.tdiv 16) = (q : Int) := by rw [IntWalk.i64_quo z 16 (by omega)]; omega
      have e3 : z.tmod 16 = (m : Int) := by rw [IntWalk.rem_in z 16 (by omega)]; omega
      have hz16 : 16 ≤ z := by omega
      have hm0 : (0 : Int) ≤ (m : Int) := by omega
      have hm2 : (m : Int) < 16 := by omega
      have hs3 : S1.size + S2.size ≤ 9223372036854775807 := by omega
      have w1 : IntKind.i64.wrap ((m : Int) + 1) = (m : Int) + 1 := by rw [IntKind.wrap_i64]; omega
      have w2 : (m : Int) + 1 ≤ 16 := by omega
      have w3 : (m : Int) ≤ (m : Int) + 1 := by omega
      have w4 : (0 : Int) ≤ (m : Int) + 1 := by omega
      have w5 : ((m : Int) + 1).toNat = m + 1 := by omega
      clear ih hf hn hn2 h16 hl hz hq hm hS1 hS2 hs2
      go_enter Tryz.func10, Tryz.ntmps10
      go_wp2_with fail
      go_region_with (go_at_call 10; refine (HQ.out _).mono ?_; rintro e w1 ⟨rfl, hb1⟩)
      all_goals
        go_wp2
        go_ret
        exact ⟨rfl, below_of_drew_ hb1⟩


end Go.Proofs.YtblkejnckbeieaaGreatDoor

namespace Go.Proofs.YtblkejnckbeieaaGreatDoor
open Go.RowKit SetPure WaveP

theorem abab : plL ⟨#[97, 98, 97, 98]⟩ ⟨#[97, 98]⟩ = [0, 2] := by decide +kernel
theorem str_self (s : ByteArray) : str s.data.toList = s := rfl
theorem tree_word (fd : Int) (cs : List UInt8) (hl : cs.length ≤ 60) (w : World) : Calls Tryz.prog 11 #[.string (str (wordB fd 0 cs)), .agg #[.bool false, .bool false, .bool false, .bool false]] w (TreeEnd (SynP.treeW fd cs) w) := by
  obtain ⟨h1, h2⟩ := word_asc fd cs 0
  obtain ⟨st, hp⟩ := SynP.word_parse (rs := nat_ (wordB fd 0 cs)) (cls := clsT) (perl := perlT) fd cs (nat_word fd cs 0)
  exact tree_end _ _ st h1 (by omega) hp w

set_option maxRecDepth 100000 in
set_option maxHeartbeats 25600000 in
theorem law_words (s t : ByteArray) (fd : Int) (w : World) (hs : s.size ≤ 140737488355328) (ht : t.size ≤ 140737488355328) (hB : BaseP w) :
    Calls Tryz.prog 3 #[.string s, .string t, .int .i64 fd] w fun e w' => e = .returned (.bool true) ∧ Below w.heap.size w w' := by
  have HB := Lib.hid hB
  have HPl0 := Lib.hid (places_any ⟨#[97, 98, 97, 98]⟩ ⟨#[97, 98]⟩ w (by decide) (by decide) (by decide) hB.tabs)
  rw [abab] at HPl0
  have hti : (t.size : Int) ≤ 9223372036854775807 := by omega
  have hsi : (s.size : Int) ≤ 9223372036854775807 := by omega
  have hwl : s.data.toList.length = s.size := len_size s
  have HWl := Lib.hid hwl
  clear hB hwl
  go_enter Tryz.func3, Tryz.ntmps3
  go_upto_region 2 with (go_at_call 9; refine HPl0.out.mono ?_; rintro e w1 ⟨v1, rfl, ⟨A1, c1, rfl, hc1, hm1, hq1⟩, hb1⟩; have HB1 := Lib.hid hb1; obtain ⟨b1, o1, rfl, hbl1, hcell⟩ := hq1.int_ (i := 1) (by simp); have hcc : w1.cell? ⟨b1, o1 + 1, none⟩ = some (.int .i64 2) := hcell; rw [show ([0, 2] : List Int).length = 2 from rfl]; clear hb1 hc1 hm1 hq1 hcell hbl1)
  go_upto_region 6 with fail
  clear hcc
  go_loopw [8, 9] (fun s8 s9 wr => ∃ (k : Nat) (q : ByteArray), k ≤ s.size ∧ (k = 0 ∨ s.size ≤ 60) ∧ s9 = .int .i64 k ∧ s8 = .string q ∧ Hid (q = str (wordB fd 0 (s.data.toList.take k)) ∧ ∀ c ∈ s.data.toList.take k, c.toNat < 128) ∧ Hid (Below w.heap.size w wr)) (fun _ s9 _ => s.size + 1 - (intOf s9).toNat)
  case atStart => exact ⟨0, ⟨#[]⟩, Nat.zero_le _, .inl rfl, rfl, rfl, Lib.hid ⟨rfl, fun c hc => absurd hc (by simp)⟩, HB1⟩
  case round =>
    obtain ⟨k, q, hk, hk60, rfl, rfl, HQ, HS⟩ := hrel
    by_cases hlt : k < s.size
    · have hki : (k : Int) < (s.size : Int) := by omega
      have hk0 : (0 : Int) ≤ (k : Int) := by omega
      have hx1 : ((s[k].toNat : Nat) : Int) < 256 := by have := UInt8.toNat_lt s[k]; omega
      have hx0 : (0 : Int) ≤ ((s[k].toNat : Nat) : Int) := by omega
      have hkl : k < s.data.toList.length := by rw [HWl.out]; exact hlt
      have hsk : s[k] = s.data.toList[k] := rfl
      have hsn := word_snoc fd s.data.toList k hkl
      have hlen := (word_asc fd (s.data.toList.take k) 0).2
      have htk : s.data.toList.take (k + 1) = s.data.toList.take k ++ [s.data.toList[k]] := List.take_succ_eq_append_getElem hkl
      rw [List.length_take, HWl.out, Nat.min_eq_left hk] at hlen
      rw [← hsk] at hsn htk
      have HSn := Lib.hid hsn
      have HTk := Lib.hid htk
      have hqs : q.size ≤ 12 * k := by rw [HQ.out.1, str_size_]; exact hlen
      clear hsk hsn htk hlen
      go_upto_region 8 with fail
      by_cases b1 : 126 < s[k].toNat
      · have z1 : (126 : Int) < (s[k].toNat : Int) := by omega
        go_wp2_with fail
        go_ret
        exact ⟨rfl, HS.out⟩
      · have z1 : ¬ (126 : Int) < (s[k].toNat : Int) := by omega
        by_cases b2 : s[k].toNat < 32
        · have z2 : (s[k].toNat : Int) < 32 := by omega
          go_wp2_with fail
          go_ret
          exact ⟨rfl, HS.out⟩
        · have z2 : ¬ (s[k].toNat : Int) < 32 := by omega
          by_cases b3 : 60 < s.size
          · have z3 : (60 : Int) < (s.size : Int) := by omega
            go_wp2_with fail
            go_ret
            exact ⟨rfl, HS.out⟩
          · have z3 : ¬ (60 : Int) < (s.size : Int) := by omega
            have HX := Lib.hid (fun w => topHex_any 5 (Nat.le_refl _) s[k].toNat (by have := UInt8.toNat_lt s[k]; omega) (by have := UInt8.toNat_lt s[k]; omega) w)
            have hhl := hexB_len 5 s[k].toNat
            obtain ⟨hx, hhx⟩ : ∃ h, str (hexB 5 s[k].toNat) = h := ⟨_, rfl⟩
            rw [hhx] at HX
            have HHx := Lib.hid hhx
            have hh6 : hx.size ≤ 6 := by rw [← hhx, str_size_]; omega
            have y1 : 3 + hx.size ≤ 9223372036854775807 := by omega
            have y2 : 3 + hx.size + 1 ≤ 9223372036854775807 := by omega
            have y3 : 1 + (3 + hx.size + 1) ≤ 9223372036854775807 := by omega
            have y4 : 1 + (3 + hx.size + 1) + 1 ≤ 9223372036854775807 := by omega
            have y5 : q.size + (3 + hx.size + 1) ≤ 9223372036854775807 := by omega
            have y6 : q.size + (1 + (3 + hx.size + 1) + 1) ≤ 9223372036854775807 := by omega
            have HAs : Hid (∀ c ∈ s.data.toList.take (k + 1), c.toNat < 128) := Lib.hid fun c hc => by
              rw [HTk.out] at hc
              rcases List.mem_append.1 hc with hc | hc
              · exact HQ.out.2 c hc
              · rw [List.mem_singleton.1 hc]; omega
            clear hhl hhx b1 b2
            by_cases hf : (k : Int) = fd
            · subst hf
              have HT : Hid (q ++ ((⟨#[40]⟩ : ByteArray) ++ (⟨#[92, 120, 123]⟩ ++ hx ++ ⟨#[125]⟩) ++ ⟨#[41]⟩) = str (wordB (k : Int) 0 (s.data.toList.take (k + 1)))) := Lib.hid (by
                rw [HSn.out, decide_eq_true rfl, ← str_app_, ← HQ.out.1, ← HHx.out]
                show _ = q ++ str ([40] ++ ([92, 120, 123] ++ hexB 5 s[k].toNat ++ [125]) ++ [41])
                rw [← str_app_, ← str_app_, ← str_app_, ← str_app_]
                rfl)
              go_wp2_with (go_at_call 10; refine (HX.out _).mono ?_; rintro e w3 ⟨rfl, hb3⟩; have HS3 := Lib.hid (HS.out.trans (hb3.mono HS.out.size)); clear hb3)
              exact ⟨⟨k + 1, _, by omega, .inr (by omega), by simp, rfl, Lib.hid ⟨HT.out, HAs.out⟩, HS3⟩, by simp only [intOf]; omega⟩
            · have HT : Hid (q ++ ((⟨#[92, 120, 123]⟩ : ByteArray) ++ hx ++ ⟨#[125]⟩) = str (wordB fd 0 (s.data.toList.take (k + 1)))) := Lib.hid (by
                rw [HSn.out, decide_eq_false hf, ← str_app_, ← HQ.out.1, ← HHx.out]
                show _ = q ++ str ([92, 120, 123] ++ hexB 5 s[k].toNat ++ [125])
                rw [← str_app_, ← str_app_]
                rfl)
              go_wp2_with (go_at_call 10; refine (HX.out _).mono ?_; rintro e w3 ⟨rfl, hb3⟩; have HS3 := Lib.hid (HS.out.trans (hb3.mono HS.out.size)); clear hb3)
              exact ⟨⟨k + 1, _, by omega, .inr (by omega), by simp, rfl, Lib.hid ⟨HT.out, HAs.out⟩, HS3⟩, by simp only [intOf]; omega⟩
    · obtain rfl : k = s.size := by omega
      have hki : ¬ (s.size : Int) < (s.size : Int) := by omega
      have hs60 : s.size ≤ 60 := by omega
      have hT : s.data.toList.take s.size = s.data.toList := List.take_of_length_le (by rw [HWl.out]; exact Nat.le_refl _)
      rw [hT] at HQ
      have HQ' := HQ
      have HS' := HS
      obtain ⟨wl, hwle⟩ : ∃ wl, s.data.toList = wl := ⟨_, rfl⟩
      have HWe := Lib.hid hwle
      rw [hwle] at HQ' HWl
      have HP := Lib.hid (fun w => tree_word fd wl (by rw [HWl.out]; exact hs60) w)
      rw [← HQ'.out.1] at HP
      have HSm := Lib.hid (simp_word fd wl (by rw [HWl.out]; omega))
      have HLi : Hid (LitC (SynP.treeW fd wl) wl) := Lib.hid (lit_len (SynP.lit_word fd wl HQ'.out.2) (by rw [HWl.out]; omega))
      have hfe := faultEq_same 0 0
      clear HQ HS hT hlt hk hk60 hki hwle
      go_upto_region 15 with (first
          | (go_at_call 11; refine (HP.out _).mono ?_; rintro e w2 ⟨hb2, ⟨r0, r1, r2, r3, r4, r5, r6, r7, r8, r9, ra, rb, rc⟩, A, n, c, rfl, hl2⟩; have HB2 := Lib.hid (HS'.out.trans (hb2.mono HS'.out.size)); have HL2 := Lib.hid hl2; clear hb2 hl2; simp only [RawN.cells, List.cons_append, List.nil_append]))
      obtain ⟨P, hP⟩ : ∃ P, w2.heap.size = P := ⟨_, rfl⟩
      have hps := PatS.start (pc := #[.int .i64 r0, .slice r1 r2 r3, .bool r4, .int .i64 r5, .int .i64 r6, .bool r7, .int .i64 r8, .string r9, .slice ra rb rc, .slice A n c]) (fc := #[.int .i64 0, .int .i64 0]) HB2.out hP
      have hl3 := Lies.on (StandN.below (below_two w2 (.cells #[.int .i64 r0, .slice r1 r2 r3, .bool r4, .int .i64 r5, .int .i64 r6, .bool r7, .int .i64 r8, .string r9, .slice ra rb rc, .slice A n c] 32) (.cells #[.int .i64 0, .int .i64 0] 35))) _ _ HL2.out
      rw [hP]
      generalize (w2.alloc (.cells #[.int .i64 r0, .slice r1 r2 r3, .bool r4, .int .i64 r5, .int .i64 r6, .bool r7, .int .i64 r8, .string r9, .slice ra rb rc, .slice A n c] 32)).alloc (.cells #[.int .i64 0, .int .i64 0] 35) = W3 at hps hl3 ⊢
      have HS3 := Lib.hid hps
      have HL3 := Lib.hid hl3
      have hcP := HS3.out.pcell
      have hcF := HS3.out.fcell
      clear hps hl3 hP HB2 HL2 HP
      have HSc := Lib.hid (HSm.out ⟨r0, r1, r2, r3, r4, r5, r6, r7, r8, r9, ra, rb, rc⟩ _ W3 HL3.out)
      simp only [RawN.cells] at HSc
      clear HSm
      go_upto_region 16 with (go_at_call 12; refine HSc.out.mono ?_; rintro e w4 ⟨⟨q0, q1, q2, q3, q4, q5, q6, q7, q8, q9, qa, qb, qc⟩, rfl, hb4, hl4⟩; have HS4 := Lib.hid (HS3.out.below hb4); have HL4 := Lib.hid hl4; clear hb4 hl4)
      obtain ⟨M, hM⟩ : ∃ M, w4.heap.size = M := ⟨_, rfl⟩
      have hba : Below w4.heap.size w4 (w4.alloc (.cells #[.int .i64 q0, .slice q1 q2 q3, .bool q4, .int .i64 q5, .int .i64 q6, .bool q7, .int .i64 q8, .string q9, .slice qa qb qc] 29)) := (Below.refl _ _).alloc (Nat.le_refl _) _
      have hs5 := HS4.out.below hba
      have hl5 := Lies.on (StandN.below hba) _ _ HL4.out
      have hq5 := heap_alloc_new w4 (.cells #[.int .i64 q0, .slice q1 q2 q3, .bool q4, .int .i64 q5, .int .i64 q6, .bool q7, .int .i64 q8, .string q9, .slice qa qb qc] 29)
      rw [hM] at hq5 ⊢
      clear hba hM hcP hcF
      generalize w4.alloc (.cells #[.int .i64 q0, .slice q1 q2 q3, .bool q4, .int .i64 q5, .int .i64 q6, .bool q7, .int .i64 q8, .string q9, .slice qa qb qc] 29) = W5 at hs5 hl5 hq5 ⊢
      have HS5 := Lib.hid hs5
      have HL5 := Lib.hid hl5
      have hcF := HS5.out.fcell
      have hcq : ∀ o, W5.cell? ⟨M, o, none⟩ = #[Value.int .i64 q0, .slice q1 q2 q3, .bool q4, .int .i64 q5, .int .i64 q6, .bool q7, .int .i64 q8, .string q9, .slice qa qb qc][o]? := fun o => Lib.cell_of_heap hq5 o
      clear hs5 hl5 hq5 HSc HS4 HL4 HS3 HL3
      have HC : Hid (Calls Tryz.prog 13 #[.agg #[.int .i64 q0, .slice q1 q2 q3, .bool q4, .int .i64 q5, .int .i64 q6, .bool q7, .int .i64 q8, .string q9, .slice qa qb qc]] W5 fun e w' => e = .returned (.tuple #[.string s, .bool true]) ∧ Below W5.heap.size W5 w') := Lib.hid (by
        have := HLi.out _ _ W5 HL5.out
        rw [← HWe.out, str_self] at this
        exact this)
      go_upto_region 19 with (go_at_call 13; refine HC.out.mono ?_; rintro e w6 ⟨rfl, hb6⟩; have HB6 := Lib.hid (HS5.out.bel.trans (hb6.mono HS5.out.bel.size)); clear hb6)
      clear hcF hcq hfe HC
      by_cases h0 : s.size = 0
      · have e2 : s.toList = [] := by
          rw [ByteArray.toList_eq]
          exact List.eq_nil_of_length_eq_zero (by rw [HWe.out, HWl.out]; exact h0)
        have e3 : s.toList.isEmpty = true := by rw [e2]; rfl
        have e4 : (!s.toList.isEmpty) = false := by rw [e3]; rfl
        clear h0
        go_wp2_with fail
        go_ret
        exact ⟨rfl, HB6.out⟩
      · have hne : s.toList.isEmpty = false := by
          rw [ByteArray.toList_eq, HWe.out]
          cases hl : wl with
          | nil =>
            have h3 := HWl.out
            rw [hl] at h3
            simp at h3
            omega
          | cons c l => rfl
        have hne2 : ¬ s.toList = [] := fun e => by rw [e] at hne; cases hne
        by_cases h3 : 3000 < t.size
        · have z3 : (3000 : Int) < (t.size : Int) := by omega
          go_wp2_with fail
          go_ret
          exact ⟨rfl, HB6.out⟩
        · have z3 : ¬ (3000 : Int) < (t.size : Int) := by omega
          have HPl := Lib.hid (places_any t s w6 (fun _ => by omega) (by unfold maxLen; omega) (by unfold maxLen; omega) (HB.out.later HB6.out).tabs)
          have hall := plL_all t s (by omega) (by omega)
          have HTl : Hid (t.data.toList.length = t.size) := Lib.hid (len_size t)
          have HN : Hid (∀ (p : Nat), p ≤ 3001 → ∀ wx, Below w.heap.size w wx → Calls Tryz.prog 14 #[.string t, .string s, .slice none 0 0, .bool false, .int .i64 (p : Int)] wx fun e w' => e = .returned (.int .i64 (nextW t.data.toList s.data.toList p)) ∧ Below wx.heap.size wx w') := Lib.hid fun p hp wx hb => next_word t s _ false p wx (HB.out.later hb) (by omega) (by omega) (by omega) (by omega)
          have HAl := Lib.hid hall
          generalize plL t s = L at HPl HAl
          clear hall
          go_upto_region 22 with (go_at_call 9; refine HPl.out.mono ?_; rintro e w7 ⟨v7, rfl, ⟨A7, c7, rfl, hc7, hm7, hq7⟩, hb7⟩; have HB7 := Lib.hid (HB6.out.trans (hb7.mono HB6.out.size)); have HQ7 := Lib.hid hq7; clear hb7 hq7)
          have hL9 : (L.length : Int) ≤ 9223372036854775807 := by unfold maxLen at hm7; omega
          obtain ⟨n, hn⟩ : ∃ n, L.length = n := ⟨_, rfl⟩
          have HNl := Lib.hid hn
          rw [hn] at hL9 ⊢
          clear hc7 hm7 hn hne hne2
          go_wp2_with fail
          go_loopw [18, 19] (fun s18 s19 wr => ∃ (i a : Nat), i ≤ n ∧ a ≤ 3001 ∧ s19 = .int .i64 i ∧ s18 = .int .i64 ((a : Int) - 1) ∧ Hid (PlC t.data.toList s.data.toList a (L.drop i)) ∧ Hid (Below w7.heap.size w7 wr)) (fun _ s19 _ => n + 1 - (intOf s19).toNat)
          case atStart => exact ⟨0, 0, Nat.zero_le _, Nat.zero_le _, rfl, rfl, HAl, Lib.hid (Below.refl _ _)⟩
          case round =>
            obtain ⟨i, a, hi, ha, rfl, rfl, HA, HS⟩ := hrel
            have hb8 := HB7.out.trans (HS.out.mono HB7.out.size)
            have HB8 := Lib.hid hb8
            have e1 : IntKind.i64.wrap ((a : Int) - 1 + 1) = (a : Int) := by rw [IntWalk.i64_in _ (by omega)]; omega
            have HNa := Lib.hid (HN.out a ha wr hb8)
            clear hb8
            by_cases hlt : i < n
            · have hii : (i : Int) < (n : Int) := by omega
              have hi0 : (0 : Int) ≤ (i : Int) := by omega
              have hiL : i < L.length := by rw [HNl.out]; exact hlt
              have hA := HA.out
              rw [List.drop_eq_getElem_cons hiL] at hA
              obtain ⟨p, hp, hpt, hnx, hrest⟩ := hA
              obtain ⟨b, off, rfl, hbl, hcell⟩ := HQ7.out.int_ hiL
              rw [hp] at hcell
              have hcr : wr.cell? ⟨b, off + i, none⟩ = some (.int .i64 (p : Int)) := (HS.out.cell (p := ⟨b, off + i, none⟩) hbl).trans hcell
              rw [hnx] at HNa
              have HRest := Lib.hid hrest
              have hp9 : p ≤ 3000 := by rw [HTl.out] at hpt; omega
              have e2 : (((p + 1 : Nat) : Int) - 1) = (p : Int) := by omega
              have HE2 := Lib.hid e2
              clear hp hpt hnx hrest hcell hbl e2
              go_wp2_with (go_at_call 14; refine HNa.out.mono ?_; rintro e w9 ⟨rfl, hb9⟩; have HS9 := Lib.hid (HS.out.trans (hb9.mono HS.out.size)); replace hcr : w9.cell? ⟨b, off + i, none⟩ = some (.int .i64 (p : Int)) := (hb9.cell (p := ⟨b, off + i, none⟩) (Nat.lt_of_lt_of_le (World.block_lt_of_cell? _ _ hcr) (Nat.le_refl _))).trans hcr; clear hb9)
              exact ⟨⟨i + 1, p + 1, by omega, by omega, by simp, by rw [HE2.out], HRest, HS9⟩, by simp only [intOf]; omega⟩
            · obtain rfl : i = n := by omega
              have hii : ¬ (i : Int) < (i : Int) := by omega
              have hA := HA.out
              rw [List.drop_of_length_le (by rw [HNl.out]; exact Nat.le_refl _)] at hA
              have hA' : nextW t.data.toList s.data.toList a = -1 := hA
              rw [hA'] at HNa
              clear hA hA' hlt hi
              go_wp2_with (go_at_call 14; refine HNa.out.mono ?_; rintro e w9 ⟨rfl, hb9⟩; have HB9 := Lib.hid (HB8.out.trans (hb9.mono HB8.out.size)); clear hb9)
              go_ret
              exact ⟨rfl, HB9.out⟩

end Go.Proofs.YtblkejnckbeieaaGreatDoor
