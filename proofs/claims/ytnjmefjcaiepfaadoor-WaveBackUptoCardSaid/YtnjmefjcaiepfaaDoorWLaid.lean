/- Chapter 17: what the rows' listed variables give the walks; a world for the witness. -/
import Derived.Test.YtnjmefjcaiepfaaDoorWSinW
import Derived.Test.YtnjmefjcaiepfaaDoorOpenT
import Derived.Deep.DeepWitnessRowRef
import Derived.LaidSub
import Derived.Lib.LaidTab
import Derived.Stop.LaidErr
namespace Go.Proofs.YtnjmefjcaiepfaaDoor
open Go.ChangeShapes Go.WideShapes Go.ChangeAt Go.RowKit Go.Lib

theorem trod_float {H : Type} {enc : TypeId × Value → H} {P : Program} {w : World} {base : Nat} {sp : Nat → Bool} {held : Bool} {fuel : Nat} {t : TypeId} {cs : List Value} {x : DataW H × List MemPlace} {k : FloatKind}
    (ht : P.underlying t = some (.float k)) (h : DataW.trod enc P w base sp held fuel t cs = some x) : ∃ n, cs = [.float k n] ∧ x = (.lit (.float k n), []) := by
  cases fuel with
  | zero => simp [DataW.trod] at h
  | succ fuel =>
    unfold DataW.trod at h
    rw [ht] at h
    split at h <;> simp_all
def tabDataF {H : Type} (k : FloatKind) (zs : List Nat) : DataW H := .agg (zs.map fun z => .lit (.float k z))
theorem cells_of_tabF {H : Type} {enc : TypeId × Value → H} {P : Program} {w : World} {base : Nat} {sp : Nat → Bool} {held : Bool} {fuel : Nat} {t e : TypeId} {n : Nat} {k : FloatKind} {cs : List Value} {zs : List Nat} {p : List MemPlace}
    (ht : P.underlying t = some (.array n e)) (he : P.underlying e = some (.float k)) (hce : P.cellsOf e = 1) (hct : P.cellsOf t = n)
    (h : DataW.trod enc P w base sp held fuel t cs = some (tabDataF k zs, p)) : cs = zs.map fun z => Value.float k z := by
  cases fuel with
  | zero => simp [DataW.trod] at h
  | succ fuel =>
    simp only [DataW.trod, ht, hce, hct, Nat.mul_one] at h
    split at h
    · rename_i hl
      obtain ⟨xs, hm, hx⟩ := Option.map_eq_some_iff.1 h
      have hxs : xs.map (·.1) = zs.map fun z => (DataW.lit (.float k z) : DataW H) := by
        have := congrArg Prod.fst hx
        simpa [tabDataF] using this
      have hxl : xs.length = n := by simpa using mapM_length hm
      have hzl : zs.length = n := by
        have := congrArg List.length hxs
        simp at this
        omega
      apply List.ext_getElem?
      intro i
      by_cases hi : i < n
      · obtain ⟨b, hb, hf⟩ := mapM_at hm i i (by simp [hi])
        obtain ⟨z, hc, rfl⟩ := trod_float he hf
        have h1 : cs[i]? = some (.float k z) := by
          have := congrArg (·[0]?) hc
          simpa [List.getElem?_take, List.getElem?_drop] using this
        have h2 : (xs.map (·.1))[i]? = some (DataW.lit (.float k z) : DataW H) := by simp [hb]
        rw [hxs] at h2
        simp only [List.getElem?_map, Option.map_eq_some_iff, DataW.lit.injEq, Lit.float.injEq, true_and] at h2
        obtain ⟨z', hz', rfl⟩ := h2
        simp [h1, hz']
      · rw [List.getElem?_eq_none (by omega), List.getElem?_eq_none (by simp; omega)]
    · cases h
theorem tabF_of_head {P : Program} {W : World} {name : String} {k : FloatKind} {zs : List Nat} {rest : List (String × DataW Unit)} {g : Nat} {t e : TypeId} {n : Nat}
    (hg : P.globalNamed name = some g) (hty : (P.globals[g]?).map (·.type) = some t) (ht : P.underlying t = some (.array n e)) (he : P.underlying e = some (.float k)) (hce : P.cellsOf e = 1) (hct : P.cellsOf t = n)
    (h : laidMet P ((name, tabDataF k zs) :: rest) W) : W.var? P name = some (zs.map fun z => Value.float k z).toArray := by
  obtain ⟨ps, ⟨g', t', cs, fuel, p, q, hg', ht', hvar, hd, _, _⟩, _⟩ := h
  obtain rfl := Option.some.inj (hg.symm.trans hg')
  obtain rfl := Option.some.inj (hty.symm.trans ht')
  rw [hvar, ← cells_of_tabF ht he hce hct hd]

theorem g_sin : Tryd.prog.globalNamed "math._sin" = some 2 := by kernel_rfl
theorem g_sinType : (Tryd.prog.globals[2]?).map (·.type) = some 59 := by kernel_rfl
theorem g_cos : Tryd.prog.globalNamed "math._cos" = some 1 := by kernel_rfl
theorem g_cosType : (Tryd.prog.globals[1]?).map (·.type) = some 59 := by kernel_rfl
theorem cells_f64 : Tryd.prog.cellsOf 26 = 1 := by kernel_rfl
theorem cells_six : Tryd.prog.cellsOf 59 = 6 := by kernel_rfl

/-- What the walks ask of the world in which the call begins. -/
def Base (W : World) : Prop := ∀ w', Below W.heap.size W w' → TabsW w'
theorem base_of_laid {W : World} (hL : laidMet Tryd.prog Rows.waveBackRow.laid W) (_ : W.ShapedOpen Tryd.prog) : Base W := by
  have h2 := hL.tail
  have v1 := tabF_of_head (zs := [4460209587652500685, 13716528389658582877, 4523617212962785441, 13774824197404483331, 4575957461383575504, 13818544856648471880]) (k := .f64) g_sin g_sinType Tryd.underlying59 Tryd.underlying26 cells_f64 cells_six hL
  have v2 := tabF_of_head (zs := [13666448263388469915, 4477121864728985349, 13732177093698800582, 4537941361668146421, 13787419979223748497, 4586165620538955083]) (k := .f64) g_cos g_cosType Tryd.underlying59 Tryd.underlying26 cells_f64 cells_six h2
  have c1 := fun j => World.var?_cell g_sin v1 j
  have c2 := fun j => World.var?_cell g_cos v2 j
  have l1 : 2 < W.heap.size := World.block_lt_of_cell? _ _ (c1 0)
  have l2 : 1 < W.heap.size := World.block_lt_of_cell? _ _ (c2 0)
  intro w' hb
  exact ⟨fun j => (hb.cell (p := ⟨1, j, none⟩) l2).trans (c2 j), fun j => (hb.cell (p := ⟨2, j, none⟩) l1).trans (c1 j)⟩

/-- A world for the witness: the settled one, the listed variables laid as the text lays them. -/
noncomputable def laidWorld (os : Os) : World :=
  let w0 := World.holding Tryd.prog os ⟨#[], #[], []⟩
  { w0 with heap := ((w0.heap.modify 2 (lay Rows.laid_math_sin)).modify 1 (lay Rows.laid_math_cos)).modify 3 (lay Rows.laid_math_mPi4) }
set_option maxRecDepth 100000 in
theorem laid_met (os : Os) (args : Array Value) : laidMet Tryd.prog Rows.waveBackRow.laid ((laidWorld os).forCall (fun _ _ => 0) ⟨#[], args, []⟩).memory :=
  laidMet_of_run' 8 (by kernel_rfl) (by kernel_rfl)

end Go.Proofs.YtnjmefjcaiepfaaDoor
