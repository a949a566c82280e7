/- Chapter 25: what the rows' listed variables give the walks; a world for the witness. -/
import Derived.Test.YtgekkhkmgfbcdaaDoorArgsBase
import Derived.Test.YtgekkhkmgfbcdaaDoorOpenT
import Derived.Stop.LaidErr
import Derived.Deep.DeepWitnessRowRef
import Derived.LaidSub
namespace Go.Proofs.YtgekkhkmgfbcdaaDoor
open Go.ChangeShapes Go.WideShapes Go.ChangeAt Go.RowKit Go.Shelf

theorem g_pow : Tryd.prog.globalNamed "internal/strconv.uint64pow10" = some 0 := by kernel_rfl
theorem g_powType : (Tryd.prog.globals[0]?).map (·.type) = some 108 := by kernel_rfl
theorem g_rng : Tryd.prog.globalNamed "strconv.ErrRange" = some 3 := by kernel_rfl
theorem g_rngType : (Tryd.prog.globals[3]?).map (·.type) = some 62 := by kernel_rfl
theorem g_syn : Tryd.prog.globalNamed "strconv.ErrSyntax" = some 2 := by kernel_rfl
theorem g_synType : (Tryd.prog.globals[2]?).map (·.type) = some 62 := by kernel_rfl
theorem cells_u64 : Tryd.prog.cellsOf 93 = 1 := by kernel_rfl
theorem cells_pow : Tryd.prog.cellsOf 108 = 20 := by kernel_rfl
theorem cells_es : Tryd.prog.cellsOf 127 = 1 := by kernel_rfl
theorem cells_str : Tryd.prog.cellsOf 9 = 1 := by kernel_rfl
theorem star_es : "*" ++ "errors.errorString" = "*errors.errorString" := by decide
theorem row_es (u : TypeId) (h : Tryd.prog.typeName? 3 u = some "*errors.errorString") : u = 125 :=
  typeName_ptr_named (nm := "errors.errorString") (by rw [star_es]; kernel_rfl) (by kernel_rfl) (by decide) u (by rw [star_es]; exact h)

theorem base_of_laid {W : World} (hL : laidMet Tryd.prog Rows.argsCutRow.laid W) (hsh : W.ShapedOpen Tryd.prog) : Base W := by
  have h3 := hL.tail.tail
  have h4 := hL.tail.tail.tail
  have h5 := hL.tail.tail.tail.tail
  obtain ⟨a0, s0, hv0, -, -, -⟩ := laid_sentinel h4 g_rng g_rngType Tryd.underlying62 row_es Tryd.underlying125 Tryd.underlying127 rfl rfl Tryd.underlying9 cells_es cells_str
  obtain ⟨a1, s1, hv1, -, -, -⟩ := laid_sentinel h5 g_syn g_synType Tryd.underlying62 row_es Tryd.underlying125 Tryd.underlying127 rfl rfl Tryd.underlying9 cells_es cells_str
  obtain ⟨mm, hmm⟩ := Tryd.laysM145.s1_3 W hsh
  refine ⟨⟨mm, hmm⟩, ?_, ?_, ?_⟩
  · exact Lib.tabIs_of_head (zs := Lib.pow10Tab) (k := .u64) g_pow g_powType Tryd.underlying108 Tryd.underlying93 cells_u64 cells_pow h3
  · exact ⟨_, by have h0 := World.var?_cell g_syn hv1 0; simpa using h0, Or.inr ⟨_, _, rfl⟩⟩
  · exact ⟨_, by have h0 := World.var?_cell g_rng hv0 0; simpa using h0, Or.inr ⟨_, _, rfl⟩⟩

/-- A world for the witness: the settled one with two sentinels more, the listed variables laid as the text lays them. -/
noncomputable def laidWorld (os : Os) : World :=
  let N := (World.settled Tryd.prog os).heap.size
  let w0 := World.holding Tryd.prog os ⟨#[.cells #[.string ⟨#[118, 97, 108, 117, 101, 32, 111, 117, 116, 32, 111, 102, 32, 114, 97, 110, 103, 101]⟩] 127, .cells #[.string ⟨#[105, 110, 118, 97, 108, 105, 100, 32, 115, 121, 110, 116, 97, 120]⟩] 127], #[], []⟩
  let put (v : Value) (o : Obj) : Obj := match o with
    | .cells _ t frozen => .cells #[v] t frozen
    | o => o
  { w0 with heap := ((((w0.heap.modify 4 (lay Rows.laid_math_bits_deBruijn32tab)).modify 5 (lay Rows.laid_math_bits_deBruijn64tab)).modify 0 (lay Rows.laid_internal_strconv_uint64pow10)).modify 3 (put (.iface 125 (.pointer (some ⟨N, 0, none⟩))))).modify 2 (put (.iface 125 (.pointer (some ⟨N + 1, 0, none⟩)))) }
set_option maxRecDepth 100000 in
theorem laid_met (os : Os) (args : Array Value) : laidMet Tryd.prog Rows.argsCutRow.laid ((laidWorld os).forCall (fun _ _ => 0) ⟨#[], args, []⟩).memory :=
  laidMet_of_run' 8 (by kernel_rfl) (by kernel_rfl)

end Go.Proofs.YtgekkhkmgfbcdaaDoor
