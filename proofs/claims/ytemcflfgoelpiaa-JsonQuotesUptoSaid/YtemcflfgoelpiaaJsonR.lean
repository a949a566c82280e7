/- The deferred closure of the JSON parser's Parse. -/
import Derived.Test.YtemcflfgoelpiaaJsonM
import Derived.Defers
import Derived.Recover
import Derived.RegionTactic
import Derived.ChangeAlike
import Derived.KernelRfl
import Derived.Laws.Pointers
namespace Go.Proofs.Ytemcflfgoelpiaa
open Go.RowKit

theorem bodyPostS_normal {P : Program} {fn : Func} {c₀ : Frame} {cs cs' : List Frame} {R : Ending → FrameMode → World → Prop} {a : Act} {w : World} {u' : FrameMode} (hd : a.defers = []) (hcs : cs' = { c₀ with mode := u' } :: cs) (v : Value) (hr : (results fn a.tmps).run P w = .ok v w) (hR : R (.returned v) u' w) : bodyPostS P fn c₀ cs R .normal a cs' w := ⟨hd, u', hcs, v, hr, hR⟩
theorem assert_fault (c i : Int) (w : World) : (Instr.typeAssert (.iface 69 (.agg #[.int .i64 c, .int .i64 i])) 20 69 true).run Try.prog w = .ok (.tuple #[.agg #[.int .i64 c, .int .i64 i], .bool true]) w := by kernel_rfl
set_option maxRecDepth 100000 in
set_option maxHeartbeats 2000000 in
theorem catch_panicking (V T : Nat) (hVT : V < T) (c i : Int) (older : List PanicEntry) (a0 a1 a2 a3 b0 b1 : Value) (w : World) (hV : w.heap[V]? = some (.cells #[a0, a1, a2, a3] 37)) (hT : w.heap[T]? = some (.cells #[b0, b1] 29)) :
    CallsD Try.prog 28 #[.pointer (some ⟨V, 0, none⟩), .pointer (some ⟨T, 0, none⟩)] (.panicking ({ v := .iface 69 (.agg #[.int .i64 c, .int .i64 i]), recovered := false } :: older)) w fun e u' w' =>
      e = .returned (.tuple #[]) ∧ u' = .panicking ({ v := .iface 69 (.agg #[.int .i64 c, .int .i64 i]), recovered := true } :: older) ∧
        Below V w w' ∧ w'.heap[V]? = some (.cells #[.int .i64 0, .string ⟨#[]⟩, .slice none 0 0, .slice none 0 0] 37) ∧ w'.heap[T]? = some (.cells #[.int .i64 c, .int .i64 i] 29) := by
  have hcV := fun o => Lib.cell_of_heap hV o
  have hzV := fun o => Lib.frozen_of_heap hV o
  have hcT := fun o => Lib.cell_of_heap hT o
  have hzT := fun o => Lib.frozen_of_heap hT o
  refine callsD_of_wpS Try.func28 rfl fun c₀ cs hu => ?_
  have he : (#[.pointer (some ⟨V, 0, none⟩), .pointer (some ⟨T, 0, none⟩)] : Array Value) ++ Array.replicate (Try.f28.ntmps - (#[.pointer (some ⟨V, 0, none⟩), .pointer (some ⟨T, 0, none⟩)] : Array Value).size) undef = #[.pointer (some ⟨V, 0, none⟩), .pointer (some ⟨T, 0, none⟩), undef, undef, undef, undef, undef, undef, undef, undef, undef, undef, undef, undef, undef, undef, undef, undef] := by rw [Try.ntmps28]; rfl
  rw [he]
  apply wpS_seq
  apply wpS_region
  simp [wpOpsS, go_sem, recoverD, hu, Exit.thenS]
  refine wpS_of_wp ?_
  have hta := assert_fault c i
  clear he
  have hVw : V < w.heap.size := (Array.getElem?_eq_some_iff.1 hV).1
  have hTw : T < w.heap.size := (Array.getElem?_eq_some_iff.1 hT).1
  clear hcV hzV hcT hzT
  go_upto_region 5 with fail
  obtain ⟨W, hW⟩ : ∃ W, W = w.alloc (.cells #[.int .i64 c, .int .i64 i] 69) := ⟨_, rfl⟩
  obtain ⟨g, hg⟩ : ∃ g, w.heap.size = g := ⟨_, rfl⟩
  have hV1 : W.heap[V]? = some (.cells #[a0, a1, a2, a3] 37) := by rw [hW]; exact (Below.heap_alloc _ _ _ hVw).trans hV
  have hT1 : W.heap[T]? = some (.cells #[b0, b1] 29) := by rw [hW]; exact (Below.heap_alloc _ _ _ hTw).trans hT
  have hG1 : W.heap[g]? = some (.cells #[.int .i64 c, .int .i64 i] 69) := by rw [hW, ← hg]; exact heap_alloc_new w _
  have hB1 : Below V w W := by rw [hW]; exact (Below.refl _ _).alloc (Nat.le_of_lt hVw) _
  rw [← hW, hg]
  have hgV : ¬ g = V := by omega
  have hgT : ¬ g = T := by omega
  have hVg : ¬ V = g := by omega
  have hTg : ¬ T = g := by omega
  have hVT1 : ¬ V = T := by omega
  have hVT2 : ¬ T = V := by omega
  have hcV := fun o => Lib.cell_of_heap hV1 o
  have hzV := fun o => Lib.frozen_of_heap hV1 o
  have hcT := fun o => Lib.cell_of_heap hT1 o
  have hzT := fun o => Lib.frozen_of_heap hT1 o
  have hcG := fun o => Lib.cell_of_heap hG1 o
  have HV1 := Lib.hid hV1
  have HT1 := Lib.hid hT1
  have HB1 := Lib.hid hB1
  clear hW hg hV1 hT1 hG1 hB1 hV hT hta hVw hTw
  go_region
  all_goals
    go_wp2
    have hV2 := HV1.out
    have hT2 := HT1.out
    refine bodyPostS_normal (u' := .panicking ({ v := .iface 69 (.agg #[.int .i64 c, .int .i64 i]), recovered := true } :: older)) (by rfl) (by rfl) (.tuple #[]) ?_ ⟨rfl, rfl, ?_, ?_, ?_⟩
    · simp [results, Try.results28]
    · repeat (first | (with_reducible refine Below.setCell ?_ (by first | exact Nat.le_refl _ | exact Nat.le_of_lt hVT) _) | (with_reducible refine Below.drew ?_) | (with_reducible exact HB1.out))
    · simp [World.setCell, World.drew, -World.drew_eq, Array.getElem?_modify, hVT2, hV2]
    · simp [World.setCell, World.drew, -World.drew_eq, Array.getElem?_modify, hVT1, hT2]

set_option maxRecDepth 100000 in
theorem catch_idle (V T : Nat) (w : World) :
    CallsD Try.prog 28 #[.pointer (some ⟨V, 0, none⟩), .pointer (some ⟨T, 0, none⟩)] .returning w fun e u' w' => e = .returned (.tuple #[]) ∧ u' = .returning ∧ w' = w := by
  refine callsD_of_wpS Try.func28 rfl fun c₀ cs hu => ?_
  have he : (#[.pointer (some ⟨V, 0, none⟩), .pointer (some ⟨T, 0, none⟩)] : Array Value) ++ Array.replicate (Try.f28.ntmps - (#[.pointer (some ⟨V, 0, none⟩), .pointer (some ⟨T, 0, none⟩)] : Array Value).size) undef = #[.pointer (some ⟨V, 0, none⟩), .pointer (some ⟨T, 0, none⟩), undef, undef, undef, undef, undef, undef, undef, undef, undef, undef, undef, undef, undef, undef, undef, undef] := by rw [Try.ntmps28]; rfl
  rw [he]
  apply wpS_seq
  apply wpS_region
  simp [wpOpsS, go_sem, recoverD, hu, Exit.thenS]
  refine wpS_of_wp ?_
  clear he
  go_wp2
  cases c₀
  simp_all [bodyPostS, results, Try.results28]

end Go.Proofs.Ytemcflfgoelpiaa
