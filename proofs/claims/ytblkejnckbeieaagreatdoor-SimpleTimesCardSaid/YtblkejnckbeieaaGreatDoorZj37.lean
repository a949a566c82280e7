/- What the bound of an '..UptoSaid' gives: a list's length.
  Laying of flat data into a world's variable; an argument that is a text. -/
import Derived.Test.YtblkejnckbeieaaGreatDoorRows
import Derived.WalkKit
import Derived.ProofKit
import Derived.OpenShut
namespace Go.Proofs.YtblkejnckbeieaaGreatDoor

theorem bulk_one {H : Type} (d : DataW H) : 1 ≤ Rows.uptoBulk d := by
  cases d with
  | lit l => cases l <;> simp [Rows.uptoBulk]
  | nil => simp [Rows.uptoBulk]
  | ptr d => simp [Rows.uptoBulk]
  | slice elems spare => simp [Rows.uptoBulk]
  | agg parts => simp [Rows.uptoBulk]
  | iface t d => simp [Rows.uptoBulk]
  | map entries => simp [Rows.uptoBulk]
  | held h => simp [Rows.uptoBulk]
theorem bulk_len {H : Type} (l : List (DataW H)) : l.length ≤ Rows.uptoBulkAll l := by
  induction l with
  | nil => simp [Rows.uptoBulkAll]
  | cons x r ih => have := bulk_one x; simp only [Rows.uptoBulkAll, List.length_cons]; omega
theorem bulk_part {H : Type} {d : DataW H} {l : List (DataW H)} (h : d ∈ l) : Rows.uptoBulk d ≤ Rows.uptoBulkAll l := by
  induction l with
  | nil => cases h
  | cons x r ih =>
    simp only [Rows.uptoBulkAll]
    rcases List.mem_cons.1 h with rfl | h
    · omega
    · have := ih h; omega
/-- A list among what came in is no longer than the bound. -/
theorem bulk_list {H : Type} {d : DataW H} {ds : List (DataW H)} {n : Nat} (hk : Rows.uptoSmall H ds = true) (hd : d ∈ ds) (h : d = .nil ∨ ∃ elems spare, d = .slice elems spare ∧ elems.length = n) (h0 : d = .nil → n = 0) : n ≤ 1048576 := by
  have hb : Rows.uptoBulkAll ds ≤ 1048576 := of_decide_eq_true hk
  have hp := bulk_part hd
  rcases h with rfl | ⟨elems, spare, rfl, rfl⟩
  · rw [h0 rfl]; omega
  · have := bulk_len elems
    simp only [Rows.uptoBulk] at hp
    omega

end Go.Proofs.YtblkejnckbeieaaGreatDoor

namespace Go.Proofs.YtblkejnckbeieaaGreatDoor
open Go.ChangeShapes Go.WideShapes Go.ChangeAt Go.RowKit

mutual
/-- The cells of a datum that is all numbers. -/
def flatD : DataW Unit → List Value
  | .lit (.int k n) => [.int k n]
  | .lit (.bool b) => [.bool b]
  | .lit (.float k b) => [.float k b]
  | .agg parts => flatDs parts
  | _ => []
def flatDs : List (DataW Unit) → List Value
  | [] => []
  | d :: r => flatD d ++ flatDs r
end
def lay (d : DataW Unit) : Obj → Obj
  | .cells _ t frozen => .cells (flatD d).toArray t frozen
  | o => o

section
variable {H : Type} {enc : TypeId × Value → H} {P : Program} {W : World}
theorem open_text {t : TypeId} {v : Value} {d : DataW H} {p : List MemPlace} (ht : P.underlying t = some .string) (hv : ∃ s, v = .string s)
    (h : DataW.Trod enc P W 0 (fun _ => true) true t v d p) : ∃ s : ByteArray, v = .string s ∧ d = .lit (.string s.data.toList) ∧ p = [] ∧ s.size ≤ maxLen := by
  obtain ⟨s, rfl⟩ := hv
  obtain ⟨fuel, hf⟩ := h
  have hcs : (Value.string s).cells.toList = [.string s] := by simp [Value.cells]
  rw [hcs] at hf
  obtain ⟨s', e, hx, hn⟩ := DataW.trod_string ht hf
  simp only [List.cons.injEq, and_true, Value.string.injEq] at e
  subst e
  simp only [Prod.mk.injEq] at hx
  exact ⟨s, rfl, hx.1, hx.2, hn⟩
end

/-- A text among what came in is no longer than the bound. -/
theorem text_bulk {H : Type} {s : ByteArray} {ds : List (DataW H)} (hk : Rows.uptoSmall H ds = true) (hd : DataW.lit (.string s.data.toList) ∈ ds) : s.size ≤ 1048576 := by
  have hb : Rows.uptoBulkAll ds ≤ 1048576 := of_decide_eq_true hk
  have hp := bulk_part hd
  have h2 : s.data.toList.length = s.size := by rw [Array.length_toList]; rfl
  simp only [Rows.uptoBulk] at hp
  omega

end Go.Proofs.YtblkejnckbeieaaGreatDoor
