/- An argument that is a text, opened with the form's own bound on its size. -/
import Derived.Test.YtgekkhkmgfbcdaaDoorRows
import Derived.WalkKit
import Derived.ProofKit
import Derived.OpenShut
import Derived.Deep.CondSized
namespace Go.Proofs.YtgekkhkmgfbcdaaDoor
open Go.ChangeShapes Go.WideShapes Go.ChangeAt Go.RowKit
section
variable {H : Type} {enc : TypeId × Value → H} {P : Program} {W : World}
theorem open_str {t : TypeId} {v : Value} {d : DataW H} {p : List MemPlace} {ts : List TypeId} {ds : List (DataW H)} {j : Nat} (ht : P.underlying t = some .string) (hv : ∃ s, v = .string s)
    (h : DataW.Trod enc P W 0 (fun _ => true) true t v d p) (hsz : (DataW.weightsEach P ts ds).all (· ≤ reachBytes) = true) (hj : ts[j]? = some t) (hd : ds[j]? = some d) :
    ∃ s : ByteArray, v = .string s ∧ s.size ≤ 140737488355328 ∧ p = [] := by
  obtain ⟨s, rfl⟩ := hv
  obtain ⟨fuel, hf⟩ := h
  have hcs : (Value.string s).cells.toList = [.string s] := by simp [Value.cells]
  rw [hcs] at hf
  obtain ⟨s', e, hx, _⟩ := DataW.trod_string ht hf
  simp only [List.cons.injEq, and_true, Value.string.injEq] at e
  subst e
  simp only [Prod.mk.injEq] at hx
  obtain ⟨rfl, rfl⟩ := hx
  have := sized_string hsz hj hd
  have h2 : s.data.toList.length = s.size := by rw [Array.length_toList]; rfl
  refine ⟨s, rfl, ?_, rfl⟩
  simp only [reachBytes] at this
  omega
end
end Go.Proofs.YtgekkhkmgfbcdaaDoor
