/- The form's own reach, of each text behind a slice that came in. -/
import Derived.Test.YtemcflfgoelpiaaOpenStrs
import Derived.SizedLaws
namespace Go.Proofs.Ytemcflfgoelpiaa
open Go.ChangeShapes Go.WideShapes Go.RowKit Go.ChangeShapes

theorem weightsAll_mem {H : Type} {P : Program} {e : TypeId} : ∀ {l : List (DataW H)} {d : DataW H}, d ∈ l → ∀ n ∈ d.weights P e, n ∈ DataW.weightsAll P e l
  | d' :: r, d, hd, n, hn => by
    simp only [DataW.weightsAll, List.mem_append]
    rcases List.mem_cons.1 hd with rfl | h
    · exact Or.inl hn
    · exact Or.inr (weightsAll_mem h n hn)
theorem strs_sizes {H : Type} {P : Program} {ts : List TypeId} {ds : List (DataW H)} (h : (DataW.weightsEach P ts ds).all (· ≤ reachBytes) = true) {j : Nat} {t e : TypeId} {d : DataW H} {l : List ByteArray}
    (ht : ts[j]? = some t) (hd : ds[j]? = some d) (hu : P.underlying t = some (.slice e)) (hx : (d = .nil ∧ l = []) ∨ ∃ sp, d = .slice (strs l) sp) : ∀ x ∈ l, x.size ≤ 140737488355328 := by
  intro x hm
  rcases hx with ⟨_, rfl⟩ | ⟨sp, rfl⟩
  · cases hm
  · have hn : x.data.toList.length ∈ (DataW.slice (strs l) sp : DataW H).weights P t := by
      simp only [DataW.weights, hu, List.mem_cons, List.mem_append]
      refine Or.inr (Or.inl (weightsAll_mem (d := .lit (.string x.data.toList)) (List.mem_map.2 ⟨x, hm, rfl⟩) _ ?_))
      simp [DataW.weights]
    have := List.all_eq_true.1 h _ (DataW.weights_mem_each ht hd _ hn)
    have h2 : x.data.toList.length = x.size := by rw [Array.length_toList]; rfl
    have h3 : x.data.toList.length ≤ reachBytes := by simpa using this
    simp only [reachBytes] at h3
    omega

end Go.Proofs.Ytemcflfgoelpiaa
