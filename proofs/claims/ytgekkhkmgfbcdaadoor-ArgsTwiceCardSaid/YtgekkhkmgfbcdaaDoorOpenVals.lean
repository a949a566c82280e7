/- An argument that is the document's values: numbers, yes or no, and texts, by their keys' order. -/
import Derived.Test.YtgekkhkmgfbcdaaDoorArgsShowsLaw
import Derived.Test.YtgekkhkmgfbcdaaDoorOpenStr
namespace Go.Proofs.YtgekkhkmgfbcdaaDoor
open Go.ChangeShapes Go.WideShapes Go.ChangeAt Go.RowKit

theorem cut_at {cs : List Value} {o : Nat} {x : Value} (h : (cs.drop o).take 1 = [x]) : cs[o]? = some x := by
  have := congrArg (·[0]?) h
  simpa [List.getElem?_take, List.getElem?_drop] using this

section
variable {H : Type} {enc : TypeId × Value → H} {P : Program} {W : World}
theorem weights_all {e : TypeId} {d : DataW H} {m : Nat} : ∀ {l : List (DataW H)}, d ∈ l → m ∈ d.weights P e → m ∈ DataW.weightsAll P e l
  | x :: l, h, hm => by
    show m ∈ x.weights P e ++ DataW.weightsAll P e l
    rcases List.mem_cons.1 h with rfl | h
    · exact List.mem_append_left _ hm
    · exact List.mem_append_right _ (weights_all h hm)
theorem flat_nil {α β : Type} {xs : List (α × List β)} (h : ∀ x ∈ xs, x.2 = []) : xs.flatMap (·.2) = [] := by
  induction xs with
  | nil => rfl
  | cons x xs ih => rw [List.flatMap_cons, h x List.mem_cons_self, ih fun y hy => h y (List.mem_cons_of_mem _ hy)]; rfl

theorem arr_each {n : Nat} {t e : TypeId} {fuel : Nat} {cs : List Value} {x : DataW H × List MemPlace} {Q : Value → DataW H → Prop} (ht : P.underlying t = some (.array n e)) (hc : P.cellsOf e = 1) (h : DataW.trod enc P W 0 (fun _ => true) true fuel t cs = some x)
    (hq : ∀ m cs y, DataW.trod enc P W 0 (fun _ => true) true m e cs = some y → ∃ v, cs = [v] ∧ y.2 = [] ∧ Q v y.1) :
    x.2 = [] ∧ ∃ parts, x.1 = .agg parts ∧ ∀ i, i < n → ∃ v d, cs[i]? = some v ∧ d ∈ parts ∧ Q v d := by
  obtain ⟨xs, m, _, rfl, hl, hlen, hf⟩ := DataW.trod_array ht h
  have key : ∀ i (hi : i < xs.length), ∃ v, cs[i]? = some v ∧ xs[i].2 = [] ∧ Q v xs[i].1 := by
    intro i hi
    have := hf i (by omega)
    rw [hc, Nat.mul_one, List.getElem?_eq_getElem hi] at this
    obtain ⟨v, h1, h2, h3⟩ := hq _ _ _ this
    exact ⟨v, cut_at h1, h2, h3⟩
  refine ⟨flat_nil fun x hx => ?_, _, rfl, fun i hi => ?_⟩
  · obtain ⟨i, hi, rfl⟩ := List.getElem_of_mem hx
    exact (key i hi).choose_spec.2.1
  · obtain ⟨v, h1, _, h3⟩ := key i (by omega)
    exact ⟨v, xs[i].1, h1, List.mem_map_of_mem (List.getElem_mem _), h3⟩
end

theorem vals_fields : ∃ f0 f1 f2 : Field, Tryd.prog.underlying 50 = some (.struct #[f0, f1, f2]) ∧ f0.type = 42 ∧ f1.type = 43 ∧ f2.type = 44 ∧ f0.offset = 0 ∧ f1.offset = 5 ∧ f2.offset = 15 :=
  ⟨_, _, _, Tryd.underlying50, rfl, rfl, rfl, rfl, rfl, rfl⟩
theorem c_vals : Tryd.prog.cellsOf 50 = 18 := by kernel_rfl
theorem c_int : Tryd.prog.cellsOf 3 = 1 := by kernel_rfl
theorem c_bool : Tryd.prog.cellsOf 4 = 1 := by kernel_rfl
theorem c_str : Tryd.prog.cellsOf 9 = 1 := by kernel_rfl
theorem c_a5 : Tryd.prog.cellsOf 42 = 5 := by kernel_rfl
theorem c_a10 : Tryd.prog.cellsOf 43 = 10 := by kernel_rfl
theorem c_a3 : Tryd.prog.cellsOf 44 = 3 := by kernel_rfl
theorem take_at {cs : List Value} {o n i : Nat} (h : i < n) : ((cs.drop o).take n)[i]? = cs[o + i]? := by rw [List.getElem?_take, if_pos h, List.getElem?_drop]

section
variable {H : Type} {enc : TypeId × Value → H} {W : World}
set_option maxRecDepth 100000 in
theorem open_vals {r : Reach} {b0 : Nat} {v : Value} {d : DataW H} {p : List MemPlace} {ts : List TypeId} {ds : List (DataW H)} {j : Nat} (hv : Value.okWide Tryd.prog W r b0 50 v)
    (h : DataW.Trod enc Tryd.prog W 0 (fun _ => true) true 50 v d p) (hsz : (DataW.weightsEach Tryd.prog ts ds).all (· ≤ reachBytes) = true) (hj : ts[j]? = some 50) (hd : ds[j]? = some d) :
    ∃ vs : List Value, v = .agg vs.toArray ∧ Typed vs ∧ Ints vs ∧ Bound vs ∧ p = [] := by
  obtain ⟨f0, f1, f2, hu, t0, t1, t2, o0, o1, o2⟩ := vals_fields
  obtain ⟨cs, rfl, hcs⟩ := okWide_struct hu hv
  rw [c_vals] at hcs
  obtain ⟨fuel, hf⟩ := h
  have hcl : (Value.agg cs).cells.toList = cs.toList := rfl
  rw [hcl] at hf
  obtain ⟨xs, m, _, hx, _, hlen, hg⟩ := DataW.trod_struct hu hf
  simp only [Prod.mk.injEq] at hx
  obtain ⟨rfl, rfl⟩ := hx
  match xs, hlen, hg with
  | [y0, y1, y2], _, hg =>
    have g0 : DataW.trod enc Tryd.prog W 0 (fun _ => true) true m 42 ((cs.toList.drop 0).take 5) = some y0 := by have := hg 0 f0 rfl; rw [t0, o0, c_a5] at this; exact this
    have g1 : DataW.trod enc Tryd.prog W 0 (fun _ => true) true m 43 ((cs.toList.drop 5).take 10) = some y1 := by have := hg 1 f1 rfl; rw [t1, o1, c_a10] at this; exact this
    have g2 : DataW.trod enc Tryd.prog W 0 (fun _ => true) true m 44 ((cs.toList.drop 15).take 3) = some y2 := by have := hg 2 f2 rfl; rw [t2, o2, c_a3] at this; exact this
    obtain ⟨q0, ps0, _, a0⟩ := arr_each (Q := fun v _ => ∃ n : Int, v = .int .i64 n ∧ -9223372036854775808 ≤ n ∧ n ≤ 9223372036854775807) Tryd.underlying42 c_int g0 (fun m cs y hy => by
      obtain ⟨n, h1, h2, h3⟩ := DataW.trod_int Tryd.underlying3 hy
      refine ⟨_, h1, by rw [h2], n, rfl, ?_⟩
      simpa [Lit.wf, IntKind.has, IntKind.min, IntKind.max, IntKind.bits, IntKind.signed] using h3)
    obtain ⟨q1, ps1, _, a1⟩ := arr_each (Q := fun v _ => ∃ b : Bool, v = .bool b) Tryd.underlying43 c_bool g1 (fun m cs y hy => by
      obtain ⟨b, h1, h2⟩ := DataW.trod_bool Tryd.underlying4 hy
      exact ⟨_, h1, by rw [h2], b, rfl⟩)
    obtain ⟨q2, ps2, e2, a2⟩ := arr_each (Q := fun v d => ∃ s : ByteArray, v = .string s ∧ d = .lit (.string s.data.toList)) Tryd.underlying44 c_str g2 (fun m cs y hy => by
      obtain ⟨s, h1, h2, _⟩ := DataW.trod_string Tryd.underlying9 hy
      exact ⟨_, h1, by rw [h2], s, rfl, by rw [h2]⟩)
    have hsb : ∀ i, i < 3 → ∀ s, cs.toList[15 + i]? = some (.string s) → s.size ≤ 140737488355328 := by
      intro i hi s hs
      obtain ⟨v, d, h1, h2, s', h3, h4⟩ := a2 i hi
      rw [take_at hi, hs] at h1
      injection h1 with h1
      subst h1
      injection h3 with h3
      subst h3
      have hw : s.data.toList.length ∈ DataW.weightsEach Tryd.prog ts ds := by
        refine DataW.weights_mem_each hj hd _ ?_
        have : s.data.toList.length ∈ y2.1.weights Tryd.prog 44 := by
          rw [e2]
          simp only [DataW.weights, Tryd.underlying44]
          exact weights_all h2 (by rw [h4]; simp [DataW.weights])
        simp only [DataW.weights, hu, List.map_cons, List.map_nil, DataW.weightsEach, t0, t1, t2, List.mem_append]
        exact Or.inr (Or.inr (Or.inl this))
      have h1 : s.data.toList.length ≤ reachBytes := of_decide_eq_true (List.all_eq_true.1 hsz _ hw)
      rw [len_bytes] at h1
      unfold reachBytes at h1
      omega
    have hl18 : cs.toList.length = 18 := by rw [Array.length_toList]; exact hcs
    refine ⟨cs.toList, by simp, ⟨hl18, fun j hj => ⟨fun h5 => ?_, fun h5 h15 => ?_, fun h15 => ?_⟩⟩, fun j h5 n hn => ?_, fun j h15 h18 s hs => ?_, ?_⟩
    · obtain ⟨v, _, h1, _, n, rfl, _⟩ := a0 j h5
      rw [take_at h5, Nat.zero_add] at h1
      exact ⟨n, h1⟩
    · obtain ⟨v, _, h1, _, b, rfl⟩ := a1 (j - 5) (by omega)
      rw [take_at (by omega), show 5 + (j - 5) = j by omega] at h1
      exact ⟨b, h1⟩
    · obtain ⟨v, _, h1, _, s, rfl, _⟩ := a2 (j - 15) (by omega)
      rw [take_at (by omega), show 15 + (j - 15) = j by omega] at h1
      exact ⟨s, h1⟩
    · obtain ⟨v, _, h1, _, n', rfl, hb⟩ := a0 j h5
      rw [take_at h5, Nat.zero_add, hn] at h1
      injection h1 with h1
      injection h1 with _ h1
      subst h1
      exact hb
    · exact hsb (j - 15) (by omega) s (by rw [show 15 + (j - 15) = j by omega]; exact hs)
    · show y0.2 ++ (y1.2 ++ (y2.2 ++ [])) = []
      rw [q0, q1, q2]; rfl
end

end Go.Proofs.YtgekkhkmgfbcdaaDoor
