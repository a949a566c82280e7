/- GENERAL: a region whose order is left open, by an invariant over what has come up, the frame and the world: each operation that may come up keeps it. -/
import Derived.Orders
namespace Go.Proofs.YtgekkhkmgfbcdaaDoor.AnyInv
open Go

variable {P : Program} {ops : Array Oper} {Q : Exit → Act → World → Prop} {md : Region.Mode}

theorem count_set_lt : ∀ (l : List Bool) (i : Nat), l[i]? = some false → (l.set i true).count false < l.count false
  | [], i, h => by simp at h
  | b :: l, 0, h => by
    simp at h
    subst h
    simp
  | b :: l, i + 1, h => by
    have h1 : l[i]? = some false := by simpa using h
    have := count_set_lt l i h1
    simp only [List.set_cons_succ, List.count_cons]
    omega

theorem wpAny_inv (Inv : Array Bool → Act → World → Prop) (hsz : ∀ L a w, Inv L a w → L.size = ops.size)
    (hstep : ∀ L a w, Inv L a w → ∀ i ∈ Region.ready md ops L, wpOp P ops Q i (Inv (L.setIfInBounds i true)) a w)
    (hend : ∀ L a w, Inv L a w → Region.ready md ops L = [] → Q .normal a w) :
    ∀ (fuel : Nat) (L : Array Bool) (a : Act) (w : World), L.toList.count false ≤ fuel → Inv L a w → wpAny P md ops Q fuel L a w := by
  have hlt : ∀ L a w, Inv L a w → ∀ i ∈ Region.ready md ops L, L.toList[i]? = some false := by
    intro L a w h i hi
    obtain ⟨h1, o, ho, _⟩ := mem_ready.1 hi
    have hs := hsz L a w h
    have hi2 : i < L.size := by
      rw [hs]
      rcases Nat.lt_or_ge i ops.size with h' | h'
      · exact h'
      · rw [Array.getElem?_eq_none h'] at ho; cases ho
    have h2 : L[i]? = some L[i] := Array.getElem?_eq_getElem hi2
    rw [Array.getD_eq_getD_getElem?, h2, Option.getD_some] at h1
    rw [Array.getElem?_toList, h2, h1]
  intro fuel
  induction fuel with
  | zero =>
    intro L a w hc h
    have hr : Region.ready md ops L = [] := by
      cases hr : Region.ready md ops L with
      | nil => rfl
      | cons i l =>
        have := count_set_lt _ _ (hlt L a w h i (by rw [hr]; exact List.mem_cons_self))
        omega
    exact ⟨hr, hend L a w h hr⟩
  | succ fuel ih =>
    intro L a w hc h
    refine ⟨hend L a w h, fun i hi => ?_⟩
    have := count_set_lt _ _ (hlt L a w h i hi)
    refine wpOp_mono (fun a' w' h' => ih _ _ _ ?_ h') (hstep L a w h i hi)
    rw [Array.toList_setIfInBounds]
    omega

/-- What is listed, the frame and the world, amidst the region. -/
structure Inv (md : Region.Mode) (ops : Array Oper) (a0 : Act) (V : Array Bool → Nat → Value → World → Prop) (S : Array Bool → World → Prop) (L : Array Bool) (a : Act) (w : World) : Prop where
  size : L.size = ops.size
  tm : a.tmps.size = a0.tmps.size
  df : a.defers = a0.defers
  out : ∀ k, (∀ (i : Nat) (o : Oper), ops[i]? = some o → o.dst ≠ some k) → a.tmps[k]? = a0.tmps[k]?
  has : ∀ (i : Nat) (o : Oper) (d : Tmp), L.getD i false = true → ops[i]? = some o → o.dst = some d → ∃ v, a.tmps[d]? = some v ∧ V L i v w
  cl : ∀ (i : Nat) (o : Oper), L.getD i false = true → ops[i]? = some o → ∀ e ∈ o.after, Region.binds md e = true → L.getD e.on false = true
  ok : S L w

variable {a0 : Act} {V : Array Bool → Nat → Value → World → Prop} {S : Array Bool → World → Prop} {L : Array Bool} {a : Act} {w : World}

theorem getD_set_self {L : Array Bool} {i : Nat} (h : i < L.size) : (L.setIfInBounds i true).getD i false = true := by
  simp [h]

theorem of_set {L : Array Bool} {i j : Nat} (h : (L.setIfInBounds i true).getD j false = true) : j = i ∨ L.getD j false = true := by
  by_cases e : j = i
  · exact .inl e
  · rw [getD_set_ne false (fun h => e h.symm)] at h
    exact .inr h

theorem Inv.next {i : Nat} {o : Oper} (h : Inv md ops a0 V S L a w) (hi : i ∈ Region.ready md ops L) (ho : ops[i]? = some o)
    (hd : ∀ d, o.dst = some d → d < a0.tmps.size ∧ ∀ j o', ops[j]? = some o' → o'.dst = some d → j = i) {v : Value} {w' : World}
    (hv : ∀ d, o.dst = some d → V (L.setIfInBounds i true) i v w') (hm : ∀ (j : Nat) (u : Value) (oj : Oper) (dj : Tmp), L.getD j false = true → ops[j]? = some oj → oj.dst = some dj → a.eval (.tmp dj) = u → V L j u w → V (L.setIfInBounds i true) j u w') (hS : S (L.setIfInBounds i true) w') :
    Inv md ops a0 V S (L.setIfInBounds i true) (a.put o.dst v) w' := by
  obtain ⟨h1, o1, ho1, hall⟩ := mem_ready.1 hi
  rw [ho] at ho1
  injection ho1 with ho1
  subst ho1
  have hput : ∀ k, o.dst ≠ some k → (a.put o.dst v).tmps[k]? = a.tmps[k]? := by
    intro k hk
    cases e : o.dst with
    | none => rfl
    | some d =>
      have : d ≠ k := fun e2 => hk (by rw [e, e2])
      simp [Act.put, Array.getElem?_setIfInBounds_ne this]
  refine ⟨by rw [Array.size_setIfInBounds]; exact h.size, ?_, ?_, ?_, ?_, ?_, hS⟩
  · rw [← h.tm]; cases o.dst <;> simp [Act.put]
  · rw [← h.df]; cases o.dst <;> rfl
  · intro k hk
    rw [hput k (hk i o ho)]
    exact h.out k hk
  · intro j oj d hj hoj hdj
    rcases of_set hj with e | hj2
    · subst e
      rw [ho] at hoj
      injection hoj with hoj
      subst hoj
      refine ⟨v, ?_, hv d hdj⟩
      have := (hd d hdj).1
      rw [← h.tm] at this
      rw [hdj]
      simp [Act.put, this]
    · obtain ⟨u, hu, hV⟩ := h.has j oj d hj2 hoj hdj
      by_cases e : o.dst = some d
      · obtain rfl := (hd d e).2 j oj hoj hdj
        rw [Array.getD_eq_getD_getElem?] at hj2 h1
        cases hx : L[j]? with
        | none => simp [hx] at hj2
        | some b =>
          simp only [hx, Option.getD_some] at hj2 h1
          rw [hj2] at h1
          cases h1
      · exact ⟨u, by rw [hput d e]; exact hu, hm j u oj d hj2 hoj hdj (by simp [Act.eval, Array.getD_eq_getD_getElem?, hu]) hV⟩
  · intro j oj hj hoj e he hb
    rcases of_set hj with e2 | hj2
    · subst e2
      rw [ho] at hoj
      injection hoj with hoj
      subst hoj
      exact getD_set_true (hall e he hb)
    · exact getD_set_true (h.cl j oj hj2 hoj e he hb)

/-- At the end all have come up. -/
theorem Inv.all (h : Inv md ops a0 V S L a w) (hr : Region.ready md ops L = []) (hlow : ∀ (i : Nat) (o : Oper), ops[i]? = some o → ∀ e ∈ o.after, Region.binds md e = true → e.on < i) :
    ∀ i, i < ops.size → L.getD i false = true := by
  intro i
  induction i using Nat.strongRecOn with
  | _ i ih =>
    intro hi
    cases hb : L.getD i false with
    | true => rfl
    | false =>
      have hi2 : i < L.size := by rw [h.size]; exact hi
      have : i ∈ Region.ready md ops L := by
        refine mem_ready.2 ⟨?_, ops[i], Array.getElem?_eq_getElem hi, fun e he hb2 => ?_⟩
        · rw [Array.getD_eq_getD_getElem?, Array.getElem?_eq_getElem hi2] at hb ⊢
          simpa using hb
        · have := hlow i _ (Array.getElem?_eq_getElem hi) e he hb2
          exact ih e.on this (by omega)
      rw [hr] at this
      cases this

theorem wpOp_value {i : Nat} {o : Oper} {K : Act → World → Prop} {v : Value} {w' : World} (ho : ops[i]? = some o) (hg : o.guard = none) (hr : (execOp a.eval o).run P w = .ok (.value v) w') (hK : K (a.put o.dst v) w') : wpOp P ops Q i K a w := by
  unfold wpOp
  simp only [ho]
  have : Region.wanted o (yielded ops a.tmps) = true := by unfold Region.wanted; rw [hg]
  simp only [this, if_true, Oper.wp, hr, Oper.upon]
  exact .inl hK
theorem wpOp_skip {i : Nat} {o : Oper} {K : Act → World → Prop} {w' : World} (ho : ops[i]? = some o) (hg : o.guard = none) (hr : (execOp a.eval o).run P w = .ok .skip w') (hK : K (a.put o.dst undef) w') : wpOp P ops Q i K a w := by
  unfold wpOp
  simp only [ho]
  have : Region.wanted o (yielded ops a.tmps) = true := by unfold Region.wanted; rw [hg]
  simp only [this, if_true, Oper.wp, hr, Oper.upon]
  exact .inl hK
theorem wpOp_enter {i : Nat} {o : Oper} {K : Act → World → Prop} {f : FuncId} {args : Array Value} {w' : World} (ho : ops[i]? = some o) (hg : o.guard = none) (hr : (execOp a.eval o).run P w = .ok (.enter f args) w')
    (hc : Calls P f args w' fun e w'' => ∃ v, e = .returned v ∧ K (a.put o.dst v) w'') : wpOp P ops Q i K a w := by
  unfold wpOp
  simp only [ho]
  have : Region.wanted o (yielded ops a.tmps) = true := by unfold Region.wanted; rw [hg]
  simp only [this, if_true, Oper.wp, hr, Oper.upon]
  refine .inl (hc.mono ?_)
  rintro e w'' ⟨v, rfl, h⟩
  exact h

/-- The value that an earlier one has left. -/
theorem Inv.eval (h : Inv md ops a0 V S L a w) {i : Nat} {o : Oper} {d : Nat} (hl : L.getD i false = true) (ho : ops[i]? = some o) (hd : o.dst = some d) : ∃ v, a.eval (.tmp d) = v ∧ V L i v w := by
  obtain ⟨v, hv, hV⟩ := h.has i o d hl ho hd
  exact ⟨v, by simp [Act.eval, Array.getD_eq_getD_getElem?, hv], hV⟩
theorem Inv.old (h : Inv md ops a0 V S L a w) {k : Nat} (hk : ∀ (i : Nat) (o : Oper), ops[i]? = some o → o.dst ≠ some k) : a.eval (.tmp k) = a0.eval (.tmp k) := by
  simp [Act.eval, Array.getD_eq_getD_getElem?, h.out k hk]
/-- What an operation of the region is. -/
def Is (md : Region.Mode) (ops : Array Oper) (i : Nat) (d : Option Tmp) (op : Op) (af : List Nat) : Prop :=
  ∃ o, ops[i]? = some o ∧ o.dst = d ∧ o.op = op ∧ o.guard = none ∧ (af.all fun x => o.after.toList.any fun e => Region.binds md e && e.on == x) = true
/-- No two leave their value in one slot. -/
def uniqB (ops : Array Oper) : Bool := (List.range ops.size).all fun i => (List.range ops.size).all fun j =>
  i == j || (match (ops[i]?).bind (·.dst), (ops[j]?).bind (·.dst) with | some x, some y => x != y | _, _ => true)
def lowB (md : Region.Mode) (ops : Array Oper) : Bool := (List.range ops.size).all fun i => ((ops[i]?).map fun o => o.after.toList.all fun e => !Region.binds md e || decide (e.on < i)).getD true
def notB (ops : Array Oper) (k : Nat) : Bool := (List.range ops.size).all fun i => (ops[i]?).bind (·.dst) != some k
def boundB (ops : Array Oper) (n : Nat) : Bool := (List.range ops.size).all fun i => (((ops[i]?).bind (·.dst)).map fun d => decide (d < n)).getD true
def coversB (ops : Array Oper) (ds : List Nat) : Bool := (List.range ops.size).all fun i => (((ops[i]?).bind (·.dst)).map fun d => ds.contains d).getD true
theorem lt_of_some {ops : Array Oper} {i : Nat} {o : Oper} (h : ops[i]? = some o) : i < ops.size := (Array.getElem?_eq_some_iff.1 h).1
theorem uniq_of (h : uniqB ops = true) {i j : Nat} {x y : Oper} {d : Tmp} (hi : ops[i]? = some x) (hj : ops[j]? = some y) (hx : x.dst = some d) (hy : y.dst = some d) : i = j := by
  have := List.all_eq_true.1 (List.all_eq_true.1 h i (List.mem_range.2 (lt_of_some hi))) j (List.mem_range.2 (lt_of_some hj))
  simpa [hi, hj, hx, hy] using this
theorem low_of (h : lowB md ops = true) (i : Nat) (o : Oper) (hi : ops[i]? = some o) (e : Edge) (he : e ∈ o.after) (hb : Region.binds md e = true) : e.on < i := by
  have := List.all_eq_true.1 h i (List.mem_range.2 (lt_of_some hi))
  simp only [hi, Option.map_some, Option.getD_some] at this
  have := List.all_eq_true.1 this e (by simpa using he)
  simpa [hb] using this
theorem not_of {k : Nat} (h : notB ops k = true) (i : Nat) (o : Oper) (hi : ops[i]? = some o) : o.dst ≠ some k := by
  have := List.all_eq_true.1 h i (List.mem_range.2 (lt_of_some hi))
  simpa [hi] using this
theorem bound_of {n : Nat} (h : boundB ops n = true) {i : Nat} {o : Oper} {d : Tmp} (hi : ops[i]? = some o) (hd : o.dst = some d) : d < n := by
  have := List.all_eq_true.1 h i (List.mem_range.2 (lt_of_some hi))
  simpa [hi, hd] using this

theorem covers_of {ds : List Nat} (h : coversB ops ds = true) {k : Nat} (hk : k ∉ ds) (i : Nat) (o : Oper) (hi : ops[i]? = some o) : o.dst ≠ some k := by
  intro e
  have := List.all_eq_true.1 h i (List.mem_range.2 (lt_of_some hi))
  simp only [hi, Option.bind_some, e, Option.map_some, Option.getD_some] at this
  exact hk (List.contains_iff_mem.1 this)

/-- An earlier one's value, by what the operation is. -/
theorem Inv.got (h : Inv md ops a0 V S L a w) {i : Nat} {d : Tmp} {op : Op} {af : List Nat} (hl : L.getD i false = true) (hI : Is md ops i (some d) op af) : ∃ v, a.eval (.tmp d) = v ∧ V L i v w := by
  obtain ⟨o, ho, hd, _⟩ := hI
  exact h.eval hl ho hd
/-- What an operation waits for has come up. -/
theorem Is.waits {i : Nat} {d : Option Tmp} {op : Op} {af : List Nat} (hI : Is md ops i d op af) (hr : i ∈ Region.ready md ops L) {x : Nat} (hx : x ∈ af) : L.getD x false = true := by
  obtain ⟨o, ho, _, _, _, hw⟩ := hI
  obtain ⟨_, o', ho', hall⟩ := mem_ready.1 hr
  rw [ho] at ho'
  injection ho' with ho'
  subst ho'
  obtain ⟨e, he, h2⟩ := List.any_eq_true.1 (List.all_eq_true.1 hw x hx)
  obtain ⟨hb, h3⟩ := Bool.and_eq_true_iff.1 h2
  obtain rfl := eq_of_beq h3
  exact hall e (by simpa using he) hb
theorem Inv.before (h : Inv md ops a0 V S L a w) {i : Nat} {d : Option Tmp} {op : Op} {af : List Nat} (hI : Is md ops i d op af) (hl : L.getD i false = true) {x : Nat} (hx : x ∈ af) : L.getD x false = true := by
  obtain ⟨o, ho, _, _, _, hw⟩ := hI
  obtain ⟨e, he, h2⟩ := List.any_eq_true.1 (List.all_eq_true.1 hw x hx)
  obtain ⟨hb, h3⟩ := Bool.and_eq_true_iff.1 h2
  obtain rfl := eq_of_beq h3
  exact h.cl i o hl ho e (by simpa using he) hb

/-- A step that leaves a value. -/
theorem Inv.value (h : Inv md ops a0 V S L a w) {i : Nat} (hr : i ∈ Region.ready md ops L) (hu : uniqB ops = true) (hb : boundB ops a0.tmps.size = true) {d : Tmp} {op : Op} {af : List Nat} (hI : Is md ops i (some d) op af) (v : Value) (w' : World)
    (hrun : ∀ o : Oper, o.op = op → (execOp a.eval o).run P w = .ok (.value v) w') (hv : V (L.setIfInBounds i true) i v w') (hm : ∀ j u, L.getD j false = true → V L j u w → V (L.setIfInBounds i true) j u w') (hS : S (L.setIfInBounds i true) w') :
    wpOp P ops Q i (Inv md ops a0 V S (L.setIfInBounds i true)) a w := by
  obtain ⟨o, ho, hd, hop, hg, _⟩ := hI
  refine wpOp_value ho hg (hrun o hop) (h.next hr ho (fun d' hd' => ⟨bound_of hb ho hd', fun j o' hj hd2 => uniq_of hu hj ho hd2 hd'⟩) (fun _ _ => hv) (fun j u _ _ hj _ _ _ hx => hm j u hj hx) hS)
theorem Inv.skip (h : Inv md ops a0 V S L a w) {i : Nat} (hr : i ∈ Region.ready md ops L) {op : Op} {af : List Nat} (hI : Is md ops i none op af) (w' : World)
    (hrun : ∀ o : Oper, o.op = op → (execOp a.eval o).run P w = .ok .skip w') (hm : ∀ (j : Nat) (u : Value) (oj : Oper) (dj : Tmp), L.getD j false = true → ops[j]? = some oj → oj.dst = some dj → a.eval (.tmp dj) = u → V L j u w → V (L.setIfInBounds i true) j u w') (hS : S (L.setIfInBounds i true) w') :
    wpOp P ops Q i (Inv md ops a0 V S (L.setIfInBounds i true)) a w := by
  obtain ⟨o, ho, hd, hop, hg, _⟩ := hI
  refine wpOp_skip ho hg (hrun o hop) (h.next hr ho (fun d' hd' => by rw [hd] at hd'; cases hd') (fun d' hd' => by rw [hd] at hd'; cases hd') hm hS)
theorem Inv.enter (h : Inv md ops a0 V S L a w) {i : Nat} (hr : i ∈ Region.ready md ops L) (hu : uniqB ops = true) (hb : boundB ops a0.tmps.size = true) {d : Tmp} {op : Op} {af : List Nat} (hI : Is md ops i (some d) op af) (f : FuncId) (args : Array Value)
    (hrun : ∀ o : Oper, o.op = op → (execOp a.eval o).run P w = .ok (.enter f args) w) {R : Value → World → Prop} (hc : Calls P f args w fun e w' => ∃ v, e = .returned v ∧ R v w')
    (hv : ∀ v w', R v w' → V (L.setIfInBounds i true) i v w' ∧ (∀ j u, L.getD j false = true → V L j u w → V (L.setIfInBounds i true) j u w') ∧ S (L.setIfInBounds i true) w') :
    wpOp P ops Q i (Inv md ops a0 V S (L.setIfInBounds i true)) a w := by
  obtain ⟨o, ho, hd, hop, hg, _⟩ := hI
  refine wpOp_enter ho hg (hrun o hop) (hc.mono ?_)
  rintro e w' ⟨v, rfl, hR⟩
  obtain ⟨h1, h2, h3⟩ := hv v w' hR
  exact ⟨v, rfl, h.next hr ho (fun d' hd' => ⟨bound_of hb ho hd', fun j o' hj hd2 => uniq_of hu hj ho hd2 hd'⟩) (fun _ _ => h1) (fun j u _ _ hj _ _ _ hx => h2 j u hj hx) h3⟩

/-- The start. -/
theorem Inv.start (hS : S (Array.replicate ops.size false) w) : Inv md ops a0 V S (Array.replicate ops.size false) a0 w := by
  have h0 : ∀ i, (Array.replicate ops.size false).getD i false = false := by
    intro i
    rw [Array.getD_eq_getD_getElem?]
    rcases Nat.lt_or_ge i ops.size with h | h
    · simp [h]
    · rw [Array.getElem?_eq_none (by simpa using h)]; rfl
  exact ⟨by simp, rfl, rfl, fun _ _ => rfl, fun i o d h => (by rw [h0 i] at h; cases h), fun i o h => (by rw [h0 i] at h; cases h), hS⟩

/-- The frame at the end: as it was but for the slots that the region's operations leave. -/
theorem frame_of {a a0 : Act} (ds : List Nat) (hs : a.tmps.size = a0.tmps.size) (hd : a.defers = a0.defers) (hout : ∀ k, k ∉ ds → a.tmps[k]? = a0.tmps[k]?) :
    a = ⟨ds.foldl (fun t d => t.setIfInBounds d (a.tmps.getD d undef)) a0.tmps, a0.defers⟩ := by
  have hz : ∀ (ds : List Nat) (t : Array Value), (ds.foldl (fun t d => t.setIfInBounds d (a.tmps.getD d undef)) t).size = t.size := by
    intro ds
    induction ds with
    | nil => intro t; rfl
    | cons d ds ih => intro t; rw [List.foldl_cons, ih, Array.size_setIfInBounds]
  have key : ∀ (ds : List Nat) (t : Array Value), t.size = a.tmps.size → ∀ k, (ds.foldl (fun t d => t.setIfInBounds d (a.tmps.getD d undef)) t)[k]? = if k ∈ ds then a.tmps[k]? else t[k]? := by
    intro ds
    induction ds with
    | nil => intro t _ k; simp
    | cons d ds ih =>
      intro t ht k
      rw [List.foldl_cons, ih _ (by rw [Array.size_setIfInBounds]; exact ht) k]
      by_cases hk : k ∈ ds
      · simp [hk]
      · by_cases e : k = d
        · subst e
          rcases Nat.lt_or_ge k t.size with h | h
          · have h2 : k < a.tmps.size := by omega
            simp [hk, h, h2]
          · have h2 : a.tmps.size ≤ k := by omega
            simp [hk, h, h2]
        · have e2 : d ≠ k := fun h => e h.symm
          simp [hk, e, Array.getElem?_setIfInBounds_ne e2]
  obtain ⟨t, df⟩ := a
  have : t = ds.foldl (fun t' d => t'.setIfInBounds d (t.getD d undef)) a0.tmps := by
    apply Array.ext_getElem?
    intro k
    rw [key ds a0.tmps hs.symm k]
    by_cases hk : k ∈ ds
    · simp [hk]
    · simp only [hk, if_false]; exact hout k hk
  simp only at hd
  rw [Act.mk.injEq]
  exact ⟨this, hd⟩
/-- A list with other values at some places (the places in their order). -/
def pick (f : Nat → Value) : Nat → List Nat → List Value → List Value
  | _, [], l => l
  | _, _ :: _, [] => []
  | k, d :: ds, x :: l => bif Nat.beq k d then f k :: pick f (k + 1) ds l else x :: pick f (k + 1) (d :: ds) l
theorem pick_length (f : Nat → Value) : ∀ (l : List Value) (k : Nat) (ds : List Nat), (pick f k ds l).length = l.length
  | [], k, ds => by cases ds <;> rfl
  | x :: l, k, [] => rfl
  | x :: l, k, d :: ds => by
    unfold pick
    cases Nat.beq k d <;> simp [pick_length f l]
theorem pick_get (f : Nat → Value) : ∀ (l : List Value) (k : Nat) (ds : List Nat) (j : Nat), j < l.length → (pick f k ds l)[j]? = l[j]? ∨ ((k + j) ∈ ds ∧ (pick f k ds l)[j]? = some (f (k + j)))
  | [], k, ds, j, h => by simp at h
  | x :: l, k, [], j, h => .inl rfl
  | x :: l, k, d :: ds, j, h => by
    unfold pick
    cases hb : Nat.beq k d with
    | true =>
      have e : k = d := Nat.eq_of_beq_eq_true hb
      cases j with
      | zero => exact .inr ⟨by simp [e], by simp⟩
      | succ j =>
        have h' : j < l.length := by simpa using h
        rcases pick_get f l (k + 1) ds j h' with h1 | ⟨h1, h2⟩
        · exact .inl (by simpa using h1)
        · have e2 : k + 1 + j = k + (j + 1) := by omega
          rw [e2] at h1 h2
          exact .inr ⟨List.mem_cons_of_mem _ h1, by simpa using h2⟩
    | false =>
      cases j with
      | zero => exact .inl (by simp)
      | succ j =>
        have h' : j < l.length := by simpa using h
        rcases pick_get f l (k + 1) (d :: ds) j h' with h1 | ⟨h1, h2⟩
        · exact .inl (by simpa using h1)
        · have e2 : k + 1 + j = k + (j + 1) := by omega
          rw [e2] at h1 h2
          exact .inr ⟨h1, by simpa using h2⟩
theorem pick_hit (f : Nat → Value) : ∀ (l : List Value) (k : Nat) (ds : List Nat), (∀ d ∈ ds, k ≤ d) → ds.Pairwise (· < ·) → ∀ j, j < l.length → (k + j) ∈ ds → (pick f k ds l)[j]? = some (f (k + j))
  | [], k, ds, _, _, j, h, _ => by simp at h
  | x :: l, k, [], _, _, j, h, hj => by simp at hj
  | x :: l, k, d :: ds, hk, hp, j, h, hj => by
    obtain ⟨hp1, hp2⟩ := List.pairwise_cons.1 hp
    unfold pick
    cases hb : Nat.beq k d with
    | true =>
      have e : k = d := Nat.eq_of_beq_eq_true hb
      cases j with
      | zero => simp
      | succ j =>
        have h' : j < l.length := by simpa using h
        have hj' : k + 1 + j ∈ ds := by
          rcases List.mem_cons.1 hj with h1 | h1
          · omega
          · have e2 : k + 1 + j = k + (j + 1) := by omega
            rw [e2]; exact h1
        have := pick_hit f l (k + 1) ds (fun y hy => by have := hp1 y hy; omega) hp2 j h' hj'
        have e2 : k + 1 + j = k + (j + 1) := by omega
        rw [e2] at this
        simpa using this
    | false =>
      have e : k ≠ d := fun e => by rw [e] at hb; simp at hb
      have hd := hk d List.mem_cons_self
      cases j with
      | zero =>
        exfalso
        rcases List.mem_cons.1 hj with h1 | h1
        · omega
        · have := hp1 _ h1; omega
      | succ j =>
        have h' : j < l.length := by simpa using h
        have e2 : k + 1 + j = k + (j + 1) := by omega
        have := pick_hit f l (k + 1) (d :: ds) (fun y hy => by
          rcases List.mem_cons.1 hy with h1 | h1
          · omega
          · have := hp1 y h1; omega) hp j h' (by rw [e2]; exact hj)
        rw [e2] at this
        simpa using this
theorem frame_pick {a a0 : Act} (ds : List Nat) (hs : a.tmps.size = a0.tmps.size) (hd : a.defers = a0.defers) (hp : ds.Pairwise (· < ·)) (hout : ∀ k, k ∉ ds → a.tmps[k]? = a0.tmps[k]?) :
    a = ⟨(pick (fun d => a.tmps.getD d undef) 0 ds a0.tmps.toList).toArray, a0.defers⟩ := by
  have key : ∀ k, k < a0.tmps.size → (pick (fun d => a.tmps.getD d undef) 0 ds a0.tmps.toList)[k]? = a.tmps[k]? := by
    intro k hk
    have hk2 : k < a.tmps.size := by omega
    by_cases h : k ∈ ds
    · have := pick_hit (fun d => a.tmps.getD d undef) a0.tmps.toList 0 ds (fun _ _ => Nat.zero_le _) hp k (by simpa using hk) (by simpa using h)
      rw [this]
      simp [hk2]
    · rcases pick_get (fun d => a.tmps.getD d undef) a0.tmps.toList 0 ds k (by simpa using hk) with h1 | ⟨h1, _⟩
      · rw [h1, hout k h]; simp
      · exact absurd (by simpa using h1) h
  have he : a.tmps = (pick (fun d => a.tmps.getD d undef) 0 ds a0.tmps.toList).toArray := by
    apply Array.ext_getElem?
    intro k
    rcases Nat.lt_or_ge k a0.tmps.size with h | h
    · rw [← key k h]; simp
    · exact (Array.getElem?_eq_none (by omega)).trans (by simp [pick_length, h])
  rw [← hd, ← he]
end Go.Proofs.YtgekkhkmgfbcdaaDoor.AnyInv
