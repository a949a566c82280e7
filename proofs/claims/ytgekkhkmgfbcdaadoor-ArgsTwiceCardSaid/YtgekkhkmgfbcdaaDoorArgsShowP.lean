/- Chapter 25: what Show writes, in plain Lean; read again it is what it was made of. -/
import Derived.Test.YtgekkhkmgfbcdaaDoorArgsParLaw
namespace Go.Proofs.YtgekkhkmgfbcdaaDoor
open Go.Shelf Go.RowKit

/-- A value's text; none: it is zero. -/
def valS : Value → ByteArray
  | .int _ n => if n = 0 then ⟨#[]⟩ else bytesOf (Lib.itoa n)
  | .bool true => ⟨#[121, 101, 115]⟩
  | .string s => s
  | _ => ⟨#[]⟩
def nz (vs : List Value) (j : Nat) : Bool := (valS (vs.getD j undef)).size != 0
/-- The keys whose values are shown. -/
def jsOf (vs : List Value) (k : Nat) : List Nat := (List.range k).filter (nz vs)
def prsOf (vs : List Value) (js : List Nat) : List ByteArray := js.flatMap fun j => [keyN j, valS (vs.getD j undef)]
theorem jsOf_yes {vs : List Value} {k : Nat} (h : nz vs k = true) : jsOf vs (k + 1) = jsOf vs k ++ [k] := by
  unfold jsOf
  rw [List.range_succ, List.filter_append, List.filter_cons_of_pos h]
  rfl
theorem jsOf_no {vs : List Value} {k : Nat} (h : nz vs k = false) : jsOf vs (k + 1) = jsOf vs k := by
  unfold jsOf
  rw [List.range_succ, List.filter_append, List.filter_cons_of_neg (by rw [h]; decide)]
  simp
theorem prsOf_app (vs : List Value) (a b : List Nat) : prsOf vs (a ++ b) = prsOf vs a ++ prsOf vs b := by unfold prsOf; rw [List.flatMap_append]
theorem prsOf_yes {vs : List Value} {k : Nat} (h : nz vs k = true) : prsOf vs (jsOf vs (k + 1)) = prsOf vs (jsOf vs k) ++ [keyN k, valS (vs.getD k undef)] := by
  rw [jsOf_yes h, prsOf_app]; rfl
theorem prsOf_len (vs : List Value) (js : List Nat) : (prsOf vs js).length = 2 * js.length := by
  induction js with
  | nil => rfl
  | cons j js ih => show ([keyN j, valS (vs.getD j undef)] ++ prsOf vs js).length = _; rw [List.length_append, ih]; simp; omega
theorem jsOf_mem {vs : List Value} {k j : Nat} : j ∈ jsOf vs k ↔ j < k ∧ nz vs j = true := by unfold jsOf; rw [List.mem_filter, List.mem_range]
theorem jsOf_nodup (vs : List Value) (k : Nat) : (jsOf vs k).Nodup := List.nodup_range.filter _
theorem jsOf_len (vs : List Value) (k : Nat) : (jsOf vs k).length ≤ k := by
  have := List.length_filter_le (nz vs) (List.range k)
  rw [List.length_range] at this
  exact this

/-- Values laid one by one. -/
def setAll (vs cur : List Value) (js : List Nat) : List Value := js.foldl (fun c j => c.set j (vs.getD j undef)) cur
theorem setAll_len (vs : List Value) (js : List Nat) : ∀ cur, (setAll vs cur js).length = cur.length := by
  induction js with
  | nil => intro cur; rfl
  | cons j js ih => intro cur; show (setAll vs (cur.set j _) js).length = _; rw [ih, List.length_set]
theorem setAll_at (vs : List Value) (js : List Nat) : ∀ (cur : List Value) (t : Nat), t < cur.length → (setAll vs cur js)[t]? = if t ∈ js then some (vs.getD t undef) else cur[t]? := by
  induction js with
  | nil => intro cur t ht; simp [setAll]
  | cons j js ih =>
    intro cur t ht
    show (setAll vs (cur.set j (vs.getD j undef)) js)[t]? = _
    rw [ih _ _ (by rw [List.length_set]; exact ht)]
    by_cases h1 : t ∈ js
    · rw [if_pos h1, if_pos (List.mem_cons_of_mem _ h1)]
    · rw [if_neg h1]
      by_cases h2 : t = j
      · subst h2
        rw [if_pos List.mem_cons_self, List.getElem?_set_self ht]
      · rw [if_neg (fun h => by rcases List.mem_cons.1 h with h | h; exact h2 h; exact h1 h), List.getElem?_set_ne (fun h => h2 h.symm)]
/-- The keys that are left behind some. -/
def dropAll (R : List Nat) (js : List Nat) : List Nat := js.foldl (fun r j => r.erase j) R
theorem dropAll_mem {R js : List Nat} (hR : R.Nodup) {t : Nat} : t ∈ dropAll R js ↔ t ∈ R ∧ t ∉ js := by
  induction js generalizing R with
  | nil => simp [dropAll]
  | cons j js ih =>
    show t ∈ dropAll (R.erase j) js ↔ _
    rw [ih (hR.erase j), List.Nodup.mem_erase_iff hR, List.mem_cons]
    constructor
    · rintro ⟨⟨h1, h2⟩, h3⟩; exact ⟨h2, fun h => by rcases h with h | h; exact h1 h; exact h3 h⟩
    · rintro ⟨h1, h2⟩; exact ⟨⟨fun h => h2 (Or.inl h), h1⟩, fun h => h2 (Or.inr h)⟩
theorem dropAll_nodup {R : List Nat} (hR : R.Nodup) (js : List Nat) : (dropAll R js).Nodup := by
  induction js generalizing R with
  | nil => exact hR
  | cons j js ih => exact ih (hR.erase j)

/-- Pairs of keys that are left, each with its own value, are read. -/
theorem prs_pairs {vs : List Value} (hv : ∀ j, j < 18 → nz vs j = true → setR j (valS (vs.getD j undef)) = some (vs.getD j undef)) (rest : List ByteArray) :
    ∀ (js : List Nat), js.Nodup → (∀ j ∈ js, j < 18 ∧ nz vs j = true) → ∀ (i : Nat) (R : List Nat) (cur : List Value), R.Nodup → (∀ j ∈ js, j ∈ R) →
      prs (prsOf vs js ++ rest) i R cur = prs rest (i + 2 * js.length) (dropAll R js) (setAll vs cur js) := by
  intro js
  induction js with
  | nil => intro _ _ i R cur _ _; rfl
  | cons j js ih =>
    intro hn hj i R cur hR hm
    rw [List.nodup_cons] at hn
    obtain ⟨h18, hz⟩ := hj j List.mem_cons_self
    show prs (keyN j :: valS (vs.getD j undef) :: (prsOf vs js ++ rest)) i R cur = _
    rw [prs_good (keyOf_some.2 ⟨h18, rfl⟩) (hm j List.mem_cons_self) (hv j h18 hz), ih hn.2 (fun t ht => hj t (List.mem_cons_of_mem _ ht)) (i + 2) (R.erase j) _ (hR.erase j)
      (fun t ht => (List.Nodup.mem_erase_iff hR).2 ⟨fun e => hn.1 (e ▸ ht), hm t (List.mem_cons_of_mem _ ht)⟩)]
    rw [List.length_cons, show i + 2 + 2 * js.length = i + 2 * (js.length + 1) by omega]
    rfl

theorem size_zero {x : ByteArray} (h : x.size = 0) : x = ⟨#[]⟩ := by
  have : x.data.toList = [] := List.length_eq_zero_iff.1 (by rw [len_bytes]; exact h)
  exact congrArg ByteArray.mk (Array.toList_inj.1 this)
theorem itoa_ne (n : Int) : (Lib.itoa n).length ≠ 0 := by
  unfold Lib.itoa
  split
  · simp
  · have := ArgsP.dec_len_pos n.toNat; omega
/-- What is not shown is zero. -/
theorem Typed.zero {vs : List Value} (h : Typed vs) {j : Nat} (hj : j < 18) (hz : nz vs j = false) : vs[j]? = vs0[j]? := by
  have hg : ∀ v, vs[j]? = some v → vs.getD j undef = v := fun v e => by rw [List.getD_eq_getElem?_getD, e]; rfl
  have h0 := Typed.start.2 j hj
  unfold nz at hz
  by_cases h5 : j < 5
  · obtain ⟨n, hn⟩ := (h.2 j hj).1 h5
    rw [hg _ hn] at hz
    rw [hn]
    unfold valS at hz
    simp only at hz
    split at hz
    · rename_i e
      rw [e]
      rcases j with _ | _ | _ | _ | _ | j <;> first | rfl | omega
    · rw [bytesOf_size] at hz
      exact absurd (by simpa using hz) (itoa_ne n)
  · by_cases h15 : j < 15
    · obtain ⟨b, hb⟩ := (h.2 j hj).2.1 (by omega) h15
      rw [hg _ hb] at hz
      rw [hb]
      cases b
      · obtain ⟨k, rfl⟩ : ∃ k, j = 5 + k := ⟨j - 5, by omega⟩
        have : k < 10 := by omega
        rcases k with _ | _ | _ | _ | _ | _ | _ | _ | _ | _ | k <;> first | rfl | omega
      · cases hz
    · obtain ⟨s, hs⟩ := (h.2 j hj).2.2 (by omega)
      rw [hg _ hs] at hz
      rw [hs]
      have : s = ⟨#[]⟩ := size_zero (by simpa [valS] using hz)
      rw [this]
      obtain ⟨k, rfl⟩ : ∃ k, j = 15 + k := ⟨j - 15, by omega⟩
      have : k < 3 := by omega
      rcases k with _ | _ | _ | k <;> first | rfl | omega
theorem setAll_eq {vs : List Value} (h : Typed vs) {js : List Nat} (hj : ∀ j, j < 18 → nz vs j = true → j ∈ js) : setAll vs vs0 js = vs := by
  refine List.ext_getElem? fun t => ?_
  by_cases ht : t < 18
  · rw [setAll_at _ _ _ _ ht]
    by_cases hm : t ∈ js
    · rw [if_pos hm, List.getD_eq_getElem?_getD, List.getElem?_eq_getElem (by rw [h.1]; exact ht)]; rfl
    · rw [if_neg hm, h.zero ht]
      cases hz : nz vs t with
      | false => rfl
      | true => exact absurd (hj t ht hz) hm
  · rw [List.getElem?_eq_none (by rw [setAll_len]; exact Nat.le_of_not_lt ht), List.getElem?_eq_none (by rw [h.1]; omega)]

/-- The numbers are not too great. -/
def Small (vs : List Value) : Prop := ∀ j, j < 5 → ∀ n, vs[j]? = some (.int .i64 n) → n < 1000000000000000000 ∧ -1000000000000000000 < n
theorem num_itoa {n : Int} (h1 : n < 1000000000000000000) (h2 : -1000000000000000000 < n) : ArgsP.numL (Lib.itoa n) = some n := by
  refine ArgsP.numL_of rfl ?_
  have hl : (Lib.decDigits n.natAbs).length ≤ 18 := ArgsP.dec_len_le (by decide) (by omega)
  have hm : ArgsP.magL (Lib.itoa n) = Lib.decDigits n.natAbs := by
    by_cases hn : n < 0
    · have e : Lib.itoa n = 45 :: Lib.decDigits n.natAbs := by unfold Lib.itoa; rw [if_pos hn]
      rw [e, ArgsP.magL_neg]
    · have e : Lib.itoa n = Lib.decDigits n.natAbs := by unfold Lib.itoa; rw [if_neg hn]; congr 1; omega
      obtain ⟨c, hc, hd⟩ := ArgsP.dec_head (u := n.natAbs)
      rw [e]
      unfold ArgsP.magL
      rw [if_neg]
      rw [hc]
      intro h
      injection h with h
      subst h
      exact absurd hd (by decide)
  rw [hm]
  exact hl
theorem Typed.back {vs : List Value} (h : Typed vs) (hs : Small vs) : ∀ j, j < 18 → nz vs j = true → setR j (valS (vs.getD j undef)) = some (vs.getD j undef) := by
  intro j hj hz
  have hg : ∀ v, vs[j]? = some v → vs.getD j undef = v := fun v e => by rw [List.getD_eq_getElem?_getD, e]; rfl
  unfold nz at hz
  by_cases h5 : j < 5
  · obtain ⟨n, hn⟩ := (h.2 j hj).1 h5
    obtain ⟨s1, s2⟩ := hs j h5 n hn
    rw [hg _ hn] at hz ⊢
    unfold setR
    rw [if_pos h5]
    unfold valS at hz ⊢
    simp only at hz ⊢
    split at hz
    · cases hz
    · rename_i h0
      rw [if_neg h0, bytesOf_list, num_itoa s1 s2]
      rfl
  · by_cases h15 : j < 15
    · obtain ⟨b, hb⟩ := (h.2 j hj).2.1 (by omega) h15
      rw [hg _ hb] at hz ⊢
      cases b
      · cases hz
      · unfold setR
        rw [if_neg h5, if_pos h15, show valS (Value.bool true) = ⟨#[121, 101, 115]⟩ from rfl, ByteArray.toList_eq]
        rfl
    · obtain ⟨s, hs⟩ := (h.2 j hj).2.2 (by omega)
      rw [hg _ hs]
      unfold setR
      rw [if_neg h5, if_neg h15]
      rfl

theorem prs_js {vs : List Value} (h : Typed vs) (hs : Small vs) {js : List Nat} (hn : js.Nodup) (hm : ∀ j, j ∈ js ↔ j < 18 ∧ nz vs j = true) (rest : List ByteArray) :
    prs (prsOf vs js ++ rest) 0 (List.range 18) vs0 = prs rest (2 * js.length) (dropAll (List.range 18) js) vs := by
  rw [prs_pairs (h.back hs) rest js hn (fun j hj => (hm j).1 hj) 0 _ _ List.nodup_range (fun j hj => List.mem_range.2 ((hm j).1 hj).1), setAll_eq h (fun j h1 h2 => (hm j).2 ⟨h1, h2⟩), Nat.zero_add]

/-- The text of values. -/
def showT (vs : List Value) : List UInt8 := ArgsP.packL (txt (prsOf vs (jsOf vs 18)))
theorem fit_le (l : List ByteArray) (h : ∀ x ∈ l, x.size ≤ 9999999) : ArgsP.fit (txt l) = txt l := by
  induction l with
  | nil => rfl
  | cons x l ih =>
    show ArgsP.fit (x.data.toList :: txt l) = x.data.toList :: txt l
    unfold ArgsP.fit
    rw [List.takeWhile_cons_of_pos (by rw [len_bytes]; simpa using h x List.mem_cons_self)]
    congr 1
    exact ih fun y hy => h y (List.mem_cons_of_mem _ hy)
theorem keyN_size (j : Nat) : (keyN j).size ≤ 9 := by
  rcases Nat.lt_or_ge j 18 with h | h
  · have : ∀ a : Fin 18, (keyN a.val).size ≤ 9 := by decide
    exact this ⟨j, h⟩
  · have : keyN j = keyN 17 := by
      obtain ⟨k, rfl⟩ : ∃ k, j = 18 + k := ⟨j - 18, by omega⟩
      rw [show 18 + k = (k + 1) + 17 by omega]
      rfl
    rw [this]; decide
/-- No text is too long. -/
def Short (vs : List Value) : Prop := ∀ j, j < 18 → (valS (vs.getD j undef)).size ≤ 9999999
theorem prsOf_short {vs : List Value} (h : Short vs) {js : List Nat} (hj : ∀ j ∈ js, j < 18) : ∀ x ∈ prsOf vs js, x.size ≤ 9999999 := by
  intro x hx
  obtain ⟨j, hm, hx⟩ := List.mem_flatMap.1 hx
  simp only [List.mem_cons, List.not_mem_nil, or_false] at hx
  rcases hx with rfl | rfl
  · have := keyN_size j; omega
  · exact h j (hj j hm)
/-- What was shown is read. -/
theorem parse_show {vs : List Value} (h : Typed vs) (hs : Small vs) (hl : Short vs) : parseV (showT vs) = (vs, 0, 0) := by
  unfold parseV showT
  rw [ArgsP.unp_packed, fit_le _ (prsOf_short hl (fun j hj => (jsOf_mem.1 hj).1))]
  simp only
  rw [show (txt (prsOf vs (jsOf vs 18))).map bytesOf = prsOf vs (jsOf vs 18) from map_bytes _]
  have := prs_js h hs (jsOf_nodup vs 18) (fun j => jsOf_mem) []
  rw [List.append_nil] at this
  rw [this]
  rfl

end Go.Proofs.YtgekkhkmgfbcdaaDoor
