/- Chapter 25: the walk of the law ArgsParses. -/
import Derived.Test.YtgekkhkmgfbcdaaDoorArgsParseB
import Derived.Test.YtgekkhkmgfbcdaaDoorArgsRefParB
import Derived.Test.YtgekkhkmgfbcdaaDoorArgsPacksLaw
import Derived.Test.YtgekkhkmgfbcdaaDoorArgsOptEq
namespace Go.Proofs.YtgekkhkmgfbcdaaDoor
open Go.Shelf Go.RowKit

/-- Values of the kinds that the keys ask for. -/
def Typed (vs : List Value) : Prop := vs.length = 18 ∧ ∀ j, j < 18 → (j < 5 → ∃ n : Int, vs[j]? = some (.int .i64 n)) ∧ (5 ≤ j → j < 15 → ∃ b : Bool, vs[j]? = some (.bool b)) ∧ (15 ≤ j → ∃ s : ByteArray, vs[j]? = some (.string s))
theorem Typed.start : Typed vs0 := by
  refine ⟨rfl, fun j hj => ⟨fun h => ?_, fun h h' => ?_, fun h => ?_⟩⟩
  · exact ⟨0, by rcases j with _ | _ | _ | _ | _ | j <;> first | rfl | omega⟩
  · refine ⟨false, ?_⟩
    obtain ⟨k, rfl⟩ : ∃ k, j = 5 + k := ⟨j - 5, by omega⟩
    have : k < 10 := by omega
    rcases k with _ | _ | _ | _ | _ | _ | _ | _ | _ | _ | k <;> first | rfl | omega
  · refine ⟨⟨#[]⟩, ?_⟩
    obtain ⟨k, rfl⟩ : ∃ k, j = 15 + k := ⟨j - 15, by omega⟩
    have : k < 3 := by omega
    rcases k with _ | _ | _ | k <;> first | rfl | omega
theorem Typed.set {vs : List Value} (h : Typed vs) {j : Nat} {x : ByteArray} {u : Value} (hu : setR j x = some u) : Typed (vs.set j u) := by
  refine ⟨by rw [List.length_set]; exact h.1, fun i hi => ?_⟩
  rw [List.getElem?_set]
  by_cases he : j = i
  · subst he
    rw [if_pos rfl, if_pos (by rw [h.1]; exact hi)]
    unfold setR at hu
    refine ⟨fun h5 => ?_, fun h5 h15 => ?_, fun h15 => ?_⟩
    · rw [if_pos h5] at hu
      cases hn : ArgsP.numL x.data.toList with
      | none => rw [hn] at hu; cases hu
      | some n => rw [hn] at hu; injection hu with hu; exact ⟨n, by rw [← hu]⟩
    · rw [if_neg (by omega), if_pos h15] at hu
      split at hu
      · injection hu with hu; exact ⟨_, by rw [← hu]⟩
      · split at hu
        · injection hu with hu; exact ⟨_, by rw [← hu]⟩
        · cases hu
    · rw [if_neg (by omega), if_neg (by omega)] at hu
      injection hu with hu
      exact ⟨x, by rw [← hu]⟩
  · rw [if_neg he]
    exact h.2 i hi
theorem prs_typed : ∀ (m : Nat) (l : List ByteArray), l.length ≤ m → ∀ (i : Nat) (R : List Nat) (vs vs' : List Value), Typed vs → prs l i R vs = .ok vs' → Typed vs' := by
  intro m
  induction m with
  | zero =>
    intro l hl i R vs vs' ht h
    obtain rfl : l = [] := List.length_eq_zero_iff.1 (by omega)
    injection h with h
    subst h
    exact ht
  | succ m ih =>
    intro l hl i R vs vs' ht h
    match l, hl, h with
    | [], _, h => injection h with h; subst h; exact ht
    | [_], _, h => cases h
    | k :: x :: l, hl, h =>
      cases hk : keyOf k with
      | none => rw [prs_none (fun j hj => by rw [hk] at hj; cases hj)] at h; cases h
      | some j =>
        by_cases hj : j ∈ R
        · cases hs : setR j x with
          | none => rw [prs_bad hk hj hs] at h; cases h
          | some v =>
            rw [prs_good hk hj hs] at h
            exact ih l (by simp at hl; omega) _ _ _ _ (ht.set hs) h
        · rw [prs_none (fun i hi => by rw [hk] at hi; injection hi with hi; subst hi; exact hj)] at h
          cases h
theorem Typed.lit {vs : List Value} (h : Typed vs) : ∃ (n0 n1 n2 n3 n4 : Int) (b0 b1 b2 b3 b4 b5 b6 b7 b8 b9 : Bool) (t0 t1 t2 : ByteArray),
    vs = [.int .i64 n0, .int .i64 n1, .int .i64 n2, .int .i64 n3, .int .i64 n4, .bool b0, .bool b1, .bool b2, .bool b3, .bool b4, .bool b5, .bool b6, .bool b7, .bool b8, .bool b9, .string t0, .string t1, .string t2] := by
  obtain ⟨hl, h⟩ := h
  match vs, hl with
  | [a0, a1, a2, a3, a4, a5, a6, a7, a8, a9, a10, a11, a12, a13, a14, a15, a16, a17], _ =>
    obtain ⟨n0, h0⟩ := (h 0 (by decide)).1 (by decide)
    obtain ⟨n1, h1⟩ := (h 1 (by decide)).1 (by decide)
    obtain ⟨n2, h2⟩ := (h 2 (by decide)).1 (by decide)
    obtain ⟨n3, h3⟩ := (h 3 (by decide)).1 (by decide)
    obtain ⟨n4, h4⟩ := (h 4 (by decide)).1 (by decide)
    obtain ⟨b0, g0⟩ := (h 5 (by decide)).2.1 (by decide) (by decide)
    obtain ⟨b1, g1⟩ := (h 6 (by decide)).2.1 (by decide) (by decide)
    obtain ⟨b2, g2⟩ := (h 7 (by decide)).2.1 (by decide) (by decide)
    obtain ⟨b3, g3⟩ := (h 8 (by decide)).2.1 (by decide) (by decide)
    obtain ⟨b4, g4⟩ := (h 9 (by decide)).2.1 (by decide) (by decide)
    obtain ⟨b5, g5⟩ := (h 10 (by decide)).2.1 (by decide) (by decide)
    obtain ⟨b6, g6⟩ := (h 11 (by decide)).2.1 (by decide) (by decide)
    obtain ⟨b7, g7⟩ := (h 12 (by decide)).2.1 (by decide) (by decide)
    obtain ⟨b8, g8⟩ := (h 13 (by decide)).2.1 (by decide) (by decide)
    obtain ⟨b9, g9⟩ := (h 14 (by decide)).2.1 (by decide) (by decide)
    obtain ⟨t0, k0⟩ := (h 15 (by decide)).2.2 (by decide)
    obtain ⟨t1, k1⟩ := (h 16 (by decide)).2.2 (by decide)
    obtain ⟨t2, k2⟩ := (h 17 (by decide)).2.2 (by decide)
    refine ⟨n0, n1, n2, n3, n4, b0, b1, b2, b3, b4, b5, b6, b7, b8, b9, t0, t1, t2, ?_⟩
    injection h0 with h0; injection h1 with h1; injection h2 with h2; injection h3 with h3; injection h4 with h4
    injection g0 with g0; injection g1 with g1; injection g2 with g2; injection g3 with g3; injection g4 with g4
    injection g5 with g5; injection g6 with g6; injection g7 with g7; injection g8 with g8; injection g9 with g9
    injection k0 with k0; injection k1 with k1; injection k2 with k2
    rw [h0, h1, h2, h3, h4, g0, g1, g2, g3, g4, g5, g6, g7, g8, g9, k0, k1, k2]

theorem txt_bytes (l : List (List UInt8)) : txt (l.map bytesOf) = l := by
  unfold txt
  rw [List.map_map]
  have : ((fun x : ByteArray => x.data.toList) ∘ bytesOf) = id := by funext x; exact bytesOf_list x
  rw [this, List.map_id]
/-- Both ways of reading a text, at once. -/
theorem parse_both (s : ByteArray) (hs : s.size ≤ 1099511627776) : ∃ (vs : List Value) (code at_ : Int), Typed vs ∧ parseV s.data.toList = (vs, code, at_) ∧
    (∀ w, Base w → 4 ≤ w.heap.size → Calls Tryd.prog 13 #[.string s] w (RetParse (vs, code, at_) w)) ∧
    (∀ w, Calls Tryd.prog 14 #[.string s] w (RetParD (vs, code, at_) w)) := by
  cases hu : ArgsP.unp s.data.toList 0 with
  | error i =>
    refine ⟨vs0, 4, i, Typed.start, ?_, fun w hB _ => parse_err s i w hs hB hu, fun w => refParse_err s i w hs hu⟩
    unfold parseV
    rw [hu]
  | ok L0 =>
    have hle := unp_le s.data.toList _ 0 L0 (Nat.le_refl _) hu
    have hb : ∀ k, ((L0.map bytesOf).getD k ⟨#[]⟩).size ≤ 9999999 := fun k => by
      rw [List.getD_eq_getElem?_getD, List.getElem?_map]
      cases hk : L0[k]? with
      | none => simp; decide
      | some x =>
        show (bytesOf x).size ≤ 9999999
        rw [bytesOf_size]
        exact hle x (List.mem_of_getElem? hk)
    have h : ArgsP.unp s.data.toList 0 = .ok (txt (L0.map bytesOf)) := by rw [txt_bytes]; exact hu
    have hp : parseV s.data.toList = resV (prs (L0.map bytesOf) 0 (List.range 18) vs0) := by
      unfold parseV resV
      rw [hu]
      simp only
      cases prs (L0.map bytesOf) 0 (List.range 18) vs0 <;> rfl
    refine ⟨(resV (prs (L0.map bytesOf) 0 (List.range 18) vs0)).1, (resV (prs (L0.map bytesOf) 0 (List.range 18) vs0)).2.1, (resV (prs (L0.map bytesOf) 0 (List.range 18) vs0)).2.2, ?_, by rw [hp], fun w hB hw => parse_ok s _ w hs hB hw (fun k => Nat.le_trans (hb k) (by decide)) h _ rfl, fun w => refParse_ok s _ w hs (fun k => Nat.le_trans (hb k) (by decide)) h _ rfl⟩
    cases hpr : prs (L0.map bytesOf) 0 (List.range 18) vs0 with
    | error i => exact Typed.start
    | ok vs => exact prs_typed _ _ (Nat.le_refl _) _ _ _ _ Typed.start hpr

set_option maxRecDepth 100000 in
set_option maxHeartbeats 4000000 in
theorem options_any (n0 n1 n2 n3 n4 : Int) (b0 b1 b2 b3 b4 b5 b6 b7 b8 b9 : Bool) (t0 t1 t2 : ByteArray) (w : World) :
    Calls Tryd.prog 15 #[.agg #[.int .i64 n0, .int .i64 n1, .int .i64 n2, .int .i64 n3, .int .i64 n4, .bool b0, .bool b1, .bool b2, .bool b3, .bool b4, .bool b5, .bool b6, .bool b7, .bool b8, .bool b9, .string t0, .string t1, .string t2]] w fun e w' =>
      e = .returned (.agg #[.int .i64 n0, .int .i64 n1, .int .i64 n2, .int .i64 n3, .bool b0, .bool b1, .bool b2, .bool b3, .bool b4, .bool b5, .bool b6, .bool b7, .bool b8, .bool b9, .int .i64 n4, .string t0, .string t1]) ∧ Below w.heap.size w w' := by
  go_enter Tryd.func15, Tryd.ntmps15
  go_wp2
  refine bodyPost_ret (v := .agg #[.int .i64 n0, .int .i64 n1, .int .i64 n2, .int .i64 n3, .bool b0, .bool b1, .bool b2, .bool b3, .bool b4, .bool b5, .bool b6, .bool b7, .bool b8, .bool b9, .int .i64 n4, .string t0, .string t1]) (by simp [results, Tryd.results15, go_sem]) rfl ⟨rfl, ?_⟩
  exact ((Below.refl _ _).alloc (Nat.le_refl _) _).alloc (by simp) _

end Go.Proofs.YtgekkhkmgfbcdaaDoor
