/- Chapter 25: a key that comes twice, or is none; pairs in another order: in plain Lean. -/
import Derived.Test.YtgekkhkmgfbcdaaDoorArgsShowsLaw
namespace Go.Proofs.YtgekkhkmgfbcdaaDoor
open Go.Shelf Go.RowKit

theorem packL_app (l m : List ByteArray) (h : ∀ x ∈ l, x.size ≤ 9999999) : ArgsP.packL (txt (l ++ m)) = ArgsP.packL (txt l) ++ ArgsP.packL (txt m) := by
  induction l with
  | nil => rfl
  | cons x l ih =>
    have hx := h x List.mem_cons_self
    show (if x.data.toList.length ≤ 9999999 then ArgsP.packOne x.data.toList ++ ArgsP.packL (txt (l ++ m)) else []) = (if x.data.toList.length ≤ 9999999 then ArgsP.packOne x.data.toList ++ ArgsP.packL (txt l) else []) ++ _
    rw [len_bytes, if_pos hx, if_pos hx, ih fun y hy => h y (List.mem_cons_of_mem _ hy), List.append_assoc]
/-- Pairs, and one behind them whose key came, or is none. -/
theorem parse_more {vs : List Value} (h : Typed vs) (hs : Small vs) (hl : Short vs) {js : List Nat} (hn : js.Nodup) (hm : ∀ j, j ∈ js ↔ j < 18 ∧ nz vs j = true) (k x : ByteArray) (hk : k.size ≤ 9999999) (hx : x.size ≤ 9999999)
    (hkey : ∀ j, keyOf k = some j → j ∈ js) : parseV (ArgsP.packL (txt (prsOf vs js ++ [k, x]))) = (vs0, 29, ((2 * js.length : Nat) : Int)) := by
  unfold parseV
  have hall : ∀ y ∈ prsOf vs js ++ [k, x], y.size ≤ 9999999 := by
    intro y hy
    rcases List.mem_append.1 hy with hy | hy
    · exact prsOf_short hl (fun j hj => ((hm j).1 hj).1) y hy
    · simp only [List.mem_cons, List.not_mem_nil, or_false] at hy
      rcases hy with rfl | rfl
      · exact hk
      · exact hx
  rw [ArgsP.unp_packed, fit_le _ hall]
  simp only
  rw [show (txt (prsOf vs js ++ [k, x])).map bytesOf = prsOf vs js ++ [k, x] from map_bytes _, prs_js h hs hn hm [k, x], prs_none]
  intro j hj hd
  exact ((dropAll_mem List.nodup_range).1 hd).2 (hkey j hj)
/-- Pairs in any order. -/
theorem parse_any_order {vs : List Value} (h : Typed vs) (hs : Small vs) (hl : Short vs) {js : List Nat} (hn : js.Nodup) (hm : ∀ j, j ∈ js ↔ j < 18 ∧ nz vs j = true) : parseV (ArgsP.packL (txt (prsOf vs js))) = (vs, 0, 0) := by
  unfold parseV
  rw [ArgsP.unp_packed, fit_le _ (prsOf_short hl (fun j hj => ((hm j).1 hj).1))]
  simp only
  rw [show (txt (prsOf vs js)).map bytesOf = prsOf vs js from map_bytes _]
  have := prs_js h hs hn hm []
  rw [List.append_nil] at this
  rw [this]
  rfl
theorem rev_mem {vs : List Value} (j : Nat) : j ∈ (jsOf vs 18).reverse ↔ j < 18 ∧ nz vs j = true := by rw [List.mem_reverse, jsOf_mem]
theorem rev_nodup (vs : List Value) : (jsOf vs 18).reverse.Nodup := List.pairwise_reverse.2 (List.Pairwise.imp (fun h => Ne.symm h) (jsOf_nodup vs 18))
theorem prsOf_at (vs : List Value) (js : List Nat) (k : Nat) (hk : k < js.length) : (prsOf vs js).getD (2 * k) ⟨#[]⟩ = keyN (js.getD k 0) ∧ (prsOf vs js).getD (2 * k + 1) ⟨#[]⟩ = valS (vs.getD (js.getD k 0) undef) := by
  induction js generalizing k with
  | nil => simp at hk
  | cons j js ih =>
    cases k with
    | zero => exact ⟨rfl, rfl⟩
    | succ k =>
      have := ih k (by simpa using hk)
      rw [show 2 * (k + 1) = 2 * k + 1 + 1 by omega, show (j :: js).getD (k + 1) 0 = js.getD k 0 by simp]
      exact this
/-- The pairs from the last on. -/
theorem rev_take (vs : List Value) (js : List Nat) (k : Nat) (hk : k < js.length) : prsOf vs (js.reverse.take (k + 1)) = prsOf vs (js.reverse.take k) ++ [keyN (js.getD (js.length - 1 - k) 0), valS (vs.getD (js.getD (js.length - 1 - k) 0) undef)] := by
  rw [List.take_add_one, prsOf_app]
  congr 1
  rw [List.getElem?_reverse hk]
  have hlt : js.length - 1 - k < js.length := by omega
  rw [List.getElem?_eq_getElem hlt, List.getD_eq_getElem?_getD, List.getElem?_eq_getElem hlt]
  rfl

end Go.Proofs.YtgekkhkmgfbcdaaDoor
