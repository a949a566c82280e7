/- The one text of a value, in plain Lean. -/
import Derived.Test.YtemcflfgoelpiaaJsonQuoP
namespace Go.Proofs.Ytemcflfgoelpiaa.JsonP

mutual
def showT : J → List UInt8
  | .mk k t ks js =>
    if k = 0 then [110, 117, 108, 108] else if k = 1 then [102, 97, 108, 115, 101] else if k = 2 then [116, 114, 117, 101] else if k = 3 then t
    else if k = 4 then quote (DecP.runes t)
    else if k = 6 then 123 :: (sep (pieces true ks js) ++ [125]) else 91 :: (sep (pieces false ks js) ++ [93])
/-- The kids' texts; in an object with their keys. -/
def pieces : Bool → List (List UInt8) → List J → List (List UInt8)
  | _, _, [] => []
  | false, ks, j :: js => showT j :: pieces false ks js
  | true, ks, j :: js => (quote (DecP.runes (ks.headD [])) ++ 58 :: showT j) :: pieces true ks.tail js
def sep : List (List UInt8) → List UInt8
  | [] => []
  | a :: l => a ++ l.flatMap fun y => 44 :: y
end
mutual
/-- A bound of a value's text. -/
def wt : J → Nat
  | .mk _ t ks js => 8 + 6 * t.length + 6 * (ks.map List.length).sum + wts js
def wts : List J → Nat
  | [] => 0
  | j :: js => 8 + wt j + wts js
end
theorem quote_len (rs : List Int) : (quote rs).length ≤ 6 * rs.length + 2 := by
  unfold quote
  rw [List.length_cons, List.length_append, List.length_singleton]
  have := qAll_len rs
  omega
theorem quote_runes_len (t : List UInt8) : (quote (DecP.runes t)).length ≤ 6 * t.length + 2 := by
  have := quote_len (DecP.runes t)
  have := DecP.runes_len t
  omega
def total (L : List (List UInt8)) : Nat := (L.map List.length).sum
theorem total_cons (a : List UInt8) (L : List (List UInt8)) : total (a :: L) = a.length + total L := rfl
theorem sep_len (L : List (List UInt8)) : (sep L).length ≤ total L + L.length := by
  cases L with
  | nil => simp [sep]
  | cons a l =>
    have : ∀ l : List (List UInt8), (l.flatMap fun y => (44 : UInt8) :: y).length = total l + l.length := by
      intro l
      induction l with
      | nil => rfl
      | cons b l ih => rw [List.flatMap_cons, List.length_append, ih, List.length_cons, total_cons, List.length_cons]; omega
    unfold sep
    rw [List.length_append, this, total_cons, List.length_cons]
    omega
theorem tail_sum (ks : List (List UInt8)) : (ks.tail.map List.length).sum + (ks.headD []).length = (ks.map List.length).sum := by
  cases ks with
  | nil => rfl
  | cons a l => simp; omega
theorem pieces_len (b : Bool) : ∀ (js : List J) (ks : List (List UInt8)), (pieces b ks js).length = js.length := by
  intro js
  induction js with
  | nil => intro ks; cases b <;> rfl
  | cons j js ih =>
    intro ks
    cases b
    · unfold pieces; rw [List.length_cons, ih, List.length_cons]
    · unfold pieces; rw [List.length_cons, ih, List.length_cons]
theorem wts_len (js : List J) : 8 * js.length ≤ wts js := by
  induction js with
  | nil => exact Nat.le_refl _
  | cons j js ih => unfold wts; rw [List.length_cons]; omega
mutual
theorem show_len : ∀ j : J, (showT j).length ≤ wt j
  | .mk k t ks js => by
    have h1 := pieces_total true ks js
    have h2 := pieces_total false ks js
    have h3 := sep_len (pieces true ks js)
    have h4 := sep_len (pieces false ks js)
    rw [pieces_len] at h3 h4
    have h5 := quote_runes_len t
    unfold showT wt
    repeat' split
    all_goals (try simp only [List.length_cons, List.length_append, List.length_nil])
    all_goals omega
theorem pieces_total (b : Bool) : ∀ (ks : List (List UInt8)) (js : List J), total (pieces b ks js) + js.length ≤ 6 * (ks.map List.length).sum + wts js
  | ks, [] => by cases b <;> simp [pieces, total, wts]
  | ks, j :: js => by
    have h1 := show_len j
    cases b
    · have h2 := pieces_total false ks js
      unfold pieces wts
      rw [total_cons, List.length_cons]
      omega
    · have h2 := pieces_total true ks.tail js
      have h3 := tail_sum ks
      have h4 := quote_runes_len (ks.headD [])
      unfold pieces wts
      rw [total_cons, List.length_cons, List.length_append, List.length_cons]
      omega
end
theorem pieces_at_list (ks : List (List UInt8)) : ∀ (js : List J) (i : Nat) (hi : i < js.length), (pieces false ks js)[i]'(by rw [pieces_len]; exact hi) = showT js[i] := by
  intro js
  induction js with
  | nil => intro i hi; exact absurd hi (Nat.not_lt_zero _)
  | cons j js ih =>
    intro i hi
    cases i with
    | zero => simp [pieces]
    | succ i => simp only [pieces, List.getElem_cons_succ]; exact ih i (by simpa using hi)
theorem pieces_at_obj : ∀ (js : List J) (ks : List (List UInt8)) (i : Nat) (hi : i < js.length), (pieces true ks js)[i]'(by rw [pieces_len]; exact hi) = quote (DecP.runes (ks.getD i [])) ++ 58 :: showT js[i] := by
  intro js
  induction js with
  | nil => intro ks i hi; exact absurd hi (Nat.not_lt_zero _)
  | cons j js ih =>
    intro ks i hi
    cases i with
    | zero => cases ks <;> simp [pieces]
    | succ i =>
      simp only [pieces, List.getElem_cons_succ]
      rw [ih ks.tail i (by simpa using hi)]
      cases ks <;> simp
theorem wt_mem {js : List J} {j : J} (h : j ∈ js) : wt j ≤ wts js := by
  induction js with
  | nil => cases h
  | cons a js ih =>
    unfold wts
    rcases List.mem_cons.1 h with rfl | h
    · omega
    · have := ih h; omega
theorem keyAt_len (ks : List (List UInt8)) (i : Nat) : (ks.getD i []).length ≤ (ks.map List.length).sum := by
  induction ks generalizing i with
  | nil => simp
  | cons a l ih =>
    cases i with
    | zero => simp
    | succ i => have := ih i; simp only [List.getD_cons_succ, List.map_cons, List.sum_cons]; omega

end Go.Proofs.Ytemcflfgoelpiaa.JsonP
