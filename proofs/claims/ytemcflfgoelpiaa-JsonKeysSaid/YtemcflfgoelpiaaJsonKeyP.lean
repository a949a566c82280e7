/- Objects of texts in plain Lean: what is shown reads back. -/
import Derived.Test.YtemcflfgoelpiaaJsonQuoP
import Derived.Test.YtemcflfgoelpiaaJsonListP
namespace Go.Proofs.Ytemcflfgoelpiaa.JsonP

def pair (p : List Int × List Int) : List UInt8 := quote p.1 ++ 58 :: quote p.2
/-- Behind the first pair. -/
def tlO (ps : List (List Int × List Int)) : List UInt8 := (ps.flatMap fun p => 44 :: pair p) ++ [125]
theorem tlO_cons (p : List Int × List Int) (ps : List (List Int × List Int)) : tlO (p :: ps) = 44 :: (pair p ++ tlO ps) := by simp [tlO]
/-- The object of these pairs, shown. -/
def objT : List (List Int × List Int) → List UInt8
  | [] => [123, 125]
  | p :: ps => 123 :: (pair p ++ tlO ps)
def keysOf (ps : List (List Int × List Int)) : List (List UInt8) := ps.map fun p => DecP.encs p.1
def kidsOf (ps : List (List Int × List Int)) : List J := ps.map fun p => .mk 4 (DecP.encs p.2) [] []
/-- All are scalars. -/
def AllS (ps : List (List Int × List Int)) : Prop := ∀ p ∈ ps, (∀ r ∈ p.1, DecP.Scalar r) ∧ ∀ r ∈ p.2, DecP.Scalar r
theorem blanks_quote (rs : List Int) (t : List UInt8) : blanks (quote rs ++ t) = quote rs ++ t := rfl
theorem value_quote (n deep : Nat) (rs : List Int) (h : ∀ r ∈ rs, DecP.Scalar r) (t : List UInt8) : value (n + 1) deep (quote rs ++ t) = .ok (.mk 4 (DecP.encs rs) [] []) t := by
  rw [value_succ, blanks_quote]
  have ht := text_quote rs h t
  show valueC n deep 34 (qAll rs ++ [34] ++ t) = _
  replace ht : text (34 :: (qAll rs ++ [34] ++ t)) = some (DecP.encs rs, t) := ht
  unfold valueC
  simp only [if_neg (show ¬ (34 : UInt8) = 110 by decide), if_neg (show ¬ (34 : UInt8) = 102 by decide), if_neg (show ¬ (34 : UInt8) = 116 by decide), if_true, ht]
theorem items_pair (m deep : Nat) (ks : List (List UInt8)) (js : List J) (p : List Int × List Int) (h : (∀ r ∈ p.1, DecP.Scalar r) ∧ ∀ r ∈ p.2, DecP.Scalar r) (t : List UInt8) :
    items (m + 1 + 1) true deep ks js (pair p ++ t) = match has (isEnd true) (blanks t) with
        | some u => .ok (.mk 6 [] (ks ++ [DecP.encs p.1]) (js ++ [.mk 4 (DecP.encs p.2) [] []])) u
        | none => match want [44] (blanks t) with
          | none => .bad 20
          | some l3 => items (m + 1) true deep (ks ++ [DecP.encs p.1]) (js ++ [.mk 4 (DecP.encs p.2) [] []]) l3 := by
  have hk : key true ks (blanks (pair p ++ t)) = some (ks ++ [DecP.encs p.1], quote p.2 ++ t) := by
    unfold pair key
    rw [List.append_assoc, blanks_quote, if_pos rfl, text_quote p.1 h.1]
    rfl
  rw [items_succ', hk]
  simp only
  rw [value_quote m deep p.2 h.2 t]
  rfl
theorem items_obj (ps : List (List Int × List Int)) : ∀ (p : List Int × List Int) (m deep : Nat) (ks : List (List UInt8)) (js : List J), AllS (p :: ps) → ps.length + 2 ≤ m →
    items m true deep ks js (pair p ++ tlO ps) = .ok (.mk 6 [] (ks ++ keysOf (p :: ps)) (js ++ kidsOf (p :: ps))) [] := by
  induction ps with
  | nil =>
    intro p m deep ks js h hm
    obtain ⟨m, rfl⟩ : ∃ m', m = m' + 1 + 1 := ⟨m - 2, by simp at hm; omega⟩
    rw [items_pair m deep ks js p (h p (by simp))]
    rfl
  | cons p' ps ih =>
    intro p m deep ks js h hm
    rw [List.length_cons] at hm
    obtain ⟨m, rfl⟩ : ∃ m', m = m' + 1 + 1 := ⟨m - 2, by omega⟩
    rw [items_pair m deep ks js p (h p (by simp)), tlO_cons]
    have hb : blanks (44 :: (pair p' ++ tlO ps)) = 44 :: (pair p' ++ tlO ps) := rfl
    have hh : has (isEnd true) (44 :: (pair p' ++ tlO ps)) = none := rfl
    have hw : want [44] (44 :: (pair p' ++ tlO ps)) = some (pair p' ++ tlO ps) := rfl
    rw [hb, hh, hw]
    simp only
    rw [ih p' (m + 1) deep _ _ (fun x hx => h x (by simp only [List.mem_cons] at hx ⊢; exact .inr hx)) (by omega)]
    simp [keysOf, kidsOf]
theorem obj_parse (ps : List (List Int × List Int)) (h : AllS ps) : parse (objT ps) = .ok (.mk 6 [] (keysOf ps) (kidsOf ps)) [] := by
  cases ps with
  | nil =>
    unfold parse
    rw [value_succ]
    rfl
  | cons p ps =>
    have hlen : ps.length ≤ (tlO ps).length := by
      clear h
      induction ps with
      | nil => simp
      | cons a ps ih => rw [tlO_cons, List.length_cons, List.length_cons, List.length_append]; omega
    have hne : has (isEnd true) (blanks (pair p ++ tlO ps)) = none := rfl
    have hval : value (2 * (objT (p :: ps)).length + 2) 0 (objT (p :: ps)) = items (2 * (objT (p :: ps)).length + 1) true 1 [] [] (pair p ++ tlO ps) := by
      rw [value_succ]
      show (match has (isEnd true) (blanks (pair p ++ tlO ps)) with
        | some u => Res.ok (.mk 6 [] [] []) u
        | none => items _ true 1 [] [] (pair p ++ tlO ps)) = _
      rw [hne]
    unfold parse
    rw [hval, items_obj ps p _ 1 [] [] h (by
      show ps.length + 2 ≤ 2 * (123 :: (pair p ++ tlO ps)).length + 1
      rw [List.length_cons, List.length_append]
      omega)]
    rfl
theorem obj_bad (ps : List (List Int × List Int)) (h : AllS ps) : DecP.badAt (120 :: objT ps) 0 = none := by
  have hq : ∀ (rs : List Int) (t : List UInt8), (∀ r ∈ rs, DecP.Scalar r) → (∀ i, DecP.badAt t i = none) → ∀ i, DecP.badAt (quote rs ++ t) i = none := by
    intro rs t hr ht i
    show DecP.badAt (34 :: (qAll rs ++ [34] ++ t)) i = none
    rw [DecP.badAt_ascii _ _ (by decide), List.append_assoc]
    exact bad_qall rs hr _ (fun i => by
      show DecP.badAt (34 :: t) i = none
      rw [DecP.badAt_ascii _ _ (by decide)]
      exact ht _) _
  have hp : ∀ (p : List Int × List Int) (t : List UInt8), (∀ r ∈ p.1, DecP.Scalar r) → (∀ r ∈ p.2, DecP.Scalar r) → (∀ i, DecP.badAt t i = none) → ∀ i, DecP.badAt (pair p ++ t) i = none := by
    intro p t h1 h2 ht i
    unfold pair
    rw [List.append_assoc]
    exact hq p.1 _ h1 (fun i => by
      show DecP.badAt (58 :: (quote p.2 ++ t)) i = none
      rw [DecP.badAt_ascii _ _ (by decide)]
      exact hq p.2 t h2 ht _) i
  have ht : ∀ ps : List (List Int × List Int), AllS ps → ∀ i, DecP.badAt (tlO ps) i = none := by
    intro ps
    induction ps with
    | nil => intro _ i; show DecP.badAt [125] i = none; rw [DecP.badAt_ascii _ _ (by decide)]; exact DecP.badAt_nil _
    | cons a ps ih =>
      intro h i
      rw [tlO_cons, DecP.badAt_ascii _ _ (by decide)]
      exact hp a _ (h a (by simp)).1 (h a (by simp)).2 (ih (fun x hx => h x (by simp [hx]))) _
  rw [DecP.badAt_ascii _ _ (by decide)]
  cases ps with
  | nil => show DecP.badAt [123, 125] 1 = none; rw [DecP.badAt_ascii _ _ (by decide), DecP.badAt_ascii _ _ (by decide)]; exact DecP.badAt_nil _
  | cons p ps =>
    show DecP.badAt (123 :: (pair p ++ tlO ps)) 1 = none
    rw [DecP.badAt_ascii _ _ (by decide)]
    exact hp p _ (h p (by simp)).1 (h p (by simp)).2 (ht ps (fun x hx => h x (by simp [hx]))) _

end Go.Proofs.Ytemcflfgoelpiaa.JsonP
