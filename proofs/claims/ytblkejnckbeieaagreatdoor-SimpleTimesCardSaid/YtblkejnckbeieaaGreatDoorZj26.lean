/- Chapter 11: trees of plain signs: their text, and its length's laws. -/
import Derived.Test.YtblkejnckbeieaaGreatDoorZj25
import Derived.Lib.ItoaNum
namespace Go.Proofs.YtblkejnckbeieaaGreatDoor.SynP

/-- A class of one plain sign. -/
def Okc (f : Int → Bool) : Prop := ∃ c : Int, alnum c ∧ f = one c
theorem one_inj {a b : Int} (h : one a = one b) : a = b := by
  have := congrFun h a
  simp [one] at this
  exact this
open Classical in
/-- Its text. -/
noncomputable def clsTxt (f : Int → Bool) : List UInt8 := if h : Okc f then [UInt8.ofNat (Classical.choose h).toNat] else []
theorem clsTxt_one {c : Int} (hc : alnum c) : clsTxt (one c) = [UInt8.ofNat c.toNat] := by
  have h : Okc (one c) := ⟨c, hc, rfl⟩
  unfold clsTxt
  rw [dif_pos h]
  rw [← one_inj (Classical.choose_spec h).2]
def decS (n : Int) : List UInt8 := Lib.decDigits n.toNat
mutual
/-- Classes of one plain sign, few times, groups without names. -/
def okN : Nd → Prop
  | .mk kind set _ least most _ _ name kids => (kind = 1 → ∃ f, set = some f ∧ Okc f) ∧ (kind = 10 → 0 ≤ least ∧ least < 100 ∧ 0 ≤ most ∧ most < 100) ∧ (kind = 11 → name = []) ∧ (kind = 1 ∨ kind = 8 ∨ kind = 9 ∨ (kind = 10 ∨ kind = 11) ∧ kids ≠ []) ∧ okL kids
def okL : List Nd → Prop
  | [] => True
  | x :: l => okN x ∧ okL l
end
theorem okL_mem : ∀ {l : List Nd}, okL l → ∀ x ∈ l, okN x
  | [], _, x, hx => absurd hx List.not_mem_nil
  | y :: l, h, x, hx => by
    unfold okL at h
    rcases List.mem_cons.1 hx with rfl | hx
    · exact h.1
    · exact okL_mem h.2 x hx
/-- The text of a tree of plain signs. -/
noncomputable def shN (x : Nd) : List UInt8 := showN decS clsTxt x
noncomputable def kidsT (l : List Nd) : List (Nat × List UInt8) := l.map fun x => (x.kind, shN x)
theorem kidsT_eq (l : List Nd) : textsL decS clsTxt l = kidsT l := textsL_map _ _ l
section
variable (set : Option (Int → Bool)) (fold : Bool) (least most : Int) (lazy : Bool) (cap : Nat) (name : List UInt8) (kids : List Nd)
theorem sh0 : shN (.mk 0 set fold least most lazy cap name kids) = emptyT := by unfold shN showN; simp
theorem sh1 (f : Int → Bool) : shN (.mk 1 (some f) fold least most lazy cap name kids) = if fold then [40, 63, 105, 58] ++ clsTxt f ++ [41] else clsTxt f := by unfold shN showN; simp
theorem sh8 : shN (.mk 8 set fold least most lazy cap name kids) = (kidsT kids).flatMap (wrapT [8, 9]) := by unfold shN showN; simp [kidsT_eq]
theorem sh9 : shN (.mk 9 set fold least most lazy cap name kids) = barT ((kidsT kids).map (wrapT [9])) := by unfold shN showN; simp [kidsT_eq]
theorem sh10 : shN (.mk 10 set fold least most lazy cap name kids) = wrapT [8, 9, 10] (headT (kidsT kids)) ++ timesT_ decS least most lazy := by unfold shN showN; simp [kidsT_eq]
theorem sh11 : shN (.mk 11 set fold least most lazy cap name kids) = if name ≠ [] then [40, 63, 80, 60] ++ name ++ [62] ++ (headT (kidsT kids)).2 ++ [41] else 40 :: ((headT (kidsT kids)).2 ++ [41]) := by unfold shN showN; simp [kidsT_eq]
end
theorem wrapT_len (ks : List Nat) (x : Nat × List UInt8) : x.2.length ≤ (wrapT ks x).length := by
  unfold wrapT
  split
  · simp; omega
  · exact Nat.le_refl _
theorem flat_take_len {α : Type} (g : α → List UInt8) : ∀ (l : List α) (i : Nat), ((l.take i).flatMap g).length ≤ (l.flatMap g).length
  | [], i => by simp
  | x :: l, 0 => by simp
  | x :: l, i + 1 => by
    have := flat_take_len g l i
    simp at this ⊢
    omega
theorem flat_mem_len {α : Type} (g : α → List UInt8) : ∀ (l : List α) (x : α), x ∈ l → (g x).length ≤ (l.flatMap g).length
  | y :: l, x, h => by
    rcases List.mem_cons.1 h with rfl | h
    · simp
    · have := flat_mem_len g l x h
      simp at this ⊢
      omega
theorem bar_mem_len : ∀ (l : List (List UInt8)) (x : List UInt8), x ∈ l → x.length ≤ (barT l).length
  | [y], x, h => by
    rw [List.mem_singleton.1 h]
    exact Nat.le_refl _
  | y :: z :: l, x, h => by
    unfold barT
    rcases List.mem_cons.1 h with rfl | h
    · simp
    · have := bar_mem_len (z :: l) x h
      simp
      omega
theorem bar_lens : ∀ (l : List (List UInt8)), (l.map List.length).sum ≤ (barT l).length
  | [] => Nat.le_refl _
  | [x] => by simp [barT]
  | x :: y :: l => by
    have := bar_lens (y :: l)
    unfold barT
    simp only [List.map_cons, List.sum_cons, List.length_append, List.length_cons] at this ⊢
    omega
theorem bar_count : ∀ (l : List (List UInt8)), l.length ≤ (barT l).length + 1
  | [] => Nat.zero_le _
  | [x] => by simp
  | x :: y :: l => by
    have := bar_count (y :: l)
    unfold barT
    simp only [List.length_append, List.length_cons] at this ⊢
    omega
/-- The texts of kids are no longer than the whole. -/
theorem kid_len8 {l : List Nd} {x : Nd} (hx : x ∈ l) : (shN x).length ≤ ((kidsT l).flatMap (wrapT [8, 9])).length := by
  have h := flat_mem_len (wrapT [8, 9]) (kidsT l) (x.kind, shN x) (List.mem_map.2 ⟨x, hx, rfl⟩)
  exact Nat.le_trans (wrapT_len _ (x.kind, shN x)) h
theorem kid_len9 {l : List Nd} {x : Nd} (hx : x ∈ l) : (shN x).length ≤ (barT ((kidsT l).map (wrapT [9]))).length := by
  have h := bar_mem_len ((kidsT l).map (wrapT [9])) (wrapT [9] (x.kind, shN x)) (List.mem_map.2 ⟨_, List.mem_map.2 ⟨x, hx, rfl⟩, rfl⟩)
  exact Nat.le_trans (wrapT_len _ (x.kind, shN x)) h
end Go.Proofs.YtblkejnckbeieaaGreatDoor.SynP
