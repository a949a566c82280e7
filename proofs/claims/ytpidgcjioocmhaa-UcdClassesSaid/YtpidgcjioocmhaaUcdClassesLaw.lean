/- Chapter 09: the walk of the law UcdClasses. -/
import Derived.Test.YtpidgcjioocmhaaUcdLetters
import Derived.Test.YtpidgcjioocmhaaUcdNames
namespace Go.Proofs.Ytpidgcjioocmhaa
open Go.RowKit SetPure Go.WideShapes Go.Op

theorem strs_cells {w : World} {B : Nat} {A : Option Addr} {l : List ByteArray} (h : SeqAt Estr w B A l) (hn : 0 < l.length) :
    ∃ b off, A = some ⟨b, off, none⟩ ∧ b < B ∧ ∀ i, i < l.length → w.cell? ⟨b, off + i, none⟩ = some (.string (l.getD i ⟨#[]⟩)) := by
  obtain ⟨b, off, e, hb, hc⟩ := h.at_ hn
  refine ⟨b, off, e, hb, fun i hi => ?_⟩
  obtain ⟨b', off', e', _, hc'⟩ := h.at_ hi
  rw [e] at e'
  injection e' with e'
  injection e' with e1 e2
  subst e1; subst e2
  have := hc' 0 (by decide)
  rw [List.getD_eq_getElem?_getD, List.getElem?_eq_getElem hi]
  simpa [Estr] using this

/-- A call that hands back n texts. -/
def RetStrs (n : Nat) (f : Nat → ByteArray) (w : World) (e : Ending) (w' : World) : Prop :=
  ∃ b off c, e = .returned (.slice (some ⟨b, off, none⟩) n c) ∧ b < w'.heap.size ∧ (∀ i, i < n → w'.cell? ⟨b, off + i, none⟩ = some (.string (f i))) ∧ Below w.heap.size w w'
theorem ret_strs {n : Nat} {l : List ByteArray} {w w' : World} {e : Ending} (hl : l.length = n) (hn : 0 < n) (h : RetSeq Estr w l e w') : RetStrs n (fun i => l.getD i ⟨#[]⟩) w e w' := by
  obtain ⟨v, rfl, ⟨A, c, rfl, _, _, hS⟩, hb⟩ := h
  obtain ⟨b, off, rfl, hbb, hc⟩ := strs_cells hS (by omega)
  rw [hl] at hc ⊢
  exact ⟨b, off, c, rfl, hbb, hc, hb⟩
theorem names_cells (w : World) : Calls Try.prog 25 #[] w (RetStrs 18 (fun i => sortedL.getD i ⟨#[]⟩) w) := (names_any w).mono fun _ _ h => ret_strs rfl (by decide) h
theorem names9_cells (w : World) : Calls Try.prog 23 #[] w (RetStrs 15 nameC w) := by
  refine (names9_any w).mono fun e w' h => ?_
  obtain ⟨b, off, c, rfl, hb, hc, hbl⟩ := ret_strs (n := 15) rfl (by decide) h
  refine ⟨b, off, c, rfl, hb, fun i hi => ?_, hbl⟩
  rw [hc i hi]
  show some (Value.string (((List.range 15).map nameC).getD i ⟨#[]⟩)) = _
  have : ((List.range 15).map nameC).getD i ⟨#[]⟩ = nameC i := by
    rw [List.getD_eq_getElem?_getD, List.getElem?_map, List.getElem?_range hi]; rfl
  rw [this]

/-- What the law counts as known, behind the first k names of the table. -/
def kn (name : ByteArray) : Nat → Bool
  | 0 => (name.toList == [65, 110, 121]) || (name.toList == [76]) || (name.toList == [78])
  | k + 1 => kn name k || ((nameC k).toList == name.toList)
theorem kn_up (name : ByteArray) (k m : Nat) (h : kn name k = true) : kn name (k + m) = true := by
  induction m with
  | zero => exact h
  | succ m ih => show (kn name (k + m) || _) = true; rw [ih]; rfl
theorem kn_named : ∀ n, n < 18 → kn (nameA n) 15 = true := by
  intro n hn
  by_cases h : n < 15
  · have e1 : nameA n = nameC n := by unfold nameA; rw [if_pos h]
    rw [e1]
    have h1 : kn (nameC n) (n + 1) = true := by show (kn (nameC n) n || _) = true; simp
    have := kn_up _ (n + 1) (14 - n) h1
    rwa [show n + 1 + (14 - n) = 15 by omega] at this
  · have h0 : ∀ i : Fin 3, kn (nameA (i.val + 15)) 0 = true := by decide +kernel
    have := kn_up _ 0 15 (h0 ⟨n - 15, by omega⟩)
    simp only [Nat.zero_add, show n - 15 + 15 = n by omega] at this
    exact this
theorem str_ne' {s t : ByteArray} (h : s ≠ t) : (s.toList == t.toList) = false := str_ne h
theorem one_list (x : UInt8) : (⟨#[x]⟩ : ByteArray).toList = [x] := by rw [ByteArray.toList_eq]
theorem kn_none {name : ByteArray} (hany : name ≠ ⟨#[65, 110, 121]⟩) (hn : ∀ j, j < 15 → nameC j ≠ name) (hu : ∀ u, u < 2 → nameU u ≠ name) : ∀ k, k ≤ 15 → kn name k = false := by
  intro k
  induction k with
  | zero =>
    intro _
    have h0 := str_ne hany
    have h1 := str_ne (hu 0 (by decide)).symm
    have h2 := str_ne (hu 1 (by decide)).symm
    rw [any_list] at h0
    rw [show nameU 0 = ⟨#[76]⟩ from rfl, one_list] at h1
    rw [show nameU 1 = ⟨#[78]⟩ from rfl, one_list] at h2
    show (_ || _ || _) = false
    rw [h0, h1, h2]; rfl
  | succ k ih =>
    intro hk
    show (kn name k || _) = false
    rw [ih (by omega), str_ne (hn k (by omega))]; rfl

/-- Class and In at every text: one of the 18 names, or none. -/
theorem class_facts (name : ByteArray) : ∃ (known : Bool) (F : Int → Bool), kn name 15 = known ∧ (known = false → ∀ z, F z = false) ∧
    (∀ W w L, Hold W w L → Calls Try.prog 21 #[.string name] w fun e w' => ∃ x, e = .returned (.tuple #[x, .bool known]) ∧ Hold W w' ((x, F) :: L) ∧ (known = false → x = .slice none 0 0)) ∧
    (known = true → ∀ r w, Calls Try.prog 24 #[.string name, .int .i64 r] w fun e w' => e = .returned (.bool (F r)) ∧ Below w.heap.size w w') := by
  by_cases h : ∃ n, n < 18 ∧ nameA n = name
  · obtain ⟨n, hn, rfl⟩ := h
    refine ⟨true, classF n, kn_named n hn, fun h => absurd h (by decide), fun W w L hH => (class_named n hn W w L hH).mono ?_, fun _ r w => in9_named n hn r w⟩
    rintro e w' ⟨x, rfl, hx⟩
    exact ⟨x, rfl, hx, fun h => by cases h⟩
  · have hany : name ≠ ⟨#[65, 110, 121]⟩ := fun e => h ⟨17, by decide, by rw [e]; rfl⟩
    have hn : ∀ j, j < 15 → nameC j ≠ name := fun j hj e => h ⟨j, by omega, by unfold nameA; rw [if_pos hj, e]⟩
    have hu : ∀ u, u < 2 → nameU u ≠ name := fun u hu e => h ⟨u + 15, by omega, by unfold nameA; rw [if_neg (by omega), if_neg (by omega), Nat.add_sub_cancel, e]⟩
    refine ⟨false, fun _ => false, kn_none hany hn hu 15 (Nat.le_refl _), fun _ _ => rfl, fun W w L hH => (class_none name (by have := str_ne hany; rwa [any_list] at this) hn hu W w L hH).mono ?_, fun h => by cases h⟩
    rintro e w' ⟨rfl, hx⟩
    exact ⟨_, rfl, hx.nil_, fun _ => rfl⟩

theorem letF_out (c r : Int) (hr : inR r = false) : letF c r = false := by
  have h0 : perlF 0 r = false := by rw [perl0_eq, hr, Bool.and_false]
  have h1 : perlF 1 r = false := by rw [perl1_eq, hr, Bool.and_false]
  have h2 : perlF 2 r = false := by rw [perl2_eq, hr]; simp
  unfold letF
  split
  · exact h0
  split
  · simp [hr]
  split
  · exact h1
  split
  · simp [hr]
  split
  · exact h2
  split
  · simp [hr]
  · rfl
theorem letF_none (c r : Int) (hc : isLet c = false) : letF c r = false := by
  simp only [isLet, Bool.or_eq_false_iff, decide_eq_false_iff_not] at hc
  unfold letF
  rw [if_neg hc.1.1.1.1.1, if_neg hc.1.1.1.1.2, if_neg hc.1.1.1.2, if_neg hc.1.1.2, if_neg hc.1.2, if_neg hc.2]

end Go.Proofs.Ytpidgcjioocmhaa
