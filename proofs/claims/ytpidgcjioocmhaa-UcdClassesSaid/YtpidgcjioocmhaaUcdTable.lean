/- The walks of ucd's of, classes, unions, blanks. -/
import Derived.Test.YtpidgcjioocmhaaSetF
namespace Go.Proofs.Ytpidgcjioocmhaa
open Go.RowKit SetPure

def classL : List (ByteArray × List Rg) := [
  (⟨#[76, 117]⟩, [(65, 90), (192, 214), (216, 222), (913, 929), (931, 937), (1040, 1071), (66560, 66599)]),
  (⟨#[76, 108]⟩, [(97, 122), (181, 181), (223, 246), (248, 255), (383, 383), (945, 969), (1072, 1103), (66600, 66639)]),
  (⟨#[76, 111]⟩, [(170, 170), (186, 186), (1488, 1514), (12353, 12438), (12449, 12538), (19968, 40959)]),
  (⟨#[78, 100]⟩, [(48, 57), (1632, 1641), (2406, 2415), (65296, 65305)]),
  (⟨#[80, 99]⟩, [(95, 95), (8255, 8256)]),
  (⟨#[90, 115]⟩, [(32, 32), (160, 160), (8192, 8202), (12288, 12288)]),
  (⟨#[80]⟩, [(33, 35), (37, 42), (44, 47), (58, 59), (63, 64), (91, 93), (95, 95), (123, 123), (125, 125), (161, 161), (167, 167), (171, 171), (182, 183), (187, 187), (191, 191), (8208, 8231), (8255, 8256), (12289, 12291)]),
  (⟨#[76, 97, 116, 105, 110]⟩, [(65, 90), (97, 122), (170, 170), (186, 186), (192, 214), (216, 246), (248, 591), (8490, 8491)]),
  (⟨#[71, 114, 101, 101, 107]⟩, [(913, 929), (931, 993)]),
  (⟨#[67, 121, 114, 105, 108, 108, 105, 99]⟩, [(1024, 1156)]),
  (⟨#[72, 101, 98, 114, 101, 119]⟩, [(1488, 1514)]),
  (⟨#[72, 105, 114, 97, 103, 97, 110, 97]⟩, [(12353, 12438)]),
  (⟨#[75, 97, 116, 97, 107, 97, 110, 97]⟩, [(12449, 12538)]),
  (⟨#[72, 97, 110]⟩, [(19968, 40959)]),
  (⟨#[68, 101, 115, 101, 114, 101, 116]⟩, [(66560, 66639)])]
def nameC (i : Nat) : ByteArray := (classL.getD i (⟨#[]⟩, [])).1
def rangesC (i : Nat) : List Rg := (classL.getD i (⟨#[]⟩, [])).2

/-- Blocks laid one behind the other. -/
def laid (w : World) (os : List Obj) : World := os.foldl World.alloc w
theorem laid_size (w : World) (os : List Obj) : (laid w os).heap.size = w.heap.size + os.length := by
  induction os generalizing w with
  | nil => rfl
  | cons o os ih => show (laid (w.alloc o) os).heap.size = _; rw [ih]; simp; omega
theorem laid_old (w : World) (os : List Obj) (k : Nat) (hk : k < w.heap.size) : (laid w os).heap[k]? = w.heap[k]? := by
  induction os generalizing w with
  | nil => rfl
  | cons o os ih => show (laid (w.alloc o) os).heap[k]? = _; rw [ih _ (by simp; omega), Below.heap_alloc w o k hk]
theorem laid_at (w : World) (os : List Obj) (i : Nat) (hi : i < os.length) : (laid w os).heap[w.heap.size + i]? = os[i]? := by
  induction os generalizing w i with
  | nil => simp at hi
  | cons o os ih =>
    cases i with
    | zero => show (laid (w.alloc o) os).heap[w.heap.size + 0]? = _; rw [laid_old _ _ _ (by simp), Nat.add_zero, heap_alloc_new]; rfl
    | succ i =>
      show (laid (w.alloc o) os).heap[w.heap.size + (i + 1)]? = _
      have := ih (w.alloc o) i (by simpa using hi)
      rw [show (w.alloc o).heap.size + i = w.heap.size + (i + 1) by simp; omega] at this
      rw [this]; rfl
theorem laid_below (w : World) (os : List Obj) : Below w.heap.size w (laid w os) := by
  refine ⟨?_, ?_, ?_, by rw [laid_size]; omega, fun k hk => laid_old w os k hk⟩
  all_goals
    induction os generalizing w with
    | nil => rfl
    | cons o os ih => exact ih (w.alloc o)

def classObj (r : List Rg) : Obj := .cells (r.flatMap Epair.enc).toArray 85
def tableC (g : Nat) : List Value := classL.zipIdx.flatMap fun p => [.string p.1.1, .slice (some ⟨g + p.2, 0, none⟩) p.1.2.length p.1.2.length]
def classObjs (g : Nat) : List Obj := (classL.map fun p => classObj p.2) ++ [.cells (tableC g).toArray 64]

/-- What 'classes' hands back: names and rows of ranges. -/
def RetClasses (w : World) (e : Ending) (w' : World) : Prop := ∃ g : Nat, e = .returned (.slice (some ⟨g, 0, none⟩) 15 15) ∧ Below w.heap.size w w' ∧ g < w'.heap.size ∧
  ∀ i, i < 15 → w'.cell? ⟨g, i * 2, none⟩ = some (.string (nameC i)) ∧ ∃ A, w'.cell? ⟨g, i * 2 + 1, none⟩ = some (.slice A (rangesC i).length (rangesC i).length) ∧ SeqAt Epair w' w'.heap.size A (rangesC i)

theorem table_at (g i : Nat) (hi : i < 15) : (tableC g)[i * 2]? = some (.string (nameC i)) ∧ (tableC g)[i * 2 + 1]? = some (.slice (some ⟨g + i, 0, none⟩) (rangesC i).length (rangesC i).length) := by
  match i, hi with
  | 0, _ | 1, _ | 2, _ | 3, _ | 4, _ | 5, _ | 6, _ | 7, _ | 8, _ | 9, _ | 10, _ | 11, _ | 12, _ | 13, _ | 14, _ => exact ⟨rfl, rfl⟩

theorem laid_classes (w : World) : RetClasses w (.returned (.slice (some ⟨w.heap.size + 15, 0, none⟩) 15 15)) (laid w (classObjs w.heap.size)) := by
  have hl15 : classL.length = 15 := rfl
  have hlen : (classObjs w.heap.size).length = 16 := by simp [classObjs, hl15]
  refine ⟨w.heap.size + 15, rfl, laid_below w _, by rw [laid_size, hlen]; omega, fun i hi => ?_⟩
  have h15 := laid_at w (classObjs w.heap.size) 15 (by rw [hlen]; omega)
  have hc : (classObjs w.heap.size)[15]? = some (.cells (tableC w.heap.size).toArray 64) := by
    unfold classObjs
    rw [List.getElem?_append_right (by simp [hl15]), List.length_map, hl15]; rfl
  rw [hc] at h15
  obtain ⟨t0, t1⟩ := table_at w.heap.size i hi
  refine ⟨?_, some ⟨w.heap.size + i, 0, none⟩, ?_, ?_⟩
  · rw [cell_of_row _ _ _ _ _ (0, 0) h15, List.getElem?_toArray, t0]
  · rw [cell_of_row _ _ _ _ _ (0, 0) h15, List.getElem?_toArray, t1]
  · have hi2 := laid_at w (classObjs w.heap.size) i (by rw [hlen]; omega)
    have hci : (classObjs w.heap.size)[i]? = some (classObj (rangesC i)) := by
      unfold classObjs rangesC
      rw [List.getElem?_append_left (by simp [hl15]; exact hi), List.getElem?_map, List.getD_eq_getElem?_getD, List.getElem?_eq_getElem (by rw [hl15]; exact hi)]
      rfl
    rw [hci] at hi2
    intro hn
    refine ⟨w.heap.size + i, 0, rfl, by rw [laid_size, hlen]; omega, fun j hj => ?_⟩
    rw [Nat.zero_add, cell_of_row _ _ _ _ _ (0, 0) hi2, List.getElem?_toArray, List.getD_eq_getElem?_getD, List.getElem?_eq_getElem (by rw [Epair.flat_len]; exact hj)]
    rfl

set_option maxHeartbeats 4000000 in
set_option maxRecDepth 100000 in
theorem classes_any (w : World) : Calls Try.prog 39 #[] w (RetClasses w) := by
  go_enter Try.func39, Try.ntmps39
  go_wp2
  go_ret
  exact laid_classes w

end Go.Proofs.Ytpidgcjioocmhaa
