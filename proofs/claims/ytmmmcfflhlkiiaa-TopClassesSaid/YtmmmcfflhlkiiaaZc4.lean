/- Sets told by what is in them: every method's contract over the sets that a walk holds so far, each with its test of numbers.
  The walks of sets.Set's Or, and of slices.Clone.
  Sets told by what is in them: the contract of Or.
  The walks of ucd's of, classes, unions, blanks.
  The walks of ucd's of and blanks: a set of ranges that lie as arrays of two.
  The walk of ucd's Class.
  The walk of ucd's Class at the names of unions, at 'Any', and at what is no name.
  The walks of ucd's Class at 'Any', at what is no name, at every name; and of ucd's Perl at its six letters. -/
import Derived.Test.YtmmmcfflhlkiiaaZc3
import Derived.Lib.LazyBuf
namespace Go.Proofs.Ytmmmcfflhlkiiaa
open Go.RowKit SetPure

def inR (z : Int) : Bool := decide (0 ≤ z) && decide (z ≤ 1114111)
theorem inR_iff (z : Int) : inR z = true ↔ 0 ≤ z ∧ z ≤ 1114111 := by simp [inR]
/-- How many numbers pass the test. -/
def cntF (f : Int → Bool) : Nat := cnt f 0 1114112

/-- The value is a set that holds just the numbers that pass the test. -/
def SetF (w : World) (v : Value) (f : Int → Bool) : Prop := ∃ s, IsSet w v s ∧ ∀ z, inB s z = f z
theorem SetF.below {w w' : World} {v : Value} {f : Int → Bool} (h : SetF w v f) (hb : Below w.heap.size w w') : SetF w' v f := by
  obtain ⟨s, h1, h2⟩ := h
  exact ⟨s, h1.below hb, h2⟩
theorem SetF.inR {w : World} {v : Value} {f : Int → Bool} (h : SetF w v f) {z : Int} (hz : f z = true) : inR z = true := by
  obtain ⟨s, h1, h2⟩ := h
  rw [← h2, inB_iff] at hz
  rw [inR_iff]
  exact CanonFrom.lo h1.canon hz
theorem SetF.congr {w : World} {v : Value} {f g : Int → Bool} (h : SetF w v f) (e : ∀ z, f z = g z) : SetF w v g := by
  obtain ⟨s, h1, h2⟩ := h
  exact ⟨s, h1, fun z => (h2 z).trans (e z)⟩
theorem SetF.of_end {w' : World} {v : Value} {s : List Rg} {p : Int → Prop} {f : Int → Bool} (h : IsSet w' v s) (hp : ∀ x, InS s x ↔ p x) (hf : ∀ x, f x = true ↔ p x) : SetF w' v f :=
  ⟨s, h, fun z => by rw [Bool.eq_iff_iff, inB_iff, hp, hf]⟩

/-- What a walk holds: the world it began in stands, and so many sets. -/
def Hold (W w : World) (L : List (Value × (Int → Bool))) : Prop := Below W.heap.size W w ∧ ∀ p ∈ L, SetF w p.1 p.2
section
variable {W w w' : World} {L : List (Value × (Int → Bool))} {v u : Value} {f g : Int → Bool}
theorem Hold.get (h : Hold W w L) (hv : (v, f) ∈ L) : SetF w v f := h.2 _ hv
theorem Hold.start (W : World) : Hold W W [] := ⟨Below.refl _ _, fun p hp => by cases hp⟩
theorem Hold.go (h : Hold W w L) (hb : Below w.heap.size w w') : Hold W w' L := ⟨h.1.trans (hb.mono h.1.size), fun p hp => (h.2 p hp).below hb⟩
theorem Hold.add (h : Hold W w L) (hb : Below w.heap.size w w') (hv : SetF w' v f) : Hold W w' ((v, f) :: L) :=
  ⟨(h.go hb).1, fun p hp => by
    rcases List.mem_cons.1 hp with rfl | hp
    · exact hv
    · exact (h.go hb).2 p hp⟩
theorem Hold.alloc (h : Hold W w L) (o : Obj) : Hold W (w.alloc o) L := h.go ((Below.refl _ w).alloc (Nat.le_refl _) o)
theorem Hold.drewN (h : Hold W w L) (n : Nat) : Hold W (w.drewN n) L := h.go (below_drewN (Below.refl _ w) n)

theorem hold_has (h : Hold W w L) (hv : (v, f) ∈ L) (r : Int) : Calls Try.prog 5 #[v, .int .i64 r] w fun e w' => e = .returned (.bool (f r)) ∧ Hold W w' L := by
  obtain ⟨s, h1, h2⟩ := h.get hv
  refine (set_has h1 r).mono ?_
  rintro e w' ⟨rfl, hb⟩
  exact ⟨ret_bool (h2 r), h.go hb⟩
theorem hold_has_eq (h : Hold W w L) (hv : (v, f) ∈ L) (r : Int) (b : Bool) (hr : f r = b) : Calls Try.prog 5 #[v, .int .i64 r] w fun e w' => e = .returned (.bool b) ∧ Hold W w' L := by
  subst hr
  exact hold_has h hv r
theorem hold_not (h : Hold W w L) (hv : (v, f) ∈ L) : Calls Try.prog 10 #[v] w fun e w' => ∃ x, e = .returned x ∧ Hold W w' ((x, fun z => inR z && !f z) :: L) := by
  obtain ⟨s, h1, h2⟩ := h.get hv
  refine (set_not h1).mono ?_
  rintro e w' ⟨x, o, rfl, ho, hp, hb⟩
  exact ⟨x, rfl, h.add hb (SetF.of_end ho hp fun z => by rw [← h2]; simp [inR, inB_false, and_assoc])⟩
theorem hold_and (h : Hold W w L) (hv : (v, f) ∈ L) (hu : (u, g) ∈ L) : Calls Try.prog 85 #[v, u] w fun e w' => ∃ x, e = .returned x ∧ Hold W w' ((x, fun z => f z && g z) :: L) := by
  obtain ⟨s, h1, h2⟩ := h.get hv
  obtain ⟨t, k1, k2⟩ := h.get hu
  refine (set_and h1 k1).mono ?_
  rintro e w' ⟨x, o, rfl, ho, hp, hb⟩
  exact ⟨x, rfl, h.add hb (SetF.of_end ho hp fun z => by rw [← h2, ← k2]; simp [inB_iff])⟩
theorem hold_less (h : Hold W w L) (hv : (v, f) ∈ L) (hu : (u, g) ∈ L) : Calls Try.prog 71 #[v, u] w fun e w' => ∃ x, e = .returned x ∧ Hold W w' ((x, fun z => f z && !g z) :: L) := by
  obtain ⟨s, h1, h2⟩ := h.get hv
  obtain ⟨t, k1, k2⟩ := h.get hu
  refine (set_less h1 k1).mono ?_
  rintro e w' ⟨x, o, rfl, ho, hp, hb⟩
  exact ⟨x, rfl, h.add hb (SetF.of_end ho hp fun z => by rw [← h2, ← k2]; simp [inB_iff, inB_false])⟩
theorem hold_of (h : Hold W w L) {l : List Rg} (hl : IsSeq Epair w v l) (hn : l.length ≤ 8796093022208) : Calls Try.prog 8 #[v] w fun e w' => ∃ x, e = .returned x ∧ Hold W w' ((x, fun z => inB l z && inR z) :: L) := by
  refine (set_of hl hn).mono ?_
  rintro e w' ⟨x, o, rfl, ho, hp, hb⟩
  exact ⟨x, rfl, h.add hb (SetF.of_end ho hp fun z => by simp [inB_iff, inR])⟩
end

theorem cntF_le (f : Int → Bool) : cntF f ≤ 1114112 := by
  have h := cnt_le (f := f) (g := fun _ => true) (lo := 0) (n := 1114112) (fun _ _ => rfl)
  rw [cnt_all (f := fun _ => true) (fun _ _ _ => rfl)] at h
  exact h
theorem cntF_congr {f g : Int → Bool} (h : ∀ z, inR z = true → f z = g z) : cntF f = cntF g := cnt_congr fun x h1 h2 => h x ((inR_iff x).2 ⟨h1, by omega⟩)
theorem cntF_none {f : Int → Bool} (h : ∀ z, inR z = true → f z = false) : cntF f = 0 := cnt_none fun x h1 h2 => h x ((inR_iff x).2 ⟨h1, by omega⟩)
theorem cntF_all {f : Int → Bool} (h : ∀ z, inR z = true → f z = true) : cntF f = 1114112 := cnt_all fun x h1 h2 => h x ((inR_iff x).2 ⟨h1, by omega⟩)
theorem cntF_both (f g : Int → Bool) : cntF (fun x => f x || g x) + cntF (fun x => f x && g x) = cntF f + cntF g := cnt_both f g 0 1114112
theorem cntF_not (f : Int → Bool) : cntF f + cntF (fun z => inR z && !f z) = 1114112 := by
  have h := cntF_both f (fun z => inR z && !f z)
  rw [cntF_all (f := fun x => f x || (inR x && !f x)) (fun z hz => by rw [hz]; cases f z <;> rfl), cntF_none (f := fun x => f x && (inR x && !f x)) (fun z hz => by rw [hz]; cases f z <;> rfl)] at h
  omega

end Go.Proofs.Ytmmmcfflhlkiiaa

namespace Go.Proofs.Ytmmmcfflhlkiiaa
open Go.RowKit SetPure

@[go_sem ↓] theorem eql_set_nil (a : Option Addr) (l c : Nat) (w : World) : (binOp .eql 25 (.slice a l c) (.slice none 0 0)).run Try.prog w = .ok (.bool a.isNone) w :=
  run_eql_slice_nil w _ _ a l c Try.underlying25

set_option maxHeartbeats 400000 in
set_option maxRecDepth 100000 in
theorem clone_any (A : Option Addr) (c : Nat) (l : List Rg) (w : World) (hl : l.length ≤ 8796093022208) (hA : SeqAt Epair w w.heap.size A l) :
    Calls Try.prog 17 #[.slice A l.length c] w fun e w' => ∃ v, e = .returned v ∧ Own Epair 44 w w' v l := by
  rcases A with _ | ad
  · have h0 : l = [] := by
      rcases Nat.eq_zero_or_pos l.length with h0 | h0
      · exact List.eq_nil_of_length_eq_zero h0
      · obtain ⟨_, _, h, _⟩ := hA h0
        cases h
    subst h0
    go_enter Try.func17, Try.ntmps17
    go_wp2
    go_ret
    exact ⟨_, rfl, Own.nil_ _⟩
  · have HA := Lib.hid hA
    clear hA
    have how : Own (α := Rg) Epair 44 w (w.alloc (.cells #[] 44)) (.slice (some ⟨w.heap.size, 0, none⟩) 0 0) [] :=
      ⟨World.ownsRow_lit w #[] 0 (Nat.le_refl _) (by simp [maxLen]) (by simp), (Below.refl _ w).alloc (Nat.le_refl _) _⟩
    go_enter Try.func17, Try.ntmps17
    go_wp2_with (at_builtin; (refine wpList_append_seq _ rfl (.tmp 5) (.tmp 6) 25 rfl 16 elSet rfl how l.length rfl (HA.out.alloc (Nat.le_refl _) _) rfl (by simp only [maxLen, List.length_nil]; omega) (by simp only [List.length_nil]; omega) ?_); intro v1 w1 hown1 hg1)
    go_ret
    exact ⟨_, rfl, hown1⟩

set_option maxHeartbeats 400000 in
set_option maxRecDepth 100000 in
theorem or_any (s t : List Rg) (v u : Value) (w : World) (hs : IsSeq Epair w v s) (ht : IsSeq Epair w u t) (hsl : s.length ≤ 1000000000000) (htl : t.length ≤ 1000000000000) :
    Calls Try.prog 7 #[v, u] w (OfEnd (s ++ t) w) := by
  obtain ⟨A, c, rfl, hc1, hc2, hA⟩ := hs
  obtain ⟨A', c', rfl, hc1', hc2', hA'⟩ := ht
  have HC := Lib.hid (clone_any A c s w (by omega) hA)
  have HA' := Lib.hid hA'
  clear hA hA'
  go_enter Try.func7, Try.ntmps7
  go_wp2_with (first
    | (go_at_call 17; refine HC.out.mono ?_; rintro e w1 ⟨v1, rfl, hown1⟩; have hb1 := hown1.2)
    | (at_builtin; (refine wpList_append_seq _ rfl (.tmp 6) (.tmp 7) 25 rfl 16 elSet rfl hown1 t.length rfl (HA'.out.below hb1) rfl (by simp only [maxLen]; omega) (by omega) ?_); intro v2 w2 hown2 hg2; have hz2 := hown2.2.size; obtain ⟨A2, c2, rfl, _, _, hA2⟩ := hown2.isSeq; have HO := Lib.hid (of_any A2 c2 w2.heap.size (s ++ t) w2 (by rw [List.length_append]; omega) hA2 (Nat.le_refl _)); simp only [List.length_append] at HO; clear hA2)
    | (go_at_call 8; refine HO.out.mono ?_; rintro e w3 ⟨r, hr1, hr2, v3, rfl, hr4, hr5, ht5⟩; have HR := Lib.hid hr2; have HR1 := Lib.hid hr1; clear hr1 hr2))
  go_ret
  exact ⟨r, HR1.out, HR.out, v3, rfl, hr4, hown2.2.trans (hr5.mono hz2), ht5⟩

theorem set_or {w : World} {v u : Value} {s t : List Rg} (h : IsSet w v s) (k : IsSet w u t) : Calls Try.prog 7 #[v, u] w (SetEnd (fun x => InS s x ∨ InS t x) w) := by
  refine (or_any s t v u w h.seq k.seq (by have := h.canon.len; omega) (by have := k.canon.len; omega)).mono ?_
  rintro e w' ⟨r, hr1, hr2, v, rfl, hv, hb, ht⟩
  refine ⟨v, r, rfl, ⟨hv, hr1, ht⟩, fun x => ?_, hb⟩
  rw [hr2, InS_append]
  constructor
  · exact fun h => h.1
  · intro hx
    refine ⟨hx, ?_⟩
    rcases hx with hx | hx
    · exact CanonFrom.lo h.canon hx
    · exact CanonFrom.lo k.canon hx

end Go.Proofs.Ytmmmcfflhlkiiaa

namespace Go.Proofs.Ytmmmcfflhlkiiaa
open Go.RowKit SetPure

section
variable {W w w' : World} {L : List (Value × (Int → Bool))} {v u : Value} {f g : Int → Bool}
theorem hold_or (h : Hold W w L) (hv : (v, f) ∈ L) (hu : (u, g) ∈ L) : Calls Try.prog 7 #[v, u] w fun e w' => ∃ x, e = .returned x ∧ Hold W w' ((x, fun z => f z || g z) :: L) := by
  obtain ⟨s, h1, h2⟩ := h.get hv
  obtain ⟨t, k1, k2⟩ := h.get hu
  refine (set_or h1 k1).mono ?_
  rintro e w' ⟨x, o, rfl, ho, hp, hb⟩
  exact ⟨x, rfl, h.add hb (SetF.of_end ho hp fun z => by rw [← h2, ← k2]; simp [inB_iff])⟩
end

end Go.Proofs.Ytmmmcfflhlkiiaa

namespace Go.Proofs.Ytmmmcfflhlkiiaa
open Go.RowKit SetPure

def classL : List (ByteArray × List Rg) := [
  (⟨#[76, 117]⟩, [(65, 90), (192, 214), (216, 222), (913, 929), (931, 937), (1040, 1071), (66560, 66599)]),
  (⟨#[76, 108]⟩, [(97, 122), (181, 181), (223, 246), (248, 255), (383, 383), (945, 969), (1072, 1103), (66600, 66639)]),
  (⟨#[76, 111]⟩, [(170, 170), (186, 186), (1488, 1514), (12353, 12438), (12449, 12538), (19968, 40959)]),
  (⟨#[78, 100]⟩, [(48, 57), (1632, 1641), (2406, 2415), (65296, 65305)]),
  (⟨#[80, 99]⟩, [(95, 95), (8255, 8256)]),
  (⟨#[90, 115]⟩, [(32, 32), (160, 160), (8192, 8202), (12288, 12288)]),
  (⟨#[80]⟩, [(33, 35), (37, 42), (44, 47), (58, 59), (63, 64), (91, 93), (95, 95), (123, 123), (125, 125), (161, 161), (167, 167), (171, 171), (182, 183), (187, 187), (191, 191), (8208, 8231), (8255, 8256), (12289, 12291)]),
  (⟨#[76, 97, 116, 105, 110]⟩, [(65, 90), (97, 122), (170, 170), (186, 186), (192, 214), (216, 246), (248, 591), (8490, 8491)]),
  (⟨#[71, 114, 101, 101, 107]⟩, [(913, 929), (931, 993)]),
  (⟨#[67, 121, 114, 105, 108, 108, 105, 99]⟩, [(1024, 1156)]),
  (⟨#[72, 101, 98, 114, 101, 119]⟩, [(1488, 1514)]),
  (⟨#[72, 105, 114, 97, 103, 97, 110, 97]⟩, [(12353, 12438)]),
  (⟨#[75, 97, 116, 97, 107, 97, 110, 97]⟩, [(12449, 12538)]),
  (⟨#[72, 97, 110]⟩, [(19968, 40959)]),
  (⟨#[68, 101, 115, 101, 114, 101, 116]⟩, [(66560, 66639)])]
def nameC (i : Nat) : ByteArray := (classL.getD i (⟨#[]⟩, [])).1
def rangesC (i : Nat) : List Rg := (classL.getD i (⟨#[]⟩, [])).2

/-- Blocks laid one behind the other. -/
def laid (w : World) (os : List Obj) : World := os.foldl World.alloc w
theorem laid_size (w : World) (os : List Obj) : (laid w os).heap.size = w.heap.size + os.length := by
  induction os generalizing w with
  | nil => rfl
  | cons o os ih => show (laid (w.alloc o) os).heap.size = _; rw [ih]; simp; omega
theorem laid_old (w : World) (os : List Obj) (k : Nat) (hk : k < w.heap.size) : (laid w os).heap[k]? = w.heap[k]? := by
  induction os generalizing w with
  | nil => rfl
  | cons o os ih => show (laid (w.alloc o) os).heap[k]? = _; rw [ih _ (by simp; omega), Below.heap_alloc w o k hk]
theorem laid_at (w : World) (os : List Obj) (i : Nat) (hi : i < os.length) : (laid w os).heap[w.heap.size + i]? = os[i]? := by
  induction os generalizing w i with
  | nil => simp at hi
  | cons o os ih =>
    cases i with
    | zero => show (laid (w.alloc o) os).heap[w.heap.size + 0]? = _; rw [laid_old _ _ _ (by simp), Nat.add_zero, heap_alloc_new]; rfl
    | succ i =>
      show (laid (w.alloc o) os).heap[w.heap.size + (i + 1)]? = _
      have := ih (w.alloc o) i (by simpa using hi)
      rw [show (w.alloc o).heap.size + i = w.heap.size + (i + 1) by simp; omega] at this
      rw [this]; rfl
theorem laid_below (w : World) (os : List Obj) : Below w.heap.size w (laid w os) := by
  refine ⟨?_, ?_, ?_, by rw [laid_size]; omega, fun k hk => laid_old w os k hk⟩
  all_goals
    induction os generalizing w with
    | nil => rfl
    | cons o os ih => exact ih (w.alloc o)

def classObj (r : List Rg) : Obj := .cells (r.flatMap Epair.enc).toArray 94
def tableC (g : Nat) : List Value := classL.zipIdx.flatMap fun p => [.string p.1.1, .slice (some ⟨g + p.2, 0, none⟩) p.1.2.length p.1.2.length]
def classObjs (g : Nat) : List Obj := (classL.map fun p => classObj p.2) ++ [.cells (tableC g).toArray 89]

/-- What 'classes' hands back: names and rows of ranges. -/
def RetClasses (w : World) (e : Ending) (w' : World) : Prop := ∃ g : Nat, e = .returned (.slice (some ⟨g, 0, none⟩) 15 15) ∧ Below w.heap.size w w' ∧ g < w'.heap.size ∧
  ∀ i, i < 15 → w'.cell? ⟨g, i * 2, none⟩ = some (.string (nameC i)) ∧ ∃ A, w'.cell? ⟨g, i * 2 + 1, none⟩ = some (.slice A (rangesC i).length (rangesC i).length) ∧ SeqAt Epair w' w'.heap.size A (rangesC i)

theorem table_at (g i : Nat) (hi : i < 15) : (tableC g)[i * 2]? = some (.string (nameC i)) ∧ (tableC g)[i * 2 + 1]? = some (.slice (some ⟨g + i, 0, none⟩) (rangesC i).length (rangesC i).length) := by
  match i, hi with
  | 0, _ | 1, _ | 2, _ | 3, _ | 4, _ | 5, _ | 6, _ | 7, _ | 8, _ | 9, _ | 10, _ | 11, _ | 12, _ | 13, _ | 14, _ => exact ⟨rfl, rfl⟩

theorem laid_classes (w : World) : RetClasses w (.returned (.slice (some ⟨w.heap.size + 15, 0, none⟩) 15 15)) (laid w (classObjs w.heap.size)) := by
  have hl15 : classL.length = 15 := rfl
  have hlen : (classObjs w.heap.size).length = 16 := by simp [classObjs, hl15]
  refine ⟨w.heap.size + 15, rfl, laid_below w _, by rw [laid_size, hlen]; omega, fun i hi => ?_⟩
  have h15 := laid_at w (classObjs w.heap.size) 15 (by rw [hlen]; omega)
  have hc : (classObjs w.heap.size)[15]? = some (.cells (tableC w.heap.size).toArray 89) := by
    unfold classObjs
    rw [List.getElem?_append_right (by simp [hl15]), List.length_map, hl15]; rfl
  rw [hc] at h15
  obtain ⟨t0, t1⟩ := table_at w.heap.size i hi
  refine ⟨?_, some ⟨w.heap.size + i, 0, none⟩, ?_, ?_⟩
  · rw [cell_of_row _ _ _ _ _ (0, 0) h15, List.getElem?_toArray, t0]
  · rw [cell_of_row _ _ _ _ _ (0, 0) h15, List.getElem?_toArray, t1]
  · have hi2 := laid_at w (classObjs w.heap.size) i (by rw [hlen]; omega)
    have hci : (classObjs w.heap.size)[i]? = some (classObj (rangesC i)) := by
      unfold classObjs rangesC
      rw [List.getElem?_append_left (by simp [hl15]; exact hi), List.getElem?_map, List.getD_eq_getElem?_getD, List.getElem?_eq_getElem (by rw [hl15]; exact hi)]
      rfl
    rw [hci] at hi2
    intro hn
    refine ⟨w.heap.size + i, 0, rfl, by rw [laid_size, hlen]; omega, fun j hj => ?_⟩
    rw [Nat.zero_add, cell_of_row _ _ _ _ _ (0, 0) hi2, List.getElem?_toArray, List.getD_eq_getElem?_getD, List.getElem?_eq_getElem (by rw [Epair.flat_len]; exact hj)]
    rfl

set_option maxHeartbeats 4000000 in
set_option maxRecDepth 100000 in
theorem classes_any (w : World) : Calls Try.prog 35 #[] w (RetClasses w) := by
  go_enter Try.func35, Try.ntmps35
  go_wp2
  go_ret
  exact laid_classes w

end Go.Proofs.Ytmmmcfflhlkiiaa

namespace Go.Proofs.Ytmmmcfflhlkiiaa
open Go.RowKit SetPure

set_option maxHeartbeats 1600000 in
set_option maxRecDepth 100000 in
theorem ucdOf_any (v : Value) (l : List Rg) (W w : World) (L : List (Value × (Int → Bool))) (hH : Hold W w L) (hv : IsSeq Epair w v l) (hl : l.length ≤ 1000000) :
    Calls Try.prog 36 #[v] w fun e w' => ∃ x, e = .returned x ∧ Hold W w' ((x, fun z => inB l z && inR z) :: L) := by
  obtain ⟨A, c, rfl, _, _, hA⟩ := hv
  have HA := Lib.hid hA
  clear hA
  go_enter Try.func36, Try.ntmps36
  go_wp2
  go_loopw [3, 8] (fun vb i wr => ∃ k : Nat, k ≤ l.length ∧ i = .int .i64 k ∧ Own Epair 44 w wr vb (l.take k))
    (fun _ i _ => l.length + 1 - (intOf i).toNat)
  case atStart => exact ⟨0, by omega, rfl, Own.nil_ _⟩
  case round =>
    obtain ⟨k, hk, rfl, hown⟩ := hrel
    have hz := hown.size
    by_cases hlt : k < l.length
    · obtain ⟨b, off, rfl, hb, hc⟩ := (HA.out.below hown.2).pairs_ (by omega)
      obtain ⟨h0, h1⟩ := hc k hlt
      clear hc
      obtain ⟨⟨x, y⟩, hr⟩ : ∃ r, l.getD k (0, 0) = r := ⟨_, rfl⟩
      rw [hr] at h0 h1
      simp only at h0 h1
      have HS := Lib.hid (take_next' hlt hr)
      clear hr
      have hlk : (l.take k).length = k := by rw [List.length_take]; omega
      go_wp2_with (at_builtin; (refine wpList_append_seq _ rfl (.tmp 12) (.tmp 18) 24 rfl 16 elRanges rfl ((hown.alloc _).alloc _) 1 rfl (SeqAt.new_at (E := Epair) (wr.alloc _) [(x, y)] 44 (wr.heap.size + 1) (by simp)) rfl (by simp only [maxLen]; omega) (by omega) ?_); intro v1 w1 ho1 hg1)
      go_roundw
      case rel => exact ⟨k + 1, by omega, by go_num, by rw [HS.out]; exact ho1⟩
      case measure => simp [intOf]; omega
    · obtain rfl : k = l.length := by omega
      rw [List.take_length] at hown
      have hab := hown.2
      have hH2 := hH.go hab
      have HO := Lib.hid (hold_of hH2 hown.isSeq (by omega))
      clear hown
      go_wp2_with (go_at_call 8; refine HO.out.mono ?_; rintro e w1 ⟨x, rfl, hx⟩)
      go_ret
      exact ⟨x, rfl, hx⟩

def blanksL : List Rg := [(9, 13), (32, 32), (133, 133), (160, 160), (8192, 8202), (8232, 8233), (12288, 12288)]

set_option maxHeartbeats 400000 in
theorem blanks_any (W w : World) (L : List (Value × (Int → Bool))) (hH : Hold W w L) :
    Calls Try.prog 21 #[] w fun e w' => ∃ x, e = .returned x ∧ Hold W w' ((x, fun z => inB blanksL z && inR z) :: L) := by
  have hseq : IsSeq Epair (w.alloc (.cells (blanksL.flatMap Epair.enc).toArray 94)) (.slice (some ⟨w.heap.size, 0, none⟩) blanksL.length 7) blanksL :=
    IsSeq.new w _ _ 7 (by decide) (by simp [maxLen])
  have HO := Lib.hid (ucdOf_any _ _ W _ L (hH.alloc _) hseq (by decide))
  clear hseq
  go_enter Try.func21, Try.ntmps21
  go_wp2_with (go_at_call 36; refine HO.out.mono ?_; rintro e w1 ⟨x, rfl, hx⟩)
  go_ret
  exact ⟨x, rfl, hx⟩

end Go.Proofs.Ytmmmcfflhlkiiaa

namespace Go.Proofs.Ytmmmcfflhlkiiaa
open Go.RowKit SetPure Go.WideShapes

theorem names_apart : ∀ i : Fin 15, ∀ j : Fin 15, i ≠ j → nameC i ≠ nameC j := by decide +kernel
theorem name_ne {i j : Nat} (hi : i < 15) (hj : j < 15) (h : i ≠ j) : nameC i ≠ nameC j := names_apart ⟨i, hi⟩ ⟨j, hj⟩ (fun e => h (by simpa using e))
theorem name_not_any : ∀ i : Fin 15, nameC i ≠ ⟨#[65, 110, 121]⟩ := by decide +kernel
theorem ranges_short : ∀ i : Fin 15, (rangesC i).length ≤ 20 := by decide +kernel

theorem str_eq {s t : ByteArray} (h : s = t) : (s.toList == t.toList) = true := by subst h; simp
theorem str_ne {s t : ByteArray} (h : s ≠ t) : (s.toList == t.toList) = false := by
  have : s.toList ≠ t.toList := by
    rw [ByteArray.toList_eq, ByteArray.toList_eq]
    exact fun e => h (bytes_inj e)
  simpa using this

theorem any_list : (⟨#[65, 110, 121]⟩ : ByteArray).toList = [65, 110, 121] := by rw [ByteArray.toList_eq]

set_option maxHeartbeats 1600000 in
/-- Class at a name of the table. -/
theorem class_base (i : Nat) (hi : i < 15) (W w : World) (L : List (Value × (Int → Bool))) (hH : Hold W w L) :
    Calls Try.prog 20 #[.string (nameC i)] w fun e w' => ∃ x, e = .returned (.tuple #[x, .bool true]) ∧ Hold W w' ((x, fun z => inB (rangesC i) z && inR z) :: L) := by
  have hna : nameC i ≠ ⟨#[65, 110, 121]⟩ := name_not_any ⟨i, hi⟩
  have hrs : (rangesC i).length ≤ 20 := ranges_short ⟨i, hi⟩
  have HN := Lib.hid (fun j (hj : j < i) => name_ne (by omega : j < 15) hi (by omega : j ≠ i))
  have hb0 : ((nameC i).toList == [65, 110, 121]) = false := by
    have h := str_ne hna
    rwa [any_list] at h
  obtain ⟨s, hs⟩ : ∃ s, nameC i = s := ⟨_, rfl⟩
  rw [hs] at hna hb0 HN ⊢
  go_enter Try.func20, Try.ntmps20
  go_wp2_with (go_at_call 35; refine (classes_any _).mono ?_; rintro e w1 ⟨g, rfl, hb1, hg, hT⟩; have HT := Lib.hid hT; clear hT)
  have hH1 := hH.go hb1
  go_loopw [20] (fun k wr => ∃ j : Nat, j ≤ i ∧ k = .int .i64 j ∧ Below w1.heap.size w1 wr) (fun k _ => 16 - (intOf k).toNat)
  case atStart => exact ⟨0, by omega, rfl, Below.refl _ _⟩
  case round =>
    obtain ⟨j, hj, rfl, hbw⟩ := hrel
    have hz := hbw.size
    obtain ⟨t0, A, t1, hA⟩ := HT.out j (by omega)
    have c0 := (hbw.cell (p := ⟨g, j * 2, none⟩) hg).trans t0
    have c1 := (hbw.cell (p := ⟨g, j * 2 + 1, none⟩) hg).trans t1
    have HA := Lib.hid hA
    clear t0 t1 hA
    rcases Nat.lt_or_eq_of_le hj with hlt | rfl
    · have hne := str_ne (HN.out j hlt)
      generalize nameC j = t at *
      go_wp2
      go_roundw
      case rel => exact ⟨j + 1, by omega, by go_num, hbw.alloc hz _⟩
      case measure => simp [intOf]; omega
    · rw [hs] at c0
      have hle : (rangesC j).length ≤ maxLen := by simp only [maxLen]; omega
      have HO := Lib.hid (fun wx (hx : Below wr.heap.size wr wx) => ucdOf_any (.slice A (rangesC j).length (rangesC j).length) (rangesC j) W wx L ((hH1.go hbw).go hx) ⟨A, _, rfl, Nat.le_refl _, hle, ((HA.out.below hbw).more hz |>.below hx).more hx.size⟩ (by omega))
      go_wp2_with (go_at_call 36; refine (HO.out _ ((Below.refl _ wr).alloc (Nat.le_refl _) _)).mono ?_; rintro e w2 ⟨x, rfl, hx⟩)
      go_ret2
      exact ⟨x, rfl, hx⟩

end Go.Proofs.Ytmmmcfflhlkiiaa

namespace Go.Proofs.Ytmmmcfflhlkiiaa
open Go.RowKit SetPure Go.WideShapes

def nameU (u : Nat) : ByteArray := if u = 0 then ⟨#[76]⟩ else ⟨#[78]⟩
def idxU (u : Nat) : List Nat := if u = 0 then [0, 1, 2] else [3]
theorem nameU_apart : ∀ u : Fin 2, ∀ j : Fin 15, nameC j ≠ nameU u := by decide +kernel
theorem nameU_not_any : ∀ u : Fin 2, nameU u ≠ ⟨#[65, 110, 121]⟩ := by decide +kernel
theorem idxU_lt : ∀ u : Fin 2, ∀ i ∈ idxU u, i < 15 := by decide

/-- What 'unions' hands back. -/
def RetUnions (w : World) (e : Ending) (w' : World) : Prop := ∃ g : Nat, e = .returned (.slice (some ⟨g, 0, none⟩) 2 2) ∧ Below w.heap.size w w' ∧ g < w'.heap.size ∧
  ∀ u, u < 2 → w'.cell? ⟨g, u * 2, none⟩ = some (.string (nameU u)) ∧ ∃ b, w'.cell? ⟨g, u * 2 + 1, none⟩ = some (.slice (some ⟨b, 0, none⟩) (idxU u).length (idxU u).length) ∧ b < w'.heap.size ∧
    ∀ k, k < (idxU u).length → w'.cell? ⟨b, k, none⟩ = some (.string (nameC ((idxU u).getD k 0)))

set_option maxHeartbeats 800000 in
theorem unions_any (w : World) : Calls Try.prog 37 #[] w (RetUnions w) := by
  go_enter Try.func37, Try.ntmps37
  go_wp2
  go_ret
  refine ⟨w.heap.size + 2, rfl, (((Below.refl _ w).alloc (Nat.le_refl _) _).alloc (by simp) _).alloc (by simp <;> omega) _, by simp, fun u hu => ?_⟩
  obtain rfl | rfl : u = 0 ∨ u = 1 := by omega
  · refine ⟨by go_simp; rfl, w.heap.size, by go_simp; rfl, by simp; omega, fun k hk => ?_⟩
    have hk : k < 3 := hk
    obtain rfl | rfl | rfl : k = 0 ∨ k = 1 ∨ k = 2 := by omega
    all_goals (go_simp; rfl)
  · refine ⟨by go_simp; rfl, w.heap.size + 1, by go_simp; rfl, by simp, fun k hk => ?_⟩
    have hk : k < 1 := hk
    obtain rfl : k = 0 := by omega
    go_simp; rfl

/-- What is in the first k classes of a union. -/
def unionF (idx : List Nat) (k : Nat) (z : Int) : Bool := (idx.take k).any fun i => inB (rangesC i) z && inR z
theorem unionF_succ {idx : List Nat} {k : Nat} (hk : k < idx.length) (z : Int) : unionF idx (k + 1) z = (unionF idx k z || (inB (rangesC (idx.getD k 0)) z && inR z)) := by
  unfold unionF
  rw [List.take_add_one, List.getElem?_eq_getElem hk, List.getD_eq_getElem?_getD, List.getElem?_eq_getElem hk, List.any_append]
  simp
theorem Hold.congr {W w : World} {L : List (Value × (Int → Bool))} {v : Value} {f g : Int → Bool} (h : Hold W w ((v, f) :: L)) (e : ∀ z, f z = g z) : Hold W w ((v, g) :: L) :=
  ⟨h.1, fun p hp => by
    rcases List.mem_cons.1 hp with rfl | hp
    · exact (h.get (List.Mem.head _)).congr e
    · exact h.2 p (List.mem_cons_of_mem _ hp)⟩
theorem Hold.tail {W w : World} {L : List (Value × (Int → Bool))} {p : Value × (Int → Bool)} (h : Hold W w (p :: L)) : Hold W w L := ⟨h.1, fun q hq => h.2 q (List.mem_cons_of_mem _ hq)⟩
theorem Hold.drop2 {W w : World} {L : List (Value × (Int → Bool))} {p q r : Value × (Int → Bool)} (h : Hold W w (p :: q :: r :: L)) : Hold W w (p :: L) :=
  ⟨h.1, fun s hs => by
    rcases List.mem_cons.1 hs with rfl | hs
    · exact h.2 _ (List.Mem.head _)
    · exact h.2 s (List.mem_cons_of_mem _ (List.mem_cons_of_mem _ (List.mem_cons_of_mem _ hs)))⟩
theorem Hold.base {W w0 w : World} {L : List (Value × (Int → Bool))} (h : Hold W w L) (hb : Below w0.heap.size w0 w) : Hold w0 w L := ⟨hb, h.2⟩
theorem Hold.rebase {W w0 w : World} {L : List (Value × (Int → Bool))} (h0 : Below W.heap.size W w0) (h : Hold w0 w L) : Hold W w L := ⟨h0.trans (h.1.mono h0.size), h.2⟩
theorem Hold.nil_ {W w : World} {L : List (Value × (Int → Bool))} (h : Hold W w L) : Hold W w ((.slice none 0 0, fun _ => false) :: L) :=
  h.add (Below.refl _ w) ⟨[], ⟨⟨none, 0, rfl, by simp, by simp [maxLen], SeqAt.nil_⟩, trivial, TyOf.none_ _ _ _ _⟩, fun _ => rfl⟩

set_option maxHeartbeats 3200000 in
theorem class_union (u : Nat) (hu : u < 2) (W w : World) (L : List (Value × (Int → Bool))) (hH : Hold W w L) :
    Calls Try.prog 20 #[.string (nameU u)] w fun e w' => ∃ x, e = .returned (.tuple #[x, .bool true]) ∧ Hold W w' ((x, unionF (idxU u) (idxU u).length) :: L) := by
  have hb0 : ((nameU u).toList == [65, 110, 121]) = false := by
    have h := str_ne (nameU_not_any ⟨u, hu⟩)
    rwa [any_list] at h
  have HN := Lib.hid (fun j (hj : j < 15) => nameU_apart ⟨u, hu⟩ ⟨j, hj⟩)
  have HU := Lib.hid (show u = 1 → nameU 0 ≠ nameU u by rintro rfl; decide +kernel)
  have HI := Lib.hid (fun k (hk : k < (idxU u).length) => idxU_lt ⟨u, hu⟩ ((idxU u).getD k 0) (by rw [List.getD_eq_getElem?_getD, List.getElem?_eq_getElem hk]; exact List.getElem_mem hk))
  have hil : (idxU u).length ≤ 3 := by obtain rfl | rfl : u = 0 ∨ u = 1 := by omega
                                       · decide
                                       · decide
  obtain ⟨s, hs⟩ : ∃ s, nameU u = s := ⟨_, rfl⟩
  obtain ⟨idx, hidx⟩ : ∃ idx, idxU u = idx := ⟨_, rfl⟩
  rw [hs] at hb0 HN HU ⊢
  rw [hidx] at HI hil ⊢
  simp only at HN
  go_enter Try.func20, Try.ntmps20
  go_wp2_with (go_at_call 35; refine (classes_any _).mono ?_; rintro e w1 ⟨g, rfl, hb1, hg, hT⟩; have HT := Lib.hid hT; clear hT)
  have hH1 := hH.go hb1
  go_loopw [20] (fun k wr => ∃ j : Nat, j ≤ 15 ∧ k = .int .i64 j ∧ Below w1.heap.size w1 wr) (fun k _ => 16 - (intOf k).toNat)
  case atStart => exact ⟨0, by omega, rfl, Below.refl _ _⟩
  case round =>
    obtain ⟨j, hj, rfl, hbw⟩ := hrel
    have hz := hbw.size
    by_cases hlt : j < 15
    · obtain ⟨t0, A, t1, hA⟩ := HT.out j hlt
      have c0 := (hbw.cell (p := ⟨g, j * 2, none⟩) hg).trans t0
      have c1 := (hbw.cell (p := ⟨g, j * 2 + 1, none⟩) hg).trans t1
      clear t0 t1 hA
      have hne := str_ne (HN.out j hlt)
      generalize nameC j = t at *
      go_wp2
      go_roundw
      case rel => exact ⟨j + 1, by omega, by go_num, hbw.alloc hz _⟩
      case measure => simp [intOf]; omega
    · obtain rfl : j = 15 := by omega
      have hH2 := hH1.go hbw
      clear HT HN hH1 hbw hz
      go_wp2_with (go_at_call 37; refine (unions_any _).mono ?_; rintro e w2 ⟨g2, rfl, hb2, hg2, hT2⟩; have HT := Lib.hid hT2; clear hT2)
      have hH3 := hH2.go hb2
      go_loopw [34] (fun k wr => ∃ m : Nat, m ≤ u ∧ k = .int .i64 m ∧ Below w2.heap.size w2 wr) (fun k _ => 3 - (intOf k).toNat)
      case atStart => exact ⟨0, by omega, rfl, Below.refl _ _⟩
      case round =>
        obtain ⟨m, hm, rfl, hbw⟩ := hrel
        have hz := hbw.size
        obtain ⟨t0, b, t1, hb, hC⟩ := HT.out m (by omega)
        have c0 := (hbw.cell (p := ⟨g2, m * 2, none⟩) hg2).trans t0
        have c1 := (hbw.cell (p := ⟨g2, m * 2 + 1, none⟩) hg2).trans t1
        have HC := Lib.hid hC
        clear t0 t1 hC
        rcases Nat.lt_or_eq_of_le hm with hlt | rfl
        · obtain ⟨rfl, rfl⟩ : m = 0 ∧ u = 1 := by omega
          have hne := str_ne (HU.out rfl)
          generalize nameU 0 = t at *
          go_wp2
          go_roundw
          case rel => exact ⟨1, by omega, by go_num, hbw.alloc hz _⟩
          case measure => simp [intOf]
        · rw [hs] at c0
          rw [hidx] at c1 HC
          have hH4 := hH3.go hbw
          have hW2 := hH3.1
          have hm2 : (m : Int) < 2 := by omega
          clear HT HU hH2 hH3
          go_wp2
          go_loopw [8, 10, 11, 12, 45] (fun v _ _ _ i wx => ∃ k : Nat, k ≤ idx.length ∧ i = .int .i64 k ∧ Hold w2 wx ((v, unionF idx k) :: L))
            (fun _ _ _ _ i _ => idx.length + 1 - (intOf i).toNat)
          case atStart => exact ⟨0, by omega, rfl, (((hH4.alloc _).base (hbw.alloc hz _)).nil_).congr (fun z => by simp [unionF])⟩
          case round =>
            obtain ⟨k, hk, rfl, hHk⟩ := hrel
            have hbk := hHk.1
            by_cases hlk : k < idx.length
            · have ck := (hbk.cell (p := ⟨b, k, none⟩) hb).trans (HC.out k hlk)
              have hn := HI.out k hlk
              have HF := Lib.hid (fun z => (unionF_succ hlk z).symm)
              generalize idx.getD k 0 = n at *
              have HB := Lib.hid (class_base n hn w2 _ _ hHk)
              generalize nameC n = t at *
              have hki : (k : Int) < (idx.length : Int) := by omega
              go_wp2_with (first
                | (go_at_call 20; refine HB.out.mono ?_; rintro e w5 ⟨x5, rfl, hH5⟩)
                | (go_at_call 7; refine (hold_or hH5 (by repeat (first | exact List.Mem.head _ | apply List.Mem.tail)) (by repeat (first | exact List.Mem.head _ | apply List.Mem.tail))).mono ?_; rintro e w6 ⟨x6, rfl, hH6⟩))
              go_roundw
              case rel => exact ⟨k + 1, by omega, by go_num, hH6.drop2.congr HF.out⟩
              case measure => simp [intOf]; omega
            · obtain rfl : k = idx.length := by omega
              go_wp2
              go_ret2
              exact ⟨_, rfl, Hold.rebase hW2 hHk⟩

end Go.Proofs.Ytmmmcfflhlkiiaa

namespace Go.Proofs.Ytmmmcfflhlkiiaa
open Go.RowKit SetPure Go.WideShapes

set_option maxHeartbeats 800000 in
theorem class_every (W w : World) (L : List (Value × (Int → Bool))) (hH : Hold W w L) :
    Calls Try.prog 20 #[.string ⟨#[65, 110, 121]⟩] w fun e w' => ∃ x, e = .returned (.tuple #[x, .bool true]) ∧ Hold W w' ((x, inR) :: L) := by
  have hseq : IsSeq Epair (w.alloc (.cells (([(0, 1114111)] : List Rg).flatMap Epair.enc).toArray 44)) (.slice (some ⟨w.heap.size, 0, none⟩) ([(0, 1114111)] : List Rg).length 1) [(0, 1114111)] :=
    IsSeq.new w _ _ 1 (by decide) (by simp [maxLen])
  have HO := Lib.hid (hold_of (hH.alloc _) hseq (by decide))
  clear hseq
  have ha := any_list
  go_enter Try.func20, Try.ntmps20
  go_wp2_with (go_at_call 8; refine HO.out.mono ?_; rintro e w1 ⟨x, rfl, hx⟩)
  go_ret2
  exact ⟨x, rfl, hx.congr (fun z => by simp [inB, inR])⟩

def nameA (n : Nat) : ByteArray := if n < 15 then nameC n else if n = 17 then ⟨#[65, 110, 121]⟩ else nameU (n - 15)
def classF (n : Nat) : Int → Bool := if n < 15 then fun z => inB (rangesC n) z && inR z else if n = 17 then inR else unionF (idxU (n - 15)) (idxU (n - 15)).length

/-- Class at every name. -/
theorem class_named (n : Nat) (hn : n < 18) (W w : World) (L : List (Value × (Int → Bool))) (hH : Hold W w L) :
    Calls Try.prog 20 #[.string (nameA n)] w fun e w' => ∃ x, e = .returned (.tuple #[x, .bool true]) ∧ Hold W w' ((x, classF n) :: L) := by
  unfold nameA classF
  by_cases h : n < 15
  · simp only [h, if_true]
    exact class_base n h W w L hH
  · by_cases h7 : n = 17
    · simp only [h7, if_true]
      exact class_every W w L hH
    · simp only [h, h7, if_false]
      exact class_union (n - 15) (by omega) W w L hH

/-- What is in the first k classes of a list of names. -/
def orF (idx : List Nat) (k : Nat) (z : Int) : Bool := (idx.take k).any fun i => classF i z
theorem orF_succ {idx : List Nat} {k : Nat} (hk : k < idx.length) (z : Int) : orF idx (k + 1) z = (orF idx k z || classF (idx.getD k 0) z) := by
  unfold orF
  rw [List.take_add_one, List.getElem?_eq_getElem hk, List.getD_eq_getElem?_getD, List.getElem?_eq_getElem hk, List.any_append]
  simp

/-- What Perl's letters tell. -/
def perlF (k : Nat) : Int → Bool := if k = 0 then classF 3 else if k = 1 then fun z => inB blanksL z && inR z else orF [15, 3, 4] 3

theorem name3 : nameA 3 = ⟨#[78, 100]⟩ := by decide +kernel

set_option maxHeartbeats 1600000 in
theorem perl_d (b : Bool) (W w : World) (L : List (Value × (Int → Bool))) (hH : Hold W w L) :
    Calls Try.prog 9 #[.int .u8 (if b then 100 else 68)] w fun e w' => ∃ x, e = .returned (.tuple #[x, .bool true]) ∧ Hold W w' ((x, if b then perlF 0 else fun z => inR z && !perlF 0 z) :: L) := by
  have HC := Lib.hid (class_named 3 (by decide) W w L hH)
  rw [name3] at HC
  cases b
  · simp only [Bool.false_eq_true, if_false]
    go_enter Try.func9, Try.ntmps9
    go_wp2_with (first
      | (go_at_call 20; refine HC.out.mono ?_; rintro e w1 ⟨x, rfl, hx⟩)
      | (go_at_call 10; refine (hold_not hx (List.Mem.head _)).mono ?_; rintro e w2 ⟨y, rfl, hy⟩))
    go_ret2
    exact ⟨y, rfl, hy.1, fun p hp => by
      rcases List.mem_cons.1 hp with rfl | hp
      · exact hy.2 _ (List.Mem.head _)
      · exact hy.2 p (List.mem_cons_of_mem _ (List.mem_cons_of_mem _ hp))⟩
  · simp only [if_true]
    go_enter Try.func9, Try.ntmps9
    go_wp2_with (go_at_call 20; refine HC.out.mono ?_; rintro e w1 ⟨x, rfl, hx⟩)
    go_ret2
    exact ⟨x, rfl, hx⟩

set_option maxHeartbeats 1600000 in
theorem perl_s (b : Bool) (W w : World) (L : List (Value × (Int → Bool))) (hH : Hold W w L) :
    Calls Try.prog 9 #[.int .u8 (if b then 115 else 83)] w fun e w' => ∃ x, e = .returned (.tuple #[x, .bool true]) ∧ Hold W w' ((x, if b then perlF 1 else fun z => inR z && !perlF 1 z) :: L) := by
  have HC := Lib.hid (blanks_any W w L hH)
  cases b
  · simp only [Bool.false_eq_true, if_false]
    go_enter Try.func9, Try.ntmps9
    go_wp2_with (first
      | (go_at_call 21; refine HC.out.mono ?_; rintro e w1 ⟨x, rfl, hx⟩)
      | (go_at_call 10; refine (hold_not hx (List.Mem.head _)).mono ?_; rintro e w2 ⟨y, rfl, hy⟩))
    go_ret2
    exact ⟨y, rfl, hy.1, fun p hp => by
      rcases List.mem_cons.1 hp with rfl | hp
      · exact hy.2 _ (List.Mem.head _)
      · exact hy.2 p (List.mem_cons_of_mem _ (List.mem_cons_of_mem _ hp))⟩
  · simp only [if_true]
    go_enter Try.func9, Try.ntmps9
    go_wp2_with (go_at_call 21; refine HC.out.mono ?_; rintro e w1 ⟨x, rfl, hx⟩)
    go_ret2
    exact ⟨x, rfl, hx⟩

set_option maxHeartbeats 1600000 in
theorem perl_w (b : Bool) (W w : World) (L : List (Value × (Int → Bool))) (hH : Hold W w L) :
    Calls Try.prog 9 #[.int .u8 (if b then 119 else 87)] w fun e w' => ∃ x, e = .returned (.tuple #[x, .bool true]) ∧ Hold W w' ((x, if b then perlF 2 else fun z => inR z && !perlF 2 z) :: L) := by
  have hN : ∀ k, k < 3 → ∃ n, n < 18 ∧ ([15, 3, 4] : List Nat).getD k 0 = n := fun k hk => by
    obtain rfl | rfl | rfl : k = 0 ∨ k = 1 ∨ k = 2 := by omega
    all_goals exact ⟨_, by decide, rfl⟩
  have hW : ∀ k, k < 3 → (w.alloc (.cells #[.string ⟨#[76]⟩, .string ⟨#[78, 100]⟩, .string ⟨#[80, 99]⟩] 9)).cell? ⟨w.heap.size, k, none⟩ = some (.string (nameA (([15, 3, 4] : List Nat).getD k 0))) := fun k hk => by
    have h15 : nameA 15 = ⟨#[76]⟩ := by decide +kernel
    have h3 : nameA 3 = ⟨#[78, 100]⟩ := by decide +kernel
    have h4 : nameA 4 = ⟨#[80, 99]⟩ := by decide +kernel
    obtain rfl | rfl | rfl : k = 0 ∨ k = 1 ∨ k = 2 := by omega
    · rw [show ([15, 3, 4] : List Nat).getD 0 0 = 15 from rfl, h15]; go_simp
    · rw [show ([15, 3, 4] : List Nat).getD 1 0 = 3 from rfl, h3]; go_simp
    · rw [show ([15, 3, 4] : List Nat).getD 2 0 = 4 from rfl, h4]; go_simp
  have HN := Lib.hid hN
  have HC := Lib.hid hW
  clear hN hW
  have hW0 := (hH.alloc (.cells #[.string ⟨#[76]⟩, .string ⟨#[78, 100]⟩, .string ⟨#[80, 99]⟩] 9)).1
  have h0 := Lib.hid (((hH.alloc (.cells #[.string ⟨#[76]⟩, .string ⟨#[78, 100]⟩, .string ⟨#[80, 99]⟩] 9)).base (Below.refl _ _)).nil_)
  have hb1 : bits BinOp.or IntKind.u8 87 32 = 119 := by decide +kernel
  have hb2 : bits BinOp.or IntKind.u8 119 32 = 119 := by decide +kernel
  cases b
  all_goals
    simp only [Bool.false_eq_true, if_false, if_true]
    go_enter Try.func9, Try.ntmps9
    go_wp2
    go_loopw [4, 6, 7, 8, 24] (fun v _ _ _ i wx => ∃ k : Nat, k ≤ 3 ∧ i = .int .i64 k ∧ Hold (w.alloc (.cells #[.string ⟨#[76]⟩, .string ⟨#[78, 100]⟩, .string ⟨#[80, 99]⟩] 9)) wx ((v, orF [15, 3, 4] k) :: L))
      (fun _ _ _ _ i _ => 4 - (intOf i).toNat)
    case atStart => exact ⟨0, by omega, rfl, h0.out.congr (fun z => by simp [orF])⟩
    case round =>
      obtain ⟨k, hk, rfl, hHk⟩ := hrel
      have hbk := hHk.1
      by_cases hlk : k < 3
      · obtain ⟨n, hn, hnk⟩ := HN.out k hlk
        have ck := (hbk.cell (p := ⟨w.heap.size, k, none⟩) (by simp)).trans (HC.out k hlk)
        have HF := Lib.hid (fun z => (orF_succ (idx := [15, 3, 4]) (by simpa using hlk : k < [15, 3, 4].length) z).symm)
        have hzb := hbk.size
        rw [hnk] at ck HF
        have HB := Lib.hid (class_named n hn _ _ _ hHk)
        clear hnk
        generalize nameA n = t at *
        have hki : (k : Int) < 3 := by omega
        go_wp2_with (first
          | (go_at_call 20; refine HB.out.mono ?_; rintro e w5 ⟨x5, rfl, hH5⟩)
          | (go_at_call 7; refine (hold_or hH5 (by repeat (first | exact List.Mem.head _ | apply List.Mem.tail)) (by repeat (first | exact List.Mem.head _ | apply List.Mem.tail))).mono ?_; rintro e w6 ⟨x6, rfl, hH6⟩))
        go_roundw
        case rel => exact ⟨k + 1, by omega, by go_num, hH6.drop2.congr HF.out⟩
        case measure => simp [intOf]; omega
      · obtain rfl : k = 3 := by omega
        have hHe := Hold.rebase hW0 hHk
        go_wp2_with (go_at_call 10; refine (hold_not hHe (List.Mem.head _)).mono ?_; rintro e w2 ⟨y, rfl, hy⟩)
        go_ret2
        first
        | exact ⟨_, rfl, hHe⟩
        | exact ⟨y, rfl, hy.1, fun p hp => by
            rcases List.mem_cons.1 hp with rfl | hp
            · exact hy.2 _ (List.Mem.head _)
            · exact hy.2 p (List.mem_cons_of_mem _ (List.mem_cons_of_mem _ hp))⟩

end Go.Proofs.Ytmmmcfflhlkiiaa
