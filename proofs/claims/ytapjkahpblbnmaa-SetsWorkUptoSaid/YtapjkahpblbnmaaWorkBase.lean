/- Chapter 08, words for the walk of SetsWork: the sets that a walk holds against the document's ranges. -/
import Derived.Test.YtapjkahpblbnmaaSameLaw
namespace Go.Proofs.Ytapjkahpblbnmaa
open Go.RowKit SetPure CanonPure

/-- Do two tests tell the same numbers? -/
noncomputable def sameF (f g : Int → Bool) : Bool := @decide (∀ z, inR z = true → f z = g z) (Classical.propDecidable _)
theorem sameF_iff (f g : Int → Bool) : sameF f g = true ↔ ∀ z, inR z = true → f z = g z := by unfold sameF; exact @decide_eq_true_iff _ (Classical.propDecidable _)
theorem sameF_symm (f g : Int → Bool) : sameF f g = sameF g f := by
  rw [Bool.eq_iff_iff, sameF_iff, sameF_iff]
  exact ⟨fun h z hz => (h z hz).symm, fun h z hz => (h z hz).symm⟩
section
variable {W w : World} {L : List (Value × (Int → Bool))} {v u : Value} {f g : Int → Bool}
theorem same_lists {s t : List Rg} (hs : Canon s) (ht : Canon t) (h2 : ∀ z, inB s z = f z) (k2 : ∀ z, inR z = true → inB t z = g z) : decide (s = t) = sameF f g := by
  rw [Bool.eq_iff_iff, decide_eq_true_eq, sameF_iff]
  constructor
  · rintro rfl z hz
    rw [← h2, k2 z hz]
  · intro h
    refine Canon.unique hs ht fun z => ?_
    rw [← inB_iff, ← inB_iff]
    constructor
    · intro hz
      have hr : inR z = true := (inR_iff z).2 (CanonFrom.lo hs ((inB_iff _ _).1 hz))
      rw [k2 z hr, ← h z hr, ← h2]; exact hz
    · intro hz
      have hr : inR z = true := (inR_iff z).2 (CanonFrom.lo ht ((inB_iff _ _).1 hz))
      rw [h2, h z hr, ← k2 z hr]; exact hz
theorem hold_same_dec (h : Hold W w L) (hv : (v, f) ∈ L) (hu : (u, g) ∈ L) {b : Bool} (hb : sameF f g = b) : Calls Try.prog 11 #[v, u] w fun e w' => e = .returned (.bool b) ∧ Hold W w' L := by
  obtain ⟨s, h1, h2⟩ := h.get hv
  obtain ⟨t, k1, k2⟩ := h.get hu
  refine (set_same h1 k1).mono ?_
  rintro e w' ⟨rfl, hb'⟩
  exact ⟨ret_bool ((same_lists h1.canon k1.canon h2 (fun z _ => k2 z)).trans hb), h.go hb'⟩
theorem hold_ref_dec (h : Hold W w L) (hv : (v, f) ∈ L) {want : Nat → Bool} {a m : List Rg} (hu : IsSeq Epair w u (canonL want a m)) (e : ∀ z, inR z = true → maskB want a m z = g z) {b : Bool} (hb : sameF f g = b) :
    Calls Try.prog 18 #[v, u] w fun e w' => e = .returned (.bool b) ∧ Hold W w' L := by
  obtain ⟨s, h1, h2⟩ := h.get hv
  obtain ⟨c1, c2⟩ := canonL_spec want a m
  have h1' := h1
  obtain ⟨⟨A, c, rfl, _, _, hA⟩, hcan⟩ := h1
  obtain ⟨A', c', rfl, _, _, hA'⟩ := hu
  refine (same_any A A' c c' w.heap.size s _ w hcan c1 hA hA' (Nat.le_refl _) h1').mono ?_
  rintro e' w' ⟨rfl, hb'⟩
  refine ⟨ret_bool ((same_lists hcan c1 h2 (fun z hz => ?_)).trans hb), h.go hb'⟩
  rw [← e z hz, Bool.eq_iff_iff, inB_iff, c2]
  have := (inR_iff z).1 hz
  constructor
  · exact fun h => h.2.2
  · exact fun h => ⟨this.1, by omega, h⟩
theorem hold_ref (h : Hold W w L) (hv : (v, f) ∈ L) {want : Nat → Bool} {a m : List Rg} (hu : IsSeq Epair w u (canonL want a m)) (e : ∀ z, inR z = true → maskB want a m z = f z) :
    Calls Try.prog 18 #[v, u] w fun e w' => e = .returned (.bool true) ∧ Hold W w' L :=
  hold_ref_dec h hv hu e ((sameF_iff f f).2 fun _ _ => rfl)
theorem hold_canon (h : Hold W w L) {A A' : Option Addr} {c c' : Nat} {a m : List Rg} {b0 b1 b2 b3 : Bool} (hla : a.length ≤ 1048576) (hlb : m.length ≤ 1048576) (hA : SeqAt Epair W W.heap.size A a) (hA' : SeqAt Epair W W.heap.size A' m) :
    Calls Try.prog 19 #[.slice A a.length c, .slice A' m.length c', .agg #[.bool b0, .bool b1, .bool b2, .bool b3]] w fun e w' => ∃ x, e = .returned x ∧ IsSeq Epair w' x (canonL (wantF b0 b1 b2 b3) a m) ∧ Hold W w' L := by
  have hz := h.1.size
  refine (canon_any A A' c c' a m b0 b1 b2 b3 w hla hlb ((hA.below h.1).more hz) ((hA'.below h.1).more hz)).mono ?_
  rintro e w' ⟨x, rfl, ho⟩
  exact ⟨x, rfl, ho.isSeq, h.go ho.2⟩
theorem hold_in (h : Hold W w L) {A : Option Addr} {c : Nat} {a : List Rg} {r : Int} {b : Bool} (hla : a.length ≤ 1048576) (hA : SeqAt Epair W W.heap.size A a) (hb : inB a r = b) :
    Calls Try.prog 20 #[.slice A a.length c, .int .i64 r] w fun e w' => e = .returned (.bool b) ∧ Hold W w' L := by
  have hz := h.1.size
  subst hb
  refine (refIn_any A c W.heap.size a r w (by omega) (hA.below h.1) hz).mono ?_
  rintro e w' ⟨rfl, hb'⟩
  exact ⟨rfl, h.go hb'⟩
end

theorem Hold.onto {W w0 w : World} {L : List (Value × (Int → Bool))} (h : Hold W w L) (hb : Below w0.heap.size w0 w) : Hold w0 w L := ⟨hb, h.2⟩
theorem Hold.back {W w0 w : World} {L : List (Value × (Int → Bool))} (h0 : Below W.heap.size W w0) (h : Hold w0 w L) : Hold W w L := ⟨h0.trans (h.1.mono h0.size), h.2⟩
theorem Hold.drew' {W w : World} {L : List (Value × (Int → Bool))} (h : Hold W w L) : Hold W w.drew L := h.go ((Below.refl _ w).drew)
theorem is_cells (w : World) : (w.alloc (.cells #[.bool false, .bool true, .bool false, .bool true] 43)).cell? ⟨w.heap.size, 0, none⟩ = some (.bool false) ∧ (w.alloc (.cells #[.bool false, .bool true, .bool false, .bool true] 43)).cell? ⟨w.heap.size, 1, none⟩ = some (.bool true) ∧
    (w.alloc (.cells #[.bool false, .bool true, .bool false, .bool true] 43)).cell? ⟨w.heap.size, 2, none⟩ = some (.bool false) ∧ (w.alloc (.cells #[.bool false, .bool true, .bool false, .bool true] 43)).cell? ⟨w.heap.size, 3, none⟩ = some (.bool true) := by
  refine ⟨?_, ?_, ?_, ?_⟩ <;> go_simp

end Go.Proofs.Ytapjkahpblbnmaa
