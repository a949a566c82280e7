/- Sets told by what is in them: every method's contract over the sets that a walk holds so far, each with its test of numbers. -/
import Derived.Test.YtpidgcjioocmhaaSetsOpsA
namespace Go.Proofs.Ytpidgcjioocmhaa
open Go.RowKit SetPure

def inR (z : Int) : Bool := decide (0 ≤ z) && decide (z ≤ 1114111)
theorem inR_iff (z : Int) : inR z = true ↔ 0 ≤ z ∧ z ≤ 1114111 := by simp [inR]
/-- How many numbers pass the test. -/
def cntF (f : Int → Bool) : Nat := cnt f 0 1114112

/-- The value is a set that holds just the numbers that pass the test. -/
def SetF (w : World) (v : Value) (f : Int → Bool) : Prop := ∃ s, IsSet w v s ∧ ∀ z, inB s z = f z
theorem SetF.below {w w' : World} {v : Value} {f : Int → Bool} (h : SetF w v f) (hb : Below w.heap.size w w') : SetF w' v f := by
  obtain ⟨s, h1, h2⟩ := h
  exact ⟨s, h1.below hb, h2⟩
theorem SetF.inR {w : World} {v : Value} {f : Int → Bool} (h : SetF w v f) {z : Int} (hz : f z = true) : inR z = true := by
  obtain ⟨s, h1, h2⟩ := h
  rw [← h2, inB_iff] at hz
  rw [inR_iff]
  exact CanonFrom.lo h1.canon hz
theorem SetF.congr {w : World} {v : Value} {f g : Int → Bool} (h : SetF w v f) (e : ∀ z, f z = g z) : SetF w v g := by
  obtain ⟨s, h1, h2⟩ := h
  exact ⟨s, h1, fun z => (h2 z).trans (e z)⟩
theorem SetF.of_end {w' : World} {v : Value} {s : List Rg} {p : Int → Prop} {f : Int → Bool} (h : IsSet w' v s) (hp : ∀ x, InS s x ↔ p x) (hf : ∀ x, f x = true ↔ p x) : SetF w' v f :=
  ⟨s, h, fun z => by rw [Bool.eq_iff_iff, inB_iff, hp, hf]⟩

/-- What a walk holds: the world it began in stands, and so many sets. -/
def Hold (W w : World) (L : List (Value × (Int → Bool))) : Prop := Below W.heap.size W w ∧ ∀ p ∈ L, SetF w p.1 p.2
section
variable {W w w' : World} {L : List (Value × (Int → Bool))} {v u : Value} {f g : Int → Bool}
theorem Hold.get (h : Hold W w L) (hv : (v, f) ∈ L) : SetF w v f := h.2 _ hv
theorem Hold.start (W : World) : Hold W W [] := ⟨Below.refl _ _, fun p hp => by cases hp⟩
theorem Hold.go (h : Hold W w L) (hb : Below w.heap.size w w') : Hold W w' L := ⟨h.1.trans (hb.mono h.1.size), fun p hp => (h.2 p hp).below hb⟩
theorem Hold.add (h : Hold W w L) (hb : Below w.heap.size w w') (hv : SetF w' v f) : Hold W w' ((v, f) :: L) :=
  ⟨(h.go hb).1, fun p hp => by
    rcases List.mem_cons.1 hp with rfl | hp
    · exact hv
    · exact (h.go hb).2 p hp⟩
theorem Hold.alloc (h : Hold W w L) (o : Obj) : Hold W (w.alloc o) L := h.go ((Below.refl _ w).alloc (Nat.le_refl _) o)
theorem Hold.drewN (h : Hold W w L) (n : Nat) : Hold W (w.drewN n) L := h.go (below_drewN (Below.refl _ w) n)

theorem hold_has (h : Hold W w L) (hv : (v, f) ∈ L) (r : Int) : Calls Try.prog 15 #[v, .int .i64 r] w fun e w' => e = .returned (.bool (f r)) ∧ Hold W w' L := by
  obtain ⟨s, h1, h2⟩ := h.get hv
  refine (set_has h1 r).mono ?_
  rintro e w' ⟨rfl, hb⟩
  exact ⟨ret_bool (h2 r), h.go hb⟩
theorem hold_has_eq (h : Hold W w L) (hv : (v, f) ∈ L) (r : Int) (b : Bool) (hr : f r = b) : Calls Try.prog 15 #[v, .int .i64 r] w fun e w' => e = .returned (.bool b) ∧ Hold W w' L := by
  subst hr
  exact hold_has h hv r
theorem hold_not (h : Hold W w L) (hv : (v, f) ∈ L) : Calls Try.prog 38 #[v] w fun e w' => ∃ x, e = .returned x ∧ Hold W w' ((x, fun z => inR z && !f z) :: L) := by
  obtain ⟨s, h1, h2⟩ := h.get hv
  refine (set_not h1).mono ?_
  rintro e w' ⟨x, o, rfl, ho, hp, hb⟩
  exact ⟨x, rfl, h.add hb (SetF.of_end ho hp fun z => by rw [← h2]; simp [inR, inB_false, and_assoc])⟩
theorem hold_and (h : Hold W w L) (hv : (v, f) ∈ L) (hu : (u, g) ∈ L) : Calls Try.prog 17 #[v, u] w fun e w' => ∃ x, e = .returned x ∧ Hold W w' ((x, fun z => f z && g z) :: L) := by
  obtain ⟨s, h1, h2⟩ := h.get hv
  obtain ⟨t, k1, k2⟩ := h.get hu
  refine (set_and h1 k1).mono ?_
  rintro e w' ⟨x, o, rfl, ho, hp, hb⟩
  exact ⟨x, rfl, h.add hb (SetF.of_end ho hp fun z => by rw [← h2, ← k2]; simp [inB_iff])⟩
theorem hold_less (h : Hold W w L) (hv : (v, f) ∈ L) (hu : (u, g) ∈ L) : Calls Try.prog 20 #[v, u] w fun e w' => ∃ x, e = .returned x ∧ Hold W w' ((x, fun z => f z && !g z) :: L) := by
  obtain ⟨s, h1, h2⟩ := h.get hv
  obtain ⟨t, k1, k2⟩ := h.get hu
  refine (set_less h1 k1).mono ?_
  rintro e w' ⟨x, o, rfl, ho, hp, hb⟩
  exact ⟨x, rfl, h.add hb (SetF.of_end ho hp fun z => by rw [← h2, ← k2]; simp [inB_iff, inB_false])⟩
theorem hold_of (h : Hold W w L) {l : List Rg} (hl : IsSeq Epair w v l) (hn : l.length ≤ 8796093022208) : Calls Try.prog 13 #[v] w fun e w' => ∃ x, e = .returned x ∧ Hold W w' ((x, fun z => inB l z && inR z) :: L) := by
  refine (set_of hl hn).mono ?_
  rintro e w' ⟨x, o, rfl, ho, hp, hb⟩
  exact ⟨x, rfl, h.add hb (SetF.of_end ho hp fun z => by simp [inB_iff, inR])⟩
theorem hold_size (h : Hold W w L) (hv : (v, f) ∈ L) : Calls Try.prog 18 #[v] w fun e w' => e = .returned (.int .i64 (cntF f : Nat)) ∧ Hold W w' L := by
  obtain ⟨s, h1, h2⟩ := h.get hv
  refine (set_size h1).mono ?_
  rintro e w' ⟨rfl, hb⟩
  exact ⟨ret_int (by rw [h1.canon.size, cntF, show inB s = f from funext h2]), h.go hb⟩
end

theorem cntF_le (f : Int → Bool) : cntF f ≤ 1114112 := by
  have h := cnt_le (f := f) (g := fun _ => true) (lo := 0) (n := 1114112) (fun _ _ => rfl)
  rw [cnt_all (f := fun _ => true) (fun _ _ _ => rfl)] at h
  exact h
theorem cntF_congr {f g : Int → Bool} (h : ∀ z, inR z = true → f z = g z) : cntF f = cntF g := cnt_congr fun x h1 h2 => h x ((inR_iff x).2 ⟨h1, by omega⟩)
theorem cntF_none {f : Int → Bool} (h : ∀ z, inR z = true → f z = false) : cntF f = 0 := cnt_none fun x h1 h2 => h x ((inR_iff x).2 ⟨h1, by omega⟩)
theorem cntF_all {f : Int → Bool} (h : ∀ z, inR z = true → f z = true) : cntF f = 1114112 := cnt_all fun x h1 h2 => h x ((inR_iff x).2 ⟨h1, by omega⟩)
theorem cntF_both (f g : Int → Bool) : cntF (fun x => f x || g x) + cntF (fun x => f x && g x) = cntF f + cntF g := cnt_both f g 0 1114112
theorem cntF_not (f : Int → Bool) : cntF f + cntF (fun z => inR z && !f z) = 1114112 := by
  have h := cntF_both f (fun z => inR z && !f z)
  rw [cntF_all (f := fun x => f x || (inR x && !f x)) (fun z hz => by rw [hz]; cases f z <;> rfl), cntF_none (f := fun x => f x && (inR x && !f x)) (fun z hz => by rw [hz]; cases f z <;> rfl)] at h
  omega

end Go.Proofs.Ytpidgcjioocmhaa
