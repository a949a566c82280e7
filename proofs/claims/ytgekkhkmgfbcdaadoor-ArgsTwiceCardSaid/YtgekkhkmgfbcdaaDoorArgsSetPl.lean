/- Chapter 25: a place's set, whatever its key. -/
import Derived.Test.YtgekkhkmgfbcdaaDoorArgsParM
namespace Go.Proofs.YtgekkhkmgfbcdaaDoor
open Go.Shelf Go.RowKit

/-- What set tells, and what it leaves. -/
def SetEnd (j : Nat) (y : ByteArray) (a : Addr) (w : World) (e : Ending) (w' : World) : Prop :=
  ∃ (ok : Bool) (u : Value), e = .returned (.bool ok) ∧ (ok = true → setR j y = some u) ∧ (ok = false → setR j y = none) ∧ Below w.heap.size (w.setCell a u) w'

theorem set_pl {w : World} {N pl q pi : Nat} {A : Option Addr} {c : Nat} {L : List ByteArray} {R : List Nat} {vs : List Value} {i : Int} (h : PInv w N pl q pi A c L R vs i) (hN : 4 ≤ N) (hB : Base w) {j : Nat} (hj : j < 18) (y : ByteArray) (hy : y.size ≤ 140737488355328)
    (v1 v2 v3 : Value) (h1 : (encPl N (N + 1) j)[1]? = some v1) (h2 : (encPl N (N + 1) j)[2]? = some v2) (h3 : (encPl N (N + 1) j)[3]? = some v3) :
    Calls Tryd.prog 28 #[.agg #[.string (keyN j), v1, v2, v3], .string y] w (SetEnd j y (valA N (N + 1) j) w) := by
  obtain ⟨⟨b, o, ha, hb⟩, hc, hf⟩ := h.val hj
  rw [ha] at hc hf
  simp only [encPl, List.getElem?_cons_succ, List.getElem?_cons_zero, Option.some.injEq, ha] at h1 h2 h3
  subst h1
  subst h2
  subst h3
  rw [ha]
  by_cases h5 : j < 5
  · rw [if_pos h5, if_neg (by omega), if_neg (by omega)]
    refine (set_num (keyN j) y b o _ w hy hB (by omega) hc hf).mono ?_
    rintro e w' ⟨u, rfl, ⟨m, rfl, hm⟩, hw⟩
    refine ⟨_, _, rfl, fun ho => ?_, fun ho => ?_, hw⟩
    · unfold setR
      rw [if_pos h5]
      cases hn : ArgsP.numL y.data.toList with
      | none => rw [hn] at ho; cases ho
      | some n => rw [hm n hn]; rfl
    · unfold setR
      rw [if_pos h5]
      cases hn : ArgsP.numL y.data.toList with
      | none => rfl
      | some n => rw [hn] at ho; cases ho
  · by_cases h15 : j < 15
    · rw [if_neg h5, if_pos ⟨by omega, h15⟩, if_neg (by omega)]
      refine (set_yes (keyN j) y b o _ w hc hf).mono ?_
      rintro e w' ⟨u, rfl, rfl, hw⟩
      refine ⟨_, _, rfl, fun ho => ?_, fun ho => ?_, hw⟩
      · unfold setR
        rw [if_neg h5, if_pos h15]
        cases e1 : (y.toList == [121, 101, 115])
        · rw [e1] at ho
          rw [if_neg (by decide), if_pos (by simpa using ho)]
        · rw [if_pos rfl]
      · unfold setR
        rw [if_neg h5, if_pos h15]
        rw [Bool.or_eq_false_iff] at ho
        rw [ho.1, ho.2]
        rfl
    · rw [if_neg h5, if_neg (fun e => h15 e.2), if_pos (by omega)]
      refine (set_txt (keyN j) y b o _ w hc hf).mono ?_
      rintro e w' ⟨u, rfl, rfl, hw⟩
      refine ⟨_, _, rfl, fun _ => ?_, fun ho => (by cases ho), hw⟩
      unfold setR
      rw [if_neg h5, if_neg h15]

end Go.Proofs.YtgekkhkmgfbcdaaDoor
