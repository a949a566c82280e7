/- Every method's contract, of values that read as sets, but Or and Same. -/
import Derived.Test.YtpidgcjioocmhaaSetsOr
namespace Go.Proofs.Ytpidgcjioocmhaa
open Go.RowKit SetPure

/-- A set's value. -/
structure IsSet (w : World) (v : Value) (s : List Rg) : Prop where
  seq : IsSeq Epair w v s
  canon : Canon s
theorem IsSet.below {w w' : World} {v : Value} {s : List Rg} (h : IsSet w v s) (hb : Below w.heap.size w w') : IsSet w' v s := ⟨h.seq.below hb, h.canon⟩

/-- A call's end that hands back a set with such numbers. -/
def SetEnd (p : Int → Prop) (w : World) (e : Ending) (w' : World) : Prop :=
  ∃ v s, e = .returned v ∧ IsSet w' v s ∧ (∀ x, InS s x ↔ p x) ∧ Below w.heap.size w w'

theorem set_has {w : World} {v : Value} {s : List Rg} (h : IsSet w v s) (r : Int) : Calls Try.prog 15 #[v, .int .i64 r] w fun e w' => e = .returned (.bool (inB s r)) ∧ Below w.heap.size w w' := by
  obtain ⟨⟨A, c, rfl, hc1, hc2, hA⟩, hcan⟩ := h
  exact has_any A c _ s r w hcan hA (Nat.le_refl _)
theorem set_size {w : World} {v : Value} {s : List Rg} (h : IsSet w v s) : Calls Try.prog 18 #[v] w fun e w' => e = .returned (.int .i64 (sizeL s)) ∧ Below w.heap.size w w' := by
  obtain ⟨⟨A, c, rfl, hc1, hc2, hA⟩, hcan⟩ := h
  exact size_any A c _ s w hcan hA (Nat.le_refl _)
theorem set_not {w : World} {v : Value} {s : List Rg} (h : IsSet w v s) : Calls Try.prog 38 #[v] w (SetEnd (fun x => 0 ≤ x ∧ x ≤ 1114111 ∧ ¬ InS s x) w) := by
  obtain ⟨⟨A, c, rfl, hc1, hc2, hA⟩, hcan⟩ := h
  refine (not_any A c _ s w hcan hA (Nat.le_refl _)).mono ?_
  rintro e w' ⟨v, rfl, hv, hb⟩
  obtain ⟨n1, n2⟩ := notL_spec hcan (Int.le_refl 0)
  exact ⟨v, _, rfl, ⟨hv, n1⟩, n2, hb⟩
theorem set_and_own {w : World} {v u : Value} {s t : List Rg} (h : IsSet w v s) (k : IsSet w u t) : Calls Try.prog 17 #[v, u] w (RetOwn Epair 29 w (andL s t)) := by
  obtain ⟨⟨A, c, rfl, hc1, hc2, hA⟩, hcan⟩ := h
  obtain ⟨⟨A', c', rfl, hc1', hc2', hA'⟩, hcan'⟩ := k
  exact and_any A A' c c' _ s t w hcan hcan' hA hA' (Nat.le_refl _)
theorem set_and {w : World} {v u : Value} {s t : List Rg} (h : IsSet w v s) (k : IsSet w u t) : Calls Try.prog 17 #[v, u] w (SetEnd (fun x => InS s x ∧ InS t x) w) := by
  refine (set_and_own h k).mono ?_
  rintro e w' ⟨v, rfl, ho⟩
  obtain ⟨n1, n2⟩ := andL_spec h.canon k.canon
  exact ⟨v, _, rfl, ⟨ho.isSeq, n1⟩, n2, ho.2⟩
theorem set_of {w : World} {v : Value} {l : List Rg} (h : IsSeq Epair w v l) (hl : l.length ≤ 8796093022208) : Calls Try.prog 13 #[v] w (SetEnd (fun x => InS l x ∧ 0 ≤ x ∧ x ≤ 1114111) w) := by
  obtain ⟨A, c, rfl, hc1, hc2, hA⟩ := h
  refine (of_any A c _ l w hl hA (Nat.le_refl _)).mono ?_
  rintro e w' ⟨r, hr1, hr2, v, rfl, hv, hb⟩
  exact ⟨v, r, rfl, ⟨hv, hr1⟩, hr2, hb⟩

set_option maxHeartbeats 400000 in
theorem set_less {w : World} {v u : Value} {s t : List Rg} (h : IsSet w v s) (k : IsSet w u t) : Calls Try.prog 20 #[v, u] w (SetEnd (fun x => InS s x ∧ ¬ InS t x) w) := by
  have HN := Lib.hid (set_not k)
  go_enter Try.func20, Try.ntmps20
  go_wp2_with (first
    | (go_at_call 38; refine HN.out.mono ?_; rintro e w1 ⟨v1, n, rfl, hn, hx, hb1⟩; have HX := Lib.hid hx; clear hx; have HA := Lib.hid (set_and (h.below hb1) hn))
    | (go_at_call 17; refine HA.out.mono ?_; rintro e w2 ⟨v2, m, rfl, hm, hy, hb2⟩; have HY := Lib.hid hy; clear hy))
  go_ret
  refine ⟨v2, m, rfl, hm, fun x => ?_, hb1.trans (hb2.mono hb1.size)⟩
  rw [HY.out, HX.out]
  constructor
  · rintro ⟨a, _, _, b⟩; exact ⟨a, b⟩
  · rintro ⟨a, b⟩; exact ⟨a, (CanonFrom.lo h.canon a).1, (CanonFrom.lo h.canon a).2, b⟩

end Go.Proofs.Ytpidgcjioocmhaa
