/- The walks of sets.Set's Or, Less, Same, and of slices.Clone; every method's contract, of values that read as sets. -/
import Derived.Test.YtpidgcjioocmhaaSetsOr
import Derived.Lib.LazyBuf
namespace Go.Proofs.Ytpidgcjioocmhaa
open Go.RowKit SetPure

@[go_sem ↓] theorem eql_set_nil (a : Option Addr) (l c : Nat) (w : World) : (binOp .eql 31 (.slice a l c) (.slice none 0 0)).run Try.prog w = .ok (.bool a.isNone) w :=
  run_eql_slice_nil w _ _ a l c Try.underlying31

set_option maxHeartbeats 400000 in
set_option maxRecDepth 100000 in
theorem clone_any (A : Option Addr) (c : Nat) (l : List Rg) (w : World) (hl : l.length ≤ 8796093022208) (hA : SeqAt Epair w w.heap.size A l) :
    Calls Try.prog 33 #[.slice A l.length c] w fun e w' => ∃ v, e = .returned v ∧ Own Epair 29 w w' v l := by
  rcases A with _ | ad
  · have h0 : l = [] := by
      rcases Nat.eq_zero_or_pos l.length with h0 | h0
      · exact List.eq_nil_of_length_eq_zero h0
      · obtain ⟨_, _, h, _⟩ := hA h0
        cases h
    subst h0
    go_enter Try.func33, Try.ntmps33
    go_wp2
    go_ret
    exact ⟨_, rfl, Own.nil_ _⟩
  · have HA := Lib.hid hA
    clear hA
    have how : Own (α := Rg) Epair 29 w (w.alloc (.cells #[] 29)) (.slice (some ⟨w.heap.size, 0, none⟩) 0 0) [] :=
      ⟨World.ownsRow_lit w #[] 0 (Nat.le_refl _) (by simp [maxLen]) (by simp), (Below.refl _ w).alloc (Nat.le_refl _) _⟩
    go_enter Try.func33, Try.ntmps33
    go_wp2_with (at_builtin; (refine wpList_append_seq _ rfl (.tmp 5) (.tmp 6) 31 rfl 16 elSet rfl how l.length rfl (HA.out.alloc (Nat.le_refl _) _) rfl (by simp only [maxLen, List.length_nil]; omega) (by simp only [List.length_nil]; omega) ?_); intro v1 w1 hown1 hg1)
    go_ret
    exact ⟨_, rfl, hown1⟩

set_option maxHeartbeats 400000 in
set_option maxRecDepth 100000 in
theorem or_any (s t : List Rg) (v u : Value) (w : World) (hs : IsSeq Epair w v s) (ht : IsSeq Epair w u t) (hsl : s.length ≤ 1000000000000) (htl : t.length ≤ 1000000000000) :
    Calls Try.prog 19 #[v, u] w (OfEnd (s ++ t) w) := by
  obtain ⟨A, c, rfl, hc1, hc2, hA⟩ := hs
  obtain ⟨A', c', rfl, hc1', hc2', hA'⟩ := ht
  have HC := Lib.hid (clone_any A c s w (by omega) hA)
  have HA' := Lib.hid hA'
  clear hA hA'
  go_enter Try.func19, Try.ntmps19
  go_wp2_with (first
    | (go_at_call 33; refine HC.out.mono ?_; rintro e w1 ⟨v1, rfl, hown1⟩; have hb1 := hown1.2)
    | (at_builtin; (refine wpList_append_seq _ rfl (.tmp 6) (.tmp 7) 31 rfl 16 elSet rfl hown1 t.length rfl (HA'.out.below hb1) rfl (by simp only [maxLen]; omega) (by omega) ?_); intro v2 w2 hown2 hg2; have hz2 := hown2.2.size; obtain ⟨A2, c2, rfl, _, _, hA2⟩ := hown2.isSeq; have HO := Lib.hid (of_any A2 c2 w2.heap.size (s ++ t) w2 (by rw [List.length_append]; omega) hA2 (Nat.le_refl _)); simp only [List.length_append] at HO; clear hA2)
    | (go_at_call 13; refine HO.out.mono ?_; rintro e w3 ⟨r, hr1, hr2, v3, rfl, hr4, hr5⟩; have HR := Lib.hid hr2; have HR1 := Lib.hid hr1; clear hr1 hr2))
  go_ret
  exact ⟨r, HR1.out, HR.out, v3, rfl, hr4, hown2.2.trans (hr5.mono hz2)⟩

/-- A set's value. -/
structure IsSet (w : World) (v : Value) (s : List Rg) : Prop where
  seq : IsSeq Epair w v s
  canon : Canon s
theorem IsSet.below {w w' : World} {v : Value} {s : List Rg} (h : IsSet w v s) (hb : Below w.heap.size w w') : IsSet w' v s := ⟨h.seq.below hb, h.canon⟩

/-- A call's end that hands back a set with such numbers. -/
def SetEnd (p : Int → Prop) (w : World) (e : Ending) (w' : World) : Prop :=
  ∃ v s, e = .returned v ∧ IsSet w' v s ∧ (∀ x, InS s x ↔ p x) ∧ Below w.heap.size w w'

theorem set_has {w : World} {v : Value} {s : List Rg} (h : IsSet w v s) (r : Int) : Calls Try.prog 15 #[v, .int .i64 r] w fun e w' => e = .returned (.bool (inB s r)) ∧ Below w.heap.size w w' := by
  obtain ⟨⟨A, c, rfl, hc1, hc2, hA⟩, hcan⟩ := h
  exact has_any A c _ s r w hcan hA (Nat.le_refl _)
theorem set_size {w : World} {v : Value} {s : List Rg} (h : IsSet w v s) : Calls Try.prog 18 #[v] w fun e w' => e = .returned (.int .i64 (sizeL s)) ∧ Below w.heap.size w w' := by
  obtain ⟨⟨A, c, rfl, hc1, hc2, hA⟩, hcan⟩ := h
  exact size_any A c _ s w hcan hA (Nat.le_refl _)
theorem set_not {w : World} {v : Value} {s : List Rg} (h : IsSet w v s) : Calls Try.prog 38 #[v] w (SetEnd (fun x => 0 ≤ x ∧ x ≤ 1114111 ∧ ¬ InS s x) w) := by
  obtain ⟨⟨A, c, rfl, hc1, hc2, hA⟩, hcan⟩ := h
  refine (not_any A c _ s w hcan hA (Nat.le_refl _)).mono ?_
  rintro e w' ⟨v, rfl, hv, hb⟩
  obtain ⟨n1, n2⟩ := notL_spec hcan (Int.le_refl 0)
  exact ⟨v, _, rfl, ⟨hv, n1⟩, n2, hb⟩
theorem set_and_own {w : World} {v u : Value} {s t : List Rg} (h : IsSet w v s) (k : IsSet w u t) : Calls Try.prog 17 #[v, u] w (RetOwn Epair 29 w (andL s t)) := by
  obtain ⟨⟨A, c, rfl, hc1, hc2, hA⟩, hcan⟩ := h
  obtain ⟨⟨A', c', rfl, hc1', hc2', hA'⟩, hcan'⟩ := k
  exact and_any A A' c c' _ s t w hcan hcan' hA hA' (Nat.le_refl _)
theorem set_and {w : World} {v u : Value} {s t : List Rg} (h : IsSet w v s) (k : IsSet w u t) : Calls Try.prog 17 #[v, u] w (SetEnd (fun x => InS s x ∧ InS t x) w) := by
  refine (set_and_own h k).mono ?_
  rintro e w' ⟨v, rfl, ho⟩
  obtain ⟨n1, n2⟩ := andL_spec h.canon k.canon
  exact ⟨v, _, rfl, ⟨ho.isSeq, n1⟩, n2, ho.2⟩
theorem set_or {w : World} {v u : Value} {s t : List Rg} (h : IsSet w v s) (k : IsSet w u t) : Calls Try.prog 19 #[v, u] w (SetEnd (fun x => InS s x ∨ InS t x) w) := by
  refine (or_any s t v u w h.seq k.seq (by have := h.canon.len; omega) (by have := k.canon.len; omega)).mono ?_
  rintro e w' ⟨r, hr1, hr2, v, rfl, hv, hb⟩
  refine ⟨v, r, rfl, ⟨hv, hr1⟩, fun x => ?_, hb⟩
  rw [hr2, InS_append]
  constructor
  · exact fun h => h.1
  · intro hx
    refine ⟨hx, ?_⟩
    rcases hx with hx | hx
    · exact CanonFrom.lo h.canon hx
    · exact CanonFrom.lo k.canon hx
theorem set_of {w : World} {v : Value} {l : List Rg} (h : IsSeq Epair w v l) (hl : l.length ≤ 8796093022208) : Calls Try.prog 13 #[v] w (SetEnd (fun x => InS l x ∧ 0 ≤ x ∧ x ≤ 1114111) w) := by
  obtain ⟨A, c, rfl, hc1, hc2, hA⟩ := h
  refine (of_any A c _ l w hl hA (Nat.le_refl _)).mono ?_
  rintro e w' ⟨r, hr1, hr2, v, rfl, hv, hb⟩
  exact ⟨v, r, rfl, ⟨hv, hr1⟩, hr2, hb⟩

set_option maxHeartbeats 400000 in
theorem set_less {w : World} {v u : Value} {s t : List Rg} (h : IsSet w v s) (k : IsSet w u t) : Calls Try.prog 20 #[v, u] w (SetEnd (fun x => InS s x ∧ ¬ InS t x) w) := by
  have HN := Lib.hid (set_not k)
  go_enter Try.func20, Try.ntmps20
  go_wp2_with (first
    | (go_at_call 38; refine HN.out.mono ?_; rintro e w1 ⟨v1, n, rfl, hn, hx, hb1⟩; have HX := Lib.hid hx; clear hx; have HA := Lib.hid (set_and (h.below hb1) hn))
    | (go_at_call 17; refine HA.out.mono ?_; rintro e w2 ⟨v2, m, rfl, hm, hy, hb2⟩; have HY := Lib.hid hy; clear hy))
  go_ret
  refine ⟨v2, m, rfl, hm, fun x => ?_, hb1.trans (hb2.mono hb1.size)⟩
  rw [HY.out, HX.out]
  constructor
  · rintro ⟨a, _, _, b⟩; exact ⟨a, b⟩
  · rintro ⟨a, b⟩; exact ⟨a, (CanonFrom.lo h.canon a).1, (CanonFrom.lo h.canon a).2, b⟩

set_option maxHeartbeats 400000 in
theorem set_same {w : World} {v u : Value} {s t : List Rg} (h : IsSet w v s) (k : IsSet w u t) : Calls Try.prog 16 #[v, u] w fun e w' => e = .returned (.bool (decide (s = t))) ∧ Below w.heap.size w w' := by
  obtain ⟨⟨A, c, rfl, hc1, hc2, hA⟩, hcan⟩ := h
  obtain ⟨⟨A', c', rfl, hc1', hc2', hA'⟩, hcan'⟩ := k
  have HE := Lib.hid (equal_any A A' c c' _ s t w (by have := hcan.len; omega) (by have := hcan'.len; omega) hA hA' (Nat.le_refl _))
  clear hA hA' hcan hcan'
  go_enter Try.func16, Try.ntmps16
  go_wp2_with (go_at_call 37; refine HE.out.mono ?_; rintro e w1 ⟨rfl, hb1⟩)
  go_ret
  exact ⟨rfl, hb1⟩

end Go.Proofs.Ytpidgcjioocmhaa
