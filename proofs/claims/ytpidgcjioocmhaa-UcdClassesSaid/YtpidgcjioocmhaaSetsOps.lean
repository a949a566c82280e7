/- The walks of sets.Set's Or and Same, and of slices.Clone. -/
import Derived.Test.YtpidgcjioocmhaaSetsOpsA
import Derived.Test.YtpidgcjioocmhaaSetsEq
import Derived.Lib.LazyBuf
namespace Go.Proofs.Ytpidgcjioocmhaa
open Go.RowKit SetPure

@[go_sem ↓] theorem eql_set_nil (a : Option Addr) (l c : Nat) (w : World) : (binOp .eql 31 (.slice a l c) (.slice none 0 0)).run Try.prog w = .ok (.bool a.isNone) w :=
  run_eql_slice_nil w _ _ a l c Try.underlying31

set_option maxHeartbeats 400000 in
set_option maxRecDepth 100000 in
theorem clone_any (A : Option Addr) (c : Nat) (l : List Rg) (w : World) (hl : l.length ≤ 8796093022208) (hA : SeqAt Epair w w.heap.size A l) :
    Calls Try.prog 33 #[.slice A l.length c] w fun e w' => ∃ v, e = .returned v ∧ Own Epair 29 w w' v l := by
  rcases A with _ | ad
  · have h0 : l = [] := by
      rcases Nat.eq_zero_or_pos l.length with h0 | h0
      · exact List.eq_nil_of_length_eq_zero h0
      · obtain ⟨_, _, h, _⟩ := hA h0
        cases h
    subst h0
    go_enter Try.func33, Try.ntmps33
    go_wp2
    go_ret
    exact ⟨_, rfl, Own.nil_ _⟩
  · have HA := Lib.hid hA
    clear hA
    have how : Own (α := Rg) Epair 29 w (w.alloc (.cells #[] 29)) (.slice (some ⟨w.heap.size, 0, none⟩) 0 0) [] :=
      ⟨World.ownsRow_lit w #[] 0 (Nat.le_refl _) (by simp [maxLen]) (by simp), (Below.refl _ w).alloc (Nat.le_refl _) _⟩
    go_enter Try.func33, Try.ntmps33
    go_wp2_with (at_builtin; (refine wpList_append_seq _ rfl (.tmp 5) (.tmp 6) 31 rfl 16 elSet rfl how l.length rfl (HA.out.alloc (Nat.le_refl _) _) rfl (by simp only [maxLen, List.length_nil]; omega) (by simp only [List.length_nil]; omega) ?_); intro v1 w1 hown1 hg1)
    go_ret
    exact ⟨_, rfl, hown1⟩

set_option maxHeartbeats 400000 in
set_option maxRecDepth 100000 in
theorem or_any (s t : List Rg) (v u : Value) (w : World) (hs : IsSeq Epair w v s) (ht : IsSeq Epair w u t) (hsl : s.length ≤ 1000000000000) (htl : t.length ≤ 1000000000000) :
    Calls Try.prog 19 #[v, u] w (OfEnd (s ++ t) w) := by
  obtain ⟨A, c, rfl, hc1, hc2, hA⟩ := hs
  obtain ⟨A', c', rfl, hc1', hc2', hA'⟩ := ht
  have HC := Lib.hid (clone_any A c s w (by omega) hA)
  have HA' := Lib.hid hA'
  clear hA hA'
  go_enter Try.func19, Try.ntmps19
  go_wp2_with (first
    | (go_at_call 33; refine HC.out.mono ?_; rintro e w1 ⟨v1, rfl, hown1⟩; have hb1 := hown1.2)
    | (at_builtin; (refine wpList_append_seq _ rfl (.tmp 6) (.tmp 7) 31 rfl 16 elSet rfl hown1 t.length rfl (HA'.out.below hb1) rfl (by simp only [maxLen]; omega) (by omega) ?_); intro v2 w2 hown2 hg2; have hz2 := hown2.2.size; obtain ⟨A2, c2, rfl, _, _, hA2⟩ := hown2.isSeq; have HO := Lib.hid (of_any A2 c2 w2.heap.size (s ++ t) w2 (by rw [List.length_append]; omega) hA2 (Nat.le_refl _)); simp only [List.length_append] at HO; clear hA2)
    | (go_at_call 13; refine HO.out.mono ?_; rintro e w3 ⟨r, hr1, hr2, v3, rfl, hr4, hr5⟩; have HR := Lib.hid hr2; have HR1 := Lib.hid hr1; clear hr1 hr2))
  go_ret
  exact ⟨r, HR1.out, HR.out, v3, rfl, hr4, hown2.2.trans (hr5.mono hz2)⟩

theorem set_or {w : World} {v u : Value} {s t : List Rg} (h : IsSet w v s) (k : IsSet w u t) : Calls Try.prog 19 #[v, u] w (SetEnd (fun x => InS s x ∨ InS t x) w) := by
  refine (or_any s t v u w h.seq k.seq (by have := h.canon.len; omega) (by have := k.canon.len; omega)).mono ?_
  rintro e w' ⟨r, hr1, hr2, v, rfl, hv, hb⟩
  refine ⟨v, r, rfl, ⟨hv, hr1⟩, fun x => ?_, hb⟩
  rw [hr2, InS_append]
  constructor
  · exact fun h => h.1
  · intro hx
    refine ⟨hx, ?_⟩
    rcases hx with hx | hx
    · exact CanonFrom.lo h.canon hx
    · exact CanonFrom.lo k.canon hx
set_option maxHeartbeats 400000 in
theorem set_same {w : World} {v u : Value} {s t : List Rg} (h : IsSet w v s) (k : IsSet w u t) : Calls Try.prog 16 #[v, u] w fun e w' => e = .returned (.bool (decide (s = t))) ∧ Below w.heap.size w w' := by
  obtain ⟨⟨A, c, rfl, hc1, hc2, hA⟩, hcan⟩ := h
  obtain ⟨⟨A', c', rfl, hc1', hc2', hA'⟩, hcan'⟩ := k
  have HE := Lib.hid (equal_any A A' c c' _ s t w (by have := hcan.len; omega) (by have := hcan'.len; omega) hA hA' (Nat.le_refl _))
  clear hA hA' hcan hcan'
  go_enter Try.func16, Try.ntmps16
  go_wp2_with (go_at_call 37; refine HE.out.mono ?_; rintro e w1 ⟨rfl, hb1⟩)
  go_ret
  exact ⟨rfl, hb1⟩

end Go.Proofs.Ytpidgcjioocmhaa
