/- Chapter 08: the laws' own helpers: 'speaks' is true; 'made' makes of plain ranges a set, and the same list over again. -/
import Derived.Test.YtapjkahpblbnmaaSetF
namespace Go.Proofs.Ytapjkahpblbnmaa
open Go.RowKit SetPure

theorem info_rrange : (Try.prog.info? 47).map (fun i => (i.zero, i.size, i.bytes)) = some (some (.agg #[.int .i64 0, .int .i64 0]), 2, 16) := by kernel_rfl
theorem elRRanges : ElemOf Try.prog 26 47 Epair.k 16 := by
  obtain ⟨i, hi, hz0, hz1, hz2⟩ := info_parts info_rrange
  exact ⟨i, _, Try.underlying26, hi, hz0, hz1, hz2, rfl⟩

/-- Two rows of different element types are two. -/
theorem own_ne {α β : Type} {E : Enc α} {E' : Enc β} {e e' : TypeId} {w0 w0' w : World} {v v' : Value} {l : List α} {l' : List β} (h : Own E e w0 w v l) (h' : Own E' e' w0' w v' l') (hne : e ≠ e') : v.ownBlock = none ∨ v.ownBlock ≠ v'.ownBlock := by
  rcases h.1.2 with ⟨rfl, _⟩ | ⟨g, cap, cur, rfl, _, hg, _⟩
  · exact .inl rfl
  · rcases h'.1.2 with ⟨rfl, _⟩ | ⟨g', cap', cur', rfl, _, hg', _⟩
    · exact .inr (by simp [Value.ownBlock])
    · refine .inr fun e => ?_
      simp only [Value.ownBlock, Option.some.injEq] at e
      subst e
      rw [hg] at hg'
      injection hg' with hg'
      injection hg' with _ h2 _
      exact hne h2
theorem Own.kept {α : Type} {E : Enc α} {e : TypeId} {w0 w w' : World} {v : Value} {l : List α} {row : Option Nat} (h : Own E e w0 w v l) (hg : w.grownBy w' row) (hne : v.ownBlock = none ∨ v.ownBlock ≠ row) (hb : Below w0.heap.size w0 w') : Own E e w0 w' v l :=
  ⟨h.1.kept hg hne, hb⟩

set_option maxHeartbeats 800000 in
theorem speaks_any (w : World) : Calls Try.prog 8 #[] w fun e w' => e = .returned (.bool true) ∧ Below w.heap.size w w' := by
  have hseq : IsSeq Epair (w.alloc (.cells (([(5, 9), (1, 2), (3, 4)] : List Rg).flatMap Epair.enc).toArray 37)) (.slice (some ⟨w.heap.size, 0, none⟩) ([(5, 9), (1, 2), (3, 4)] : List Rg).length 3) [(5, 9), (1, 2), (3, 4)] :=
    IsSeq.new w _ _ 3 (by decide) (by simp [maxLen])
  have HO := Lib.hid (set_of hseq (by decide))
  clear hseq
  go_enter Try.func8, Try.ntmps8
  go_wp2_with (go_at_call 10; refine HO.out.mono ?_; rintro e w1 ⟨x, o, rfl, ⟨⟨A, c, rfl, h1, h2, h3⟩, hcan⟩, hp, hb⟩; (obtain rfl : o = [(1, 9)] := Canon.unique hcan (by simp [Canon, CanonFrom]) (fun z => by rw [hp]; simp only [InS, List.mem_cons, List.not_mem_nil, or_false, exists_eq_or_imp, exists_eq_left]; omega)); obtain ⟨b, off, rfl, hb', hc⟩ := h3.pairs_ (by decide); have hc0 := hc 0 (by decide); simp only [List.getD_cons_zero, Nat.zero_mul, Nat.add_zero] at hc0; obtain ⟨c0, c1⟩ := hc0; clear hc hp h3)
  go_ret
  exact ⟨rfl, ((Below.refl _ w).alloc (Nat.le_refl _) _).trans (hb.mono (by simp))⟩

set_option maxHeartbeats 1600000 in
set_option maxRecDepth 100000 in
theorem made_any (A : Option Addr) (c : Nat) (l : List Rg) (w : World) (hl : l.length ≤ 8796093022208) (hA : SeqAt Epair w w.heap.size A l) :
    Calls Try.prog 9 #[.slice A l.length c] w fun e w' => ∃ x vb, e = .returned (.tuple #[x, vb]) ∧ SetF w' x (fun z => inB l z && inR z) ∧ IsSeq Epair w' vb l ∧ Below w.heap.size w w' := by
  have HA := Lib.hid hA
  clear hA
  go_enter Try.func9, Try.ntmps9
  go_wp2
  go_loopw [4, 5, 6] (fun va vb i wr => ∃ k : Nat, k ≤ l.length ∧ i = .int .i64 k ∧ Own Epair 37 w wr va (l.take k) ∧ Own Epair 47 w wr vb (l.take k))
    (fun _ _ i _ => l.length + 1 - (intOf i).toNat)
  case atStart => exact ⟨0, by omega, rfl, Own.nil_ _, Own.nil_ _⟩
  case round =>
    obtain ⟨k, hk, rfl, hoa, hob⟩ := hrel
    have hz := hoa.size
    by_cases hlt : k < l.length
    · obtain ⟨b, off, rfl, hb, hc⟩ := (HA.out.below hoa.2).pairs_ (by omega)
      obtain ⟨h0, h1⟩ := hc k hlt
      clear hc
      obtain ⟨⟨x, y⟩, hr⟩ : ∃ r, l.getD k (0, 0) = r := ⟨_, rfl⟩
      rw [hr] at h0 h1
      simp only at h0 h1
      have HS := Lib.hid (take_next' hlt hr)
      clear hr
      have hlk : (l.take k).length = k := by rw [List.length_take]; omega
      have hne := own_ne hob hoa (by decide)
      have hbw : b < wr.heap.size := by omega
      go_wp2_with (first
        | (at_builtin; (refine wpList_append_seq _ rfl (.tmp 13) (.tmp 18) 24 rfl 16 elRanges rfl (hoa.alloc _) 1 rfl (SeqAt.new (E := Epair) wr [(x, y)] 37) rfl (by simp only [maxLen]; omega) (by omega) ?_); intro v1 w1 ho1 hg1; have hob1 := (hob.alloc _).kept hg1 hne ho1.2; have hz1 := ho1.2.size; have d0 := (ho1.2.cell (p := ⟨b, off + k * 2, none⟩) (by simp only; omega)).trans ((hoa.2.cell (p := ⟨b, off + k * 2, none⟩) (by simp only; omega)).symm.trans h0); have d1 := (ho1.2.cell (p := ⟨b, off + k * 2 + 1, none⟩) (by simp only; omega)).trans ((hoa.2.cell (p := ⟨b, off + k * 2 + 1, none⟩) (by simp only; omega)).symm.trans h1); have hne1 := own_ne ho1 hob1 (by decide))
        | (at_builtin; (refine wpList_append_seq _ rfl (.tmp 20) (.tmp 25) 26 rfl 16 elRRanges rfl (hob1.alloc _) 1 rfl (SeqAt.new (E := Epair) w1 [(x, y)] 47) rfl (by simp only [maxLen]; omega) (by omega) ?_); intro v2 w2 ho2 hg2; have hoa2 := (ho1.alloc _).kept hg2 hne1 ho2.2))
      go_roundw
      case rel => exact ⟨k + 1, by omega, by go_num, by rw [HS.out]; exact hoa2, by rw [HS.out]; exact ho2⟩
      case measure => simp [intOf]; omega
    · obtain rfl : k = l.length := by omega
      rw [List.take_length] at hoa hob
      have HB := Lib.hid hob.isSeq
      have hab := hoa.2
      have hal := hoa.size
      have HO := Lib.hid (set_of hoa.isSeq hl)
      clear hoa hob
      go_wp2_with (go_at_call 10; refine HO.out.mono ?_; rintro e w1 ⟨x, o, rfl, ho, hp, hb⟩)
      go_ret2
      exact ⟨x, _, rfl, SetF.of_end ho hp (fun z => by simp [inB_iff, inR]), HB.out.below hb, hab.trans (hb.mono hal)⟩

end Go.Proofs.Ytapjkahpblbnmaa
