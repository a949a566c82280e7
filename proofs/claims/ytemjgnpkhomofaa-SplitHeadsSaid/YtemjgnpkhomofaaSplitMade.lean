/- Chapter 13: the laws' own helpers: 'speaks' is true; 'made' makes of plain ranges a set, and the same list over again. -/
import Derived.Test.YtemjgnpkhomofaaSplitOneLaw
namespace Go.Proofs.Ytemjgnpkhomofaa
open Go.RowKit SetPure

theorem info_rrange : (Try.prog.info? 49).map (fun i => (i.zero, i.size, i.bytes)) = some (some (.agg #[.int .i64 0, .int .i64 0]), 2, 16) := by kernel_rfl
theorem elRRanges : ElemOf Try.prog 26 49 Epair.k 16 := by
  obtain ⟨i, hi, hz0, hz1, hz2⟩ := info_parts info_rrange
  exact ⟨i, _, Try.underlying26, hi, hz0, hz1, hz2, rfl⟩

/-- Two rows of different element types are two. -/
theorem own_ne {α β : Type} {E : Enc α} {E' : Enc β} {e e' : TypeId} {w0 w0' w : World} {v v' : Value} {l : List α} {l' : List β} (h : Own E e w0 w v l) (h' : Own E' e' w0' w v' l') (hne : e ≠ e') : v.ownBlock = none ∨ v.ownBlock ≠ v'.ownBlock := by
  rcases h.1.2 with ⟨rfl, _⟩ | ⟨g, cap, cur, rfl, _, hg, _⟩
  · exact .inl rfl
  · rcases h'.1.2 with ⟨rfl, _⟩ | ⟨g', cap', cur', rfl, _, hg', _⟩
    · exact .inr (by simp [Value.ownBlock])
    · refine .inr fun e => ?_
      simp only [Value.ownBlock, Option.some.injEq] at e
      subst e
      rw [hg] at hg'
      injection hg' with hg'
      injection hg' with _ h2 _
      exact hne h2
theorem Own.kept {α : Type} {E : Enc α} {e : TypeId} {w0 w w' : World} {v : Value} {l : List α} {row : Option Nat} (h : Own E e w0 w v l) (hg : w.grownBy w' row) (hne : v.ownBlock = none ∨ v.ownBlock ≠ row) (hb : Below w0.heap.size w0 w') : Own E e w0 w' v l :=
  ⟨h.1.kept hg hne, hb⟩

set_option maxHeartbeats 1600000 in
set_option maxRecDepth 100000 in
theorem made_any (A : Option Addr) (c : Nat) (l : List Rg) (w : World) (hl : l.length ≤ 8796093022208) (hA : SeqAt Epair w w.heap.size A l) :
    Calls Try.prog 8 #[.slice A l.length c] w fun e w' => ∃ x vb, e = .returned (.tuple #[x, vb]) ∧ SetF w' x (fun z => inB l z && inR z) ∧ IsSeq Epair w' vb l ∧ Below w.heap.size w w' := by
  have HA := Lib.hid hA
  clear hA
  go_enter Try.func8, Try.ntmps8
  go_wp2
  go_loopw [4, 5, 6] (fun va vb i wr => ∃ k : Nat, k ≤ l.length ∧ i = .int .i64 k ∧ Own Epair 39 w wr va (l.take k) ∧ Own Epair 49 w wr vb (l.take k))
    (fun _ _ i _ => l.length + 1 - (intOf i).toNat)
  case atStart => exact ⟨0, by omega, rfl, Own.nil_ _, Own.nil_ _⟩
  case round =>
    obtain ⟨k, hk, rfl, hoa, hob⟩ := hrel
    have hz := hoa.size
    by_cases hlt : k < l.length
    · obtain ⟨b, off, rfl, hb, hc⟩ := (HA.out.below hoa.2).pairs_ (by omega)
      obtain ⟨h0, h1⟩ := hc k hlt
      clear hc
      obtain ⟨⟨x, y⟩, hr⟩ : ∃ r, l.getD k (0, 0) = r := ⟨_, rfl⟩
      rw [hr] at h0 h1
      simp only at h0 h1
      have HS := Lib.hid (take_next' hlt hr)
      clear hr
      have hlk : (l.take k).length = k := by rw [List.length_take]; omega
      have hne := own_ne hob hoa (by decide)
      have hbw : b < wr.heap.size := by omega
      have E0 := Lib.hid h0
      have E1 := Lib.hid h1
      go_upto_region 6 with (fail)
      go_region_held3 (fun w' => w'.cell? ⟨b, off + k * 2, none⟩ = some (.int .i64 x) ∧ w'.cell? ⟨b, off + k * 2 + 1, none⟩ = some (.int .i64 y))
        (first | exact ⟨(ho1.2.cell (p := ⟨b, off + k * 2, none⟩) hb).trans ((hoa.2.cell (p := ⟨b, off + k * 2, none⟩) hb).symm.trans E0.out), (ho1.2.cell (p := ⟨b, off + k * 2 + 1, none⟩) hb).trans ((hoa.2.cell (p := ⟨b, off + k * 2 + 1, none⟩) hb).symm.trans E1.out)⟩ | go_keep)
        ((refine step_append_seqR _ (by rfl) (.tmp 13) (.tmp 25) 24 (by rfl) 16 elRanges (by rfl) ((hoa.alloc _).drew) 1 (by rfl) (SeqAt.new (E := Epair) wr [(x, y)] 39).drew (by rfl) (by simp only [maxLen]; omega) (by omega) ?_; intro v1 w1 ho1 hg1))
      have hob1 := ((hob.alloc _).drew).kept hg1 hne ho1.2
      have hz1 := ho1.2.size
      have d0 := (ho1.2.cell (p := ⟨b, off + k * 2, none⟩) hb).trans ((hoa.2.cell (p := ⟨b, off + k * 2, none⟩) hb).symm.trans E0.out)
      have d1 := (ho1.2.cell (p := ⟨b, off + k * 2 + 1, none⟩) hb).trans ((hoa.2.cell (p := ⟨b, off + k * 2 + 1, none⟩) hb).symm.trans E1.out)
      have hne1 := own_ne ho1 hob1 (by decide)
      have D0 := Lib.hid d0
      have D1 := Lib.hid d1
      clear h0 h1
      go_upto_region 7 with (fail)
      go_region_held3 (fun w' => w'.cell? ⟨b, off + k * 2, none⟩ = some (.int .i64 x) ∧ w'.cell? ⟨b, off + k * 2 + 1, none⟩ = some (.int .i64 y))
        (first | exact ⟨(ho2.2.cell (p := ⟨b, off + k * 2, none⟩) hb).trans ((ho1.2.cell (p := ⟨b, off + k * 2, none⟩) hb).symm.trans D0.out), (ho2.2.cell (p := ⟨b, off + k * 2 + 1, none⟩) hb).trans ((ho1.2.cell (p := ⟨b, off + k * 2 + 1, none⟩) hb).symm.trans D1.out)⟩ | go_keep)
        ((refine step_append_seqR _ (by rfl) (.tmp 27) (.tmp 39) 26 (by rfl) 16 elRRanges (by rfl) ((hob1.alloc _).drew) 1 (by rfl) (SeqAt.new (E := Epair) w1 [(x, y)] 49).drew (by rfl) (by simp only [maxLen]; omega) (by omega) ?_; intro v2 w2 ho2 hg2))
      have hoa2 := ((ho1.alloc _).drew).kept hg2 hne1 ho2.2
      go_wp2
      go_roundw
      case rel => exact ⟨k + 1, by omega, by go_num, by rw [HS.out]; exact hoa2, by rw [HS.out]; exact ho2⟩
      case measure => simp [intOf]; omega
    · obtain rfl : k = l.length := by omega
      rw [List.take_length] at hoa hob
      have HB := Lib.hid hob.isSeq
      have hab := hoa.2
      have hal := hoa.size
      have HO := Lib.hid (set_of hoa.isSeq hl)
      clear hoa hob
      go_wp2_with (go_at_call 15; refine HO.out.mono ?_; rintro e w1 ⟨x, o, rfl, ho, hp, hb⟩)
      go_ret2
      exact ⟨x, _, rfl, SetF.of_end ho hp (fun z => by simp [inB_iff, inR]), HB.out.below hb, hab.trans (hb.mono hal)⟩

end Go.Proofs.Ytemjgnpkhomofaa
