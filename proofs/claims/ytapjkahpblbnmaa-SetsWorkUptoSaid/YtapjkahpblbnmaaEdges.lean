/- The walk of the document's Edges. -/
import Derived.Test.YtapjkahpblbnmaaRefIn
import Derived.Test.YtapjkahpblbnmaaGrown
import Derived.Test.YtapjkahpblbnmaaCanonPure
namespace Go.Proofs.Ytapjkahpblbnmaa
open Go.RowKit SetPure CanonPure

theorem info_intE : (Try.prog.info? 3).map (fun i => (i.zero, i.size, i.bytes)) = some (some (.int .i64 0), 1, 8) := by kernel_rfl
theorem elIntE : ElemOf Try.prog 52 3 Eint.k 8 := by
  obtain ⟨i, hi, hz0, hz1, hz2⟩ := info_parts info_intE
  exact ⟨i, _, Try.underlying52, hi, hz0, hz1, hz2, rfl⟩

theorem foldE_step {l : List Rg} {k : Nat} {r : Rg} {last n : Int} (hk : k < l.length) (hr : l.getD k (0, 0) = r) (h : (l.take k).foldl (step1 last) 1114112 = n) : (l.take (k + 1)).foldl (step1 last) 1114112 = step1 last n r := by
  rw [take_next' hk hr, List.foldl_append, h]; rfl
theorem getD_last (p : List Int) (x : Int) : (p ++ [x]).getD p.length 0 = x := by simp
theorem elem_last (p : List Int) (x : Int) (h : p.length < (p ++ [x]).length) : (p ++ [x])[p.length] = x := by simp

set_option maxHeartbeats 1600000 in
theorem edges_any (A : Option Addr) (c B : Nat) (l : List Rg) (w : World) (hl : l.length ≤ 1000000000000) (hA : SeqAt Epair w B A l) (hB : B ≤ w.heap.size) :
    Calls Try.prog 27 #[.slice A l.length c] w (RetOwn Eint 3 w (edgesL l)) := by
  have HA := Lib.hid hA
  clear hA
  have h0 : Own Eint 3 w (w.alloc (.cells #[.int .i64 0] 3)) (.slice (some ⟨w.heap.size, 0, none⟩) 1 1) [0] :=
    ⟨World.ownsRow_lit w #[.int .i64 0] 1 (Nat.le_refl _) (by simp [maxLen]) (by simp; rfl), (Below.refl _ w).alloc (Nat.le_refl _) _⟩
  have H0 := Lib.hid h0
  clear h0
  go_enter Try.func27, Try.ntmps27
  go_wp2
  go_loopw [3, 4, 5, 6] (fun uo _ _ _ wr => ∃ (p : List Int) (last : Int) (vo : Value), vo = uo ∧ 0 ≤ last ∧ last < 1114112 ∧ (p.length : Int) ≤ last ∧ Own Eint 3 w wr vo (p ++ [last]) ∧ Hid (edgesL l = p ++ [last] ++ edgesF l (1114112 - last).toNat last))
    (fun uo _ _ _ _ => 1114112 - (match uo with | .slice _ n _ => n | _ => 0))
  case atStart => exact ⟨[], 0, _, rfl, Int.le_refl _, by omega, by simp, H0.out, rfl⟩
  case round =>
    obtain ⟨p, last, vo, rfl, hl0, hl1, hpl, hown, hrest⟩ := hrel
    have hz := hown.size
    obtain ⟨A1, c1, rfl, hc1, hc2⟩ := OwnB.form ⟨hown.1, hown.size⟩
    have hS : SeqAt Eint wr wr.heap.size A1 (p ++ [last]) := OwnB.seq ⟨hown.1, hown.size⟩
    have hSl : (p ++ [last]).length = p.length + 1 := by simp
    obtain ⟨b1, off1, rfl, hb1, hcell⟩ := hS.int_ (i := p.length) (by rw [hSl]; omega)
    rw [elem_last p last] at hcell
    have HO := Lib.hid hown
    have HSl := Lib.hid hSl
    have HA2 := Lib.hid (HA.out.below (hown.2.mono hB))
    clear hS hown hSl
    go_wp2
    obtain ⟨wo, rfl⟩ : ∃ wo : World, wo = wr := ⟨_, rfl⟩
    go_loop [5, 6] (fun nx ix => ∃ (k : Nat) (n : Int), k ≤ l.length ∧ ix = .int .i64 k ∧ nx = .int .i64 n ∧ last < n ∧ n ≤ 1114112 ∧ Hid ((l.take k).foldl (step1 last) 1114112 = n)) (fun _ ix => l.length + 1 - (intOf ix).toNat)
    case atStart => exact ⟨0, 1114112, by omega, rfl, rfl, by omega, by omega, rfl⟩
    case round =>
      obtain ⟨k, n, hk, rfl, rfl, hn0, hn1, hfold⟩ := hrel
      by_cases hlt : k < l.length
      · obtain ⟨b, off, rfl, hb, hc⟩ := HA2.out.pairs_ (by omega)
        obtain ⟨h0, h1⟩ := hc k hlt
        clear hc
        obtain ⟨⟨x, y⟩, hr⟩ : ∃ r, l.getD k (0, 0) = r := ⟨_, rfl⟩
        rw [hr] at h0 h1
        simp only at h0 h1
        have HS := Lib.hid (foldE_step hlt hr hfold.out)
        clear hr
        have hki : (k : Int) < (l.length : Int) := by omega
        obtain ⟨s1, s2, _, _⟩ := step1_spec (x, y) hn0
        obtain ⟨m1, hm1, hA1⟩ : ∃ m1, stepA last n (x, y) = m1 ∧ ((last < x ∧ x < n ∧ m1 = x) ∨ (last < x ∧ ¬ x < n ∧ m1 = n) ∨ (¬ last < x ∧ m1 = n)) := by
          refine ⟨_, rfl, ?_⟩
          unfold stepA
          simp only
          split <;> omega
        obtain ⟨m2, hm2, hA2⟩ : ∃ m2, stepB last m1 (x, y) = m2 ∧ ((last ≤ y ∧ y < m1 - 1 ∧ m2 = y + 1) ∨ (last ≤ y ∧ ¬ y < m1 - 1 ∧ m2 = m1) ∨ (¬ last ≤ y ∧ m2 = m1)) := by
          refine ⟨_, rfl, ?_⟩
          unfold stepB
          simp only
          split <;> omega
        have hs1 : step1 last n (x, y) = m2 := by unfold step1; rw [hm1, hm2]
        rw [hs1] at HS s1 s2
        clear hs1 hm1 hm2 hfold
        rcases hA1 with ⟨a1, a2, rfl⟩ | ⟨a1, a2, rfl⟩ | ⟨a1, rfl⟩ <;> rcases hA2 with ⟨a3, a4, rfl⟩ | ⟨a3, a4, rfl⟩ | ⟨a3, rfl⟩ <;>
          (go_wp2
           go_round
           case rel => exact ⟨k + 1, _, by omega, by go_num, rfl, by omega, by omega, Lib.hid HS.out⟩
           case measure => simp [intOf]; omega)
      · obtain rfl : k = l.length := by omega
        have HN := Lib.hid (show nextE l last = n by rw [← hfold.out, List.take_length]; rfl)
        have HE := Lib.hid (edgesF_more l (1114112 - last).toNat hl1 (by omega))
        rw [HN.out] at HE
        clear hfold
        by_cases he : n = 1114112
        · subst he
          go_wp2
          go_ret
          refine ⟨_, rfl, ?_⟩
          rw [hrest.out, HE.out, if_pos trivial, List.append_nil, ← HSl.out]
          exact HO.out
        · have hne : (n == 1114112) = false := by simpa using he
          have hpl2 : p.length < 1114112 := by omega
          go_wp2_with (at_builtin; (refine wpList_append_seq _ rfl (.tmp 67) (.tmp 69) 52 rfl 8 elIntE rfl (HO.out.alloc _) 1 rfl (SeqAt.new (E := Eint) wo [n] 3) rfl (by rw [HSl.out]; simp only [maxLen]; omega) (by rw [HSl.out]; omega) ?_); intro v1 w1 ho1 hg1)
          obtain ⟨A3, c3, rfl, _, _⟩ := OwnB.form ⟨ho1.1, ho1.size⟩
          go_roundw
          case rel =>
            refine ⟨p ++ [last], n, _, rfl, by omega, by omega, by rw [HSl.out]; omega, ho1, Lib.hid ?_⟩
            rw [hrest.out, HE.out, if_neg he, edgesF_fuel l ((1114112 - last).toNat - 1) (1114112 - n).toNat n (by omega) (by omega) (by omega)]
            simp
          case measure => simp; omega

end Go.Proofs.Ytapjkahpblbnmaa
