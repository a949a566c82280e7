/- The walk of sets.Set's And. -/
import Derived.Test.YtpidgcjioocmhaaSetsB
import Derived.Test.YtpidgcjioocmhaaGrown
namespace Go.Proofs.Ytpidgcjioocmhaa
open Go.RowKit SetPure

theorem andF_step {n i j : Nat} {s t : List Rg} {a b : Rg} (hi : i < s.length) (hj : j < t.length) (ha : s.getD i (0, 0) = a) (hb : t.getD j (0, 0) = b) :
    andF (n + 1) (s.drop i) (t.drop j) = (if max a.1 b.1 ≤ min a.2 b.2 then [(max a.1 b.1, min a.2 b.2)] else []) ++ (if a.2 < b.2 then andF n (s.drop (i + 1)) (t.drop j) else andF n (s.drop i) (t.drop (j + 1))) := by
  rw [drop_next' hi ha, drop_next' hj hb]; rfl

theorem max_if (x y : Int) : max x y = if x < y then y else x := by
  split <;> omega
theorem min_if (x y : Int) : min x y = if y < x then y else x := by
  split <;> omega

set_option maxHeartbeats 1600000 in
theorem and_any (A A' : Option Addr) (c c' B : Nat) (l m : List Rg) (w : World) (hcan : Canon l) (hcan' : Canon m) (hA : SeqAt Epair w B A l) (hA' : SeqAt Epair w B A' m) (hB : B ≤ w.heap.size) :
    Calls Try.prog 17 #[.slice A l.length c, .slice A' m.length c'] w (RetOwn Epair 29 w (andL l m)) := by
  have hok := Canon.ok hcan (by omega)
  have hok' := Canon.ok hcan' (by omega)
  have hlen := hcan.len
  have hlen' := hcan'.len
  have HA := Lib.hid hA
  have HO := Lib.hid hok
  have HA' := Lib.hid hA'
  have HO' := Lib.hid hok'
  clear hA hcan hok hA' hcan' hok'
  go_enter Try.func17, Try.ntmps17
  go_wp2
  go_loopw [5, 6, 7] (fun v si sk wr => ∃ (i k : Nat) (O : List Rg), i ≤ l.length ∧ k ≤ m.length ∧ si = .int .i64 i ∧ sk = .int .i64 k ∧ O.length ≤ i + k ∧ Own Epair 29 w wr v O ∧ Hid (andL l m = O ++ andF (l.length + m.length - (i + k)) (l.drop i) (m.drop k)))
    (fun _ si sk _ => l.length + m.length + 1 - ((intOf si).toNat + (intOf sk).toNat))
  case atStart => exact ⟨0, 0, [], by omega, by omega, rfl, rfl, by simp, Own.nil_ _, rfl⟩
  case round =>
    obtain ⟨i, k, O, hi, hk, rfl, rfl, hOl, hown, hrest⟩ := hrel
    have hz := hown.size
    by_cases hlt : i < l.length
    · by_cases hlk : k < m.length
      · obtain ⟨b, off, rfl, hb, hc⟩ := (HA.out.below (hown.2.mono hB)).pairs_ (by omega)
        obtain ⟨b', off', rfl, hb', hc'⟩ := (HA'.out.below (hown.2.mono hB)).pairs_ (by omega)
        obtain ⟨h0, h1⟩ := hc i hlt
        obtain ⟨h0', h1'⟩ := hc' k hlk
        clear hc hc'
        obtain ⟨⟨x, y⟩, hr⟩ : ∃ r, l.getD i (0, 0) = r := ⟨_, rfl⟩
        obtain ⟨⟨x', y'⟩, hr'⟩ : ∃ r, m.getD k (0, 0) = r := ⟨_, rfl⟩
        rw [hr] at h0 h1
        rw [hr'] at h0' h1'
        have hq := HO.out _ (mem_at' hlt hr)
        have hq' := HO'.out _ (mem_at' hlk hr')
        have HS := Lib.hid (andF_step (n := l.length + m.length - (i + k) - 1) hlt hlk hr hr')
        rw [show l.length + m.length - (i + k) - 1 + 1 = l.length + m.length - (i + k) by omega] at HS
        clear hr hr'
        simp only at h0 h1 hq h0' h1' hq'
        obtain ⟨q1, q2, q3⟩ := hq
        obtain ⟨q1', q2', q3'⟩ := hq'
        have hki : (i : Int) < (l.length : Int) := by omega
        have hkk : (k : Int) < (m.length : Int) := by omega
        go_upto_region 4 with (fail)
        go_cut [8] (fun s8 wx => ∃ g : Nat, s8 = .pointer (some ⟨g, 0, none⟩) ∧ wr.heap.size ≤ g ∧ g < wx.heap.size ∧ wx.cell? ⟨g, 0, none⟩ = some (.int .i64 (max x x')) ∧ wx.cell? ⟨g, 1, none⟩ = some (.int .i64 (min y y')) ∧ Below wr.heap.size wr wx)
        case first =>
          go_region_held3 (fun w' => w'.cell? ⟨b, off + i * 2, none⟩ = some (.int .i64 x) ∧ w'.cell? ⟨b, off + i * 2 + 1, none⟩ = some (.int .i64 y) ∧ w'.cell? ⟨b', off' + k * 2, none⟩ = some (.int .i64 x') ∧ w'.cell? ⟨b', off' + k * 2 + 1, none⟩ = some (.int .i64 y')) (go_keep) (first | fail)
          all_goals
            go_wp2
            all_goals
              go_meet
              exact ⟨wr.heap.size, rfl, Nat.le_refl _, by simp, by first | (rw [max_if]; go_simp; done) | (go_simp; omega), by first | (rw [min_if]; go_simp; done) | (go_simp; omega), ((Below.refl _ wr).alloc (Nat.le_refl _) _).drew⟩
        case rest =>
          obtain ⟨g, rfl, hg1, hg2, c0, c1, hbx⟩ := hcut
          have hown2 := hown.below hbx
          have hz2 := hbx.size
          have HE1 := Lib.hid ((hown2.2.cell (p := ⟨b, off + i * 2 + 1, none⟩) (by simp only; omega)).symm.trans ((hbx.cell (p := ⟨b, off + i * 2 + 1, none⟩) (by simp only; omega)).trans h1))
          have HE2 := Lib.hid ((hown2.2.cell (p := ⟨b', off' + k * 2 + 1, none⟩) (by simp only; omega)).symm.trans ((hbx.cell (p := ⟨b', off' + k * 2 + 1, none⟩) (by simp only; omega)).trans h1'))
          have e1 := (hbx.cell (p := ⟨b, off + i * 2 + 1, none⟩) (by simp only; omega)).trans h1
          have e2 := (hbx.cell (p := ⟨b', off' + k * 2 + 1, none⟩) (by simp only; omega)).trans h1'
          clear h0 h1 h0' h1'
          obtain ⟨mx, hmx⟩ : ∃ mx, max x x' = mx := ⟨_, rfl⟩
          obtain ⟨mn, hmn⟩ : ∃ mn, min y y' = mn := ⟨_, rfl⟩
          rw [hmx] at c0
          rw [hmn] at c1
          simp only [hmx, hmn] at HS
          have bm1 : 0 ≤ mx := by omega
          have bm2 : mx ≤ 1114111 := by omega
          have bm3 : 0 ≤ mn := by omega
          have bm4 : mn ≤ 1114111 := by omega
          clear hmx hmn
          by_cases hle : mx ≤ mn
          · go_wp2_with (at_builtin; (refine wpList_append_seq _ rfl (.tmp 47) (.tmp 49) 31 rfl 16 elSet rfl (hown2.alloc _) 1 rfl (SeqAt.new (E := Epair) wc [(mx, mn)] 29) rfl (by simp only [maxLen]; omega) (by omega) ?_); intro v1 w1 hown1 hgr; have f1 := (hown1.2.cell (p := ⟨b, off + i * 2 + 1, none⟩) (by simp only; omega)).trans HE1.out; have f2 := (hown1.2.cell (p := ⟨b', off' + k * 2 + 1, none⟩) (by simp only; omega)).trans HE2.out)
            by_cases hlt2 : y < y'
            · go_quiet (fail)
              go_wp2
              go_roundw
              case rel => exact ⟨i + 1, k, O ++ [(mx, mn)], by omega, by omega, by go_num, rfl, by simp; omega, hown1.below (below_drewN (Below.refl _ _) _), Lib.hid (by rw [hrest.out, HS.out, if_pos hle, if_pos (show y < y' from hlt2), show l.length + m.length - (i + k) - 1 = l.length + m.length - (i + 1 + k) by omega]; simp)⟩
              case measure => simp [intOf]; omega
            · go_quiet (fail)
              go_wp2
              go_roundw
              case rel => exact ⟨i, k + 1, O ++ [(mx, mn)], by omega, by omega, rfl, by go_num, by simp; omega, hown1.below (below_drewN (Below.refl _ _) _), Lib.hid (by rw [hrest.out, HS.out, if_pos hle, if_neg (show ¬ y < y' from hlt2), show l.length + m.length - (i + k) - 1 = l.length + m.length - (i + (k + 1)) by omega]; simp)⟩
              case measure => simp [intOf]; omega
          · go_wp2
            by_cases hlt2 : y < y'
            · go_quiet (fail)
              go_wp2
              go_roundw
              case rel => exact ⟨i + 1, k, O, by omega, by omega, by go_num, rfl, by omega, hown2.below (below_drewN (Below.refl _ _) _), Lib.hid (by rw [hrest.out, HS.out, if_neg (show ¬ mx ≤ mn by omega), if_pos (show y < y' from hlt2), show l.length + m.length - (i + k) - 1 = l.length + m.length - (i + 1 + k) by omega]; simp)⟩
              case measure => simp [intOf]; omega
            · go_quiet (fail)
              go_wp2
              go_roundw
              case rel => exact ⟨i, k + 1, O, by omega, by omega, rfl, by go_num, by omega, hown2.below (below_drewN (Below.refl _ _) _), Lib.hid (by rw [hrest.out, HS.out, if_neg (show ¬ mx ≤ mn by omega), if_neg (show ¬ y < y' from hlt2), show l.length + m.length - (i + k) - 1 = l.length + m.length - (i + (k + 1)) by omega]; simp)⟩
              case measure => simp [intOf]; omega
      · obtain rfl : k = m.length := by omega
        go_wp2
        go_ret
        rw [hrest.out, show m.drop m.length = [] by simp, andF_nil', List.append_nil]
        exact ⟨_, rfl, hown⟩
    · obtain rfl : i = l.length := by omega
      go_wp2
      go_ret
      rw [hrest.out, show l.drop l.length = [] by simp, andF_nil, List.append_nil]
      exact ⟨_, rfl, hown⟩

end Go.Proofs.Ytpidgcjioocmhaa
