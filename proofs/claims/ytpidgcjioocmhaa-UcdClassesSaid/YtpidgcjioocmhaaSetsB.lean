/- Walks of the methods of sets.Set that build a set by append: Not, And. -/
import Derived.Test.YtpidgcjioocmhaaSets
namespace Go.Proofs.Ytpidgcjioocmhaa
open Go.RowKit SetPure

theorem info_range : (Try.prog.info? 29).map (fun i => (i.zero, i.size, i.bytes)) = some (some (.agg #[.int .i64 0, .int .i64 0]), 2, 16) := by kernel_rfl
theorem elSet : ElemOf Try.prog 31 29 Epair.k 16 := by
  obtain ⟨i, hi, hz0, hz1, hz2⟩ := info_parts info_range
  exact ⟨i, _, Try.underlying31, hi, hz0, hz1, hz2, rfl⟩
theorem elRanges : ElemOf Try.prog 27 29 Epair.k 16 := by
  obtain ⟨i, hi, hz0, hz1, hz2⟩ := info_parts info_range
  exact ⟨i, _, Try.underlying27, hi, hz0, hz1, hz2, rfl⟩

theorem notL_step {next : Int} {s : List Rg} {k : Nat} {r : Rg} (hk : k < s.length) (hr : s.getD k (0, 0) = r) : notL next (s.drop k) = if next < r.1 then (next, r.1 - 1) :: notL (r.2 + 1) (s.drop (k + 1)) else notL (r.2 + 1) (s.drop (k + 1)) := by
  rw [drop_next' hk hr]; rfl

set_option maxHeartbeats 800000 in
theorem not_any (A : Option Addr) (c B : Nat) (l : List Rg) (w : World) (hcan : Canon l) (hA : SeqAt Epair w B A l) (hB : B ≤ w.heap.size) :
    Calls Try.prog 38 #[.slice A l.length c] w (RetSeq Epair w (notL 0 l)) := by
  have hok := Canon.ok hcan (by omega)
  have hlen := hcan.len
  have HA := Lib.hid hA
  have HO := Lib.hid hok
  clear hA hcan hok
  go_enter Try.func38, Try.ntmps38
  go_wp2
  go_loopw [3, 4, 9] (fun v nx i wr => ∃ (k : Nat) (next : Int) (O : List Rg), k ≤ l.length ∧ i = .int .i64 k ∧ nx = .int .i64 next ∧ 0 ≤ next ∧ next ≤ 1114112 ∧ O.length ≤ k ∧ Own Epair 29 w wr v O ∧ Hid (notL 0 l = O ++ notL next (l.drop k)))
    (fun _ _ i _ => l.length + 1 - (intOf i).toNat)
  case atStart => exact ⟨0, 0, [], by omega, rfl, rfl, by omega, by omega, by simp, Own.nil_ _, rfl⟩
  case round =>
    obtain ⟨k, next, O, hk, rfl, rfl, hn0, hn1, hOl, hown, hrest⟩ := hrel
    have hz := hown.size
    by_cases hlt : k < l.length
    · obtain ⟨b, off, rfl, hb, hc⟩ := (HA.out.below (hown.2.mono hB)).pairs_ (by omega)
      obtain ⟨h0, h1⟩ := hc k hlt
      clear hc
      obtain ⟨⟨x, y⟩, hr⟩ : ∃ r, l.getD k (0, 0) = r := ⟨_, rfl⟩
      rw [hr] at h0 h1
      have hq := HO.out _ (mem_at' hlt hr)
      have HS := Lib.hid (notL_step (next := next) hlt hr)
      clear hr
      simp only at h0 h1 hq
      obtain ⟨q1, q2, q3⟩ := hq
      by_cases hx : next < x
      · go_wp2_with (at_builtin; (refine wpList_append_seq _ rfl (.tmp 17) (.tmp 23) 31 rfl 16 elSet rfl ((hown.alloc _).alloc _) 1 rfl (SeqAt.new_at (E := Epair) (wr.alloc _) [(next, x - 1)] 29 (wr.heap.size + 1) (by simp)) rfl (by simp only [maxLen]; omega) (by omega) ?_); intro v1 w1 hown1 hg1; have hy1 := grown_cell hown hg1 (b := wr.heap.size) (o := 1) (u := .int .i64 y) (by go_simp) (Nat.le_refl _))
        go_roundw
        case rel => exact ⟨k + 1, y + 1, O ++ [(next, x - 1)], by omega, by go_num, rfl, by omega, by omega, by simp; omega, hown1, Lib.hid (by rw [hrest.out, HS.out, if_pos (by simp only; omega)]; simp)⟩
        case measure => simp [intOf]; omega
      · go_wp2
        go_roundw
        case rel => exact ⟨k + 1, y + 1, O, by omega, by go_num, rfl, by omega, by omega, by omega, hown.alloc _, Lib.hid (by rw [hrest.out, HS.out, if_neg (by simp only; omega)])⟩
        case measure => simp [intOf]; omega
    · obtain rfl : k = l.length := by omega
      by_cases hx : next ≤ 1114111
      · go_wp2_with (at_builtin; refine wpList_append_seq _ rfl (.tmp 31) (.tmp 34) 31 rfl 16 elSet rfl (hown.alloc _) 1 rfl (SeqAt.new (E := Epair) wr [(next, 1114111)] 29) rfl (by simp only [maxLen]; omega) (by omega) ?_; intro v1 w1 hown1 hg1)
        go_ret
        rw [hrest.out, List.drop_eq_nil_of_le (Nat.le_refl _)]
        simp only [notL, if_pos hx]
        exact hown1.ret
      · go_wp2
        go_ret
        rw [hrest.out, List.drop_eq_nil_of_le (Nat.le_refl _)]
        rw [notL, if_neg (by omega), List.append_nil]
        exact hown.ret

end Go.Proofs.Ytpidgcjioocmhaa
