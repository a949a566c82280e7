/- The walk of the reference's 'add'. -/
import Derived.Test.YtpidgcjioocmhaaLib
import Derived.Test.YtpidgcjioocmhaaOrbPure
namespace Go.Proofs.Ytpidgcjioocmhaa
open Go.RowKit OrbPure

theorem info_int : (Try.prog.info? 3).map (fun i => (i.zero, i.size, i.bytes)) = some (some (.int .i64 0), 1, 8) := by kernel_rfl
theorem elInt : ElemOf Try.prog 23 3 Eint.k 8 := by
  obtain ⟨i, hi, hz0, hz1, hz2⟩ := info_parts info_int
  exact ⟨i, _, Try.underlying23, hi, hz0, hz1, hz2, rfl⟩

set_option maxHeartbeats 800000 in
set_option maxRecDepth 100000 in
theorem add_any (A : Option Addr) (m c B : Nat) (l : List Int) (n : Int) (w : World) (hl : l.length = m) (hm : m ≤ 1000000) (hmc : m ≤ c) (hA : SeqAt Eint w B A l) (hB : B ≤ w.heap.size) :
    Calls Try.prog 30 #[.slice A m c, .int .i64 n] w (RetSeq Eint w (addL l n)) := by
  have HL := Lib.hid hl
  have HA := Lib.hid hA
  clear hl hA
  go_enter Try.func30, Try.ntmps30
  go_wp2
  go_loopw [5, 6] (fun v i wr => ∃ k : Nat, k ≤ m ∧ i = .int .i64 k ∧ Own Eint 3 w wr v (l.take k) ∧ Hid (addL l n = l.take k ++ addL (l.drop k) n)) (fun _ i _ => m + 1 - (intOf i).toNat)
  case atStart => exact ⟨0, by omega, rfl, Own.nil_ _, rfl⟩
  case round =>
    obtain ⟨k, hk, rfl, hown, hrest⟩ := hrel
    by_cases hlt : k < m
    · have hln := HL.out
      obtain ⟨b, off, rfl, hb, hc⟩ := HA.out.ints_ (by omega)
      have hw0 := hc k (by omega)
      clear hc hln
      generalize hx : l.getD k 0 = x at *
      have HX := Lib.hid hx
      have HW := Lib.hid hw0
      have hbl : (⟨b, off + k, none⟩ : Addr).block < w.heap.size := by simp only; omega
      have h0 := (hown.2.cell hbl).trans hw0
      clear hx hw0
      have hcl : (l.take k).length ≤ k := List.length_take_le _ _
      by_cases hxn : x < n
      · go_wp2_with (at_builtin; (refine wpList_append_seq _ rfl (.tmp 19) (.tmp 24) 23 rfl 8 elInt rfl (hown.alloc _) 1 rfl (SeqAt.new (E := Eint) wr [x] 3) rfl (by simp only [maxLen]; omega) (by omega) ?_); intro v1 w1 hown1 hg1)
        go_roundw
        case rel => exact ⟨k + 1, by omega, by go_num, by rw [take_next (by rw [HL.out]; omega) HX.out]; exact hown1, addL_lt (by rw [HL.out]; omega) hrest.out HX.out hxn⟩
        case measure => simp [intOf]; omega
      · by_cases hxe : x = n
        · have hln := HL.out
          have HC := Lib.hid (HA.out.cut_one rfl (m := k + 1) (cap := c) (by omega) (by omega))
          clear hln
          go_wp2_with (first
            | (at_builtin; refine wpList_append_seq _ rfl (.tmp 28) (.tmp 30) 23 rfl 8 elInt rfl (hown.alloc _) 1 rfl (SeqAt.new (E := Eint) wr [n] 3) rfl (by simp only [maxLen]; omega) (by omega) ?_; intro v1 w1 hown1 hg1; have h1 := (hown1.2.cell hbl).trans HW.out; have HC1 := Lib.hid (HC.out.below (hown1.2.mono hB)))
            | (at_builtin; (refine wpList_append_seq _ rfl (.tmp 46) (.tmp 49) 23 rfl 8 elInt rfl hown1 (m - (k + 1)) rfl HC1.out (by rw [List.length_drop, HL.out]) (by simp only [List.length_append, List.length_singleton, maxLen]; omega) (by simp only [List.length_append, List.length_singleton]; omega) ?_); intro v2 w2 hown2 hg2))
          all_goals
            go_ret
            rw [addL_eq (by rw [HL.out]; omega) hrest.out HX.out hxe]
            exact hown2.ret
        · have hln := HL.out
          have hxb : (x == n) = false := by simpa using hxe
          have HC := Lib.hid (HA.out.cut_lt rfl (m := k) (cap := c) (by omega) (by omega) (by omega))
          clear hln
          go_wp2_with (first
            | (at_builtin; refine wpList_append_seq _ rfl (.tmp 28) (.tmp 30) 23 rfl 8 elInt rfl (hown.alloc _) 1 rfl (SeqAt.new (E := Eint) wr [n] 3) rfl (by simp only [maxLen]; omega) (by omega) ?_; intro v1 w1 hown1 hg1; have h1 := (hown1.2.cell hbl).trans HW.out; have HC1 := Lib.hid (HC.out.below (hown1.2.mono hB)))
            | (at_builtin; (refine wpList_append_seq _ rfl (.tmp 46) (.tmp 49) 23 rfl 8 elInt rfl hown1 (m - k) rfl HC1.out (by rw [List.length_drop, HL.out]) (by simp only [List.length_append, List.length_singleton, maxLen]; omega) (by simp only [List.length_append, List.length_singleton]; omega) ?_); intro v2 w2 hown2 hg2))
          all_goals
            go_ret
            rw [addL_gt (by rw [HL.out]; omega) hrest.out HX.out (by omega)]
            exact hown2.ret
    · obtain rfl : k = m := by omega
      have hcl : (l.take k).length ≤ k := List.length_take_le _ _
      go_wp2_with (first
        | (at_builtin; refine wpList_append_seq _ rfl (.tmp 28) (.tmp 30) 23 rfl 8 elInt rfl (hown.alloc _) 1 rfl (SeqAt.new (E := Eint) wr [n] 3) rfl (by simp only [maxLen]; omega) (by omega) ?_; intro v1 w1 hown1 hg1)
        | (at_builtin; (refine wpList_append_seq _ rfl (.tmp 46) (.tmp 49) 23 rfl 8 elInt rfl hown1 0 rfl (SeqAt.nil_ (E := Eint) (B := 0)) rfl (by simp only [List.length_append, List.length_singleton, maxLen]; omega) (by simp only [List.length_append, List.length_singleton]; omega) ?_); intro v2 w2 hown2 hg2))
      all_goals
        go_ret
        rw [addL_end (by rw [HL.out]; omega) hrest.out, List.drop_eq_nil_of_le (by rw [HL.out]; omega)]
        exact hown2.ret

end Go.Proofs.Ytpidgcjioocmhaa
