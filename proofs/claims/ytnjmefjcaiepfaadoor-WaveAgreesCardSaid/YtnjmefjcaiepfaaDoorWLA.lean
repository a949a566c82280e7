/- The law WaveAgrees. -/
import Derived.Test.YtnjmefjcaiepfaaDoorWLw
namespace Go.Proofs.YtnjmefjcaiepfaaDoor
open Go.RowKit WaveP

/-- What the walk wants of the two texts' product of sizes. -/
theorem sizes_prod {a b : Nat} (ha : a ≤ 140737488355328) (h : IntKind.i64.wrap ((a : Int) * ((b : Int) + 1)) ≤ 16777216) (hb : b ≤ 1024) : a ≤ 1073741824 := by
  obtain ⟨q, hq⟩ : ∃ q, q = a * (b + 1) := ⟨_, rfl⟩
  have h1 : a * 1 ≤ a * (b + 1) := Nat.mul_le_mul_left _ (by omega)
  have h2 : a * (b + 1) ≤ 140737488355328 * 1025 := Nat.mul_le_mul ha (by omega)
  have e : (a : Int) * ((b : Int) + 1) = (q : Int) := by rw [hq, Int.natCast_mul]; rfl
  rw [e, IntWalk.i64_in _ (by omega)] at h
  omega

set_option maxHeartbeats 1600000 in
set_option maxRecDepth 100000 in
theorem agrees_body (t s : ByteArray) (w : World) (ht : t.size ≤ 140737488355328) (hs : s.size ≤ 140737488355328) (q : Int) (hq : IntKind.i64.wrap ((t.size : Int) * ((s.size : Int) + 1)) = q) (hq2 : q ≤ 16777216 → s.size ≤ 1024 → t.size ≤ 1073741824)
    (hT : ∀ w', Below w.heap.size w w' → TabsW w') :
    Calls Tryd.prog 5 #[.string t, .string s] w fun e w' => e = .returned (.bool true) ∧ Below w.heap.size w w' := by
  have HT := Lib.hid hT
  have HS := Lib.hid (speaks_any w hT)
  have HP := Lib.hid (show plL t s = plN (isN (agL t s) s.size) (agL t s).length from rfl)
  have HPL := Lib.hid (plN_len (isN (agL t s) s.size) (agL t s).length)
  have hll : q ≤ 16777216 → (agL t s).length ≤ 1073741824 := fun hle => by
    have := agL_len t s
    by_cases h : s.size ≤ 1024
    · have := hq2 hle h; omega
    · rw [agL_far (by omega)]; exact Nat.zero_le _
  obtain ⟨l, hl⟩ : ∃ l, l = agL t s := ⟨_, rfl⟩
  obtain ⟨n, hn⟩ : ∃ n, n = l.length := ⟨_, rfl⟩
  have HL := Lib.hid hl
  have HN := Lib.hid hn
  rw [← hl, ← hn] at hll HP HPL
  clear hT hl hn
  by_cases hqb : q ≤ 16777216
  · have H2 := Lib.hid (hq2 hqb)
    have hll := hll hqb
    clear hq2
    have HM1 : Hid True := Lib.hid trivial
    have HM2 : Hid True := Lib.hid trivial
    have HM3 : Hid True := Lib.hid trivial
    go_enter Tryd.func5, Tryd.ntmps5
    go_wp2_with (first
      | (go_at_call 10; clear HM1; (refine HS.out.mono ?_); rintro e w1 ⟨rfl, hb1⟩)
      | (go_at_call 13; clear HM2; (refine (agree_any t s w1 H2.out (by unfold maxLen; omega) (by unfold maxLen; omega) (tabs_later HT.out hb1)).mono ?_); rintro e w2 ⟨v1, rfl, ⟨A1, c1, rfl, hc1, hc2, hS1⟩, hb2⟩; have HS1 := Lib.hid hS1; clear hS1 hc1 hc2; (rw [← HL.out]); (rw [← HL.out] at HS1); (rw [← HN.out]))
      | (go_at_call 14; clear HM3; (refine (refAgree_any t s w2 H2.out (by unfold maxLen; omega)).mono ?_); rintro e w3 ⟨v2, rfl, ⟨A2, c2, rfl, hc3, hc4, hS2⟩, hb3⟩; have HS2 := Lib.hid hS2; clear hS2 hc3 hc4; (rw [← HL.out]); (rw [← HL.out] at HS2); (rw [← HN.out]))
      | fail)
    have hb13 := (hb1.trans (hb2.mono hb1.size)).trans (hb3.mono (hb1.trans (hb2.mono hb1.size)).size)
    have HS1b := Lib.hid ((HS1.out.below hb3).more hb3.size)
    clear hb1 hb2 hb3 HS1
    go_loopw [7, 8] (fun vo i wr => ∃ k : Nat, k ≤ n ∧ i = .int .i64 k ∧ Hid (Own Eint 3 w3 wr vo (plN (isN l s.size) k))) (fun _ i _ => n + 1 - (intOf i).toNat)
    case atStart => exact ⟨0, by omega, rfl, Lib.hid (Own.nil_of (Below.refl _ _))⟩
    case round =>
      obtain ⟨k, hk, rfl, HO⟩ := hrel
      have hbe := HO.out.2
      by_cases hkn : k < n
      · obtain ⟨ba, oa, rfl, hba, hca⟩ := (HS2.out.below hbe).int_ (show k < l.length by rw [← HN.out]; exact hkn)
        have hlen := plN_len (isN l s.size) k
        have HNX := Lib.hid (plN_succ (isN l s.size) k)
        have hgd : l.getD k 0 = l[k]'(by rw [← HN.out]; exact hkn) := by rw [List.getD_eq_getElem?_getD, List.getElem?_eq_getElem (by rw [← HN.out]; exact hkn)]; rfl
        obtain ⟨x, hx⟩ : ∃ x, x = l.getD k 0 := ⟨_, rfl⟩
        rw [← hgd, ← hx] at hca
        have HX := Lib.hid hx
        clear hgd hx
        by_cases hxs : x = (s.size : Int)
        · have hi : isN l s.size k = true := by unfold isN; rw [← HX.out, hxs]; simp
          rw [hi, if_pos rfl] at HNX
          clear hi
          go_wp2_with (at_builtin; (refine wpList_append_seq _ rfl (.tmp 37) (.tmp 39) 22 rfl 8 elInt rfl (HO.out.alloc _) 1 rfl (SeqAt.new (E := Eint) _ [(k : Int)] 3) rfl ?c3 ?c4 ?_))
          case c3 => simp only [maxLen]; omega
          case c4 => omega
          intro v2 w4 hO2 hg2
          rw [← HNX.out] at hO2
          have HO3 := Lib.hid hO2
          clear hO2 hg2
          go_wp2
          go_roundw
          case rel => exact ⟨k + 1, by omega, by go_num, HO3⟩
          case measure => simp [intOf]; omega
        · have hi : isN l s.size k = false := by unfold isN; rw [← HX.out]; simp [hxs]
          rw [hi] at HNX
          have HO3 := Lib.hid (show Own Eint 3 w3 wr u7 (plN (isN l s.size) (k + 1)) by rw [HNX.out]; simpa using HO.out)
          clear hi
          go_wp2
          go_roundw
          case rel => exact ⟨k + 1, by omega, by go_num, HO3⟩
          case measure => simp [intOf]; omega
      · obtain rfl : k = n := by omega
        have hbw := hb13.trans (hbe.mono hb13.size)
        obtain ⟨A3, n3, c3, rfl, hlen3, hSq3⟩ : ∃ A3 n3 c3, u7 = .slice A3 n3 c3 ∧ n3 = (plN (isN l s.size) k).length ∧ SeqAt Eint wr wr.heap.size A3 (plN (isN l s.size) k) := by
          obtain ⟨A3, c3, e, _, _, h⟩ := HO.out.isSeq
          exact ⟨A3, _, c3, e, rfl, h⟩
        have hn3 : n3 ≤ k := by rw [hlen3]; exact HPL.out
        have HSQ := Lib.hid hSq3
        have HL3 := Lib.hid hlen3
        clear hSq3 hlen3
        have HM1 : Hid True := Lib.hid trivial
        have HM2 : Hid True := Lib.hid trivial
        go_wp2_with (first
          | (go_at_call 15; clear HM1; (rw [HN.out]); (refine (ints_same A1 A2 c1 c2 w3.heap.size l wr (by rw [← HN.out]; unfold maxLen; omega) (HS1b.out.below hbe) (HS2.out.below hbe) hbe.size).mono ?_); rintro e w5 ⟨rfl, hb5⟩; (rw [← HN.out]))
          | (go_at_call 16; (refine (places_any t s w5 H2.out (by unfold maxLen; omega) (by unfold maxLen; omega) (tabs_later HT.out (hbw.trans (hb5.mono hbw.size)))).mono ?_); rintro e w6 ⟨v6, rfl, ⟨A6, c6, rfl, hc6, hc7, hS6⟩, hb6⟩; have HS6 := Lib.hid hS6; clear hS6 hc6 hc7; (rw [HP.out, ← HL3.out]); (rw [HP.out] at HS6))
          | (go_at_call 15; clear HM2; (rw [HL3.out]); (refine (ints_same A6 A3 c6 c3 w6.heap.size _ w6 (by rw [← HL3.out]; unfold maxLen; omega) HS6.out (((HSQ.out.below hb5).more hb5.size).below hb6 |>.more hb6.size) (Nat.le_refl _)).mono ?_); rintro e w7 ⟨rfl, hb7⟩; (rw [← HL3.out]))
          | fail)
        go_ret
        exact ⟨rfl, ((hbw.trans (hb5.mono hbw.size)).trans (hb6.mono (hbw.trans (hb5.mono hbw.size)).size)).trans (hb7.mono ((hbw.trans (hb5.mono hbw.size)).trans (hb6.mono (hbw.trans (hb5.mono hbw.size)).size)).size)⟩
  · clear hq2 hll
    go_enter Tryd.func5, Tryd.ntmps5
    go_wp2_with (go_at_call 10; (refine HS.out.mono ?_); rintro e w1 ⟨rfl, hb1⟩)
    go_ret
    exact ⟨rfl, hb1⟩

theorem agrees_any (t s : ByteArray) (w : World) (ht : t.size ≤ 140737488355328) (hs : s.size ≤ 140737488355328) (hT : ∀ w', Below w.heap.size w w' → TabsW w') :
    Calls Tryd.prog 5 #[.string t, .string s] w fun e w' => e = .returned (.bool true) ∧ Below w.heap.size w w' :=
  agrees_body t s w ht hs _ rfl (fun h1 h2 => sizes_prod ht h1 h2) hT
end Go.Proofs.YtnjmefjcaiepfaaDoor
