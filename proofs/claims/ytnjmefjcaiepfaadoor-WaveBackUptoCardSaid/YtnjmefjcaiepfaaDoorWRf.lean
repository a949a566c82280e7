/- The document's Agree; Agree and Places of the code, as lists. -/
import Derived.Test.YtnjmefjcaiepfaaDoorWAg
namespace Go.Proofs.YtnjmefjcaiepfaaDoor
open Go.RowKit WaveP

theorem elInt : ElemOf Tryd.prog 22 3 Eint.k 8 := by
  have h : (Tryd.prog.info? 3).map (fun i => (i.zero, i.size, i.bytes)) = some (some (.int .i64 0), 1, 8) := by kernel_rfl
  rcases hi : Tryd.prog.info? 3 with _ | i
  · rw [hi] at h; cases h
  · rw [hi] at h
    injection h with h
    injection h with h1 h2
    injection h2 with h2 h3
    exact ⟨i, _, Tryd.underlying22, hi, h1, h2, h3, rfl⟩
theorem flat_int (l : List Int) : l.flatMap Eint.enc = l.map (fun x => Value.int .i64 x) := by
  induction l with
  | nil => rfl
  | cons a l ih => rw [List.flatMap_cons, ih]; rfl
/-- A row of ints that a call has made, as a list. -/
theorem seq_row {w : World} {g n : Nat} {t : TypeId} {f : Nat → Int} (h : w.rowIs g t n (fun p => .int .i64 (f p))) (hn : n ≤ maxLen) : IsSeq Eint w (.slice (some ⟨g, 0, none⟩) n n) ((List.range n).map f) := by
  have hl : ((List.range n).map f).length = n := by simp
  refine ⟨some ⟨g, 0, none⟩, n, by rw [hl], by omega, hn, fun h0 => ⟨g, 0, rfl, h.lt, fun j hj => ?_⟩⟩
  have hj2 : j < n := by rw [hl] at hj; simpa [Eint] using hj
  rw [Nat.zero_add, h.cell hj2, flat_int, List.getD_eq_getElem?_getD, List.getElem?_eq_getElem (by simpa using hj2)]
  simp

def agL (t s : ByteArray) : List Int := if 0 < s.size ∧ s.size ≤ 1024 then (List.range (t.size + 1 - s.size)).map (fun p => (agree (byN t) (byN s) s.size p : Int)) else []
theorem range_one (f : Nat → Int) (p : Nat) : (List.range p).map f ++ [f p] = (List.range (p + 1)).map f := by rw [List.range_succ, List.map_append]; rfl

set_option maxHeartbeats 1600000 in
set_option maxRecDepth 100000 in
theorem refAgree_any (t s : ByteArray) (w : World) (ht : s.size ≤ 1024 → t.size ≤ 1073741824) (hs : s.size ≤ maxLen) :
    Calls Tryd.prog 14 #[.string t, .string s] w (RetSeq Eint w (agL t s)) := by
  unfold maxLen at hs
  obtain ⟨lw, hlw⟩ : ∃ lw, s.size = lw := ⟨_, rfl⟩
  obtain ⟨lt, hlt⟩ : ∃ lt, t.size = lt := ⟨_, rfl⟩
  rw [hlw] at hs
  rw [hlt, hlw] at ht
  by_cases hf : 0 < lw ∧ lw ≤ 1024
  · obtain ⟨f1, f2⟩ := hf
    have ht := ht f2
    have HL := Lib.hid (show agL t s = (List.range (lt + 1 - lw)).map (fun p => (agree (byN t) (byN s) lw p : Int)) by unfold agL; rw [hlw, hlt, if_pos ⟨f1, f2⟩])
    clear hs
    go_enter Tryd.func14, Tryd.ntmps14
    go_wp2
    go_loopw [5, 6] (fun vo i wr => ∃ p : Nat, p ≤ lt + 1 - lw ∧ i = .int .i64 p ∧ Hid (Own Eint 3 w wr vo ((List.range p).map (fun p => (agree (byN t) (byN s) lw p : Int))))) (fun _ i _ => lt + 2 - (intOf i).toNat)
    case atStart => exact ⟨0, by omega, rfl, Lib.hid (Own.nil_of (Below.refl _ w))⟩
    case round =>
      obtain ⟨p, hp, rfl, HO⟩ := hrel
      by_cases hpl : p + lw ≤ lt
      · go_wp2
        go_loopw [7, 8] (fun n i wr => ∃ k : Nat, k ≤ lw ∧ i = .int .i64 k ∧ n = .int .i64 (cntN k (fun j => byN t (p + j) == byN s j) : Nat) ∧ Hid (Own Eint 3 w wr u5 ((List.range p).map (fun p => (agree (byN t) (byN s) lw p : Int)))))
          (fun _ i _ => lw + 1 - (intOf i).toNat)
        case atStart => exact ⟨0, by omega, rfl, rfl, HO⟩
        case round =>
          obtain ⟨k, hk, rfl, rfl, HO2⟩ := hrel
          clear HO
          by_cases hkl : k < lw
          · obtain ⟨q, hq⟩ : ∃ q, q = p + k := ⟨_, rfl⟩
            have hi1 : q < t.size := by omega
            have hi2 : k < s.size := by omega
            have a1 := at_byN hi1
            have a2 := at_byN hi2
            have b1 := byN_lt t q
            have hw : IntKind.i64.wrap ((p : Int) + (k : Int)) = (q : Int) := by rw [IntWalk.i64_in _ (by omega)]; omega
            have b2 := byN_lt s k
            have HC := Lib.hid (cntN_succ k (fun j => byN t (p + j) == byN s j))
            have hle := cntN_le k (fun j => byN t (p + j) == byN s j)
            obtain ⟨n, hn⟩ : ∃ n, n = cntN k (fun j => byN t (p + j) == byN s j) := ⟨_, rfl⟩
            rw [← hn] at hle HC ⊢
            obtain ⟨x, hx⟩ : ∃ x, x = byN t q := ⟨_, rfl⟩
            obtain ⟨y, hy⟩ : ∃ y, y = byN s k := ⟨_, rfl⟩
            rw [← hx] at a1 b1
            rw [← hy] at a2 b2
            have HX := Lib.hid (show x = byN t (p + k) by rw [← hq]; exact hx)
            have HY := Lib.hid hy
            clear hn hx hy hq
            by_cases hxy : x = y
            · have HC2 := Lib.hid (show cntN (k + 1) (fun j => byN t (p + j) == byN s j) = n + 1 by rw [HC.out, ← HX.out, ← HY.out, if_pos (by simp [hxy])])
              subst hxy
              clear HY
              go_wp2
              go_quiet (fail)
              go_wp2
              go_roundw
              case rel => exact ⟨k + 1, by omega, by go_num, by rw [HC2.out]; go_num, Lib.hid (HO2.out.below (below_drewN (Below.refl _ _) _))⟩
              case measure => simp [intOf]; omega
            · have HC2 := Lib.hid (show cntN (k + 1) (fun j => byN t (p + j) == byN s j) = n by rw [HC.out, ← HX.out, ← HY.out, if_neg (by simp [hxy]), Nat.add_zero])
              go_wp2
              go_quiet (fail)
              go_wp2
              go_roundw
              case rel => exact ⟨k + 1, by omega, by go_num, by rw [HC2.out], Lib.hid (HO2.out.below (below_drewN (Below.refl _ _) _))⟩
              case measure => simp [intOf]; omega
          · obtain rfl : k = lw := by omega
            have hle := cntN_le k (fun j => byN t (p + j) == byN s j)
            have HE := Lib.hid (range_one (fun p => (agree (byN t) (byN s) k p : Int)) p)
            have HA := Lib.hid (show cntN k (fun j => byN t (p + j) == byN s j) = agree (byN t) (byN s) k p from rfl)
            obtain ⟨n, hn⟩ : ∃ n, n = cntN k (fun j => byN t (p + j) == byN s j) := ⟨_, rfl⟩
            rw [← hn] at hle HA ⊢
            clear hn
            go_wp2_with (at_builtin; (refine wpList_append_seq _ rfl (.tmp 44) (.tmp 46) 22 rfl 8 elInt rfl (HO2.out.alloc _) 1 rfl (SeqAt.new (E := Eint) _ [(n : Int)] 3) rfl ?c3 ?c4 ?_))
            case c3 => rw [List.length_map, List.length_range]; simp only [maxLen]; omega
            case c4 => rw [List.length_map, List.length_range]; omega
            intro v2 w2 hO2 hg2
            rw [HA.out, HE.out] at hO2
            have HO3 := Lib.hid hO2
            clear hO2 hg2
            go_wp2
            go_roundw
            case rel => exact ⟨p + 1, by omega, by go_num, HO3⟩
            case measure => simp [intOf]; omega
      · obtain rfl : p = lt + 1 - lw := by omega
        go_wp2
        go_ret
        rw [HL.out]
        exact HO.out.ret
  · have HL : agL t s = [] := by unfold agL; rw [hlw, if_neg hf]
    rw [HL]
    by_cases h0 : lw = 0
    · go_enter Tryd.func14, Tryd.ntmps14
      go_wp2
      go_ret
      exact (Own.nil_of (Below.refl _ w)).ret (e := 3)
    · have h1 : 1024 < lw := by omega
      go_enter Tryd.func14, Tryd.ntmps14
      go_wp2
      go_ret
      exact (Own.nil_of (Below.refl _ w)).ret (e := 3)
end Go.Proofs.YtnjmefjcaiepfaaDoor
