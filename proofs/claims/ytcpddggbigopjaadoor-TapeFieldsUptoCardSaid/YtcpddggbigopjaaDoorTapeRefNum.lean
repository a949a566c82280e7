/- Chapter 06: the walk of the document's Number. -/
import Derived.Test.YtcpddggbigopjaaDoorTapeDec
import Derived.Test.YtcpddggbigopjaaDoorTapeNumsP
namespace Go.Proofs.YtcpddggbigopjaaDoor
open Go.RowKit TapePure

theorem dropWhile_nil {α : Type} {p : α → Bool} : ∀ {l : List α}, l.dropWhile p = [] → ∀ x ∈ l, p x = true
  | [], _, _, h => by cases h
  | y :: t, h, x, hx => by
    by_cases hy : p y = true
    · rw [List.dropWhile_cons_of_pos hy] at h
      rcases List.mem_cons.1 hx with rfl | hx
      · exact hy
      · exact dropWhile_nil h x hx
    · rw [List.dropWhile_cons_of_neg hy] at h
      cases h
theorem dropWhile_head {α : Type} {p : α → Bool} : ∀ {l t : List α} {y : α}, l.dropWhile p = y :: t → p y = false
  | [], _, _, h => by cases h
  | x :: l, t, y, h => by
    by_cases hx : p x = true
    · rw [List.dropWhile_cons_of_pos hx] at h
      exact dropWhile_head h
    · rw [List.dropWhile_cons_of_neg hx] at h
      injection h with h1 _
      subst h1
      simpa using hx
theorem trimS_nil {l : List UInt8} : Lib.trimS l [32, 0] = [] ↔ ∀ x ∈ l, x = 32 ∨ x = 0 := by
  constructor
  · intro h
    unfold Lib.trimS Lib.trimLeftS at h
    have h1 := dropWhile_nil h
    unfold Lib.trimRightS at h1
    cases hr : l.reverse.dropWhile (fun x => ([32, 0] : List UInt8).contains x) with
    | nil =>
      intro x hx
      have := dropWhile_nil hr x (List.mem_reverse.2 hx)
      simpa using this
    | cons y t =>
      have hy := dropWhile_head hr
      have := h1 y (by rw [hr]; simp)
      rw [hy] at this
      cases this
  · intro h
    exact trimS_all fun x hx => by rcases h x hx with rfl | rfl <;> decide
theorem octF_stop {v : Int} {l : List UInt8} (h : l = [] ∨ ∃ b u, l = b :: u ∧ ¬ (48 ≤ (b.toNat : Int) ∧ (b.toNat : Int) ≤ 55)) : octF v l = if Lib.trimS l [32, 0] = [] then (v, true) else (0, false) := by
  rcases h with rfl | ⟨b, u, rfl, hn⟩
  · rw [if_pos (show Lib.trimS [] [32, 0] = [] from rfl)]; rfl
  · show (if _ then _ else _) = _
    rw [if_neg hn]
theorem trimL_blank {l : List UInt8} {i : Nat} (hi : i < l.length) (h : l.getD i 0 = 32) : Lib.trimLeftS (l.drop i) [32] = Lib.trimLeftS (l.drop (i + 1)) [32] := by
  rw [drop_at hi h]
  unfold Lib.trimLeftS
  rw [List.dropWhile_cons_of_pos (by decide)]
theorem trimL_other {l : List UInt8} {i : Nat} {b : UInt8} (hi : i < l.length) (h : l.getD i 0 = b) (hb : ¬ b = 32) : Lib.trimLeftS (l.drop i) [32] = l.drop i := by
  rw [drop_at hi h]
  unfold Lib.trimLeftS
  rw [List.dropWhile_cons_of_neg (by simpa using hb)]

/-- What stands at a place of the digits' run: a digit, or an end. -/
theorem oct_case {s : ByteArray} {l : List UInt8} (hn : s.size = l.length) (hat : ∀ k (hk : k < s.size), s[k]'hk = l.getD k 0) (v : Int) {j : Nat} (hj : j ≤ s.size) :
    (∃ hlt : j < s.size, ∃ bi : Int, ((s[j]'hlt).toNat : Int) = bi ∧ 48 ≤ bi ∧ bi ≤ 55 ∧ Hid (octF v (l.drop j) = if most < 8 * v + (bi - 48) then (0, false) else octF (8 * v + (bi - 48)) (l.drop (j + 1)))) ∨
    ((∃ hlt : j < s.size, decide ((48 : Int) ≤ ((s[j]'hlt).toNat : Int)) = false) ∨ (∃ hlt : j < s.size, decide ((48 : Int) ≤ ((s[j]'hlt).toNat : Int)) = true ∧ decide (((s[j]'hlt).toNat : Int) < 56) = false) ∨ ¬ (j : Int) < (s.size : Int)) ∧ Hid (octF v (l.drop j) = if Lib.trimS (l.drop j) [32, 0] = [] then (v, true) else (0, false)) := by
  by_cases hlt : j < s.size
  · obtain ⟨b, hb⟩ : ∃ b, l.getD j 0 = b := ⟨_, rfl⟩
    have hjl : j < l.length := by omega
    have hd := drop_at hjl hb
    have hb' : s[j]'hlt = b := (hat j hlt).trans hb
    by_cases h : 48 ≤ (b.toNat : Int) ∧ (b.toNat : Int) ≤ 55
    · refine .inl ⟨hlt, (b.toNat : Int), by rw [hb'], h.1, h.2, Lib.hid ?_⟩
      rw [hd]
      show (if _ then _ else _) = _
      rw [if_pos h]
    · refine .inr ⟨?_, Lib.hid (octF_stop (.inr ⟨b, _, hd, h⟩))⟩
      by_cases h1 : 48 ≤ (b.toNat : Int)
      · exact .inr (.inl ⟨hlt, by rw [hb']; exact decide_eq_true h1, by rw [hb']; exact decide_eq_false (by omega)⟩)
      · exact .inl ⟨hlt, by rw [hb']; exact decide_eq_false h1⟩
  · refine .inr ⟨.inr (.inr (by omega)), Lib.hid (octF_stop (.inl (List.drop_of_length_le (by omega))))⟩
/-- What stands at a place of the blanks' run. -/
theorem blank_case {s : ByteArray} {l : List UInt8} (hn : s.size = l.length) (hat : ∀ k (hk : k < s.size), s[k]'hk = l.getD k 0) {i : Nat} (hlt : i < s.size) :
    ((s[i]'hlt = 32 ∨ s[i]'hlt = 0) ∧ Hid ((∀ x ∈ l.drop i, x = 32 ∨ x = 0) ↔ ∀ x ∈ l.drop (i + 1), x = 32 ∨ x = 0)) ∨
    ((((s[i]'hlt).toNat : Int) == 32) = false ∧ (((s[i]'hlt).toNat : Int) == 0) = false ∧ Hid (¬ ∀ x ∈ l.drop i, x = 32 ∨ x = 0)) := by
  obtain ⟨b, hb⟩ : ∃ b, l.getD i 0 = b := ⟨_, rfl⟩
  have hil : i < l.length := by omega
  have hd := drop_at hil hb
  have hb' : s[i]'hlt = b := (hat i hlt).trans hb
  rw [hb', hd]
  by_cases h : b = 32 ∨ b = 0
  · refine .inl ⟨h, Lib.hid ⟨fun hh x hx => hh x (List.mem_cons_of_mem _ hx), fun hh x hx => ?_⟩⟩
    rcases List.mem_cons.1 hx with rfl | hx
    · exact h
    · exact hh x hx
  · refine .inr ⟨beq_eq_false_iff_ne.2 fun hh => h (.inl (UInt8.toNat_inj.1 ?_)), beq_eq_false_iff_ne.2 fun hh => h (.inr (UInt8.toNat_inj.1 ?_)), Lib.hid fun hh => h (hh b (List.mem_cons_self ..))⟩
    · have : (32 : UInt8).toNat = 32 := rfl
      omega
    · have : (0 : UInt8).toNat = 0 := rfl
      omega

set_option maxHeartbeats 4000000 in
theorem refNumber_any (s : ByteArray) (w : World) (hs : s.size ≤ maxLen) : Calls Tryd.prog 10 #[.string s] w fun e w' => e = .returned (.tuple #[.int .i64 (numL s.data.toList).1, .bool (numL s.data.toList).2]) ∧ Below w.heap.size w w' := by
  unfold maxLen at hs
  have hsl := size_list s
  cases hl : s.data.toList with
  | nil =>
    have h0 : ((s.size : Int) == 0) = true := by rw [hsl, hl]; rfl
    clear hsl
    go_enter Tryd.func10, Tryd.ntmps10
    go_wp2
    go_ret2
    exact ⟨rfl, Below.refl _ _⟩
  | cons c t =>
    obtain ⟨l, hL⟩ : ∃ l, c :: t = l := ⟨_, rfl⟩
    have HLT := Lib.hid hL
    rw [hl, List.length_cons] at hsl
    have hpos : 0 < s.size := by omega
    have h0 : ((s.size : Int) == 0) = false := beq_eq_false_iff_ne.2 (by omega)
    have ha0 : s[0]'hpos = c := at_list hl hpos
    have HAT := Lib.hid (fun k (hk : k < s.size) => at_list hl hk)
    have HSL := Lib.hid hsl
    have hclt : (c.toNat : Int) ≤ 255 := by have := UInt8.toNat_lt c; omega
    have hc0 : (0 : Int) ≤ (c.toNat : Int) := by omega
    clear hsl hl hL
    by_cases hc : 128 ≤ (c.toNat : Int)
    · have HNL := Lib.hid (show numL (c :: t) = binF ((c.toNat : Int) - 128) t by show (if _ then _ else _) = _; rw [if_pos hc])
      obtain ⟨ci, hci⟩ : ∃ ci : Int, (c.toNat : Int) = ci := ⟨_, rfl⟩
      rw [hci] at hclt hc HNL hc0
      have hge : decide ((127 : Int) < ci) = true := decide_eq_true (by omega)
      have h256 : IntKind.i64.wrap (ci - 128) = ci - 128 := IntWalk.i64_in _ (by omega)
      go_enter Tryd.func10, Tryd.ntmps10
      go_wp2
      go_loopw [4, 5] (fun nx ix wr => ∃ (k : Nat) (v : Int), 1 ≤ k ∧ k ≤ s.size ∧ ix = .int .i64 k ∧ nx = .int .i64 v ∧ 0 ≤ v ∧ v ≤ 1099511627776 ∧ Hid (binF (ci - 128) t = binF v (t.drop (k - 1))) ∧ Below w.heap.size w wr) (fun _ ix _ => s.size + 1 - (intOf ix).toNat)
      case atStart => exact ⟨1, _, by omega, by omega, rfl, rfl, by omega, by omega, rfl, Below.refl _ _⟩
      case round =>
        obtain ⟨k, v, hk1, hk, rfl, rfl, hv0, hv1, hv, hbw⟩ := hrel
        by_cases hlt : k < s.size
        · obtain ⟨b, hb⟩ : ∃ b, t.getD (k - 1) 0 = b := ⟨_, rfl⟩
          have hkt : k - 1 < t.length := by have := HSL.out; omega
          have hat : s[k]'hlt = b := by rw [HAT.out k hlt, getD_pred hk1, hb]
          have hdr := drop_at hkt hb
          rw [show k - 1 + 1 = k by omega] at hdr
          have hblt : (b.toNat : Int) ≤ 255 := by have := UInt8.toNat_lt b; omega
          have hki : (k : Int) < (s.size : Int) := by omega
          have HS := Lib.hid (show binF v (t.drop (k - 1)) = if most < 256 * v + b.toNat then (0, false) else binF (256 * v + b.toNat) (t.drop k) by rw [hdr]; rfl)
          have hb0 : (0 : Int) ≤ (b.toNat : Int) := by omega
          obtain ⟨bi, hbi⟩ : ∃ bi : Int, (b.toNat : Int) = bi := ⟨_, rfl⟩
          rw [hbi] at hblt HS hb0
          clear hdr hb
          by_cases hm : most < 256 * v + bi
          · have HR := Lib.hid (show binF (ci - 128) t = (0, false) by rw [hv.out, HS.out, if_pos hm])
            have hm2 : decide ((1099511627776 : Int) < 256 * v + bi) = true := decide_eq_true hm
            unfold most at hm
            go_wp2
            go_ret2
            exact ⟨by rw [HNL.out, HR.out]; rfl, hbw⟩
          · have HR := Lib.hid (show binF (ci - 128) t = binF (256 * v + bi) (t.drop (k + 1 - 1)) by rw [hv.out, HS.out, if_neg hm, Nat.add_sub_cancel])
            have hm2 : decide ((1099511627776 : Int) < 256 * v + bi) = false := decide_eq_false hm
            unfold most at hm
            go_wp2
            go_roundw
            case rel => exact ⟨k + 1, 256 * v + bi, by omega, by omega, by go_num, rfl, by omega, by omega, HR, hbw⟩
            case measure => simp [intOf]; omega
        · obtain rfl : k = s.size := by omega
          have HR := Lib.hid (show binF (ci - 128) t = (v, true) by rw [hv.out, List.drop_of_length_le (by have := HSL.out; omega)]; rfl)
          go_wp2
          go_ret2
          exact ⟨by rw [HNL.out, HR.out]; rfl, hbw⟩
    · have hge : decide ((127 : Int) < (c.toNat : Int)) = false := decide_eq_false (by omega)
      have HNL := Lib.hid (show numL (c :: t) = octF 0 (Lib.trimLeftS l [32]) by rw [← HLT.out]; show (if _ then _ else _) = _; rw [if_neg hc])
      have HLN := Lib.hid (show s.size = l.length by rw [HSL.out, ← HLT.out]; rfl)
      have HAL := Lib.hid (fun k (hk : k < s.size) => show s[k]'hk = l.getD k 0 by rw [← HLT.out]; exact HAT.out k hk)
      clear hc
      go_enter Tryd.func10, Tryd.ntmps10
      go_wp2
      go_loopw [6] (fun ix wr => ∃ k : Nat, k ≤ s.size ∧ ix = .int .i64 k ∧ Hid (Lib.trimLeftS l [32] = Lib.trimLeftS (l.drop k) [32]) ∧ Below w.heap.size w wr) (fun ix _ => s.size + 1 - (intOf ix).toNat)
      case atStart => exact ⟨0, by omega, rfl, rfl, Below.refl _ _⟩
      case round =>
        obtain ⟨k, hk, rfl, ht, hbw⟩ := hrel
        have hcase : (∃ hlt : k < s.size, s[k]'hlt = 32 ∧ Hid (Lib.trimLeftS l [32] = Lib.trimLeftS (l.drop (k + 1)) [32])) ∨ ((∃ hlt : k < s.size, ((((s[k]'hlt).toNat : Int) == 32) = false)) ∨ ¬ (k : Int) < (s.size : Int)) ∧ Hid (Lib.trimLeftS l [32] = l.drop k) := by
          by_cases hlt : k < s.size
          · obtain ⟨b, hb⟩ : ∃ b, l.getD k 0 = b := ⟨_, rfl⟩
            have hkl : k < l.length := by rw [← HLN.out]; exact hlt
            by_cases hbb : b = 32
            · exact .inl ⟨hlt, by rw [HAL.out k hlt, hb, hbb], Lib.hid (ht.out.trans (trimL_blank hkl (by rw [hb, hbb])))⟩
            · refine .inr ⟨.inl ⟨hlt, ?_⟩, Lib.hid (ht.out.trans (trimL_other hkl hb hbb))⟩
              rw [HAL.out k hlt, hb]
              refine beq_eq_false_iff_ne.2 fun h => hbb (UInt8.toNat_inj.1 ?_)
              have : (32 : UInt8).toNat = 32 := rfl
              omega
          · refine .inr ⟨.inr (by omega), Lib.hid ?_⟩
            rw [ht.out, List.drop_of_length_le (by rw [← HLN.out]; omega)]; rfl
        rcases hcase with ⟨hlt, hat, ht2⟩ | ⟨hstop, ht2⟩
        · have hki : (k : Int) < (s.size : Int) := by omega
          go_wp2
          go_roundw
          case rel => exact ⟨k + 1, by omega, by go_num, ht2, hbw⟩
          case measure => simp [intOf]; omega
        · have HOC := Lib.hid (show octF 0 (Lib.trimLeftS l [32]) = octF 0 (l.drop k) by rw [ht2.out])
          clear ht ht2
          rcases hstop with ⟨hlt, hne⟩ | hge2
          all_goals
            go_wp2
            obtain ⟨wo, rfl⟩ : ∃ wo : World, wo = wr := ⟨_, rfl⟩
            go_loopw [4, 6] (fun nx ix wr => ∃ (j : Nat) (v : Int), j ≤ s.size ∧ ix = .int .i64 j ∧ nx = .int .i64 v ∧ 0 ≤ v ∧ v ≤ 1099511627776 ∧ Hid (octF 0 (l.drop k) = octF v (l.drop j)) ∧ Below wo.heap.size wo wr) (fun _ ix _ => s.size + 1 - (intOf ix).toNat)
            case atStart => exact ⟨k, 0, hk, rfl, rfl, by omega, by omega, rfl, Below.refl _ _⟩
            case round =>
              obtain ⟨j, v, hj, rfl, rfl, hv0, hv1, hv, hbx⟩ := hrel
              have hzx := hbx.size
              rcases oct_case HLN.out HAL.out v hj with ⟨hlt3, bi, hbi, d1, d2, HS⟩ | ⟨hstop, HS⟩
              · have hw8 : IntKind.u8.wrap (bi - 48) = bi - 48 := subU48 d1 (by omega)
                have e1 : decide ((48 : Int) ≤ bi) = true := decide_eq_true d1
                have e2 : decide (bi < 56) = true := decide_eq_true (by omega)
                have hki : (j : Int) < (s.size : Int) := by omega
                by_cases hm : most < 8 * v + (bi - 48)
                · have HR := Lib.hid (show octF 0 (l.drop k) = (0, false) by rw [hv.out, HS.out, if_pos hm])
                  have hm2 : decide ((1099511627776 : Int) < 8 * v + (bi - 48)) = true := decide_eq_true hm
                  unfold most at hm
                  go_wp2
                  go_ret2
                  exact ⟨by rw [HNL.out, HOC.out, HR.out]; rfl, hbw.trans (hbx.mono hbw.size)⟩
                · have HR := Lib.hid (show octF 0 (l.drop k) = octF (8 * v + (bi - 48)) (l.drop (j + 1)) by rw [hv.out, HS.out, if_neg hm])
                  have hm2 : decide ((1099511627776 : Int) < 8 * v + (bi - 48)) = false := decide_eq_false hm
                  unfold most at hm
                  go_wp2
                  go_roundw
                  case rel => exact ⟨j + 1, 8 * v + (bi - 48), by omega, by go_num, rfl, by omega, by omega, HR, hbx⟩
                  case measure => simp [intOf]; omega
              · have HR := Lib.hid (show octF 0 (l.drop k) = if Lib.trimS (l.drop j) [32, 0] = [] then (v, true) else (0, false) by rw [hv.out, HS.out])
                clear HS hv
                rcases hstop with ⟨hlt3, e1⟩ | ⟨hlt3, e1, e2⟩ | hge3
                all_goals
                  go_wp2
                  obtain ⟨wq, rfl⟩ : ∃ wq : World, wq = wr := ⟨_, rfl⟩
                  go_loopw [6] (fun ix wr => ∃ i : Nat, i ≤ s.size ∧ ix = .int .i64 i ∧ Hid ((∀ x ∈ l.drop j, x = 32 ∨ x = 0) ↔ ∀ x ∈ l.drop i, x = 32 ∨ x = 0) ∧ Below wq.heap.size wq wr) (fun ix _ => s.size + 1 - (intOf ix).toNat)
                  case atStart => exact ⟨j, hj, rfl, Lib.hid Iff.rfl, Below.refl _ _⟩
                  case round =>
                    obtain ⟨i, hi, rfl, hiff, hby⟩ := hrel
                    by_cases hlt4 : i < s.size
                    · have hki : (i : Int) < (s.size : Int) := by omega
                      rcases blank_case HLN.out HAL.out hlt4 with ⟨hb | hb, HI⟩ | ⟨n1, n2, HI⟩
                      · go_wp2
                        all_goals try go_roundw
                        all_goals first
                          | exact ⟨⟨i + 1, by omega, by go_num, Lib.hid (hiff.out.trans HI.out), hby⟩, by simp [intOf] <;> omega⟩
                          | exact ⟨i + 1, by omega, by go_num, Lib.hid (hiff.out.trans HI.out), hby⟩
                          | (simp [intOf] <;> omega)
                      · go_wp2
                        all_goals try go_roundw
                        all_goals first
                          | exact ⟨⟨i + 1, by omega, by go_num, Lib.hid (hiff.out.trans HI.out), hby⟩, by simp [intOf] <;> omega⟩
                          | exact ⟨i + 1, by omega, by go_num, Lib.hid (hiff.out.trans HI.out), hby⟩
                          | (simp [intOf] <;> omega)
                      · have HF := Lib.hid (show octF 0 (l.drop k) = (0, false) by rw [HR.out, if_neg (fun h => HI.out (hiff.out.1 (trimS_nil.1 h)))])
                        obtain ⟨bi, hbi⟩ : ∃ bi : Int, ((s[i]'hlt4).toNat : Int) = bi := ⟨_, rfl⟩
                        rw [hbi] at n1 n2
                        have n3 : ¬ bi = 32 := by simpa using n1
                        have n4 : ¬ bi = 0 := by simpa using n2
                        go_wp2
                        go_ret2
                        exact ⟨by rw [HNL.out, HOC.out, HF.out]; rfl, hbw.trans ((hbx.trans (hby.mono hbx.size)).mono hbw.size)⟩
                    · obtain rfl : i = s.size := by omega
                      have HF := Lib.hid (show octF 0 (l.drop k) = (v, true) by
                        rw [HR.out, if_pos (trimS_nil.2 (hiff.out.2 (fun x hx => by rw [List.drop_of_length_le (by rw [← HLN.out]; exact Nat.le_refl _)] at hx; cases hx)))])
                      go_wp2
                      go_ret2
                      exact ⟨by rw [HNL.out, HOC.out, HF.out]; rfl, hbw.trans ((hbx.trans (hby.mono hbx.size)).mono hbw.size)⟩

end Go.Proofs.YtcpddggbigopjaaDoor
