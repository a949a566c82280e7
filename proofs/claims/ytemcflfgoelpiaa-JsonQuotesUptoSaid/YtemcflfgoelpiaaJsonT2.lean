/- The walk of the JSON parser's text. -/
import Derived.Test.YtemcflfgoelpiaaJsonT
namespace Go.Proofs.Ytemcflfgoelpiaa
open Go.RowKit

theorem body_bad {n : Nat} {out : List UInt8} {c : UInt8} {t : List UInt8} (h : c.toNat < 32) : JsonP.body (n + 1) out (c :: t) = none := by
  show (if c < 32 then none else _) = _
  rw [if_pos (UInt8.lt_iff_toNat_lt.2 h)]
theorem body_end {n : Nat} {out : List UInt8} {c : UInt8} {t : List UInt8} (h : c.toNat = 34) : JsonP.body (n + 1) out (c :: t) = some (out, t) := by
  obtain rfl : c = 34 := UInt8.toNat_inj.1 h
  rfl
theorem body_esc {n : Nat} {out : List UInt8} {c : UInt8} {t : List UInt8} (h : c.toNat = 92) : JsonP.body (n + 1) out (c :: t) = match JsonP.esc t with
    | some (b, u) => JsonP.body n (out ++ b) u
    | none => none := by
  obtain rfl : c = 92 := UInt8.toNat_inj.1 h
  rfl
theorem body_char {n : Nat} {out : List UInt8} {c : UInt8} {t : List UInt8} (h : 32 ≤ c.toNat) (h1 : c.toNat ≠ 34) (h2 : c.toNat ≠ 92) : JsonP.body (n + 1) out (c :: t) = JsonP.body n (out ++ [c]) t := by
  show (if c < 32 then none else if c = 34 then some (out, t) else if c = 92 then _ else _) = _
  rw [if_neg (fun e => by have := UInt8.lt_iff_toNat_lt.1 e; simp at this; omega), if_neg (fun e => h1 (by rw [e]; rfl)), if_neg (fun e => h2 (by rw [e]; rfl))]
theorem esc_short {c d : UInt8} {t : List UInt8} (h : JsonP.short c = some d) : JsonP.esc (c :: t) = some ([d], t) := by
  show (match JsonP.short c with | some d => some ([d], t) | none => _) = _
  rw [h]
theorem esc_same {c : UInt8} {t : List UInt8} (h : JsonP.short c = none) (h2 : c.toNat = 34 ∨ c.toNat = 92 ∨ c.toNat = 47) : JsonP.esc (c :: t) = some ([c], t) := by
  show (match JsonP.short c with | some d => some ([d], t) | none => if c = 34 ∨ c = 92 ∨ c = 47 then some ([c], t) else _) = _
  rw [h]
  simp only
  rw [if_pos]
  rcases h2 with h2 | h2 | h2
  · exact .inl (UInt8.toNat_inj.1 h2)
  · exact .inr (.inl (UInt8.toNat_inj.1 h2))
  · exact .inr (.inr (UInt8.toNat_inj.1 h2))
theorem esc_unit {c : UInt8} {t : List UInt8} (h2 : c.toNat = 117) : JsonP.esc (c :: t) = (JsonP.unit t).map fun p => (JsonP.encB p.1, p.2) := by
  obtain rfl : c = 117 := UInt8.toNat_inj.1 h2
  rfl
theorem esc_bad {c : UInt8} {t : List UInt8} (h : JsonP.short c = none) (h2 : ¬ (c.toNat = 34 ∨ c.toNat = 92 ∨ c.toNat = 47)) (h3 : c.toNat ≠ 117) : JsonP.esc (c :: t) = none := by
  show (match JsonP.short c with | some d => some ([d], t) | none => if c = 34 ∨ c = 92 ∨ c = 47 then some ([c], t) else if c = 117 then _ else none) = _
  rw [h]
  simp only
  rw [if_neg, if_neg (fun e => h3 (by rw [e]; rfl))]
  rintro (e | e | e) <;> subst e <;> exact h2 (by decide)
/-- An escape tells no more bytes than it has. -/
theorem hex_left {k n : Nat} {t u : List UInt8} {a : Nat} (h : JsonP.hex k n t = some (a, u)) : u.length + k = t.length := by
  induction k generalizing n t with
  | zero => injection h with h; injection h with _ h; subst h; rfl
  | succ k ih =>
    cases t with
    | nil => cases h
    | cons c t =>
      replace h : (match JsonP.hexd c with | some d => JsonP.hex k (16 * n + d) t | none => none) = some (a, u) := h
      cases hd1 : JsonP.hexd c with
      | none => rw [hd1] at h; cases h
      | some d => rw [hd1] at h; have := ih h; rw [List.length_cons]; omega
theorem unit_left {l u : List UInt8} {a : Nat} (h : JsonP.unit l = some (a, u)) : u.length + 4 ≤ l.length := by
  unfold JsonP.unit at h
  split at h
  · cases h
  · rename_i x t hx
    have hb := hex_left hx
    split at h
    · injection h with h; injection h with _ h; subst h; omega
    · split at h
      · unfold JsonP.second at h
        split at h
        · rename_i t2
          split at h
          · cases h
          · rename_i d v hd
            have hb2 := hex_left hd
            simp only [List.length_cons] at hb
            split at h
            · injection h with h; injection h with _ h; subst h; omega
            · injection h with h; injection h with _ h; subst h; simp only [List.length_cons]; omega
        · injection h with h; injection h with _ h; subst h; omega
      · injection h with h; injection h with _ h; subst h; omega

set_option maxRecDepth 100000 in
set_option maxHeartbeats 3200000 in
theorem text_any (w : World) (b : Nat) (s : ByteArray) (l : List UInt8) (hs : s.size ≤ 1048576) (h : At w b s l) :
    Calls Try.prog 47 #[.pointer (some ⟨b, 0, none⟩)] w fun e w' => TextEnd w b s (JsonP.text l) e w' := by
  have hbw := h.lt
  have HA := Lib.hid (h.below ((Below.refl _ w).alloc (Nat.le_refl _) (.cells #[.pointer none, .slice none 0 0] 48)))
  have HB0 := Lib.hid (Bld.new w)
  have HM0 := Lib.hid ((Mv.rfl_ b w).alloc (.cells #[.pointer none, .slice none 0 0] 48))
  have hlen : l.length ≤ s.size := by
    obtain ⟨i, h1, h2, h3⟩ := h
    rw [← h2, List.length_drop, Array.length_toList]
    exact Nat.sub_le _ _
  clear h
  cases hw : JsonP.want [34] l with
  | none =>
    have HT : Hid (JsonP.text l = none) := Lib.hid (by unfold JsonP.text; rw [hw]; rfl)
    have HW := Lib.hid hw
    clear hw
    go_enter Try.func47, Try.ntmps47
    go_wp2_with (go_at_call 46; refine (want_any ⟨#[34]⟩ (by decide) _ b s l hs HA.out).mono ?_; rw [show (ByteArray.mk #[34]).data.toList = [34] from rfl, HW.out]; rintro e w1 ⟨hm1, i1, rfl⟩)
    rw [HT.out]
    exact ⟨rfl, HM0.out.step hm1, i1, rfl⟩
  | some t0 =>
    have HT : Hid (JsonP.text l = JsonP.body (t0.length + 1) [] t0) := Lib.hid (by unfold JsonP.text; rw [hw]; rfl)
    have hlt : t0.length ≤ s.size := by
      cases l with
      | nil => cases hw
      | cons c t =>
        rw [want_cons] at hw
        split at hw
        · injection hw with hw; subst hw; rw [List.length_cons] at hlen; omega
        · cases hw
    have HW := Lib.hid hw
    clear hw
    go_enter Try.func47, Try.ntmps47
    go_upto_region 3 with (go_at_call 46; refine (want_any ⟨#[34]⟩ (by decide) _ b s l hs HA.out).mono ?_; rw [show (ByteArray.mk #[34]).data.toList = [34] from rfl, HW.out]; rintro e w1 ⟨rfl, hm1, ha1⟩; have HS1 := Lib.hid (TextS.mk (HM0.out.step hm1) ha1 (HB0.out.mv hm1 hbw)); clear hm1 ha1)
    obtain ⟨N, hN⟩ : ∃ N, w.heap.size = N := ⟨_, rfl⟩
    have HNe := Lib.hid hN
    rw [hN] at hbw ⊢
    rw [← hN] at hbw
    clear hN HA HB0 HM0 HW
    go_loopg [] (t0.length + 1) (fun k wr => ∃ (out t : List UInt8), Hid (JsonP.body k out t = JsonP.body (t0.length + 1) [] t0) ∧ t.length < k ∧ out.length + t.length ≤ s.size ∧ Hid (TextS w wr b s out t))
    case atStart => exact ⟨[], t0, Lib.hid rfl, by omega, by simpa using hlt, HS1⟩
    case round =>
      obtain ⟨out, t, HE, hk, hol, HS⟩ := hrel
      clear HS1
      obtain ⟨k, rfl⟩ : ∃ k, gk = k + 1 := ⟨gk - 1, by omega⟩
      obtain ⟨x, hx⟩ : ∃ x : Int, ((hd t).toNat : Int) = x := ⟨_, rfl⟩
      have HX := Lib.hid hx
      have hx0 : 0 ≤ x := by omega
      have hx1 : x < 256 := by have := UInt8.toNat_lt (hd t); omega
      clear hx
      by_cases hbad : t = [] ∨ x < 32
      · have HBad : Hid (JsonP.text l = none) := Lib.hid (by
          rw [HT.out, ← HE.out]
          cases t with
          | nil => rfl
          | cons c u =>
            refine body_bad ?_
            have h1 := HX.out
            rcases hbad with h | h
            · cases h
            · replace h1 : (c.toNat : Int) = x := h1
              omega)
        obtain ⟨i, h1, h2, hc, hz, hn⟩ := HS.out.at_.cells
        by_cases hi : i < s.size
        · have hx32 : decide (x < 32) = true := decide_eq_true (by
            rcases hbad with h | h
            · rw [h] at h2; rw [drop_cons hi] at h2; cases h2
            · exact h)
          have hid : decide ((s.size : Int) ≤ (i : Int)) = false := decide_eq_false (by omega)
          have HI := Lib.hid h2
          clear hc hz hn h2 hbad
          go_upto_region 4 with (go_at_call 45; refine (peek_hd _ b s t hs HS.out.at_).mono ?_; rintro e w2 ⟨rfl, hm, ha⟩; rw [HX.out]; have HS2 := Lib.hid (HS.out.step hm ha hbw); clear hm ha)
          obtain ⟨i', h1', h2', hc, hz, hn⟩ := HS2.out.at_.cells
          obtain rfl : i' = i := by
            have := congrArg List.length (h2'.trans HI.out.symm)
            rw [List.length_drop, List.length_drop, Array.length_toList] at this
            have : s.data.size = s.size := rfl
            omega
          clear hn h2'
          go_quiet (fail)
          have HF := Lib.hid (HS2.out.step ((Mv.rfl_ b w2).drewN nq) (HS2.out.at_.drewN nq) hbw)
          go_wp2_with (go_at_call 31; refine (fail_any 20 _ b s _ HF.out.at_).mono ?_; rintro e w9 ⟨hm9, i9, rfl⟩)
          rw [HBad.out]
          exact ⟨rfl, HF.out.mv.step hm9, i9, rfl⟩
        · have hid : decide ((s.size : Int) ≤ (i : Int)) = true := decide_eq_true (by omega)
          have HI := Lib.hid h2
          clear hc hz hn h2 hbad
          go_upto_region 4 with (go_at_call 45; refine (peek_hd _ b s t hs HS.out.at_).mono ?_; rintro e w2 ⟨rfl, hm, ha⟩; rw [HX.out]; have HS2 := Lib.hid (HS.out.step hm ha hbw); clear hm ha)
          obtain ⟨i', h1', h2', hc, hz, hn⟩ := HS2.out.at_.cells
          obtain rfl : i' = i := by
            have := congrArg List.length (h2'.trans HI.out.symm)
            rw [List.length_drop, List.length_drop, Array.length_toList] at this
            have : s.data.size = s.size := rfl
            omega
          clear hn h2'
          go_quiet (fail)
          have HF := Lib.hid (HS2.out.step ((Mv.rfl_ b w2).drewN nq) (HS2.out.at_.drewN nq) hbw)
          go_wp2_with (go_at_call 31; refine (fail_any 20 _ b s _ HF.out.at_).mono ?_; rintro e w9 ⟨hm9, i9, rfl⟩)
          rw [HBad.out]
          exact ⟨rfl, HF.out.mv.step hm9, i9, rfl⟩
      · have hxge : 32 ≤ x := by omega
        obtain ⟨c, u, rfl⟩ : ∃ c u, t = c :: u := by
          cases t with
          | nil => exact absurd (.inl rfl) hbad
          | cons c u => exact ⟨c, u, rfl⟩
        have hcx : (c.toNat : Int) = x := HX.out
        have HCX := Lib.hid hcx
        have hx32 : decide (x < 32) = false := decide_eq_false (by omega)
        rw [List.length_cons] at hk hol
        clear hbad hcx
        go_upto_region 4 with (go_at_call 45; refine (peek_hd _ b s (c :: u) hs HS.out.at_).mono ?_; rintro e w2 ⟨rfl, hm, ha⟩; rw [HX.out]; have HS2 := Lib.hid (HS.out.step hm ha hbw); clear hm ha)
        obtain ⟨i, h1, h2, h3⟩ := HS2.out.at_
        obtain ⟨h4, h5⟩ := lt_of_cons h2
        have hc := fun o => Lib.cell_of_heap h3 o
        have hid : decide ((s.size : Int) ≤ (i : Int)) = false := decide_eq_false (by omega)
        have H3 := Lib.hid h3
        have H5 := Lib.hid h5
        clear h2 h3 h5
        go_quiet (fail)
        have HF := Lib.hid (HS2.out.step ((Mv.rfl_ b w2).drewN nq) (HS2.out.at_.drewN nq) hbw)
        replace H3 : Hid ((w2.drewN nq).heap[b]? = some (.cells #[.string s, .int .i64 i] 73)) := H3
        clear hc hid HS HS2
        generalize w2.drewN nq = W at HF H3 ⊢
        have hc := fun o => Lib.cell_of_heap H3.out o
        have hz := fun o => Lib.frozen_of_heap H3.out o
        have HG : Hid (TextS w (W.setCell ⟨b, 1, none⟩ (.int .i64 ((i : Int) + 1))) b s out u) := Lib.hid (HF.out.step ((Mv.rfl_ b W).set ⟨b, 1, none⟩ (.inl rfl) _) (by rw [← H5.out]; exact At.mk_ H3.out (i + 1) _ (by omega) (by omega)) hbw)
        have hcase : x = 34 ∨ x = 92 ∨ (x ≠ 34 ∧ x ≠ 92) := by omega
        rcases hcase with h34 | h92 | ⟨hn34, hn92⟩
        · have HV : Hid (JsonP.text l = some (out, u)) := Lib.hid (by
            rw [HT.out, ← HE.out]
            exact body_end (by have := HCX.out; omega))
          subst h34
          go_wp2_with (go_at_call 20; refine (string_any (B := N) (b := N) (l := out) (by have := HG.out.bld; rw [HNe.out] at this; exact this) (by have := HG.out.size; rw [HNe.out] at this; exact this)).mono ?_; rintro e w5 ⟨rfl, hb5, hk5⟩; rw [← HNe.out] at hb5 hk5; have HS5 := Lib.hid (HG.out.wrote hk5 hb5 hbw); clear hb5 hk5)
          go_ret
          rw [HV.out]
          exact ⟨rfl, HS5.out.mv, HS5.out.at_⟩
        · subst h92
          have HEs : Hid (JsonP.text l = match JsonP.esc u with
              | some (b, v) => JsonP.body k (out ++ b) v
              | none => none) := Lib.hid (by
            rw [HT.out, ← HE.out]
            exact body_esc (by have := HCX.out; omega))
          have HEk : Hid (∀ d v, JsonP.esc u = some (d, v) → JsonP.body k (out ++ d) v = JsonP.body (t0.length + 1) [] t0) := Lib.hid (fun d v h => by
            have := HEs.out
            rw [h, HT.out] at this
            exact this.symm)
          go_upto_region 13 with fail
          clear hc hz H3 HF HE
          generalize W.setCell ⟨b, 1, none⟩ (.int .i64 ((i : Int) + 1)) = W1 at HG ⊢
          obtain ⟨i5, hi5, hm5, h55, hsh⟩ := short_byte (hd u)
          obtain ⟨y, hy⟩ : ∃ y : Int, ((hd u).toNat : Int) = y := ⟨_, rfl⟩
          have HY := Lib.hid hy
          have hy0 : 0 ≤ y := by omega
          have hy1 : y < 256 := by have := UInt8.toNat_lt (hd u); omega
          have HI5 : Hid (∀ w, Calls Try.prog 17 #[.string ⟨#[98, 116, 110, 102, 114]⟩, .int .u8 y] w fun e w' => e = .returned (.int .i64 i5) ∧ w' = w) := Lib.hid fun w => by
            have := index_any ⟨#[98, 116, 110, 102, 114]⟩ (hd u) w
            rw [hy, show Lib.indexByte (ByteArray.mk #[98, 116, 110, 102, 114]).data.toList (hd u) = i5 from hi5] at this
            exact this
          have HSh := Lib.hid hsh
          have tk : True := trivial
          clear hi5 hy hsh
          go_upto_region 16 with (first
            | (go_at_call 45; clear tk; refine (peek_hd _ b s u hs HG.out.at_).mono ?_; rintro e w3 ⟨rfl, hm, ha⟩; rw [HY.out]; have HS3 := Lib.hid (HG.out.step hm ha hbw); clear hm ha)
            | (go_at_call 17; refine (HI5.out _).mono ?_; rintro e w3 ⟨rfl, rfl⟩)
            | (go_at_call 45; refine (peek_hd _ b s u hs HS3.out.at_).mono ?_; rintro e w4 ⟨rfl, hm, ha⟩; rw [HY.out]; have HS4 := Lib.hid (HS3.out.step hm ha hbw); clear hm ha))
          obtain ⟨j, h1', h2', h3'⟩ := HS4.out.at_
          have hc := fun o => Lib.cell_of_heap h3' o
          clear h3'
          cases hu : u with
          | nil =>
            subst hu
            have hjs : s.size ≤ j := by
              rcases Nat.lt_or_ge j s.size with h | h
              · rw [drop_cons h] at h2'; cases h2'
              · exact h
            have hii : ¬ (j : Int) < (s.size : Int) := by omega
            have hid : decide ((j : Int) < (s.size : Int)) = false := decide_eq_false hii
            have HV : Hid (JsonP.text l = none) := Lib.hid (by rw [HEs.out]; rfl)
            have hyy : 0 = y := HY.out
            subst hyy
            clear h2' hjs
            go_quiet (fail)
            have HF := Lib.hid (HS4.out.step ((Mv.rfl_ b w4).drewN nq) (HS4.out.at_.drewN nq) hbw)
            go_wp2_with (go_at_call 31; refine (fail_any 20 _ b s _ HF.out.at_).mono ?_; rintro e w9 ⟨hm9, i9, rfl⟩)
            rw [HV.out]
            exact ⟨rfl, HF.out.mv.step hm9, i9, rfl⟩
          | cons c1 v =>
            subst hu
            obtain ⟨h4', h5'⟩ := lt_of_cons h2'
            have hid : decide ((j : Int) < (s.size : Int)) = true := decide_eq_true (by omega)
            have HC1 : Hid ((c1.toNat : Int) = y) := HY
            rw [List.length_cons] at hk hol
            clear h2' h5'
            by_cases hi0 : 0 ≤ i5
            · have hsx := HSh.out
              rw [if_pos hi0] at hsx
              have hfive : i5 = 0 ∨ i5 = 1 ∨ i5 = 2 ∨ i5 = 3 ∨ i5 = 4 := by omega
              rcases hfive with rfl | rfl | rfl | rfl | rfl
              · have HEE := Lib.hid (HEk.out [8] v (esc_short hsx))
                clear hsx hi0
                go_quiet (fail)
                have HF := Lib.hid (HS4.out.step ((Mv.rfl_ b w4).drewN nq) (HS4.out.at_.drewN nq) hbw)
                clear hc hid
                go_upto_region 18 with (go_at_call 16; refine (writeByte_any (B := N) (b := N) (l := out) 8 8 rfl (by have := HF.out.bld; rw [HNe.out] at this; exact this) (by omega) (by have := HF.out.size; rw [HNe.out] at this; exact this)).mono ?_; rintro e w8 ⟨rfl, hb5, hk5⟩; rw [← HNe.out] at hb5 hk5; have HS8 := Lib.hid (HF.out.wrote hk5 hb5 hbw); clear hb5 hk5)
                obtain ⟨i5, h6, h7, h8⟩ := HS8.out.at_
                obtain ⟨h9, h10⟩ := lt_of_cons h7
                have hc := fun o => Lib.cell_of_heap h8 o
                have hz := fun o => Lib.frozen_of_heap h8 o
                have H8 := Lib.hid h8
                have H10 := Lib.hid h10
                clear h7 h8 h10
                go_wp2
                go_roundg k
                case measure => omega
                case rel => exact ⟨out ++ [8], v, HEE, by omega, by rw [List.length_append, List.length_singleton]; omega, Lib.hid (HS8.out.step ((Mv.rfl_ b w8).set ⟨b, 1, none⟩ (.inl rfl) _) (by rw [← H10.out]; exact At.mk_ H8.out (i5 + 1) _ (by omega) (by omega)) hbw)⟩
              · have HEE := Lib.hid (HEk.out [9] v (esc_short hsx))
                clear hsx hi0
                go_quiet (fail)
                have HF := Lib.hid (HS4.out.step ((Mv.rfl_ b w4).drewN nq) (HS4.out.at_.drewN nq) hbw)
                clear hc hid
                go_upto_region 18 with (go_at_call 16; refine (writeByte_any (B := N) (b := N) (l := out) 9 9 rfl (by have := HF.out.bld; rw [HNe.out] at this; exact this) (by omega) (by have := HF.out.size; rw [HNe.out] at this; exact this)).mono ?_; rintro e w8 ⟨rfl, hb5, hk5⟩; rw [← HNe.out] at hb5 hk5; have HS8 := Lib.hid (HF.out.wrote hk5 hb5 hbw); clear hb5 hk5)
                obtain ⟨i5, h6, h7, h8⟩ := HS8.out.at_
                obtain ⟨h9, h10⟩ := lt_of_cons h7
                have hc := fun o => Lib.cell_of_heap h8 o
                have hz := fun o => Lib.frozen_of_heap h8 o
                have H8 := Lib.hid h8
                have H10 := Lib.hid h10
                clear h7 h8 h10
                go_wp2
                go_roundg k
                case measure => omega
                case rel => exact ⟨out ++ [9], v, HEE, by omega, by rw [List.length_append, List.length_singleton]; omega, Lib.hid (HS8.out.step ((Mv.rfl_ b w8).set ⟨b, 1, none⟩ (.inl rfl) _) (by rw [← H10.out]; exact At.mk_ H8.out (i5 + 1) _ (by omega) (by omega)) hbw)⟩
              · have HEE := Lib.hid (HEk.out [10] v (esc_short hsx))
                clear hsx hi0
                go_quiet (fail)
                have HF := Lib.hid (HS4.out.step ((Mv.rfl_ b w4).drewN nq) (HS4.out.at_.drewN nq) hbw)
                clear hc hid
                go_upto_region 18 with (go_at_call 16; refine (writeByte_any (B := N) (b := N) (l := out) 10 10 rfl (by have := HF.out.bld; rw [HNe.out] at this; exact this) (by omega) (by have := HF.out.size; rw [HNe.out] at this; exact this)).mono ?_; rintro e w8 ⟨rfl, hb5, hk5⟩; rw [← HNe.out] at hb5 hk5; have HS8 := Lib.hid (HF.out.wrote hk5 hb5 hbw); clear hb5 hk5)
                obtain ⟨i5, h6, h7, h8⟩ := HS8.out.at_
                obtain ⟨h9, h10⟩ := lt_of_cons h7
                have hc := fun o => Lib.cell_of_heap h8 o
                have hz := fun o => Lib.frozen_of_heap h8 o
                have H8 := Lib.hid h8
                have H10 := Lib.hid h10
                clear h7 h8 h10
                go_wp2
                go_roundg k
                case measure => omega
                case rel => exact ⟨out ++ [10], v, HEE, by omega, by rw [List.length_append, List.length_singleton]; omega, Lib.hid (HS8.out.step ((Mv.rfl_ b w8).set ⟨b, 1, none⟩ (.inl rfl) _) (by rw [← H10.out]; exact At.mk_ H8.out (i5 + 1) _ (by omega) (by omega)) hbw)⟩
              · have HEE := Lib.hid (HEk.out [12] v (esc_short hsx))
                clear hsx hi0
                go_quiet (fail)
                have HF := Lib.hid (HS4.out.step ((Mv.rfl_ b w4).drewN nq) (HS4.out.at_.drewN nq) hbw)
                clear hc hid
                go_upto_region 18 with (go_at_call 16; refine (writeByte_any (B := N) (b := N) (l := out) 12 12 rfl (by have := HF.out.bld; rw [HNe.out] at this; exact this) (by omega) (by have := HF.out.size; rw [HNe.out] at this; exact this)).mono ?_; rintro e w8 ⟨rfl, hb5, hk5⟩; rw [← HNe.out] at hb5 hk5; have HS8 := Lib.hid (HF.out.wrote hk5 hb5 hbw); clear hb5 hk5)
                obtain ⟨i5, h6, h7, h8⟩ := HS8.out.at_
                obtain ⟨h9, h10⟩ := lt_of_cons h7
                have hc := fun o => Lib.cell_of_heap h8 o
                have hz := fun o => Lib.frozen_of_heap h8 o
                have H8 := Lib.hid h8
                have H10 := Lib.hid h10
                clear h7 h8 h10
                go_wp2
                go_roundg k
                case measure => omega
                case rel => exact ⟨out ++ [12], v, HEE, by omega, by rw [List.length_append, List.length_singleton]; omega, Lib.hid (HS8.out.step ((Mv.rfl_ b w8).set ⟨b, 1, none⟩ (.inl rfl) _) (by rw [← H10.out]; exact At.mk_ H8.out (i5 + 1) _ (by omega) (by omega)) hbw)⟩
              · have HEE := Lib.hid (HEk.out [13] v (esc_short hsx))
                clear hsx hi0
                go_quiet (fail)
                have HF := Lib.hid (HS4.out.step ((Mv.rfl_ b w4).drewN nq) (HS4.out.at_.drewN nq) hbw)
                clear hc hid
                go_upto_region 18 with (go_at_call 16; refine (writeByte_any (B := N) (b := N) (l := out) 13 13 rfl (by have := HF.out.bld; rw [HNe.out] at this; exact this) (by omega) (by have := HF.out.size; rw [HNe.out] at this; exact this)).mono ?_; rintro e w8 ⟨rfl, hb5, hk5⟩; rw [← HNe.out] at hb5 hk5; have HS8 := Lib.hid (HF.out.wrote hk5 hb5 hbw); clear hb5 hk5)
                obtain ⟨i5, h6, h7, h8⟩ := HS8.out.at_
                obtain ⟨h9, h10⟩ := lt_of_cons h7
                have hc := fun o => Lib.cell_of_heap h8 o
                have hz := fun o => Lib.frozen_of_heap h8 o
                have H8 := Lib.hid h8
                have H10 := Lib.hid h10
                clear h7 h8 h10
                go_wp2
                go_roundg k
                case measure => omega
                case rel => exact ⟨out ++ [13], v, HEE, by omega, by rw [List.length_append, List.length_singleton]; omega, Lib.hid (HS8.out.step ((Mv.rfl_ b w8).set ⟨b, 1, none⟩ (.inl rfl) _) (by rw [← H10.out]; exact At.mk_ H8.out (i5 + 1) _ (by omega) (by omega)) hbw)⟩
            · have hsx := HSh.out
              rw [if_neg hi0] at hsx
              replace hsx : JsonP.short c1 = none := hsx
              have hi1 : decide (0 ≤ i5) = false := decide_eq_false hi0
              clear hi0
              by_cases hsame : y = 34 ∨ y = 92 ∨ y = 47
              · have HEE := Lib.hid (HEk.out [c1] v (esc_same hsx (by have := HC1.out; omega)))
                clear hsx
                rcases hsame with rfl | rfl | rfl
                · go_quiet (fail)
                  have HF := Lib.hid (HS4.out.step ((Mv.rfl_ b w4).drewN nq) (HS4.out.at_.drewN nq) hbw)
                  clear hc hid
                  go_upto_region 21 with (go_at_call 16; refine (writeByte_any (B := N) (b := N) (l := out) c1 34 HC1.out.symm (by have := HF.out.bld; rw [HNe.out] at this; exact this) (by omega) (by have := HF.out.size; rw [HNe.out] at this; exact this)).mono ?_; rintro e w8 ⟨rfl, hb5, hk5⟩; rw [← HNe.out] at hb5 hk5; have HS8 := Lib.hid (HF.out.wrote hk5 hb5 hbw); clear hb5 hk5)
                  obtain ⟨i5, h6, h7, h8⟩ := HS8.out.at_
                  obtain ⟨h9, h10⟩ := lt_of_cons h7
                  have hc := fun o => Lib.cell_of_heap h8 o
                  have hz := fun o => Lib.frozen_of_heap h8 o
                  have H8 := Lib.hid h8
                  have H10 := Lib.hid h10
                  clear h7 h8 h10
                  go_wp2
                  go_roundg k
                  case measure => omega
                  case rel => exact ⟨out ++ [c1], v, HEE, by omega, by rw [List.length_append, List.length_singleton]; omega, Lib.hid (HS8.out.step ((Mv.rfl_ b w8).set ⟨b, 1, none⟩ (.inl rfl) _) (by rw [← H10.out]; exact At.mk_ H8.out (i5 + 1) _ (by omega) (by omega)) hbw)⟩
                · go_quiet (fail)
                  have HF := Lib.hid (HS4.out.step ((Mv.rfl_ b w4).drewN nq) (HS4.out.at_.drewN nq) hbw)
                  clear hc hid
                  go_upto_region 21 with (go_at_call 16; refine (writeByte_any (B := N) (b := N) (l := out) c1 92 HC1.out.symm (by have := HF.out.bld; rw [HNe.out] at this; exact this) (by omega) (by have := HF.out.size; rw [HNe.out] at this; exact this)).mono ?_; rintro e w8 ⟨rfl, hb5, hk5⟩; rw [← HNe.out] at hb5 hk5; have HS8 := Lib.hid (HF.out.wrote hk5 hb5 hbw); clear hb5 hk5)
                  obtain ⟨i5, h6, h7, h8⟩ := HS8.out.at_
                  obtain ⟨h9, h10⟩ := lt_of_cons h7
                  have hc := fun o => Lib.cell_of_heap h8 o
                  have hz := fun o => Lib.frozen_of_heap h8 o
                  have H8 := Lib.hid h8
                  have H10 := Lib.hid h10
                  clear h7 h8 h10
                  go_wp2
                  go_roundg k
                  case measure => omega
                  case rel => exact ⟨out ++ [c1], v, HEE, by omega, by rw [List.length_append, List.length_singleton]; omega, Lib.hid (HS8.out.step ((Mv.rfl_ b w8).set ⟨b, 1, none⟩ (.inl rfl) _) (by rw [← H10.out]; exact At.mk_ H8.out (i5 + 1) _ (by omega) (by omega)) hbw)⟩
                · go_quiet (fail)
                  have HF := Lib.hid (HS4.out.step ((Mv.rfl_ b w4).drewN nq) (HS4.out.at_.drewN nq) hbw)
                  clear hc hid
                  go_upto_region 21 with (go_at_call 16; refine (writeByte_any (B := N) (b := N) (l := out) c1 47 HC1.out.symm (by have := HF.out.bld; rw [HNe.out] at this; exact this) (by omega) (by have := HF.out.size; rw [HNe.out] at this; exact this)).mono ?_; rintro e w8 ⟨rfl, hb5, hk5⟩; rw [← HNe.out] at hb5 hk5; have HS8 := Lib.hid (HF.out.wrote hk5 hb5 hbw); clear hb5 hk5)
                  obtain ⟨i5, h6, h7, h8⟩ := HS8.out.at_
                  obtain ⟨h9, h10⟩ := lt_of_cons h7
                  have hc := fun o => Lib.cell_of_heap h8 o
                  have hz := fun o => Lib.frozen_of_heap h8 o
                  have H8 := Lib.hid h8
                  have H10 := Lib.hid h10
                  clear h7 h8 h10
                  go_wp2
                  go_roundg k
                  case measure => omega
                  case rel => exact ⟨out ++ [c1], v, HEE, by omega, by rw [List.length_append, List.length_singleton]; omega, Lib.hid (HS8.out.step ((Mv.rfl_ b w8).set ⟨b, 1, none⟩ (.inl rfl) _) (by rw [← H10.out]; exact At.mk_ H8.out (i5 + 1) _ (by omega) (by omega)) hbw)⟩
              · by_cases hu1 : y = 117
                · have HEu := Lib.hid (esc_unit (c := c1) (t := v) (by have := HC1.out; omega))
                  subst hu1
                  clear hsx hsame
                  go_quiet (fail)
                  have HF := Lib.hid (HS4.out.step ((Mv.rfl_ b w4).drewN nq) (HS4.out.at_.drewN nq) hbw)
                  clear hc hid
                  generalize w4.drewN nq = W4 at HF ⊢
                  obtain ⟨i6, h6, h7, h8⟩ := HF.out.at_
                  obtain ⟨h9, h10⟩ := lt_of_cons h7
                  have hc := fun o => Lib.cell_of_heap h8 o
                  have hz := fun o => Lib.frozen_of_heap h8 o
                  have HG2 : Hid (TextS w (W4.setCell ⟨b, 1, none⟩ (.int .i64 ((i6 : Int) + 1))) b s out v) := Lib.hid (HF.out.step ((Mv.rfl_ b W4).set ⟨b, 1, none⟩ (.inl rfl) _) (by rw [← h10]; exact At.mk_ h8 (i6 + 1) _ (by omega) (by omega)) hbw)
                  clear h7 h8 h10
                  cases hun : JsonP.unit v with
                  | none =>
                    have HV : Hid (JsonP.text l = none) := Lib.hid (by rw [HEs.out, HEu.out, hun]; rfl)
                    have HUn := Lib.hid hun
                    clear hun
                    go_wp2_with (go_at_call 58; refine (unit_any _ b s v hs HG2.out.at_).mono ?_; rw [HUn.out]; rintro e w9 ⟨hm9, i9, rfl⟩)
                    rw [HV.out]
                    exact ⟨rfl, HG2.out.mv.step hm9, i9, rfl⟩
                  | some p =>
                    obtain ⟨a, v2⟩ := p
                    have HEE := Lib.hid (HEk.out (JsonP.encB a) v2 (by rw [HEu.out, hun]; rfl))
                    have hsc := unit_scalar hun
                    have hlf := unit_left hun
                    have hel := encB_len a
                    have HSc := Lib.hid hsc
                    have HUn := Lib.hid hun
                    clear hun hsc
                    obtain ⟨eb, heb⟩ : ∃ eb, JsonP.encB a = eb := ⟨_, rfl⟩
                    rw [heb] at hel HEE
                    have HEb := Lib.hid heb
                    clear heb
                    have hsz : (ByteArray.mk eb.toArray).size = eb.length := by simp [ByteArray.size]
                    have HSz := Lib.hid hsz
                    clear hsz
                    go_wp2_with (first
                      | (go_at_call 58; refine (unit_any _ b s v hs HG2.out.at_).mono ?_; rw [HUn.out]; rintro e w6 ⟨rfl, hm6, ha6⟩; have HS6 := Lib.hid (HG2.out.step hm6 ha6 hbw); clear hm6 ha6)
                      | (go_at_call 19; refine (jbytes_any a _ HSc.out).mono ?_; rintro e w7 ⟨rfl, hb7⟩; rw [HEb.out]; have HS7 := Lib.hid (HS6.out.below hb7); clear hb7)
                      | (go_at_call 18; refine (writeString_any (B := N) (b := N) (l := out) _ (by have := HS7.out.bld; rw [HNe.out] at this; exact this) (by rw [HSz.out]; omega) (by have := HS7.out.size; rw [HNe.out] at this; exact this)).mono ?_; rintro e w8 ⟨rfl, hb5, hk5⟩; rw [← HNe.out] at hb5 hk5; have HS8 := Lib.hid (HS7.out.wrote hk5 hb5 hbw); clear hb5 hk5))
                    go_roundg k
                    case measure => omega
                    case rel => exact ⟨out ++ eb, v2, HEE, by omega, by rw [List.length_append]; omega, HS8⟩
                · have HV : Hid (JsonP.text l = none) := Lib.hid (by
                    rw [HEs.out, esc_bad hsx (by have := HC1.out; omega) (by have := HC1.out; omega)])
                  have q1 : (y == 34) = false := by rw [beq_eq_false_iff_ne]; omega
                  have q2 : (y == 92) = false := by rw [beq_eq_false_iff_ne]; omega
                  have q3 : (y == 47) = false := by rw [beq_eq_false_iff_ne]; omega
                  have q4 : (y == 117) = false := by rw [beq_eq_false_iff_ne]; omega
                  clear hsx hsame hu1
                  go_quiet (fail)
                  have HF := Lib.hid (HS4.out.step ((Mv.rfl_ b w4).drewN nq) (HS4.out.at_.drewN nq) hbw)
                  go_wp2_with (go_at_call 31; refine (fail_any 20 _ b s _ HF.out.at_).mono ?_; rintro e w9 ⟨hm9, i9, rfl⟩)
                  rw [HV.out]
                  exact ⟨rfl, HF.out.mv.step hm9, i9, rfl⟩
        · have q1 : (x == 34) = false := by rw [beq_eq_false_iff_ne]; exact hn34
          have q2 : (x != 92) = true := by rw [bne_iff_ne]; exact hn92
          have HE2 : Hid (JsonP.body k (out ++ [c]) u = JsonP.body (t0.length + 1) [] t0) := Lib.hid (by
            rw [← HE.out]
            exact (body_char (by have := HCX.out; omega) (by have := HCX.out; omega) (by have := HCX.out; omega)).symm)
          clear hn34 hn92 hc hz HG
          go_upto_region 11 with (go_at_call 16; refine (writeByte_any (B := N) (b := N) (l := out) c x HCX.out.symm (by have := HF.out.bld; rw [HNe.out] at this; exact this) (by omega) (by have := HF.out.size; rw [HNe.out] at this; exact this)).mono ?_; rintro e w5 ⟨rfl, hb5, hk5⟩; rw [← HNe.out] at hb5 hk5; have HS5 := Lib.hid (HF.out.wrote hk5 hb5 hbw); clear hb5 hk5)
          obtain ⟨i5, h6, h7, h8⟩ := HS5.out.at_
          obtain ⟨h9, h10⟩ := lt_of_cons h7
          have hc := fun o => Lib.cell_of_heap h8 o
          have hz := fun o => Lib.frozen_of_heap h8 o
          have H8 := Lib.hid h8
          have H10 := Lib.hid h10
          clear h7 h8 h10
          go_wp2
          go_roundg k
          case measure => omega
          case rel => exact ⟨out ++ [c], u, HE2, by omega, by rw [List.length_append, List.length_singleton]; omega, Lib.hid (HS5.out.step ((Mv.rfl_ b w5).set ⟨b, 1, none⟩ (.inl rfl) _) (by rw [← H10.out]; exact At.mk_ H8.out (i5 + 1) _ (by omega) (by omega)) hbw)⟩

end Go.Proofs.Ytemcflfgoelpiaa
