/- The law WaveTurned. -/
import Derived.Test.YtnjmefjcaiepfaaDoorWLP
namespace Go.Proofs.YtnjmefjcaiepfaaDoor
open Go.RowKit WaveP

/-- 'append([]int{}, a...)'. -/
theorem copy_step {ops : Array Oper} {rest : List Oper} {o : Oper} {a : Act} {Q : Exit → Act → World → Prop} {w : World} {A : Option Addr} {c n : Nat} {l : List Int} (hgd : o.guard = none) (s x : Operand)
    (ho : o.op = .call { callee := .builtin .append, args := #[s, x], argTypes := #[22, 22] }) (hs : a.eval s = .slice (some ⟨w.heap.size, 0, none⟩) 0 0) (hx : a.eval x = .slice A n c) (hr : SeqAt Eint w w.heap.size A l) (hn : n = l.length) (hle : n ≤ 17592186044416)
    (h : ∀ A' c' w', Below w.heap.size w w' → SeqAt Eint w' w'.heap.size A' l → wpList Tryd.prog ops Q rest (a.put o.dst (.slice A' n c')) w') : wpList Tryd.prog ops Q (o :: rest) a (w.alloc (.cells #[] 3)) := by
  refine wpList_append_seq _ hgd s x 22 ho 8 elInt hs (own_empty w) n hx (hr.alloc (Nat.le_refl _) _) hn.symm (by simp only [maxLen, List.length_nil]; omega) (by simp only [List.length_nil]; omega) ?_
  intro v1 w2 hO _
  have hb2 := hO.2
  obtain ⟨A1, c1, rfl, hS1⟩ := copy_form hO hn
  exact h A1 c1 w2 hb2 hS1

theorem smI_first (n : Nat) (f : Nat → Int) : smI (n + 1) f = f 0 + smI n (fun i => f (i + 1)) := by
  induction n with
  | zero => show 0 + f 0 = f 0 + 0; omega
  | succ n ih =>
    show smI (n + 1) f + f (n + 1) = f 0 + (smI n (fun i => f (i + 1)) + f (n + 1))
    rw [ih]; omega
theorem smI_rev (f : Nat → Int) : ∀ n, smI (n + 1) f = smI (n + 1) (fun i => f (n - i)) := by
  intro n
  induction n generalizing f with
  | zero => rfl
  | succ n ih =>
    rw [smI_first (n + 1) f, ih (fun i => f (i + 1))]
    show _ = smI (n + 1) (fun i => f (n + 1 - i)) + f (n + 1 - (n + 1))
    rw [Nat.sub_self, smI_congr (n := n + 1) (f := fun i => f (n - i + 1)) (g := fun i => f (n + 1 - i)) fun i hi => by show f _ = f _; congr 1; omega]
    omega
theorem cvI_comm (a b : Nat → Int) (m : Nat) : cvI a b m = cvI b a m := by
  unfold cvI
  rw [smI_rev]
  refine smI_congr fun i hi => ?_
  rw [show m - (m - i) = i by omega, Int.mul_comm]
theorem badP_comm (a b : List Int) : badP a b = badP b a := by
  unfold badP
  rw [Nat.add_comm, Bool.and_comm]
theorem prE_comm (a b : List Int) : prE a b = prE b a := by unfold prE; rw [badP_comm]
theorem prL_comm (a b : List Int) : prL a b = prL b a := by
  unfold prL
  rw [badP_comm]
  cases badP b a with
  | true => rfl
  | false =>
    simp only [Bool.false_eq_true, if_false]
    by_cases h : b.length = 0 ∨ a.length = 0
    · rw [if_pos h.symm, if_pos h]
    · rw [if_neg (fun h2 => h h2.symm), if_neg h, Nat.add_comm]
      exact List.map_congr_left fun m _ => cvI_comm _ _ m
theorem list_getD_ext {l m : List Int} (h : l.length = m.length) (h2 : ∀ i, i < l.length → l.getD i 0 = m.getD i 0) : l = m := by
  refine List.ext_getElem h fun i h3 h4 => ?_
  have := h2 i h3
  rwa [List.getD_eq_getElem?_getD, List.getD_eq_getElem?_getD, List.getElem?_eq_getElem h3, List.getElem?_eq_getElem h4] at this
theorem bad_one {a b l : List Int} (h : badP a b = false) (hl : a.length + l.length ≤ 4096) (hf : fitsL l = true) : badP a l = false := by
  unfold badP at h ⊢
  rw [Bool.or_eq_false_iff] at h
  have h2 : fitsL a = true := by
    cases hc : fitsL a
    · rw [hc] at h; exact absurd h.2 (by simp)
    · rfl
  rw [decide_eq_false (by omega), h2, hf]; rfl
theorem prL_one {a b : List Int} (h : badP a b = false) (hl : a.length ≤ 4000) : prL a [1] = a := by
  have hb : badP a [1] = false := bad_one h (by simp; omega) (by decide)
  unfold prL
  rw [hb]
  by_cases h0 : a.length = 0
  · rw [if_neg (by decide), if_pos (.inl h0)]
    exact (List.eq_nil_of_length_eq_zero h0).symm
  · rw [if_neg (by decide), if_neg (by simp; intro h; exact h0 (by rw [h]; rfl))]
    refine list_getD_ext (by simp) fun i hi => ?_
    rw [List.length_map, List.length_range] at hi
    rw [getD_map_range' _ _ _ hi]
    rw [cvI_comm]
    unfold cvI
    rw [smI_first, smI_none (n := i) fun j _ => by show atL [1] (j + 1) * _ = 0; rw [atL_far (by simp), Int.zero_mul], Int.add_zero]
    show 1 * atL a (i - 0) = _
    rw [Int.one_mul]; rfl
where
  getD_map_range' (f : Nat → Int) (n p : Nat) (hp : p < n) : ((List.range n).map f).getD p 0 = f p := by
    rw [List.getD_eq_getElem?_getD, List.getElem?_map, List.getElem?_range hp]; rfl
theorem prL_two {a b : List Int} (h : badP a b = false) (hl : a.length ≤ 4000) (h0 : 0 < a.length) : prL a [0, 1] = 0 :: a := by
  have hb : badP a [0, 1] = false := bad_one h (by simp; omega) (by decide)
  unfold prL
  rw [hb, if_neg (by decide), if_neg (by simp; intro h; rw [h] at h0; exact absurd h0 (by decide))]
  refine list_getD_ext (by simp) fun i hi => ?_
  rw [List.length_map, List.length_range] at hi
  rw [prL_one.getD_map_range' _ _ _ hi, cvI_comm]
  unfold cvI
  rw [smI_first]
  cases i with
  | zero => show 0 * _ + 0 = _; rw [Int.zero_mul]; rfl
  | succ i =>
    rw [smI_first, smI_none (n := i) fun j _ => by show atL [0, 1] (j + 1 + 1) * _ = 0; rw [atL_far (by simp), Int.zero_mul], Int.add_zero]
    show 0 * _ + 1 * atL a (i + 1 - (0 + 1)) = _
    rw [Int.zero_mul, Int.one_mul, Int.zero_add]; rfl
theorem prL_nil {b : List Int} : prL [] b = [] := by
  unfold prL
  split
  · rfl
  · rw [if_pos (.inl rfl)]

/-- A slice's list behind a world that is below. -/
theorem SeqAt.on {w w' : World} {A : Option Addr} {l : List Int} (h : SeqAt Eint w w.heap.size A l) (hb : Below w.heap.size w w') : SeqAt Eint w' w'.heap.size A l := (h.below hb).more hb.size
theorem new_list (w : World) (l : List Int) (cs : Array Value) (hcs : cs = (l.flatMap Eint.enc).toArray) : SeqAt Eint (w.alloc (.cells cs 3)) (w.alloc (.cells cs 3)).heap.size (some ⟨w.heap.size, 0, none⟩) l := by
  subst hcs
  exact (SeqAt.new w l 3).more (by simp)

set_option maxHeartbeats 3200000 in
set_option maxRecDepth 100000 in
theorem turned_law (A A' : Option Addr) (c c' : Nat) (a b : List Int) (w : World) (ha : a.length ≤ 17592186044416) (hb : b.length ≤ 17592186044416) (hA : SeqAt Eint w w.heap.size A a) (hA' : SeqAt Eint w w.heap.size A' b) (hT : ∀ w', Below w.heap.size w w' → TabsW w') :
    Calls Tryd.prog 9 #[.slice A a.length c, .slice A' b.length c'] w fun e w' => e = .returned (.bool true) ∧ Below w.heap.size w w' := by
  have HA := Lib.hid hA
  have HB := Lib.hid hA'
  have HT := Lib.hid hT
  have HS := Lib.hid (speaks_any w hT)
  have HPL := Lib.hid (prL_len a b)
  have HPC := Lib.hid (prL_comm b a)
  have HEC := Lib.hid (prE_comm b a)
  obtain ⟨la, hla⟩ : ∃ la, la = a.length := ⟨_, rfl⟩
  obtain ⟨lb, hlb⟩ : ∃ lb, lb = b.length := ⟨_, rfl⟩
  have HLA := Lib.hid hla
  have HLB := Lib.hid hlb
  have HLA' := Lib.hid (show a.length ≤ 17592186044416 by omega)
  have HLB' := Lib.hid (show b.length ≤ 17592186044416 by omega)
  have HP := Lib.hid (fun w1 A1 c1 A2 c2 (hb : Below w.heap.size w w1) (h1 : SeqAt Eint w1 w1.heap.size A1 a) (h2 : SeqAt Eint w1 w1.heap.size A2 b) => product_all A1 A2 c1 c2 a b w1 HLA'.out HLB'.out h1 h2 (tabs_later hT hb))
  have HQ := Lib.hid (fun w1 A1 c1 A2 c2 (hb : Below w.heap.size w w1) (h1 : SeqAt Eint w1 w1.heap.size A1 b) (h2 : SeqAt Eint w1 w1.heap.size A2 a) => product_all A1 A2 c1 c2 b a w1 HLB'.out HLA'.out h1 h2 (tabs_later hT hb))
  have HR := Lib.hid (fun w1 A1 c1 A2 c2 (hb : Below w.heap.size w w1) (h1 : SeqAt Eint w1 w1.heap.size A1 a) (h2 : SeqAt Eint w1 w1.heap.size A2 [1]) => product_all A1 A2 c1 c2 a [1] w1 HLA'.out (by decide) h1 h2 (tabs_later hT hb))
  have HU := Lib.hid (fun w1 A1 c1 A2 c2 (hb : Below w.heap.size w w1) (h1 : SeqAt Eint w1 w1.heap.size A1 a) (h2 : SeqAt Eint w1 w1.heap.size A2 [0, 1]) => product_all A1 A2 c1 c2 a [0, 1] w1 HLA'.out (by decide) h1 h2 (tabs_later hT hb))
  rw [← hla] at ha ⊢
  rw [← hlb] at hb ⊢
  unfold RetP at HP HQ HR HU
  rw [← HLA.out, ← HLB.out] at HP HQ
  rw [← HLA.out] at HR HU
  clear hla hlb hA hA' hT
  obtain ⟨pe, hpe⟩ : ∃ pe, pe = prE a b := ⟨_, rfl⟩
  rw [HEC.out, ← hpe] at HQ
  rw [← hpe] at HP
  have HPE := Lib.hid hpe
  clear hpe
  have HM1 : Hid True := Lib.hid trivial
  have HM2 : Hid True := Lib.hid trivial
  have HM3 : Hid True := Lib.hid trivial
  go_enter Tryd.func9, Tryd.ntmps9
  go_upto_region 3 with (go_at_call 10; (refine HS.out.mono ?_); rintro e w1 ⟨rfl, hb1⟩; have HA1 := Lib.hid (SeqAt.on HA.out hb1); have HB1 := Lib.hid (SeqAt.on HB.out hb1))
  go_cut [5, 6] (fun s5 s6 wx => ∃ (A3 : Option Addr) (n c3 : Nat), s5 = .slice A3 n c3 ∧ s6 = .int .i64 pe ∧ n = (prL a b).length ∧ Hid (SeqAt Eint wx wx.heap.size A3 (prL a b)) ∧ Below w.heap.size w wx)
  case first =>
    go_wp2_with (first
      | (at_builtin; (refine copy_step rfl (.tmp 16) (.tmp 17) rfl rfl rfl HA1.out HLA.out ha ?_); intro A1 c1 w2 hb2 hS1; have HS1 := Lib.hid hS1; have HB2 := Lib.hid (SeqAt.on HB1.out hb2); have hb12 := hb1.trans (hb2.mono hb1.size); clear hS1 hb1 hb2 HA1 HB1)
      | (at_builtin; (refine copy_step rfl (.tmp 19) (.tmp 20) rfl rfl rfl HB2.out HLB.out hb ?_); intro A2 c2 w3 hb3 hS2; have HS2 := Lib.hid hS2; have HS1b := Lib.hid (SeqAt.on HS1.out hb3); have hb13 := hb12.trans (hb3.mono hb12.size); clear hS2 hb12 hb3 HS1 HB2)
      | (go_at_call 17; (refine (HP.out w3 A1 c1 A2 c2 hb13 HS1b.out HS2.out).mono ?_); rintro e w4 ⟨A3, n, c3, rfl, hn, hS3, hb4⟩; have HN := Lib.hid hn.1; have HS3 := Lib.hid hS3; have hb14 := hb13.trans (hb4.mono hb13.size); clear hn hS3 hb13 hb4 HS1b HS2)
      | fail)
    go_meet
    exact ⟨A3, n, c3, rfl, rfl, HN.out, HS3, hb14⟩
  case rest =>
    obtain ⟨A3, n, c3, rfl, rfl, hn, HS3, hb14⟩ := hcut
    have HN := Lib.hid hn
    have HA4 := Lib.hid (SeqAt.on HA.out hb14)
    have HB4 := Lib.hid (SeqAt.on HB.out hb14)
    clear hn HA1 HB1
    go_upto_region 4 with fail
    go_cut [7, 8] (fun s7 s8 wx => ∃ (A6 : Option Addr) (c6 : Nat), s7 = .slice A6 n c6 ∧ s8 = .int .i64 pe ∧ Hid (SeqAt Eint wx wx.heap.size A3 (prL a b)) ∧ Hid (SeqAt Eint wx wx.heap.size A6 (prL a b)) ∧ Below w.heap.size w wx)
    case first =>
      go_wp2_with (first
        | (at_builtin; (refine copy_step rfl (.tmp 26) (.tmp 27) rfl rfl rfl HB4.out HLB.out hb ?_); intro A4 c4 w5 hb5 hS4; have HS4 := Lib.hid hS4; have HA5 := Lib.hid (SeqAt.on HA4.out hb5); have HS3b := Lib.hid (SeqAt.on HS3.out hb5); have hb15 := hb14.trans (hb5.mono hb14.size); clear hS4 hb14 hb5 HA4 HB4 HS3)
        | (at_builtin; (refine copy_step rfl (.tmp 29) (.tmp 30) rfl rfl rfl HA5.out HLA.out ha ?_); intro A5 c5 w6 hb6 hS5; have HS5 := Lib.hid hS5; have HS4b := Lib.hid (SeqAt.on HS4.out hb6); have HS3c := Lib.hid (SeqAt.on HS3b.out hb6); have hb16 := hb15.trans (hb6.mono hb15.size); clear hS5 hb15 hb6 HA5 HS3b HS4)
        | (go_at_call 17; (refine (HQ.out w6 A4 c4 A5 c5 hb16 HS4b.out HS5.out).mono ?_); rintro e w7 ⟨A6, n6, c6, rfl, hn6, hS6, hb7⟩; (rw [HPC.out] at hS6 hn6); have HS6 := Lib.hid hS6; have hn66 : n6 = n := hn6.1.trans HN.out.symm; subst hn66; have HS3d := Lib.hid (SeqAt.on HS3c.out hb7); have hb17 := hb16.trans (hb7.mono hb16.size); clear hn6 hS6 hb16 hb7)
        | fail)
      go_meet
      exact ⟨A6, c6, rfl, rfl, HS3d, HS6, hb17⟩
    case rest =>
      obtain ⟨A6, c6, rfl, rfl, HS3d, HS6, hb17⟩ := hcut
      have HA7 := Lib.hid (SeqAt.on HA.out hb17)
      have hnl : n ≤ 4096 := by rw [HN.out]; exact HPL.out
      clear hb14 HS3 HA4 HB4 HP HQ hb1
      by_cases hpe : pe = 0
      · have HBD := Lib.hid (show badP a b = false by
          have := HPE.out
          rw [hpe] at this
          unfold prE at this
          cases h : badP a b with
          | false => rfl
          | true => rw [h] at this; exact absurd this (by decide))
        by_cases hl4 : la ≤ 4000
        · have e1 : prE a [1] = 0 := by unfold prE; rw [bad_one HBD.out (by rw [← HLA.out]; simp; omega) (by decide)]; rfl
          have e2 : prE a [0, 1] = 0 := by unfold prE; rw [bad_one HBD.out (by rw [← HLA.out]; simp; omega) (by decide)]; rfl
          have e3 : prL a [1] = a := prL_one HBD.out (by rw [← HLA.out]; exact hl4)
          rw [e1, e3] at HR
          rw [e2] at HU
          obtain ⟨r, hr⟩ : ∃ r, r = prL a [0, 1] := ⟨_, rfl⟩
          have hr1 : la = 0 → r = [] := fun h => by
            have : a = [] := List.eq_nil_of_length_eq_zero (by rw [← HLA.out]; exact h)
            rw [hr, this, prL_nil]
          have hr2 : 0 < la → r = 0 :: a := fun h => by rw [hr]; exact prL_two HBD.out (by rw [← HLA.out]; exact hl4) (by rw [← HLA.out]; exact h)
          rw [← hr] at HU
          clear hr e1 e2 e3
          subst hpe
          go_upto_region 9 with (go_at_call 15; (rw [HN.out]); (refine (ints_same A3 A6 c3 c6 wc.heap.size (prL a b) wc (by rw [← HN.out]; unfold maxLen; omega) HS3d.out HS6.out (Nat.le_refl _)).mono ?_); rintro e w8 ⟨rfl, hb8⟩; (rw [← HN.out]))
          have hb18 := hb17.trans (hb8.mono hb17.size)
          have HA8 := Lib.hid (SeqAt.on HA.out hb18)
          clear hb17 hb8 HA7
          go_cut [9, 10] (fun s9 s10 wx => ∃ (A9 : Option Addr) (c9 : Nat), s9 = .slice A9 la c9 ∧ s10 = .int .i64 0 ∧ Hid (SeqAt Eint wx wx.heap.size A9 a) ∧ Below w.heap.size w wx)
          case first =>
            go_wp2_with (first
              | (at_builtin; (refine copy_step rfl (.tmp 52) (.tmp 53) rfl rfl rfl HA8.out HLA.out ha ?_); intro A7 c7 w9 hb9 hS7; have HS7 := Lib.hid hS7; have hb19 := hb18.trans (hb9.mono hb18.size); have hb20 := (Below.refl w9.heap.size w9).alloc (Nat.le_refl _) (.cells #[.int .i64 1] 3); have HN1 := Lib.hid (new_list w9 [1] #[.int .i64 1] rfl); have HS7b := Lib.hid (SeqAt.on HS7.out hb20); have hb21 := hb19.trans (hb20.mono hb19.size); clear hS7 hb18 hb9 HA8 hb19 hb20)
              | (go_at_call 17; (refine (HR.out _ A7 c7 _ 1 hb21 HS7b.out HN1.out).mono ?_); rintro e w10 ⟨A9, n9, c9, rfl, hn9, hS9, hb10⟩; have hn99 : la = n9 := HLA.out.trans hn9.1.symm; subst hn99; have HS9 := Lib.hid hS9; have hb22 := hb21.trans (hb10.mono hb21.size); clear hn9 hS9 hb21 hb10)
              | fail)
            go_meet
            exact ⟨A9, c9, rfl, rfl, HS9, hb22⟩
          case rest =>
            obtain ⟨A9, c9, rfl, rfl, HS9, hb22⟩ := hcut
            have HA9 := Lib.hid (SeqAt.on HA.out hb22)
            clear hb18 HA8
            go_upto_region 10 with fail
            go_cut [11, 12] (fun s11 s12 wx => ∃ (A12 : Option Addr) (m c12 : Nat), s11 = .slice A12 m c12 ∧ m ≤ c12 ∧ s12 = .int .i64 0 ∧ m = r.length ∧ Hid (SeqAt Eint wx wx.heap.size A9 a) ∧ Hid (SeqAt Eint wx wx.heap.size A12 r) ∧ Below w.heap.size w wx)
            case first =>
              go_wp2_with (first
                | (at_builtin; (refine copy_step rfl (.tmp 60) (.tmp 61) rfl rfl rfl HA9.out HLA.out ha ?_); intro A7 c7 w9 hb9 hS7; have HS7 := Lib.hid hS7; have hb19 := hb22.trans (hb9.mono hb22.size); have hb20 := (Below.refl w9.heap.size w9).alloc (Nat.le_refl _) (.cells #[.int .i64 0, .int .i64 1] 3); have HN1 := Lib.hid (new_list w9 [0, 1] #[.int .i64 0, .int .i64 1] rfl); have HS7b := Lib.hid (SeqAt.on HS7.out hb20); have HS9b := Lib.hid (SeqAt.on (SeqAt.on HS9.out hb9) hb20); have hb21 := hb19.trans (hb20.mono hb19.size); clear hS7 hb22 hb9 HA9 hb19 hb20 HS9)
                | (go_at_call 17; (refine (HU.out _ A7 c7 _ 2 hb21 HS7b.out HN1.out).mono ?_); rintro e w10 ⟨A12, n12, c12, rfl, hn12, hS12, hb10⟩; have HN12 := Lib.hid hn12.1; have hle12 := hn12.2; have HS12 := Lib.hid hS12; have HS9c := Lib.hid (SeqAt.on HS9b.out hb10); have hb23 := hb21.trans (hb10.mono hb21.size); clear hn12 hS12 hb21 hb10)
                | fail)
              go_meet
              exact ⟨A12, n12, c12, rfl, hle12, rfl, HN12.out, HS9c, HS12, hb23⟩
            case rest =>
              obtain ⟨A12, m, c12, rfl, hmc, rfl, hm, HS9c, HS12, hb23⟩ := hcut
              have HA10 := Lib.hid (SeqAt.on HA.out hb23)
              clear hb22 HA9
              rcases Nat.eq_zero_or_pos la with h0 | h0
              · obtain rfl := hr1 h0
                have hm0 : m = 0 := hm
                subst hm0
                subst h0
                clear hr1 hr2 hm hl4 hnl
                go_wp2_with (go_at_call 15; (rw [HLA.out]); (refine (ints_same A9 A c9 c wc.heap.size a wc (by rw [← HLA.out]; decide) HS9c.out HA10.out (Nat.le_refl _)).mono ?_); rintro e w8 ⟨rfl, hb8⟩; (rw [← HLA.out]))
                go_ret
                exact ⟨rfl, hb23.trans (hb8.mono hb23.size)⟩
              · obtain rfl := hr2 h0
                have hm1 : m = la + 1 := by rw [hm, HLA.out]; rfl
                subst hm1
                obtain ⟨b0, o0, rfl, _, hc0⟩ := HS12.out.ints_ (by simp)
                have c0 := hc0 0 (by simp)
                have HCT := Lib.hid (show SeqAt Eint wc wc.heap.size (some ⟨b0, o0 + 1, none⟩) a from HS12.out.cut_lt rfl (m := 1) (cap := c12) (by simp) (by rw [← hm]; exact hmc) (by omega))
                simp only [List.getD_cons_zero, Nat.add_zero] at c0
                clear hr1 hr2 hm hc0
                go_wp2_with (first
                  | (go_at_call 15; clear HM3; (rw [HLA.out]); (refine (ints_same A9 A c9 c wc.heap.size a wc (by rw [← HLA.out]; unfold maxLen; omega) HS9c.out HA10.out (Nat.le_refl _)).mono ?_); rintro e w8 ⟨rfl, hb8⟩; (rw [← HLA.out]); have c1 := (hb8.cell (p := ⟨b0, o0, none⟩) (World.block_lt_of_cell? _ _ c0)).trans c0)
                  | (go_at_call 15; (rw [HLA.out]); (refine (ints_same (some ⟨b0, o0 + 1, none⟩) A (c12 - 1) c w8.heap.size a w8 (by rw [← HLA.out]; unfold maxLen; omega) (SeqAt.on HCT.out hb8) (SeqAt.on HA10.out hb8) (Nat.le_refl _)).mono ?_); rintro e w9 ⟨rfl, hb9⟩; (rw [← HLA.out]))
                  | fail)
                go_ret
                exact ⟨rfl, (hb23.trans (hb8.mono hb23.size)).trans (hb9.mono (hb23.trans (hb8.mono hb23.size)).size)⟩
        · go_wp2_with (go_at_call 15; (rw [HN.out]); (refine (ints_same A3 A6 c3 c6 wc.heap.size (prL a b) wc (by rw [← HN.out]; unfold maxLen; omega) HS3d.out HS6.out (Nat.le_refl _)).mono ?_); rintro e w8 ⟨rfl, hb8⟩; (rw [← HN.out]))
          go_ret
          exact ⟨rfl, hb17.trans (hb8.mono hb17.size)⟩
      · go_wp2_with (go_at_call 15; (rw [HN.out]); (refine (ints_same A3 A6 c3 c6 wc.heap.size (prL a b) wc (by rw [← HN.out]; unfold maxLen; omega) HS3d.out HS6.out (Nat.le_refl _)).mono ?_); rintro e w8 ⟨rfl, hb8⟩; (rw [← HN.out]))
        go_ret
        exact ⟨rfl, hb17.trans (hb8.mono hb17.size)⟩

theorem turned_card (A : Option Addr) (c : Nat) (a : List Int) (A' : Option Addr) (c' : Nat) (b : List Int) (w : World) (ha : a.length ≤ 17592186044416) (hA : SeqAt Eint w w.heap.size A a) (hb : b.length ≤ 17592186044416) (hA' : SeqAt Eint w w.heap.size A' b) (hT : ∀ w', Below w.heap.size w w' → TabsW w') :
    Calls Tryd.prog 9 #[.slice A a.length c, .slice A' b.length c'] w fun e w' => e = .returned (.bool true) ∧ Below w.heap.size w w' :=
  turned_law A A' c c' a b w ha hb hA hA' hT
end Go.Proofs.YtnjmefjcaiepfaaDoor
