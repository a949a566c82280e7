/- The walk of the JSON parser's kids. -/
import Derived.Test.YtemcflfgoelpiaaJsonK
import Derived.Test.YtemcflfgoelpiaaStepCall
import Derived.Deep.RegionWith
import Derived.Deep.DeepCutAuto
namespace Go.Proofs.Ytemcflfgoelpiaa
open Go.RowKit

theorem tells_end93 : Tells ⟨#[93]⟩ (JsonP.isEnd false) := tells_of [93] _ (by decide +kernel)
theorem tells_end125 : Tells ⟨#[125]⟩ (JsonP.isEnd true) := tells_of [125] _ (by decide +kernel)
theorem info_strE : (Try.prog.info? 9).map (fun i => (i.zero, i.size, i.bytes)) = some (some (.string ⟨#[]⟩), 1, 16) := by kernel_rfl
theorem elStrE : ElemOf Try.prog 34 9 Estr.k 16 := by
  obtain ⟨i, hi, hz0, hz1, hz2⟩ := info_parts info_strE
  exact ⟨i, _, Try.underlying34, hi, hz0, hz1, hz2, rfl⟩
theorem info_valE : (Try.prog.info? 37).map (fun i => (i.zero, i.size, i.bytes)) = some (some (.agg #[.int .i64 0, .string ⟨#[]⟩, .slice none 0 0, .slice none 0 0]), 4, 72) := by kernel_rfl
theorem elValE : ElemOf Try.prog 35 37 Eval.k 72 := by
  obtain ⟨i, hi, hz0, hz1, hz2⟩ := info_parts info_valE
  exact ⟨i, _, Try.underlying35, hi, hz0, hz1, hz2, rfl⟩
theorem blanks_idem (l : List UInt8) : JsonP.blanks (JsonP.blanks l) = JsonP.blanks l := by
  unfold JsonP.blanks
  induction l with
  | nil => rfl
  | cons c t ih =>
    rw [List.dropWhile_cons]
    split
    · exact ih
    · rename_i hc; rw [List.dropWhile_cons, if_neg hc]
theorem items_succ (m : Nat) (ob : Bool) (deep : Nat) (ks : List (List UInt8)) (js : List JsonP.J) (l : List UInt8) : JsonP.items (m + 1) ob deep ks js l = match JsonP.key ob ks (JsonP.blanks l) with
    | none => .bad 20
    | some (ks', l1) => match JsonP.value m deep l1 with
      | .bad c => .bad c
      | .ok j l2 => match JsonP.has (JsonP.isEnd ob) (JsonP.blanks l2) with
        | some u => .ok (.mk (if ob then 6 else 5) [] ks' (js ++ [j])) u
        | none => match JsonP.want [44] (JsonP.blanks l2) with
          | none => .bad 20
          | some l3 => JsonP.items m ob deep ks' (js ++ [j]) l3 := by
  conv => lhs; unfold JsonP.items
  rfl
theorem items_blanks (n : Nat) (ob : Bool) (deep : Nat) (ks : List (List UInt8)) (js : List JsonP.J) (l : List UInt8) : JsonP.items n ob deep ks js (JsonP.blanks l) = JsonP.items n ob deep ks js l := by
  cases n with
  | zero => unfold JsonP.items; rfl
  | succ n => rw [items_succ, items_succ, blanks_idem]
theorem news_new (w : World) (L : List Value) (t : TypeId) (g : Nat) (hg : w.heap.size = g) : ∀ j u, L[j]? = some u → (w.alloc (.cells L.toArray t)).cell? ((⟨g, 0, none⟩ : Addr).add j) = some u := by
  intro j u hj
  subst hg
  rw [add_row, cell_of_row _ _ _ _ _ (0, 0) (heap_alloc_new w _), List.getElem?_toArray]
  exact hj

set_option maxRecDepth 100000 in
set_option maxHeartbeats 6400000 in
theorem kids_list (n : Nat) (hv : ∀ m, m < n → ValueP m) (deep : Nat) (l : List UInt8) (w : World) (b : Nat) (s : ByteArray) (hs : s.size ≤ 1048576) (h : At w b s l) (hn : 2 * l.length + 2 ≤ n) (hdeep : deep ≤ 32) :
    Calls Try.prog 50 #[.pointer (some ⟨b, 0, none⟩), .int .u8 91, .int .i64 deep] w fun e w' => ResEnd w b s (kidsV n false deep l) e w' := by
  have hbw := h.lt
  have HV := Lib.hid hv
  have HK0 := Lib.hid (KidsS.start h 5)
  have hlen : l.length ≤ s.size := by
    obtain ⟨i, h1, h2, h3⟩ := h
    rw [← h2, List.length_drop, Array.length_toList]
    exact Nat.sub_le _ _
  obtain ⟨V, hV⟩ : ∃ V, w.heap.size = V := ⟨_, rfl⟩
  have HVe := Lib.hid hV
  have hbV : b < V := by omega
  obtain ⟨lb, hlb⟩ : ∃ lb, JsonP.blanks l = lb := ⟨_, rfl⟩
  have HLb := Lib.hid hlb
  have hlbl : lb.length ≤ l.length := by rw [← hlb]; exact JsonP.blanks_len l
  clear h hV hv hlb
  rw [HVe.out] at HK0
  cases hh : JsonP.has (JsonP.isEnd false) lb with
  | some u =>
    have HX : Hid (kidsV n false deep l = .ok (.mk 5 [] [] []) u) := Lib.hid (by unfold kidsV; rw [HLb.out, hh]; rfl)
    obtain ⟨e1, e2⟩ := has_is hh
    have E1 := Lib.hid e1
    have E2 := Lib.hid e2
    clear hh e1 e2
    go_enter Try.func50, Try.ntmps50
    go_upto_region 4 with fail
    rw [HVe.out]
    go_upto_region 6 with (first
      | (go_at_call 30; refine (blanks_any _ b s l hs HK0.out.at_).mono ?_; rintro e w1 ⟨rfl, hm, ha⟩; rw [HLb.out] at ha; have HK1 := Lib.hid (HK0.out.step hm ha); clear hm ha)
      | (go_at_call 59; refine (has_opt _ _ tells_end93 _ b s lb hs HK1.out.at_).mono ?_; rintro e w2 ⟨rfl, hm, ha⟩; rw [E1.out]; rw [E2.out] at ha; have HK2 := Lib.hid (HK1.out.step hm ha); clear hm ha))
    have hcV := fun o => Lib.cell_of_heap HK2.out.blk o
    have hcR := fun o => Lib.cell_of_heap HK2.out.res o
    have hzR := fun o => Lib.frozen_of_heap HK2.out.res o
    have hzV := fun o => Lib.frozen_of_heap HK2.out.blk o
    go_wp2
    refine bodyPost_ret (v := .agg #[.int .i64 5, .string ⟨#[]⟩, .slice none 0 0, .slice none 0 0]) ?_ rfl ?_
    · simp [results, Try.results50, go_sem, hcR]
    · rw [HX.out]
      exact ⟨⟨5, ⟨#[]⟩, _, _, _, _, _, _⟩, rfl, HK2.out.ret 5 rfl⟩
  | none =>
    have HX : Hid (JsonP.items n false deep [] [] lb = kidsV n false deep l) := Lib.hid (by unfold kidsV; rw [HLb.out, hh, ← HLb.out, items_blanks])
    obtain ⟨e1, e2⟩ := has_no hh
    have E1 := Lib.hid e1
    have E2 := Lib.hid e2
    clear hh e1 e2
    go_enter Try.func50, Try.ntmps50
    go_upto_region 4 with fail
    rw [HVe.out]
    go_upto_region 7 with (first
      | (go_at_call 30; refine (blanks_any _ b s l hs HK0.out.at_).mono ?_; rintro e w1 ⟨rfl, hm, ha⟩; rw [HLb.out] at ha; have HK1 := Lib.hid (HK0.out.step hm ha); clear hm ha)
      | (go_at_call 59; refine (has_opt _ _ tells_end93 _ b s lb hs HK1.out.at_).mono ?_; rintro e w2 ⟨rfl, hm, ha⟩; rw [E1.out]; rw [E2.out] at ha; have HK2 := Lib.hid (HK1.out.step hm ha); clear hm ha))
    go_loopg [] n (fun k wr => ∃ (ks : List (List UInt8)) (js : List JsonP.J) (rs : List Raw) (vk vj : Value) (t : List UInt8), Hid (JsonP.items k false deep ks js t = kidsV n false deep l) ∧ 2 * t.length + 2 ≤ k ∧ k ≤ n ∧ ks.length + t.length ≤ s.size ∧ rs.length + t.length ≤ s.size ∧ Hid (KidsS w wr b V s 5 ks js rs vk vj t))
    case atStart => exact ⟨[], [], [], _, _, lb, HX, by omega, by omega, by simp; omega, by simp; omega, HK2⟩
    case round =>
      obtain ⟨ks, js, rs, vk, vj, t, HE, hk, hkn, hks, hrs, HK⟩ := hrel
      clear HK0 HK1 HK2 HX
      obtain ⟨m, rfl⟩ : ∃ m, gk = m + 1 := ⟨gk - 1, by omega⟩
      obtain ⟨A, c, rfl, hAc, hcm⟩ := HK.out.keys.form
      obtain ⟨A', c', rfl, hAc', hcm'⟩ := HK.out.kids.form
      rw [List.length_map] at HK
      obtain ⟨tb, htb⟩ : ∃ tb, JsonP.blanks t = tb := ⟨_, rfl⟩
      have HTb := Lib.hid htb
      have htbl : tb.length ≤ t.length := by rw [← htb]; exact JsonP.blanks_len t
      have hE := HE.out
      rw [items_succ, htb] at hE
      clear htb
      have hkey : JsonP.key false ks tb = some (ks, tb) := rfl
      rw [hkey] at hE
      have HE1 := Lib.hid hE
      clear hE hkey
      obtain ⟨ks', hks'⟩ : ∃ ks', ks' = ks := ⟨_, rfl⟩
      subst hks'
      go_upto_region 8 with (go_at_call 30; refine (blanks_any _ b s t hs HK.out.at_).mono ?_; rintro e w3 ⟨rfl, hm, ha⟩; rw [HTb.out] at ha; have HK3 := Lib.hid (HK.out.step hm ha); clear hm ha)
      have hcV := fun o => Lib.cell_of_heap HK3.out.blk o
      go_upto_region 12 with fail
      clear hcV
      have hl1 : tb.length ≤ t.length := htbl
      obtain ⟨l1, hl1e⟩ : ∃ l1, l1 = tb := ⟨_, rfl⟩
      subst hl1e
      cases hvv : JsonP.value m deep l1 with
      | bad code =>
        rw [hvv] at HE1
        have HX : Hid (kidsV n false deep l = .bad code) := Lib.hid HE1.out.symm
        have HVc : Hid (∀ W, At W b s l1 → Calls Try.prog 29 #[.pointer (some ⟨b, 0, none⟩), .int .i64 deep] W fun e w' => Threw W b code e w') := Lib.hid fun W hW => by
          have := HV.out m (by omega) deep l1 W b s hs hW (by omega) hdeep
          rw [hvv] at this
          exact this
        clear hvv HE1
        have hcV : ∀ o, w3.cell? ⟨V + 1, o, none⟩ = #[Value.int .i64 5, .string ⟨#[]⟩, .slice A ks'.length c, .slice A' rs.length c'][o]? := fun o => Lib.cell_of_heap HK3.out.blk o
        refine wp_region_any (by kernel_rfl) ?_
        try (change wpAny _ _ _ _ _ _ _ (World.drew _))
        refine wpAny_take (i := 0) (v := ?_) rfl (by kernel_rfl) (by kernel_rfl) (by kernel_rfl) (fun _ _ _ h => h) (Or.inl ⟨by rfl, ?_⟩) ?_
        rotate_left
        (intro w; go_simp; try (with_reducible rfl))
        refine wpAny_take (i := 2) (v := ?_) rfl (by kernel_rfl) (by kernel_rfl) (by kernel_rfl) (fun _ _ _ h => h) (Or.inl ⟨by rfl, ?_⟩) ?_
        rotate_left
        (intro w; go_simp; try (with_reducible rfl))
        refine wpAny_take (i := 3) (v := ?_) rfl (by kernel_rfl) (by kernel_rfl) (by kernel_rfl) (fun _ _ _ h => h) (Or.inl ⟨by rfl, ?_⟩) ?_
        rotate_left
        (intro w; go_simp; try (with_reducible rfl))
        refine wpAny_ready (rs := [1, 4]) (by kernel_rfl) (by simp) ?_
        refine AllReady.cons rfl (fun K hK => ?_) ?_
        go_simp
        refine hK _ _ ?_
        clear hK K
        refine wpAny_ready (rs := [4]) (by kernel_rfl) (by simp) ?_
        refine AllReady.cons rfl (fun K hK => ?_) AllReady.nil
        go_simp
        go_wp2_with (go_at_call 29; refine (HVc.out _ (by exact HK3.out.at_)).mono ?_; rintro e w4 ⟨hm4, i4, rfl⟩)
        rw [HX.out]
        exact ⟨rfl, HK3.out.mv.step (((Mv.rfl_ _ _).drew).step hm4), i4, rfl⟩
        refine AllReady.cons rfl (fun K hK => ?_) AllReady.nil
        go_simp
        go_wp2_with (go_at_call 29; refine (HVc.out _ (by exact HK3.out.at_)).mono ?_; rintro e w4 ⟨hm4, i4, rfl⟩)
        rw [HX.out]
        exact ⟨rfl, HK3.out.mv.step (((Mv.rfl_ _ _).drew).step hm4), i4, rfl⟩
      | ok j t3 =>
        rw [hvv] at HE1
        have HVc : Hid (∀ W, At W b s l1 → Calls Try.prog 29 #[.pointer (some ⟨b, 0, none⟩), .int .i64 deep] W fun e w' => ∃ r : Raw, e = .returned (.agg r.cells.toArray) ∧ Mv b W w' ∧ At w' b s t3 ∧ Lies w' (fun k => W.heap.size ≤ k) j r) := Lib.hid fun W hW => by
          have := HV.out m (by omega) deep l1 W b s hs hW (by omega) hdeep
          rw [hvv] at this
          exact this
        have hl3 := JsonP.value_len hvv
        clear hvv
        have hcV : ∀ o, w3.cell? ⟨V + 1, o, none⟩ = #[Value.int .i64 5, .string ⟨#[]⟩, .slice A ks'.length c, .slice A' rs.length c'][o]? := fun o => Lib.cell_of_heap HK3.out.blk o
        go_cut [] (fun wx => ∃ (rx : Raw) (A5 : Option Addr) (c5 : Nat), Hid (KidsS w wx b V s 5 ks' (js ++ [j]) (rs ++ [rx]) (.slice A ks'.length c) (.slice A5 (rs.length + 1) c5) t3))
        case first =>
          go_region_law (first
              | (refine step_call2 (by rfl) 29 (.tmp 37) (.tmp 38) _ (by rfl) Try.func29 (by kernel_rfl) (by kernel_rfl) _ _ (by rfl) (by rfl) ?_
                 refine (HVc.out _ (by exact HK3.out.at_)).mono ?_
                 rintro e w4 ⟨r, rfl, hm4, ha4, hl4⟩
                 obtain ⟨rk, rt, ra, rn, rc, ra2, rn2, rc2⟩ := r
                 simp only [CallEnd, Raw.cells]
                 have HK4 := Lib.hid (HK3.out.step (((Mv.rfl_ _ _).drew).step hm4) ha4)
                 have HL4 := Lib.hid hl4
                 have hc4 : w4.cell? ⟨V + 1, 3, none⟩ = some (.slice A' rs.length c') := Lib.cell_of_heap HK4.out.blk 3
                 have hz4 : V + 1 < w4.heap.size := HK4.out.lt1
                 clear hm4 ha4 hl4)
              | (refine step_append_one (E := Eval) (base := V + 2) (l := rs) ⟨rk, rt, ra, rn, rc, ra2, rn2, rc2⟩ ⟨w4.heap.size, 0, none⟩ 1 rfl (.tmp 36) (.tmp 40) 35 (by rfl) 72 elValE (by rfl) (by exact HK4.out.kids.alloc _) (by rfl) (by exact news_new w4 _ _ _ rfl) (by unfold maxLen; omega) (by omega) ?_
                 intro v5 w5 ho5 hg5 hat5
                 have HK4a := Lib.hid (HK4.out.below ((Below.refl _ w4).alloc (Nat.le_refl _) (.cells #[.int .i64 rk, .string rt, .slice ra rn rc, .slice ra2 rn2 rc2] 37)))
                 have hb5 := HK4a.out.blkG hg5 (.inr rfl)
                 have hc5 := fun o => Lib.cell_of_heap hb5 o
                 have hz5 := fun o => Lib.frozen_of_heap hb5 o
                 have HLx := Lib.hid (Lies.on (Stand.below ((Below.refl _ w4).alloc (Nat.le_refl _) (.cells #[.int .i64 rk, .string rt, .slice ra rn rc, .slice ra2 rn2 rc2] 37))) _ _ (HK3.out.aside HL4.out))
                 have HK5 := Lib.hid (HK4a.out.addKid HLx.out ho5 hg5 hat5)
                 obtain ⟨A5, c5, rfl, hc5a, hc5b⟩ := ho5.form
                 simp only [List.length_append, List.length_singleton] at HK5
                 clear hb5 ho5 hg5 hat5)
              | fail)
          all_goals
            go_wp2
            go_meet
            exact ⟨_, _, _, HK5⟩
        case rest =>
        obtain ⟨rx, A5, c5, HK5⟩ := hcut
        obtain ⟨W6, rfl⟩ : ∃ W6 : World, W6 = wc := ⟨_, rfl⟩
        clear hcV HK3
        obtain ⟨t4, ht4⟩ : ∃ t4, JsonP.blanks t3 = t4 := ⟨_, rfl⟩
        have hl4 : t4.length ≤ t3.length := by rw [← ht4]; exact JsonP.blanks_len t3
        simp only [ht4] at HE1
        have HT4 := Lib.hid ht4
        clear ht4
        cases hh : JsonP.has (JsonP.isEnd false) t4 with
        | some u =>
          rw [hh] at HE1
          have HX : Hid (kidsV n false deep l = .ok (.mk 5 [] ks' (js ++ [j])) u) := Lib.hid HE1.out.symm
          obtain ⟨e1, e2⟩ := has_is hh
          have E3 := Lib.hid e1
          have E4 := Lib.hid e2
          clear hh e1 e2 HE1
          go_upto_region 15 with (first
            | (go_at_call 30; refine (blanks_any _ b s t3 hs HK5.out.at_).mono ?_; rintro e w7 ⟨rfl, hm, ha⟩; rw [HT4.out] at ha; have HK7 := Lib.hid (HK5.out.step hm ha); clear hm ha)
            | (go_at_call 59; refine (has_opt _ _ tells_end93 _ b s t4 hs HK7.out.at_).mono ?_; rintro e w8 ⟨rfl, hm, ha⟩; rw [E3.out]; rw [E4.out] at ha; have HK8 := Lib.hid (HK7.out.step hm ha); clear hm ha))
          have hcV := fun o => Lib.cell_of_heap HK8.out.blk o
          have hcR := fun o => Lib.cell_of_heap HK8.out.res o
          have hzR := fun o => Lib.frozen_of_heap HK8.out.res o
          go_wp2
          refine bodyPost_ret (v := .agg #[.int .i64 5, .string ⟨#[]⟩, .slice A ks'.length c, .slice A5 (rs.length + 1) c5]) ?_ rfl ?_
          · simp [results, Try.results50, go_sem, hcR]
          · rw [HX.out]
            exact ⟨⟨5, ⟨#[]⟩, _, _, _, _, _, _⟩, rfl, HK8.out.ret 5 rfl⟩
        | none =>
          rw [hh] at HE1
          obtain ⟨e1, e2⟩ := has_no hh
          have E3 := Lib.hid e1
          have E4 := Lib.hid e2
          clear hh e1 e2
          cases hw : JsonP.want [44] t4 with
          | none =>
            rw [hw] at HE1
            have HX : Hid (kidsV n false deep l = .bad 20) := Lib.hid HE1.out.symm
            have HW := Lib.hid hw
            clear hw HE1
            go_wp2_with (first
              | (go_at_call 30; refine (blanks_any _ b s t3 hs HK5.out.at_).mono ?_; rintro e w7 ⟨rfl, hm, ha⟩; rw [HT4.out] at ha; have HK7 := Lib.hid (HK5.out.step hm ha); clear hm ha)
              | (go_at_call 59; refine (has_opt _ _ tells_end93 _ b s t4 hs HK7.out.at_).mono ?_; rintro e w8 ⟨rfl, hm, ha⟩; rw [E3.out]; rw [E4.out] at ha; have HK8 := Lib.hid (HK7.out.step hm ha); clear hm ha)
              | (go_at_call 46; refine (want_any ⟨#[44]⟩ (by decide) _ b s _ hs HK8.out.at_).mono ?_; rw [show (ByteArray.mk #[44]).data.toList = [44] from rfl, HW.out]; rintro e w9 ⟨hm9, i9, rfl⟩))
            rw [HX.out]
            exact ⟨rfl, HK8.out.mv.step hm9, i9, rfl⟩
          | some t5 =>
            rw [hw] at HE1
            have hl5 := JsonP.want_len hw
            simp only [List.length_cons, List.length_nil] at hl5
            have HW := Lib.hid hw
            clear hw
            go_wp2_with (first
              | (go_at_call 30; refine (blanks_any _ b s t3 hs HK5.out.at_).mono ?_; rintro e w7 ⟨rfl, hm, ha⟩; rw [HT4.out] at ha; have HK7 := Lib.hid (HK5.out.step hm ha); clear hm ha)
              | (go_at_call 59; refine (has_opt _ _ tells_end93 _ b s t4 hs HK7.out.at_).mono ?_; rintro e w8 ⟨rfl, hm, ha⟩; rw [E3.out]; rw [E4.out] at ha; have HK8 := Lib.hid (HK7.out.step hm ha); clear hm ha)
              | (go_at_call 46; refine (want_any ⟨#[44]⟩ (by decide) _ b s _ hs HK8.out.at_).mono ?_; rw [show (ByteArray.mk #[44]).data.toList = [44] from rfl, HW.out]; rintro e w9 ⟨rfl, hm, ha⟩; have HK9 := Lib.hid (HK8.out.step hm ha); clear hm ha))
            go_roundg m
            case measure => omega
            case rel => exact ⟨ks', js ++ [j], rs ++ [rx], _, _, t5, HE1, by omega, by omega, by omega, by simp only [List.length_append, List.length_singleton]; omega, HK9⟩

set_option maxRecDepth 100000 in
set_option maxHeartbeats 6400000 in
theorem kids_object (n : Nat) (hv : ∀ m, m < n → ValueP m) (deep : Nat) (l : List UInt8) (w : World) (b : Nat) (s : ByteArray) (hs : s.size ≤ 1048576) (h : At w b s l) (hn : 2 * l.length + 2 ≤ n) (hdeep : deep ≤ 32) :
    Calls Try.prog 50 #[.pointer (some ⟨b, 0, none⟩), .int .u8 123, .int .i64 deep] w fun e w' => ResEnd w b s (kidsV n true deep l) e w' := by
  have hbw := h.lt
  have HV := Lib.hid hv
  have HK0 := Lib.hid (KidsS.start h 6)
  have hlen : l.length ≤ s.size := by
    obtain ⟨i, h1, h2, h3⟩ := h
    rw [← h2, List.length_drop, Array.length_toList]
    exact Nat.sub_le _ _
  obtain ⟨V, hV⟩ : ∃ V, w.heap.size = V := ⟨_, rfl⟩
  have HVe := Lib.hid hV
  have hbV : b < V := by omega
  obtain ⟨lb, hlb⟩ : ∃ lb, JsonP.blanks l = lb := ⟨_, rfl⟩
  have HLb := Lib.hid hlb
  have hlbl : lb.length ≤ l.length := by rw [← hlb]; exact JsonP.blanks_len l
  clear h hV hv hlb
  rw [HVe.out] at HK0
  cases hh : JsonP.has (JsonP.isEnd true) lb with
  | some u =>
    have HX : Hid (kidsV n true deep l = .ok (.mk 6 [] [] []) u) := Lib.hid (by unfold kidsV; rw [HLb.out, hh]; rfl)
    obtain ⟨e1, e2⟩ := has_is hh
    have E1 := Lib.hid e1
    have E2 := Lib.hid e2
    clear hh e1 e2
    go_enter Try.func50, Try.ntmps50
    go_upto_region 4 with fail
    rw [HVe.out]
    go_upto_region 6 with (first
      | (go_at_call 30; refine (blanks_any _ b s l hs HK0.out.at_).mono ?_; rintro e w1 ⟨rfl, hm, ha⟩; rw [HLb.out] at ha; have HK1 := Lib.hid (HK0.out.step hm ha); clear hm ha)
      | (go_at_call 59; refine (has_opt _ _ tells_end125 _ b s lb hs HK1.out.at_).mono ?_; rintro e w2 ⟨rfl, hm, ha⟩; rw [E1.out]; rw [E2.out] at ha; have HK2 := Lib.hid (HK1.out.step hm ha); clear hm ha))
    have hcV := fun o => Lib.cell_of_heap HK2.out.blk o
    have hcR := fun o => Lib.cell_of_heap HK2.out.res o
    have hzR := fun o => Lib.frozen_of_heap HK2.out.res o
    have hzV := fun o => Lib.frozen_of_heap HK2.out.blk o
    go_wp2
    refine bodyPost_ret (v := .agg #[.int .i64 6, .string ⟨#[]⟩, .slice none 0 0, .slice none 0 0]) ?_ rfl ?_
    · simp [results, Try.results50, go_sem, hcR]
    · rw [HX.out]
      exact ⟨⟨6, ⟨#[]⟩, _, _, _, _, _, _⟩, rfl, HK2.out.ret 6 rfl⟩
  | none =>
    have HX : Hid (JsonP.items n true deep [] [] lb = kidsV n true deep l) := Lib.hid (by unfold kidsV; rw [HLb.out, hh, ← HLb.out, items_blanks])
    obtain ⟨e1, e2⟩ := has_no hh
    have E1 := Lib.hid e1
    have E2 := Lib.hid e2
    clear hh e1 e2
    go_enter Try.func50, Try.ntmps50
    go_upto_region 4 with fail
    rw [HVe.out]
    go_upto_region 7 with (first
      | (go_at_call 30; refine (blanks_any _ b s l hs HK0.out.at_).mono ?_; rintro e w1 ⟨rfl, hm, ha⟩; rw [HLb.out] at ha; have HK1 := Lib.hid (HK0.out.step hm ha); clear hm ha)
      | (go_at_call 59; refine (has_opt _ _ tells_end125 _ b s lb hs HK1.out.at_).mono ?_; rintro e w2 ⟨rfl, hm, ha⟩; rw [E1.out]; rw [E2.out] at ha; have HK2 := Lib.hid (HK1.out.step hm ha); clear hm ha))
    go_loopg [] n (fun k wr => ∃ (ks : List (List UInt8)) (js : List JsonP.J) (rs : List Raw) (vk vj : Value) (t : List UInt8), Hid (JsonP.items k true deep ks js t = kidsV n true deep l) ∧ 2 * t.length + 2 ≤ k ∧ k ≤ n ∧ ks.length + t.length ≤ s.size ∧ rs.length + t.length ≤ s.size ∧ Hid (KidsS w wr b V s 6 ks js rs vk vj t))
    case atStart => exact ⟨[], [], [], _, _, lb, HX, by omega, by omega, by simp; omega, by simp; omega, HK2⟩
    case round =>
      obtain ⟨ks, js, rs, vk, vj, t, HE, hk, hkn, hks, hrs, HK⟩ := hrel
      clear HK0 HK1 HK2 HX
      obtain ⟨m, rfl⟩ : ∃ m, gk = m + 1 := ⟨gk - 1, by omega⟩
      obtain ⟨A0, c0, rfl, hAc, hcm⟩ := HK.out.keys.form
      obtain ⟨A', c', rfl, hAc', hcm'⟩ := HK.out.kids.form
      rw [List.length_map] at HK
      obtain ⟨tb, htb⟩ : ∃ tb, JsonP.blanks t = tb := ⟨_, rfl⟩
      have HTb := Lib.hid htb
      have htbl : tb.length ≤ t.length := by rw [← htb]; exact JsonP.blanks_len t
      have hE := HE.out
      rw [items_succ, htb] at hE
      clear htb
      go_upto_region 8 with (go_at_call 30; refine (blanks_any _ b s t hs HK.out.at_).mono ?_; rintro e w3 ⟨rfl, hm, ha⟩; rw [HTb.out] at ha; have HK3 := Lib.hid (HK.out.step hm ha); clear hm ha)
      have hcV : ∀ o, w3.cell? ⟨V + 1, o, none⟩ = #[Value.int .i64 6, .string ⟨#[]⟩, .slice A0 ks.length c0, .slice A' rs.length c'][o]? := fun o => Lib.cell_of_heap HK3.out.blk o
      go_upto_region 9 with fail
      cases htx : JsonP.text tb with
      | none =>
        have hkey : JsonP.key true ks tb = none := by unfold JsonP.key; rw [htx]; rfl
        rw [hkey] at hE
        have HX : Hid (kidsV n true deep l = .bad 20) := Lib.hid hE.symm
        have HTx := Lib.hid htx
        clear htx hkey hE
        refine wp_region_any (by kernel_rfl) ?_
        try (change wpAny _ _ _ _ _ _ _ (World.drew _))
        refine wpAny_take (i := 0) (v := ?_) rfl (by kernel_rfl) (by kernel_rfl) (by kernel_rfl) (fun _ _ _ h => h) (Or.inl ⟨by rfl, ?_⟩) ?_
        rotate_left
        (intro w; go_simp; try (with_reducible rfl))
        refine wpAny_take (i := 2) (v := ?_) rfl (by kernel_rfl) (by kernel_rfl) (by kernel_rfl) (fun _ _ _ h => h) (Or.inl ⟨by rfl, ?_⟩) ?_
        rotate_left
        (intro w; go_simp; try (with_reducible rfl))
        refine wpAny_ready (rs := [1, 3]) (by kernel_rfl) (by simp) ?_
        refine AllReady.cons rfl (fun K hK => ?_) ?_
        go_simp
        refine hK _ _ ?_
        clear hK K
        refine wpAny_ready (rs := [3]) (by kernel_rfl) (by simp) ?_
        refine AllReady.cons rfl (fun K hK => ?_) AllReady.nil
        go_simp
        go_wp2_with (go_at_call 47; refine (text_any _ b s _ hs (by exact HK3.out.at_)).mono ?_; rw [HTx.out]; rintro e w4 ⟨hm4, i4, rfl⟩)
        rw [HX.out]
        exact ⟨rfl, HK3.out.mv.step (((Mv.rfl_ _ _).drew).step hm4), i4, rfl⟩
        refine AllReady.cons rfl (fun K hK => ?_) AllReady.nil
        go_simp
        go_wp2_with (go_at_call 47; refine (text_any _ b s _ hs (by exact HK3.out.at_)).mono ?_; rw [HTx.out]; rintro e w4 ⟨hm4, i4, rfl⟩)
        rw [HX.out]
        exact ⟨rfl, HK3.out.mv.step (((Mv.rfl_ _ _).drew).step hm4), i4, rfl⟩
      | some px =>
        obtain ⟨x, tx⟩ := px
        have hltx := JsonP.text_len htx
        have HTc : Hid (∀ W, At W b s tb → Calls Try.prog 47 #[.pointer (some ⟨b, 0, none⟩)] W fun e w' => e = .returned (.string (str x)) ∧ Mv b W w' ∧ At w' b s tx) := Lib.hid fun W hW => by
          have := text_any W b s tb hs hW
          rw [htx] at this
          exact this
        have hkey : JsonP.key true ks tb = (JsonP.want [58] (JsonP.blanks tx)).map fun t => (ks ++ [x], t) := by unfold JsonP.key; rw [htx]; rfl
        rw [hkey] at hE
        have HEk := Lib.hid hE
        clear htx hkey hE
        obtain ⟨tc, htc⟩ : ∃ tc, JsonP.blanks tx = tc := ⟨_, rfl⟩
        have hltc : tc.length ≤ tx.length := by rw [← htc]; exact JsonP.blanks_len tx
        rw [htc] at HEk
        have HTcb := Lib.hid htc
        clear htc
        go_cut [] (fun wx => ∃ (A5 : Option Addr) (c5 : Nat), Hid (KidsS w wx b V s 6 (ks ++ [x]) js rs (.slice A5 (ks.length + 1) c5) (.slice A' rs.length c') tx))
        case first =>
          go_region_law (first
            | (refine step_append_one (E := Estr) (base := V + 2) (l := ks.map str) (str x) ⟨w4.heap.size, 0, none⟩ 1 rfl (.tmp 25) (.tmp 28) 34 (by rfl) 16 elStrE (by rfl) (by exact HK4.out.keys.alloc _) (by rfl) (by exact news_new w4 _ _ _ rfl) (by rw [List.length_map]; unfold maxLen; omega) (by rw [List.length_map]; omega) ?_
               intro v5 w5 ho5 hg5 hat5
               have HK4a := Lib.hid (HK4.out.below ((Below.refl _ w4).alloc (Nat.le_refl _) (.cells #[.string (str x)] 9)))
               have hb5 := HK4a.out.blkG hg5 (.inl rfl)
               have hc5 := fun o => Lib.cell_of_heap hb5 o
               have hz5 := fun o => Lib.frozen_of_heap hb5 o
               have HK5 := Lib.hid (HK4a.out.addKey ho5 hg5 hat5)
               obtain ⟨A5, c5, rfl, hc5a, hc5b⟩ := ho5.form
               simp only [List.length_append, List.length_map, List.length_singleton] at HK5
               clear hb5 ho5 hg5 hat5)
            | (refine step_call1 (by rfl) 47 (.tmp 26) _ (by rfl) Try.func47 (by kernel_rfl) (by kernel_rfl) _ (by rfl) ?_
               refine (HTc.out _ (by exact HK3.out.at_)).mono ?_
               rintro e w4 ⟨rfl, hm4, ha4⟩
               simp only [CallEnd]
               have HK4 := Lib.hid (HK3.out.step (((Mv.rfl_ _ _).drew).step hm4) ha4)
               have hc4 : w4.cell? ⟨V + 1, 2, none⟩ = some (.slice A0 ks.length c0) := Lib.cell_of_heap HK4.out.blk 2
               have hz4 : V + 1 < w4.heap.size := HK4.out.lt1
               clear hm4 ha4))
          all_goals
            go_wp2
            go_meet
            exact ⟨_, _, HK5⟩
        case rest =>
          obtain ⟨A, c, HK5⟩ := hcut
          obtain ⟨W5, rfl⟩ : ∃ W5 : World, W5 = wc := ⟨_, rfl⟩
          clear hcV HK3
          cases hwc : JsonP.want [58] tc with
          | none =>
            rw [hwc] at HEk
            have HX : Hid (kidsV n true deep l = .bad 20) := Lib.hid HEk.out.symm
            have HW := Lib.hid hwc
            clear hwc HEk
            go_wp2_with (first
              | (go_at_call 30; refine (blanks_any _ b s tx hs HK5.out.at_).mono ?_; rintro e w7 ⟨rfl, hm, ha⟩; rw [HTcb.out] at ha; have HK7 := Lib.hid (HK5.out.step hm ha); clear hm ha)
              | (go_at_call 46; refine (want_any ⟨#[58]⟩ (by decide) _ b s _ hs HK7.out.at_).mono ?_; rw [show (ByteArray.mk #[58]).data.toList = [58] from rfl, HW.out]; rintro e w9 ⟨hm9, i9, rfl⟩))
            rw [HX.out]
            exact ⟨rfl, HK7.out.mv.step hm9, i9, rfl⟩
          | some l1 =>
            rw [hwc] at HEk
            have hlw := JsonP.want_len hwc
            simp only [List.length_cons, List.length_nil] at hlw
            have hl1 : l1.length + 1 ≤ t.length := by omega
            have HW := Lib.hid hwc
            clear hwc
            obtain ⟨ks', hks'⟩ : ∃ ks', ks' = ks ++ [x] := ⟨_, rfl⟩
            have hksl : ks.length + 1 = ks'.length := by rw [hks', List.length_append, List.length_singleton]
            have hks2 : ks'.length + l1.length ≤ s.size := by omega
            rw [← hks', hksl] at HK5
            have HE1 : Hid ((match JsonP.value m deep l1 with
                | .bad c => JsonP.Res.bad c
                | .ok j l2 => match JsonP.has (JsonP.isEnd true) (JsonP.blanks l2) with
                  | some u => .ok (.mk (if true then 6 else 5) [] ks' (js ++ [j])) u
                  | none => match JsonP.want [44] (JsonP.blanks l2) with
                    | none => .bad 20
                    | some l3 => JsonP.items m true deep ks' (js ++ [j]) l3) = kidsV n true deep l) := Lib.hid (by rw [hks']; exact HEk.out)
            clear hks' HEk hksl
            go_upto_region 12 with (first
              | (go_at_call 30; refine (blanks_any _ b s tx hs HK5.out.at_).mono ?_; rintro e w7 ⟨rfl, hm, ha⟩; rw [HTcb.out] at ha; have HK7 := Lib.hid (HK5.out.step hm ha); clear hm ha)
              | (go_at_call 46; refine (want_any ⟨#[58]⟩ (by decide) _ b s _ hs HK7.out.at_).mono ?_; rw [show (ByteArray.mk #[58]).data.toList = [58] from rfl, HW.out]; rintro e w9 ⟨rfl, hm, ha⟩; have HK3 := Lib.hid (HK7.out.step hm ha); clear hm ha))
            clear HK5 HK7
            obtain ⟨w3, rfl⟩ : ∃ w3 : World, w3 = w9 := ⟨_, rfl⟩
            cases hvv : JsonP.value m deep l1 with
            | bad code =>
              rw [hvv] at HE1
              have HX : Hid (kidsV n true deep l = .bad code) := Lib.hid HE1.out.symm
              have HVc : Hid (∀ W, At W b s l1 → Calls Try.prog 29 #[.pointer (some ⟨b, 0, none⟩), .int .i64 deep] W fun e w' => Threw W b code e w') := Lib.hid fun W hW => by
                have := HV.out m (by omega) deep l1 W b s hs hW (by omega) hdeep
                rw [hvv] at this
                exact this
              clear hvv HE1
              have hcV : ∀ o, w3.cell? ⟨V + 1, o, none⟩ = #[Value.int .i64 6, .string ⟨#[]⟩, .slice A ks'.length c, .slice A' rs.length c'][o]? := fun o => Lib.cell_of_heap HK3.out.blk o
              refine wp_region_any (by kernel_rfl) ?_
              try (change wpAny _ _ _ _ _ _ _ (World.drew _))
              refine wpAny_take (i := 0) (v := ?_) rfl (by kernel_rfl) (by kernel_rfl) (by kernel_rfl) (fun _ _ _ h => h) (Or.inl ⟨by rfl, ?_⟩) ?_
              rotate_left
              (intro w; go_simp; try (with_reducible rfl))
              refine wpAny_take (i := 2) (v := ?_) rfl (by kernel_rfl) (by kernel_rfl) (by kernel_rfl) (fun _ _ _ h => h) (Or.inl ⟨by rfl, ?_⟩) ?_
              rotate_left
              (intro w; go_simp; try (with_reducible rfl))
              refine wpAny_take (i := 3) (v := ?_) rfl (by kernel_rfl) (by kernel_rfl) (by kernel_rfl) (fun _ _ _ h => h) (Or.inl ⟨by rfl, ?_⟩) ?_
              rotate_left
              (intro w; go_simp; try (with_reducible rfl))
              refine wpAny_ready (rs := [1, 4]) (by kernel_rfl) (by simp) ?_
              refine AllReady.cons rfl (fun K hK => ?_) ?_
              go_simp
              refine hK _ _ ?_
              clear hK K
              refine wpAny_ready (rs := [4]) (by kernel_rfl) (by simp) ?_
              refine AllReady.cons rfl (fun K hK => ?_) AllReady.nil
              go_simp
              go_wp2_with (go_at_call 29; refine (HVc.out _ (by exact HK3.out.at_)).mono ?_; rintro e w4 ⟨hm4, i4, rfl⟩)
              rw [HX.out]
              exact ⟨rfl, HK3.out.mv.step (((Mv.rfl_ _ _).drew).step hm4), i4, rfl⟩
              refine AllReady.cons rfl (fun K hK => ?_) AllReady.nil
              go_simp
              go_wp2_with (go_at_call 29; refine (HVc.out _ (by exact HK3.out.at_)).mono ?_; rintro e w4 ⟨hm4, i4, rfl⟩)
              rw [HX.out]
              exact ⟨rfl, HK3.out.mv.step (((Mv.rfl_ _ _).drew).step hm4), i4, rfl⟩
            | ok j t3 =>
              rw [hvv] at HE1
              have HVc : Hid (∀ W, At W b s l1 → Calls Try.prog 29 #[.pointer (some ⟨b, 0, none⟩), .int .i64 deep] W fun e w' => ∃ r : Raw, e = .returned (.agg r.cells.toArray) ∧ Mv b W w' ∧ At w' b s t3 ∧ Lies w' (fun k => W.heap.size ≤ k) j r) := Lib.hid fun W hW => by
                have := HV.out m (by omega) deep l1 W b s hs hW (by omega) hdeep
                rw [hvv] at this
                exact this
              have hl3 := JsonP.value_len hvv
              clear hvv
              have hcV : ∀ o, w3.cell? ⟨V + 1, o, none⟩ = #[Value.int .i64 6, .string ⟨#[]⟩, .slice A ks'.length c, .slice A' rs.length c'][o]? := fun o => Lib.cell_of_heap HK3.out.blk o
              go_cut [] (fun wx => ∃ (rx : Raw) (A5 : Option Addr) (c5 : Nat), Hid (KidsS w wx b V s 6 ks' (js ++ [j]) (rs ++ [rx]) (.slice A ks'.length c) (.slice A5 (rs.length + 1) c5) t3))
              case first =>
                go_region_law (first
                    | (refine step_call2 (by rfl) 29 (.tmp 37) (.tmp 38) _ (by rfl) Try.func29 (by kernel_rfl) (by kernel_rfl) _ _ (by rfl) (by rfl) ?_
                       refine (HVc.out _ (by exact HK3.out.at_)).mono ?_
                       rintro e w4 ⟨r, rfl, hm4, ha4, hl4⟩
                       obtain ⟨rk, rt, ra, rn, rc, ra2, rn2, rc2⟩ := r
                       simp only [CallEnd, Raw.cells]
                       have HK4 := Lib.hid (HK3.out.step (((Mv.rfl_ _ _).drew).step hm4) ha4)
                       have HL4 := Lib.hid hl4
                       have hc4 : w4.cell? ⟨V + 1, 3, none⟩ = some (.slice A' rs.length c') := Lib.cell_of_heap HK4.out.blk 3
                       have hz4 : V + 1 < w4.heap.size := HK4.out.lt1
                       clear hm4 ha4 hl4)
                    | (refine step_append_one (E := Eval) (base := V + 2) (l := rs) ⟨rk, rt, ra, rn, rc, ra2, rn2, rc2⟩ ⟨w4.heap.size, 0, none⟩ 1 rfl (.tmp 36) (.tmp 40) 35 (by rfl) 72 elValE (by rfl) (by exact HK4.out.kids.alloc _) (by rfl) (by exact news_new w4 _ _ _ rfl) (by unfold maxLen; omega) (by omega) ?_
                       intro v5 w5 ho5 hg5 hat5
                       have HK4a := Lib.hid (HK4.out.below ((Below.refl _ w4).alloc (Nat.le_refl _) (.cells #[.int .i64 rk, .string rt, .slice ra rn rc, .slice ra2 rn2 rc2] 37)))
                       have hb5 := HK4a.out.blkG hg5 (.inr rfl)
                       have hc5 := fun o => Lib.cell_of_heap hb5 o
                       have hz5 := fun o => Lib.frozen_of_heap hb5 o
                       have HLx := Lib.hid (Lies.on (Stand.below ((Below.refl _ w4).alloc (Nat.le_refl _) (.cells #[.int .i64 rk, .string rt, .slice ra rn rc, .slice ra2 rn2 rc2] 37))) _ _ (HK3.out.aside HL4.out))
                       have HK5 := Lib.hid (HK4a.out.addKid HLx.out ho5 hg5 hat5)
                       obtain ⟨A5, c5, rfl, hc5a, hc5b⟩ := ho5.form
                       simp only [List.length_append, List.length_singleton] at HK5
                       clear hb5 ho5 hg5 hat5)
                    | fail)
                all_goals
                  go_wp2
                  go_meet
                  exact ⟨_, _, _, HK5⟩
              case rest =>
              obtain ⟨rx, A5, c5, HK5⟩ := hcut
              obtain ⟨W6, rfl⟩ : ∃ W6 : World, W6 = wc := ⟨_, rfl⟩
              clear hcV HK3
              obtain ⟨t4, ht4⟩ : ∃ t4, JsonP.blanks t3 = t4 := ⟨_, rfl⟩
              have hl4 : t4.length ≤ t3.length := by rw [← ht4]; exact JsonP.blanks_len t3
              simp only [ht4] at HE1
              have HT4 := Lib.hid ht4
              clear ht4
              cases hh : JsonP.has (JsonP.isEnd true) t4 with
              | some u =>
                rw [hh] at HE1
                have HX : Hid (kidsV n true deep l = .ok (.mk 6 [] ks' (js ++ [j])) u) := Lib.hid HE1.out.symm
                obtain ⟨e1, e2⟩ := has_is hh
                have E3 := Lib.hid e1
                have E4 := Lib.hid e2
                clear hh e1 e2 HE1
                go_upto_region 15 with (first
                  | (go_at_call 30; refine (blanks_any _ b s t3 hs HK5.out.at_).mono ?_; rintro e w7 ⟨rfl, hm, ha⟩; rw [HT4.out] at ha; have HK7 := Lib.hid (HK5.out.step hm ha); clear hm ha)
                  | (go_at_call 59; refine (has_opt _ _ tells_end125 _ b s t4 hs HK7.out.at_).mono ?_; rintro e w8 ⟨rfl, hm, ha⟩; rw [E3.out]; rw [E4.out] at ha; have HK8 := Lib.hid (HK7.out.step hm ha); clear hm ha))
                have hcV := fun o => Lib.cell_of_heap HK8.out.blk o
                have hcR := fun o => Lib.cell_of_heap HK8.out.res o
                have hzR := fun o => Lib.frozen_of_heap HK8.out.res o
                go_wp2
                refine bodyPost_ret (v := .agg #[.int .i64 6, .string ⟨#[]⟩, .slice A ks'.length c, .slice A5 (rs.length + 1) c5]) ?_ rfl ?_
                · simp [results, Try.results50, go_sem, hcR]
                · rw [HX.out]
                  exact ⟨⟨6, ⟨#[]⟩, _, _, _, _, _, _⟩, rfl, HK8.out.ret 6 rfl⟩
              | none =>
                rw [hh] at HE1
                obtain ⟨e1, e2⟩ := has_no hh
                have E3 := Lib.hid e1
                have E4 := Lib.hid e2
                clear hh e1 e2
                cases hw : JsonP.want [44] t4 with
                | none =>
                  rw [hw] at HE1
                  have HX : Hid (kidsV n true deep l = .bad 20) := Lib.hid HE1.out.symm
                  have HW := Lib.hid hw
                  clear hw HE1
                  go_wp2_with (first
                    | (go_at_call 30; refine (blanks_any _ b s t3 hs HK5.out.at_).mono ?_; rintro e w7 ⟨rfl, hm, ha⟩; rw [HT4.out] at ha; have HK7 := Lib.hid (HK5.out.step hm ha); clear hm ha)
                    | (go_at_call 59; refine (has_opt _ _ tells_end125 _ b s t4 hs HK7.out.at_).mono ?_; rintro e w8 ⟨rfl, hm, ha⟩; rw [E3.out]; rw [E4.out] at ha; have HK8 := Lib.hid (HK7.out.step hm ha); clear hm ha)
                    | (go_at_call 46; refine (want_any ⟨#[44]⟩ (by decide) _ b s _ hs HK8.out.at_).mono ?_; rw [show (ByteArray.mk #[44]).data.toList = [44] from rfl, HW.out]; rintro e w9 ⟨hm9, i9, rfl⟩))
                  rw [HX.out]
                  exact ⟨rfl, HK8.out.mv.step hm9, i9, rfl⟩
                | some t5 =>
                  rw [hw] at HE1
                  have hl5 := JsonP.want_len hw
                  simp only [List.length_cons, List.length_nil] at hl5
                  have HW := Lib.hid hw
                  clear hw
                  go_wp2_with (first
                    | (go_at_call 30; refine (blanks_any _ b s t3 hs HK5.out.at_).mono ?_; rintro e w7 ⟨rfl, hm, ha⟩; rw [HT4.out] at ha; have HK7 := Lib.hid (HK5.out.step hm ha); clear hm ha)
                    | (go_at_call 59; refine (has_opt _ _ tells_end125 _ b s t4 hs HK7.out.at_).mono ?_; rintro e w8 ⟨rfl, hm, ha⟩; rw [E3.out]; rw [E4.out] at ha; have HK8 := Lib.hid (HK7.out.step hm ha); clear hm ha)
                    | (go_at_call 46; refine (want_any ⟨#[44]⟩ (by decide) _ b s _ hs HK8.out.at_).mono ?_; rw [show (ByteArray.mk #[44]).data.toList = [44] from rfl, HW.out]; rintro e w9 ⟨rfl, hm, ha⟩; have HK9 := Lib.hid (HK8.out.step hm ha); clear hm ha))
                  go_roundg m
                  case measure => omega
                  case rel => exact ⟨ks', js ++ [j], rs ++ [rx], _, _, t5, HE1, by omega, by omega, by omega, by simp only [List.length_append, List.length_singleton]; omega, HK9⟩

theorem kids_step (n : Nat) (hv : ∀ m, m < n → ValueP m) : KidsP n := by
  intro ob deep l w b s hs h hn hdeep
  cases ob
  · exact kids_list n hv deep l w b s hs h hn hdeep
  · exact kids_object n hv deep l w b s hs h hn hdeep
theorem value_all (n : Nat) : ValueP n := by
  induction n using Nat.strongRecOn with
  | _ n ih =>
    cases n with
    | zero => exact value_zero
    | succ n => exact value_step n (kids_step n fun m hm => ih m (by omega))

end Go.Proofs.Ytemcflfgoelpiaa
