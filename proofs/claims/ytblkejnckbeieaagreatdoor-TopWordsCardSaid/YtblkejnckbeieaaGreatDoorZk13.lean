/- Chapter 10: the parser of patterns: a row of pieces, by the contract of an atom. -/
import Derived.Test.YtblkejnckbeieaaGreatDoorZk12
namespace Go.Proofs.YtblkejnckbeieaaGreatDoor
open Go.RowKit SetPure

def overT (a b : Int) : Prop := 64 < a ∨ 64 < b ∨ 0 ≤ b ∧ b < a
instance (a b : Int) : Decidable (overT a b) := by unfold overT; infer_instance
theorem goS_row (rs : List Int) (m : Nat) (l : List SynP.Nd) (so : Bool) (s : SynP.St) : goS rs (m + 1) (.row l so) s =
    if SynP.pk rs s.at_ = -1 ∨ SynP.pk rs s.at_ = 124 then .ok (some (SynP.whole 8 l), s)
    else if SynP.pk rs s.at_ = 41 then (if s.opn = [] then .bad 25 s.at_ else .ok (some (SynP.whole 8 l), s))
    else match SynP.times rs s.at_ with
      | some (a, b, j) => if so = false then .bad 23 s.at_ else if overT a b then .bad 23 s.at_
        else goS rs m (.row (l.dropLast ++ (l.getLast?.map (SynP.Nd.rep a b (decide (SynP.pk rs j = 63) != s.fl.lazy))).toList) false) { s with at_ := if SynP.pk rs j = 63 then j + 1 else j }
      | none => match goS rs m .atom s with
        | .bad e k => .bad e k
        | .ok (x, s1) => goS rs m (.row (l ++ x.toList) x.isSome) s1 := by
  unfold goS overT
  rw [SynP.go]
  rfl
theorem timesJ_le {rs : List Int} {i : Nat} (hi : i ≤ rs.length) : i ≤ timesJ i (SynP.times rs i) ∧ timesJ i (SynP.times rs i) ≤ rs.length := by
  cases h : SynP.times rs i with
  | none => exact ⟨Nat.le_refl _, hi⟩
  | some x =>
    obtain ⟨a, b, j⟩ := x
    have := SynP.times_at h
    exact ⟨by show i ≤ j; omega, this.2⟩
theorem setRow_alloc (w : World) (z c : Array Value) (t : TypeId) : (w.alloc (.cells z t)).setRow w.heap.size c = w.alloc (.cells c t) := by
  unfold World.setRow World.alloc
  congr 1
  refine Array.ext (by simp) (fun i h1 h2 => ?_)
  rw [Array.getElem_modify]
  by_cases hi : w.heap.size = i
  · subst hi; simp
  · rw [if_neg hi, Array.getElem_push_lt (by simp at h1; omega), Array.getElem_push_lt (by simp at h1; omega)]
theorem wpList_store_new {P : Program} {ops : Array Oper} {rest : List Oper} {o : Oper} {a : Act} {w : World} {Q : Exit → Act → World → Prop} (hgd : o.guard = none) (ty : TypeId) (x y : Operand) (ho : o.op = .store ty x y)
    (cells : Array Value) (hx : a.eval x = .pointer (some ⟨w.heap.size, 0, none⟩)) (hy : a.eval y = .agg cells) (t : TypeId) (z : Array Value) (hi : (P.info? ty).map (·.size) = some cells.size) (hz : z.size = cells.size) (h1 : cells.all (·.oneCell') = true)
    (h : wpList P ops Q rest (a.put o.dst undef) (w.alloc (.cells cells t))) : wpList P ops Q (o :: rest) a (w.alloc (.cells z t)) :=
  wpList_store_row hgd ty x y ho w.heap.size cells hx hy t z (heap_alloc_new w _) hi hz h1 (by rw [setRow_alloc]; exact h)

theorem Mv.of_drewA {p : Nat} {w w' : World} {o : Obj} (h : Mv p (w.drew.alloc o) w') : Mv p (w.drew.alloc o) w' := h
theorem below_drew_alloc (w : World) (o : Obj) : Below w.heap.size w (w.drew.alloc o) := (Below.refl _ w).drew.alloc (Nat.le_refl _) o
theorem kid_drew {p : Nat} (w : World) {w' : World} (o : Obj) (h : Mv p (w.drew.alloc o) w') (hp : p < w.heap.size) : w'.heap[w.heap.size]? = some o :=
  (h.heap (by show w.heap.size < (w.drew.alloc o).heap.size; simp) (by omega)).trans (heap_alloc_new w.drew o)

set_option maxRecDepth 100000 in
set_option maxHeartbeats 12800000 in
theorem row_any (n : Nat) (hr : ∀ m, m < n → AtomC m) : RowC n := by
  intro s w X p hsc hps hat hn
  have HSc := Lib.hid hsc
  have hfew := hps.at_.few
  have HAt := Lib.hid hr
  obtain ⟨R, hR⟩ : ∃ R, goS X.rs n (.row [] false) s = R := ⟨_, rfl⟩
  rw [hR]
  have HR0 := Lib.hid hR
  obtain ⟨V, hV⟩ : ∃ V, w.heap.size = V := ⟨_, rfl⟩
  have HVe := Lib.hid hV
  have HK0 := Lib.hid (NdS.start hps hV)
  clear hsc hr hR hV hps
  go_enter Tryz.func65, Tryz.ntmps65
  go_upto_region 3 with fail
  rw [HVe.out]
  unfold zeroA at HK0
  generalize w.alloc (.cells #[.int .i64 0, .slice none 0 0, .bool false, .int .i64 0, .int .i64 0, .bool false, .int .i64 0, .string ⟨#[]⟩, .slice none 0 0] 29) = W0 at HK0 ⊢
  go_loopg [3, 4] n (fun k s3 s4 wr => ∃ (l : List SynP.Nd) (rs : List RawN) (p : Pv) (s : SynP.St) (so : Bool), s4 = .bool so ∧ Hid (goS X.rs k (.row l so) s = R) ∧ Hid (NdS w wr V X p s l rs s3) ∧ s.at_ ≤ X.rs.length ∧ 3 * (X.rs.length - s.at_) + 1 ≤ k ∧ rs.length ≤ s.at_ ∧ k ≤ n ∧ (so = true → 0 < rs.length))
  case atStart => exact ⟨[], [], p, s, false, rfl, HR0, HK0, hat, hn, by simp, Nat.le_refl _, fun h => by cases h⟩
  case round =>
    clear HR0 HK0 hat hn
    obtain ⟨l, rs, p, s, so, rfl, HE, HK, hat, hk, hrs, hkn, hso⟩ := hrel
    obtain ⟨m, rfl⟩ : ∃ m, gk = m + 1 := ⟨gk - 1, by omega⟩
    obtain ⟨A0, c0, rfl, hc0, hm0⟩ := HK.out.own.form
    have HHso := Lib.hid hso
    clear hso
    have hE := HE.out
    rw [goS_row] at hE
    clear HE
    have HPk := pkIs X p s.at_
    have HT := Lib.hid (fun w h => times_any w X p s.at_ h)
    obtain ⟨c, hcE⟩ : ∃ c, SynP.pk X.rs s.at_ = c := ⟨_, rfl⟩
    rw [hcE] at HPk hE
    have hc := HK.out.ps.at_.cell
    have hopf := HK.out.ps.opn.form
    obtain ⟨Ao, co, hop, _, _⟩ := hopf
    rw [List.length_map] at hop
    have hpc : ∀ w', p.op = .slice Ao s.opn.length co → w' = p.op → w' = .slice Ao s.opn.length co := fun w' h1 h2 => h2.trans h1
    clear hpc
    by_cases q1 : c = -1
    · rw [if_pos (.inl q1)] at hE
      have HR := Lib.hid hE
      clear hE hcE
      subst q1
      go_wp2_with (first | (go_at_call 100; refine (HPk.out _ HK.out.ps.at_).mono ?_; rintro e w1 ⟨rfl, hm1, ha1⟩; replace HK := Lib.hid (HK.out.mv hm1 ha1 (Nat.le_refl _)); clear hm1 ha1; replace hc := HK.out.ps.at_.cell) | (go_at_call 67; refine (whole_any 8 (fun k => V + 1 ≤ k) l rs A0 c0 _ HK.out.len hc0 hm0 (KidsAt.own HK.out.own (fun _ h => h)) (LiesL.mono (fun _ h _ => h.1) _ _ HK.out.lies)).mono ?_; rintro e w4 ⟨rw4, rfl, hb4, hl4⟩; have HB4 := Lib.hid hb4; have HL4 := Lib.hid hl4; clear hb4 hl4) | (refine wpList_store_row rfl 29 (.tmp 2) (.tmp 24) rfl V rw4.cells.toArray rfl rfl 29 zeroA (HK.out.below HB4.out).box sizeN rfl (cellsN_one _) ?_))
      refine retN rfl rw4 rfl (setRow_heap _ _ _ _ _ _ (HK.out.below HB4.out).box) rfl ?_
      obtain ⟨e1, e2, e3⟩ := HK.out.ret HB4.out HL4.out
      rw [← HR.out]
      exact ⟨rw4, p, rfl, e1, e2, e3⟩
    by_cases q2 : c = 124
    · rw [if_pos (.inr q2)] at hE
      have HR := Lib.hid hE
      clear hE hcE
      subst q2
      go_wp2_with (first | (go_at_call 100; refine (HPk.out _ HK.out.ps.at_).mono ?_; rintro e w1 ⟨rfl, hm1, ha1⟩; replace HK := Lib.hid (HK.out.mv hm1 ha1 (Nat.le_refl _)); clear hm1 ha1; replace hc := HK.out.ps.at_.cell) | (go_at_call 67; refine (whole_any 8 (fun k => V + 1 ≤ k) l rs A0 c0 _ HK.out.len hc0 hm0 (KidsAt.own HK.out.own (fun _ h => h)) (LiesL.mono (fun _ h _ => h.1) _ _ HK.out.lies)).mono ?_; rintro e w4 ⟨rw4, rfl, hb4, hl4⟩; have HB4 := Lib.hid hb4; have HL4 := Lib.hid hl4; clear hb4 hl4) | (refine wpList_store_row rfl 29 (.tmp 2) (.tmp 24) rfl V rw4.cells.toArray rfl rfl 29 zeroA (HK.out.below HB4.out).box sizeN rfl (cellsN_one _) ?_))
      refine retN rfl rw4 rfl (setRow_heap _ _ _ _ _ _ (HK.out.below HB4.out).box) rfl ?_
      obtain ⟨e1, e2, e3⟩ := HK.out.ret HB4.out HL4.out
      rw [← HR.out]
      exact ⟨rw4, p, rfl, e1, e2, e3⟩
    rw [if_neg (by omega)] at hE
    have hin := pk_in (rs := X.rs) (i := s.at_) (by omega)
    by_cases q3 : c = 41
    · rw [if_pos q3] at hE
      rw [hop] at hc
      by_cases q4 : s.opn = []
      · rw [if_pos q4] at hE
        have HR := Lib.hid hE
        rw [q4] at hc
        have hE := hE
        clear hE hcE
        subst q3
        go_upto_region 10 with (go_at_call 100; refine (HPk.out _ HK.out.ps.at_).mono ?_; rintro e w1 ⟨rfl, hm1, ha1⟩; replace HK := Lib.hid (HK.out.mv hm1 ha1 (Nat.le_refl _)); clear hm1 ha1; replace hc := HK.out.ps.at_.cell)
        rw [hop, q4] at hc
        go_wp2_with (go_at_call 101; refine (fail_any _ s.at_ _ X p _ HK.out.ps.at_ (by omega)).mono ?_; rintro e w1 ⟨hm1, he1⟩; unfold thrown at he1; subst he1; have HP := Lib.hid (HK.out.pm.step (Pm.mv HK.out.ps.at_ hm1)); clear hm1)
        rw [← HR.out]; exact ⟨rfl, HP.out, rfl⟩
      · rw [if_neg q4] at hE
        have HR := Lib.hid hE
        have q5 : 0 < s.opn.length := List.length_pos_iff.2 q4
        have q6 : ¬ (s.opn.length : Int) = 0 := by omega
        have q7 : ((s.opn.length : Int) == 0) = false := beq_eq_false_iff_ne.2 q6
        clear hE hcE
        subst q3
        go_upto_region 10 with (go_at_call 100; refine (HPk.out _ HK.out.ps.at_).mono ?_; rintro e w1 ⟨rfl, hm1, ha1⟩; replace HK := Lib.hid (HK.out.mv hm1 ha1 (Nat.le_refl _)); clear hm1 ha1; replace hc := HK.out.ps.at_.cell)
        rw [hop] at hc
        go_wp2_with (first | (go_at_call 100; refine (HPk.out _ HK.out.ps.at_).mono ?_; rintro e w1 ⟨rfl, hm1, ha1⟩; replace HK := Lib.hid (HK.out.mv hm1 ha1 (Nat.le_refl _)); clear hm1 ha1; replace hc := HK.out.ps.at_.cell) | (go_at_call 67; refine (whole_any 8 (fun k => V + 1 ≤ k) l rs A0 c0 _ HK.out.len hc0 hm0 (KidsAt.own HK.out.own (fun _ h => h)) (LiesL.mono (fun _ h _ => h.1) _ _ HK.out.lies)).mono ?_; rintro e w4 ⟨rw4, rfl, hb4, hl4⟩; have HB4 := Lib.hid hb4; have HL4 := Lib.hid hl4; clear hb4 hl4) | (refine wpList_store_row rfl 29 (.tmp 2) (.tmp 40) rfl V rw4.cells.toArray rfl rfl 29 zeroA (HK.out.below HB4.out).box sizeN rfl (cellsN_one _) ?_))
        refine retN rfl rw4 rfl (setRow_heap _ _ _ _ _ _ (HK.out.below HB4.out).box) rfl ?_
        obtain ⟨e1, e2, e3⟩ := HK.out.ret HB4.out HL4.out
        rw [← HR.out]
        exact ⟨rw4, p, rfl, e1, e2, e3⟩
    rw [if_neg q3] at hE
    have hTle := timesJ_le hat
    obtain ⟨hT1, hT2⟩ := hTle
    cases hti : SynP.times X.rs s.at_ with
    | some x =>
      obtain ⟨a, b, j⟩ := x
      rw [hti] at hE HT hT1 hT2
      simp only at hE
      simp only [timesV, timesJ] at HT hT1 hT2
      by_cases t1 : so = false
      · rw [if_pos t1] at hE
        subst t1
        clear hcE
        have HR := Lib.hid hE
        clear hE
        have nm1 : (c == -1) = false := beq_eq_false_iff_ne.2 (by omega)
        have n124 : (c == 124) = false := beq_eq_false_iff_ne.2 (by omega)
        have n41 : (c == 41) = false := beq_eq_false_iff_ne.2 (by omega)

        go_wp2_with (first | (go_at_call 100; refine (HPk.out _ HK.out.ps.at_).mono ?_; rintro e w1 ⟨rfl, hm1, ha1⟩; replace HK := Lib.hid (HK.out.mv hm1 ha1 (Nat.le_refl _)); clear hm1 ha1; replace hc := HK.out.ps.at_.cell) | (go_at_call 102; refine (HT.out _ HK.out.ps.at_).mono ?_; rintro e w1 ⟨rfl, hm1, ha1⟩; replace HK := Lib.hid (HK.out.mv hm1 ha1 (by omega)); clear hm1 ha1; replace hc := HK.out.ps.at_.cell) | (go_at_call 101; refine (fail_any _ s.at_ _ X p _ HK.out.ps.at_ (by omega)).mono ?_; rintro e w1 ⟨hm1, he1⟩; unfold thrown at he1; subst he1; have HP := Lib.hid (HK.out.pm.step (Pm.mv HK.out.ps.at_ hm1)); clear hm1))
        rw [← HR.out]; exact ⟨rfl, HP.out, rfl⟩
      rw [if_neg t1] at hE
      have t2 : so = true := by cases so with | false => exact absurd rfl t1 | true => rfl
      subst t2
      by_cases t3 : overT a b
      · rw [if_pos t3] at hE
        unfold overT at t3
        clear hcE
        rcases (by omega : 64 < a ∨ (a ≤ 64 ∧ 64 < b) ∨ (a ≤ 64 ∧ b ≤ 64 ∧ 0 ≤ b ∧ b < a)) with t4 | ⟨t4, t5⟩ | ⟨t4, t5, t6, t7⟩
        · have HR := Lib.hid hE
          clear hE
          have nm1 : (c == -1) = false := beq_eq_false_iff_ne.2 (by omega)
          have n124 : (c == 124) = false := beq_eq_false_iff_ne.2 (by omega)
          have n41 : (c == 41) = false := beq_eq_false_iff_ne.2 (by omega)

          go_wp2_with (first | (go_at_call 100; refine (HPk.out _ HK.out.ps.at_).mono ?_; rintro e w1 ⟨rfl, hm1, ha1⟩; replace HK := Lib.hid (HK.out.mv hm1 ha1 (Nat.le_refl _)); clear hm1 ha1; replace hc := HK.out.ps.at_.cell) | (go_at_call 102; refine (HT.out _ HK.out.ps.at_).mono ?_; rintro e w1 ⟨rfl, hm1, ha1⟩; replace HK := Lib.hid (HK.out.mv hm1 ha1 (by omega)); clear hm1 ha1; replace hc := HK.out.ps.at_.cell) | (go_at_call 101; refine (fail_any _ s.at_ _ X p _ HK.out.ps.at_ (by omega)).mono ?_; rintro e w1 ⟨hm1, he1⟩; unfold thrown at he1; subst he1; have HP := Lib.hid (HK.out.pm.step (Pm.mv HK.out.ps.at_ hm1)); clear hm1))
          rw [← HR.out]; exact ⟨rfl, HP.out, rfl⟩
        · have HR := Lib.hid hE
          clear hE
          have nm1 : (c == -1) = false := beq_eq_false_iff_ne.2 (by omega)
          have n124 : (c == 124) = false := beq_eq_false_iff_ne.2 (by omega)
          have n41 : (c == 41) = false := beq_eq_false_iff_ne.2 (by omega)
          have d1 : decide (64 < a) = false := decide_eq_false (by omega)
          go_wp2_with (first | (go_at_call 100; refine (HPk.out _ HK.out.ps.at_).mono ?_; rintro e w1 ⟨rfl, hm1, ha1⟩; replace HK := Lib.hid (HK.out.mv hm1 ha1 (Nat.le_refl _)); clear hm1 ha1; replace hc := HK.out.ps.at_.cell) | (go_at_call 102; refine (HT.out _ HK.out.ps.at_).mono ?_; rintro e w1 ⟨rfl, hm1, ha1⟩; replace HK := Lib.hid (HK.out.mv hm1 ha1 (by omega)); clear hm1 ha1; replace hc := HK.out.ps.at_.cell) | (go_at_call 101; refine (fail_any _ s.at_ _ X p _ HK.out.ps.at_ (by omega)).mono ?_; rintro e w1 ⟨hm1, he1⟩; unfold thrown at he1; subst he1; have HP := Lib.hid (HK.out.pm.step (Pm.mv HK.out.ps.at_ hm1)); clear hm1))
          rw [← HR.out]; exact ⟨rfl, HP.out, rfl⟩
        · have HR := Lib.hid hE
          clear hE
          have nm1 : (c == -1) = false := beq_eq_false_iff_ne.2 (by omega)
          have n124 : (c == 124) = false := beq_eq_false_iff_ne.2 (by omega)
          have n41 : (c == 41) = false := beq_eq_false_iff_ne.2 (by omega)
          have d1 : decide (64 < a) = false := decide_eq_false (by omega)
          have d2 : decide (64 < b) = false := decide_eq_false (by omega)
          go_wp2_with (first | (go_at_call 100; refine (HPk.out _ HK.out.ps.at_).mono ?_; rintro e w1 ⟨rfl, hm1, ha1⟩; replace HK := Lib.hid (HK.out.mv hm1 ha1 (Nat.le_refl _)); clear hm1 ha1; replace hc := HK.out.ps.at_.cell) | (go_at_call 102; refine (HT.out _ HK.out.ps.at_).mono ?_; rintro e w1 ⟨rfl, hm1, ha1⟩; replace HK := Lib.hid (HK.out.mv hm1 ha1 (by omega)); clear hm1 ha1; replace hc := HK.out.ps.at_.cell) | (go_at_call 101; refine (fail_any _ s.at_ _ X p _ HK.out.ps.at_ (by omega)).mono ?_; rintro e w1 ⟨hm1, he1⟩; unfold thrown at he1; subst he1; have HP := Lib.hid (HK.out.pm.step (Pm.mv HK.out.ps.at_ hm1)); clear hm1))
          rw [← HR.out]; exact ⟨rfl, HP.out, rfl⟩
      rw [if_neg t3] at hE
      unfold overT at t3
      have hpos := HHso.out rfl
      obtain ⟨rs0, r, hrs0⟩ : ∃ rs0 r, rs = rs0 ++ [r] := by
        rcases List.eq_nil_or_concat rs with h | ⟨a, b, h⟩
        · rw [h] at hpos; exact absurd hpos (by simp)
        · exact ⟨a, b, by rw [h, List.concat_eq_append]⟩
      have hlp : 0 < l.length := by have := HK.out.len; omega
      obtain ⟨l0, nd, hl0⟩ : ∃ l0 nd, l = l0 ++ [nd] := by
        rcases List.eq_nil_or_concat l with h | ⟨a, b, h⟩
        · rw [h] at hlp; exact absurd hlp (by simp)
        · exact ⟨a, b, by rw [h, List.concat_eq_append]⟩
      subst hrs0; subst hl0
      simp only [List.dropLast_concat, List.getLast?_concat, Option.map_some, Option.toList_some] at hE
      have HE2 := Lib.hid hE
      obtain ⟨g, cg, hvg, _, _, _, _, _⟩ := own_node HK.out.own
      have hA0 : A0 = some ⟨g, 0, none⟩ := congrArg (fun v => match v with | .slice a _ _ => a | _ => none) hvg
      subst hA0
      have hnn : (rs0 ++ [r]).length = rs0.length + 1 := by simp
      rw [hnn] at HK hrs ⊢
      obtain ⟨r0, r1, r2, r3, r4, r5, r6, r7, r8, r9, ra, rb, rc⟩ := r
      clear hE hcE hvg hpos hlp HHso hnn
      have d1 : decide (64 < a) = false := decide_eq_false (by omega)
      have d2 : decide (64 < b) = false := decide_eq_false (by omega)
      have nm1 : (c == -1) = false := beq_eq_false_iff_ne.2 (by omega)
      have n124 : (c == 124) = false := beq_eq_false_iff_ne.2 (by omega)
      have n41 : (c == 41) = false := beq_eq_false_iff_ne.2 (by omega)
      have HTj := Lib.hid hT2
      obtain ⟨b63, hb63⟩ : ∃ b63, b63 = decide (SynP.pk X.rs j = 63) := ⟨_, rfl⟩
      have HB63 : Hid (b63 = decide (SynP.pk X.rs j = ((63 : UInt8).toNat : Int))) := Lib.hid hb63
      obtain ⟨jj, hjj⟩ : ∃ jj, (if b63 = true then j + 1 else j) = jj := ⟨_, rfl⟩
      have HJj := Lib.hid hjj
      have hjc : j ≤ jj ∧ jj ≤ X.rs.length := by
        cases hb : b63 with
        | true =>
          rw [hb] at hjj hb63
          have hp : SynP.pk X.rs j = 63 := of_decide_eq_true hb63.symm
          have := pk_in (rs := X.rs) (i := j) (by omega)
          rw [if_pos rfl] at hjj
          omega
        | false =>
          rw [hb, if_neg (by decide)] at hjj
          omega
      have hti2 := SynP.times_at hti
      have HJl : Hid (j ≤ jj) := Lib.hid hjc.1
      have HJ2 : Hid (jj ≤ X.rs.length) := Lib.hid hjc.2
      have HJ3 : Hid (3 * (X.rs.length - jj) + 1 ≤ m) := Lib.hid (by obtain ⟨h1, h2⟩ := hjc; obtain ⟨h3, h4⟩ := hti2; omega)
      have hE3 : goS X.rs m (.row (l0 ++ [SynP.Nd.rep a b (b63 != p.f.lazy) nd]) false) { s with at_ := jj } = R := by
        rw [← HE2.out, HK.out.ps.fl, hb63]
        congr 2
        rw [← hjj]
        by_cases hp : SynP.pk X.rs j = 63
        · rw [if_pos hp, if_pos (by rw [hb63]; exact decide_eq_true hp)]
        · rw [if_neg hp, if_neg (by rw [hb63]; simp [hp])]
      have HE3 := Lib.hid hE3
      have hsj : s.at_ ≤ j := by obtain ⟨h3, h4⟩ := hti2; omega
      clear hb63 hjj hjc hti2 hE3 hti HE2
      rcases (by omega : b < 0 ∨ 0 ≤ b ∧ ¬ b < a) with t6 | ⟨t6, t7⟩
      · have d3 : decide (0 ≤ b) = false := decide_eq_false (by omega)
        clear t6 t3
        go_upto_region 20 with (first | (go_at_call 100; refine (HPk.out _ HK.out.ps.at_).mono ?_; rintro e w1 ⟨rfl, hm1, ha1⟩; replace HK := Lib.hid (HK.out.mv hm1 ha1 (Nat.le_refl _)); clear hm1 ha1; replace hc := HK.out.ps.at_.cell) | (go_at_call 102; refine (HT.out _ HK.out.ps.at_).mono ?_; rintro e w1 ⟨rfl, hm1, ha1⟩; replace HK := Lib.hid (HK.out.mv hm1 ha1 (by omega)); clear hm1 ha1; replace hc := HK.out.ps.at_.cell))
        have hl0 := HK.out.lastcell.1
        have hl1 := HK.out.lastcell.2.1
        have hgV := HK.out.lastcell.2.2.1
        have hl3 := HK.out.lastcell.2.2.2
        have e0 := hl0 0 (by omega)
        have e1 := hl0 1 (by omega)
        have e2 := hl0 2 (by omega)
        have e3 := hl0 3 (by omega)
        have e4 := hl0 4 (by omega)
        have e5 := hl0 5 (by omega)
        have e6 := hl0 6 (by omega)
        have e7 := hl0 7 (by omega)
        have e8 := hl0 8 (by omega)
        simp only [Nat.add_zero] at e0
        simp only [RawN.cells, List.getElem?_cons_zero, List.getElem?_cons_succ] at e0 e1 e2 e3 e4 e5 e6 e7 e8
        clear hl0
        have hxb := HK.out.ps.at_.lt
        have HXb := Lib.hid hxb
        have HGV := Lib.hid hgV
        have HGl := Lib.hid hl3
        have HV1 := Lib.hid HK.out.lt
        go_region_with (first | (go_at_call 66; refine (has1 63 _ X p _ (HK.out.ps.at_.drewN 1) b63 HB63.out).mono ?_; rintro e w3 ⟨rfl, hm3, ha3⟩; rw [HJj.out] at ha3; have hk3 := HK.out.mv (Mv.of_drew hm3) ha3 HJl.out; have hl0 := hk3.lastcell.1; have hl1 := hk3.lastcell.2.1; have hl3 := hk3.lastcell.2.2.2; have f0 := hl0 0 (by omega); have f1 := hl0 1 (by omega); have f2 := hl0 2 (by omega); have f3 := hl0 3 (by omega); have f4 := hl0 4 (by omega); have f5 := hl0 5 (by omega); have f6 := hl0 6 (by omega); have f7 := hl0 7 (by omega); have f8 := hl0 8 (by omega); simp only [Nat.add_zero] at f0; simp only [RawN.cells, List.getElem?_cons_zero, List.getElem?_cons_succ] at f0 f1 f2 f3 f4 f5 f6 f7 f8; have HK3 := Lib.hid hk3; have hc3 := hk3.ps.at_.cell; have hx3 := hk3.ps.at_.lt; clear hl0 hk3 hm3 ha3) | (go_at_call 66; refine (has1 63 _ X p _ ((HK.out.ps.at_.drewN 1).below ((Below.refl _ _).alloc (Nat.le_refl _) (.cells #[.int .i64 r0, .slice r1 r2 r3, .bool r4, .int .i64 r5, .int .i64 r6, .bool r7, .int .i64 r8, .string r9, .slice ra rb rc] 29))) b63 HB63.out).mono ?_; rintro e w3 ⟨rfl, hm3, ha3⟩; rw [HJj.out] at ha3; have hk3 := (HK.out.below (below_drew_alloc w1 (.cells #[.int .i64 r0, .slice r1 r2 r3, .bool r4, .int .i64 r5, .int .i64 r6, .bool r7, .int .i64 r8, .string r9, .slice ra rb rc] 29))).mv hm3 ha3 HJl.out; have hkid := kid_drew w1 (.cells #[.int .i64 r0, .slice r1 r2 r3, .bool r4, .int .i64 r5, .int .i64 r6, .bool r7, .int .i64 r8, .string r9, .slice ra rb rc] 29) hm3 HXb.out; have HKid := Lib.hid hkid; clear hkid; have hl0 := hk3.lastcell.1; have hl1 := hk3.lastcell.2.1; have hl3 := hk3.lastcell.2.2.2; have f0 := hl0 0 (by omega); have f1 := hl0 1 (by omega); have f2 := hl0 2 (by omega); have f3 := hl0 3 (by omega); have f4 := hl0 4 (by omega); have f5 := hl0 5 (by omega); have f6 := hl0 6 (by omega); have f7 := hl0 7 (by omega); have f8 := hl0 8 (by omega); simp only [Nat.add_zero] at f0; simp only [RawN.cells, List.getElem?_cons_zero, List.getElem?_cons_succ] at f0 f1 f2 f3 f4 f5 f6 f7 f8; have HK3 := Lib.hid hk3; have hc3 := hk3.ps.at_.cell; have hx3 := hk3.ps.at_.lt; clear hl0 hk3 hm3 ha3))
        all_goals
          go_wp2
          first
          | (have hfin := HK3.out.quant HKid.out (by have := HV1.out; omega) (by have := HGl.out; omega) a b (b63 != p.f.lazy)
             go_roundg m
             case measure => omega
             case rel => exact ⟨l0 ++ [SynP.Nd.rep a b (b63 != p.f.lazy) nd], _, p, _, false, rfl, HE3, Lib.hid hfin, HJ2.out, HJ3.out, by rw [List.length_append, List.length_singleton]; show _ ≤ jj; have := HJl.out; omega, by omega, fun h => by cases h⟩)
          | (have hba := (Below.refl w3.heap.size w3).alloc (Nat.le_refl _) (.cells #[.int .i64 r0, .slice r1 r2 r3, .bool r4, .int .i64 r5, .int .i64 r6, .bool r7, .int .i64 r8, .string r9, .slice ra rb rc] 29)
             have hfin := (HK3.out.below hba).quant (heap_alloc_new w3 (.cells #[.int .i64 r0, .slice r1 r2 r3, .bool r4, .int .i64 r5, .int .i64 r6, .bool r7, .int .i64 r8, .string r9, .slice ra rb rc] 29)) (by have := HK3.out.lt; omega) (by have := hl3; omega) a b (b63 != p.f.lazy)
             rw [put9_alloc _ _ _ _ _ hl3] at hfin
             go_roundg m
             case measure => omega
             case rel => exact ⟨l0 ++ [SynP.Nd.rep a b (b63 != p.f.lazy) nd], _, p, _, false, rfl, HE3, Lib.hid hfin, HJ2.out, HJ3.out, by rw [List.length_append, List.length_singleton]; show _ ≤ jj; have := HJl.out; omega, by omega, fun h => by cases h⟩)

      · have d3 : decide (b < a) = false := decide_eq_false t7
        clear t7 t3
        go_upto_region 20 with (first | (go_at_call 100; refine (HPk.out _ HK.out.ps.at_).mono ?_; rintro e w1 ⟨rfl, hm1, ha1⟩; replace HK := Lib.hid (HK.out.mv hm1 ha1 (Nat.le_refl _)); clear hm1 ha1; replace hc := HK.out.ps.at_.cell) | (go_at_call 102; refine (HT.out _ HK.out.ps.at_).mono ?_; rintro e w1 ⟨rfl, hm1, ha1⟩; replace HK := Lib.hid (HK.out.mv hm1 ha1 (by omega)); clear hm1 ha1; replace hc := HK.out.ps.at_.cell))
        have hl0 := HK.out.lastcell.1
        have hl1 := HK.out.lastcell.2.1
        have hgV := HK.out.lastcell.2.2.1
        have hl3 := HK.out.lastcell.2.2.2
        have e0 := hl0 0 (by omega)
        have e1 := hl0 1 (by omega)
        have e2 := hl0 2 (by omega)
        have e3 := hl0 3 (by omega)
        have e4 := hl0 4 (by omega)
        have e5 := hl0 5 (by omega)
        have e6 := hl0 6 (by omega)
        have e7 := hl0 7 (by omega)
        have e8 := hl0 8 (by omega)
        simp only [Nat.add_zero] at e0
        simp only [RawN.cells, List.getElem?_cons_zero, List.getElem?_cons_succ] at e0 e1 e2 e3 e4 e5 e6 e7 e8
        clear hl0
        have hxb := HK.out.ps.at_.lt
        have HXb := Lib.hid hxb
        have HGV := Lib.hid hgV
        have HGl := Lib.hid hl3
        have HV1 := Lib.hid HK.out.lt
        go_region_with (first | (go_at_call 66; refine (has1 63 _ X p _ (HK.out.ps.at_.drewN 1) b63 HB63.out).mono ?_; rintro e w3 ⟨rfl, hm3, ha3⟩; rw [HJj.out] at ha3; have hk3 := HK.out.mv (Mv.of_drew hm3) ha3 HJl.out; have hl0 := hk3.lastcell.1; have hl1 := hk3.lastcell.2.1; have hl3 := hk3.lastcell.2.2.2; have f0 := hl0 0 (by omega); have f1 := hl0 1 (by omega); have f2 := hl0 2 (by omega); have f3 := hl0 3 (by omega); have f4 := hl0 4 (by omega); have f5 := hl0 5 (by omega); have f6 := hl0 6 (by omega); have f7 := hl0 7 (by omega); have f8 := hl0 8 (by omega); simp only [Nat.add_zero] at f0; simp only [RawN.cells, List.getElem?_cons_zero, List.getElem?_cons_succ] at f0 f1 f2 f3 f4 f5 f6 f7 f8; have HK3 := Lib.hid hk3; have hc3 := hk3.ps.at_.cell; have hx3 := hk3.ps.at_.lt; clear hl0 hk3 hm3 ha3) | (go_at_call 66; refine (has1 63 _ X p _ ((HK.out.ps.at_.drewN 1).below ((Below.refl _ _).alloc (Nat.le_refl _) (.cells #[.int .i64 r0, .slice r1 r2 r3, .bool r4, .int .i64 r5, .int .i64 r6, .bool r7, .int .i64 r8, .string r9, .slice ra rb rc] 29))) b63 HB63.out).mono ?_; rintro e w3 ⟨rfl, hm3, ha3⟩; rw [HJj.out] at ha3; have hk3 := (HK.out.below (below_drew_alloc w1 (.cells #[.int .i64 r0, .slice r1 r2 r3, .bool r4, .int .i64 r5, .int .i64 r6, .bool r7, .int .i64 r8, .string r9, .slice ra rb rc] 29))).mv hm3 ha3 HJl.out; have hkid := kid_drew w1 (.cells #[.int .i64 r0, .slice r1 r2 r3, .bool r4, .int .i64 r5, .int .i64 r6, .bool r7, .int .i64 r8, .string r9, .slice ra rb rc] 29) hm3 HXb.out; have HKid := Lib.hid hkid; clear hkid; have hl0 := hk3.lastcell.1; have hl1 := hk3.lastcell.2.1; have hl3 := hk3.lastcell.2.2.2; have f0 := hl0 0 (by omega); have f1 := hl0 1 (by omega); have f2 := hl0 2 (by omega); have f3 := hl0 3 (by omega); have f4 := hl0 4 (by omega); have f5 := hl0 5 (by omega); have f6 := hl0 6 (by omega); have f7 := hl0 7 (by omega); have f8 := hl0 8 (by omega); simp only [Nat.add_zero] at f0; simp only [RawN.cells, List.getElem?_cons_zero, List.getElem?_cons_succ] at f0 f1 f2 f3 f4 f5 f6 f7 f8; have HK3 := Lib.hid hk3; have hc3 := hk3.ps.at_.cell; have hx3 := hk3.ps.at_.lt; clear hl0 hk3 hm3 ha3))
        all_goals
          go_wp2
          first
          | (have hfin := HK3.out.quant HKid.out (by have := HV1.out; omega) (by have := HGl.out; omega) a b (b63 != p.f.lazy)
             go_roundg m
             case measure => omega
             case rel => exact ⟨l0 ++ [SynP.Nd.rep a b (b63 != p.f.lazy) nd], _, p, _, false, rfl, HE3, Lib.hid hfin, HJ2.out, HJ3.out, by rw [List.length_append, List.length_singleton]; show _ ≤ jj; have := HJl.out; omega, by omega, fun h => by cases h⟩)
          | (have hba := (Below.refl w3.heap.size w3).alloc (Nat.le_refl _) (.cells #[.int .i64 r0, .slice r1 r2 r3, .bool r4, .int .i64 r5, .int .i64 r6, .bool r7, .int .i64 r8, .string r9, .slice ra rb rc] 29)
             have hfin := (HK3.out.below hba).quant (heap_alloc_new w3 (.cells #[.int .i64 r0, .slice r1 r2 r3, .bool r4, .int .i64 r5, .int .i64 r6, .bool r7, .int .i64 r8, .string r9, .slice ra rb rc] 29)) (by have := HK3.out.lt; omega) (by have := hl3; omega) a b (b63 != p.f.lazy)
             rw [put9_alloc _ _ _ _ _ hl3] at hfin
             go_roundg m
             case measure => omega
             case rel => exact ⟨l0 ++ [SynP.Nd.rep a b (b63 != p.f.lazy) nd], _, p, _, false, rfl, HE3, Lib.hid hfin, HJ2.out, HJ3.out, by rw [List.length_append, List.length_singleton]; show _ ≤ jj; have := HJl.out; omega, by omega, fun h => by cases h⟩)

    | none =>
      rw [hti] at hE HT hT1 hT2
      simp only at hE
      simp only [timesV, timesJ] at HT hT1 hT2
      have HC := Lib.hid (fun (w : World) (p : Pv) (h : PS w X p s) => HAt.out m (by omega) s w X p HSc.out h hin (by omega))
      clear hcE
      have nm1 : (c == -1) = false := beq_eq_false_iff_ne.2 (by omega)
      have n124 : (c == 124) = false := beq_eq_false_iff_ne.2 (by omega)
      have n41 : (c == 41) = false := beq_eq_false_iff_ne.2 (by omega)
      cases hat2 : goS X.rs m .atom s with
      | bad ec kk =>
        rw [hat2] at HC hE
        have HR := Lib.hid hE
        clear hat2 hE
        go_wp2_with (first | (go_at_call 100; refine (HPk.out _ HK.out.ps.at_).mono ?_; rintro e w1 ⟨rfl, hm1, ha1⟩; replace HK := Lib.hid (HK.out.mv hm1 ha1 (Nat.le_refl _)); clear hm1 ha1; replace hc := HK.out.ps.at_.cell) | (go_at_call 102; refine (HT.out _ HK.out.ps.at_).mono ?_; rintro e w1 ⟨rfl, hm1, ha1⟩; replace HK := Lib.hid (HK.out.mv hm1 ha1 (by omega)); clear hm1 ha1; replace hc := HK.out.ps.at_.cell) | (go_at_call 103; refine (HC.out _ _ HK.out.ps).mono ?_; rintro e w1 ⟨hpm, he1⟩; unfold thrown at he1; subst he1; have HP := Lib.hid (HK.out.pm.step hpm); clear hpm))
        rw [← HR.out]; exact ⟨rfl, HP.out, rfl⟩
      | ok x =>
        obtain ⟨x, s1⟩ := x
        have hat3 := SynP.go_at m .atom s hat2 hat (fun _ => hin)
        obtain ⟨_, hat4, hat5⟩ := hat3
        have hat6 := hat5 rfl
        clear hat5
        rw [hat2] at HC hE
        simp only at hE
        have HE2 := Lib.hid hE
        clear hat2 hE
        cases x with
        | none =>
          go_wp2_with (first | (go_at_call 100; refine (HPk.out _ HK.out.ps.at_).mono ?_; rintro e w1 ⟨rfl, hm1, ha1⟩; replace HK := Lib.hid (HK.out.mv hm1 ha1 (Nat.le_refl _)); clear hm1 ha1; replace hc := HK.out.ps.at_.cell) | (go_at_call 102; refine (HT.out _ HK.out.ps.at_).mono ?_; rintro e w1 ⟨rfl, hm1, ha1⟩; replace HK := Lib.hid (HK.out.mv hm1 ha1 (by omega)); clear hm1 ha1; replace hc := HK.out.ps.at_.cell) | (go_at_call 103; refine (HC.out _ _ HK.out.ps).mono ?_; rintro e w1 ⟨r, p1, rfl, hpm, hps1, hl1⟩; obtain ⟨r0, r1, r2, r3, r4, r5, r6, r7, r8, r9, ra, rb, rc⟩ := r; simp only [RawN.cells]; have HK1 := Lib.hid (HK.out.step hpm hps1); have HL1 := Lib.hid hl1; clear hpm hps1; have HL0 := HK; clear hl1) | (refine wpList_store_new rfl 29 (.tmp 11) (.tmp 96) rfl #[.int .i64 r0, .slice r1 r2 r3, .bool r4, .int .i64 r5, .int .i64 r6, .bool r7, .int .i64 r8, .string r9, .slice ra rb rc] rfl rfl 29 zeroA sizeN rfl (cellsN_one ⟨r0, r1, r2, r3, r4, r5, r6, r7, r8, r9, ra, rb, rc⟩) ?_; have hba := (Below.refl w1.heap.size w1).alloc (Nat.le_refl _) (.cells #[.int .i64 r0, .slice r1 r2 r3, .bool r4, .int .i64 r5, .int .i64 r6, .bool r7, .int .i64 r8, .string r9, .slice ra rb rc] 29); have HK2 := Lib.hid (HK1.out.below hba); clear hba))
          go_roundg m
          case measure => omega
          case rel => exact ⟨l, rs, p1, s1, false, rfl, Lib.hid (by rw [← HE2.out]; simp), HK2, hat4, by omega, by omega, by omega, fun h => by cases h⟩
        | some nd =>
          go_upto_region 24 with (first | (go_at_call 100; refine (HPk.out _ HK.out.ps.at_).mono ?_; rintro e w1 ⟨rfl, hm1, ha1⟩; replace HK := Lib.hid (HK.out.mv hm1 ha1 (Nat.le_refl _)); clear hm1 ha1; replace hc := HK.out.ps.at_.cell) | (go_at_call 102; refine (HT.out _ HK.out.ps.at_).mono ?_; rintro e w1 ⟨rfl, hm1, ha1⟩; replace HK := Lib.hid (HK.out.mv hm1 ha1 (by omega)); clear hm1 ha1; replace hc := HK.out.ps.at_.cell) | (go_at_call 103; refine (HC.out _ _ HK.out.ps).mono ?_; rintro e w1 ⟨r, p1, rfl, hpm, hps1, hl1⟩; obtain ⟨r0, r1, r2, r3, r4, r5, r6, r7, r8, r9, ra, rb, rc⟩ := r; simp only [RawN.cells]; have HK1 := Lib.hid (HK.out.step hpm hps1); have HL1 := Lib.hid (HK.out.aside hl1); clear hpm hps1; have HL0 := HK; clear hl1) | (refine wpList_store_new rfl 29 (.tmp 11) (.tmp 96) rfl #[.int .i64 r0, .slice r1 r2 r3, .bool r4, .int .i64 r5, .int .i64 r6, .bool r7, .int .i64 r8, .string r9, .slice ra rb rc] rfl rfl 29 zeroA sizeN rfl (cellsN_one ⟨r0, r1, r2, r3, r4, r5, r6, r7, r8, r9, ra, rb, rc⟩) ?_; have hba := (Below.refl w1.heap.size w1).alloc (Nat.le_refl _) (.cells #[.int .i64 r0, .slice r1 r2 r3, .bool r4, .int .i64 r5, .int .i64 r6, .bool r7, .int .i64 r8, .string r9, .slice ra rb rc] 29); have HK2 := Lib.hid (HK1.out.below hba); have HL2 := Lib.hid (Lies.on (StandN.below hba) _ _ HL1.out); have HB2 := Lib.hid (heap_alloc_new w1 (.cells #[.int .i64 r0, .slice r1 r2 r3, .bool r4, .int .i64 r5, .int .i64 r6, .bool r7, .int .i64 r8, .string r9, .slice ra rb rc] 29)); clear hba))
          obtain ⟨W2, hW2⟩ : ∃ W2, W2 = w1.alloc (.cells #[.int .i64 r0, .slice r1 r2 r3, .bool r4, .int .i64 r5, .int .i64 r6, .bool r7, .int .i64 r8, .string r9, .slice ra rb rc] 29) := ⟨_, rfl⟩
          rw [← hW2] at HK2 HL2 HB2 ⊢
          obtain ⟨g2, hg2e⟩ : ∃ g2, w1.heap.size = g2 := ⟨_, rfl⟩
          rw [hg2e] at HB2 ⊢
          clear hW2 hg2e hc
          go_upto_region 25 with (first
            | (refine wpList_load_row rfl 29 (.tmp 11) rfl g2 rfl 29 _ (0, 0) _ HB2.out Tryz.underlying29 rfl sizeN ?_)
            | (at_builtin; refine wpList_append_one (E := Enode) (base := V + 1) (l := rs) ⟨r0, r1, r2, r3, r4, r5, r6, r7, r8, r9, ra, rb, rc⟩ ⟨W2.heap.size, 0, none⟩ 1 rfl (.tmp 99) (.tmp 101) 27 (by rfl) 112 elNode (by rfl) (HK2.out.own.alloc _) (by rfl) (by exact news_new W2 _ _ _ rfl) (by unfold maxLen; omega) (by omega) ?_; intro v2 w2 ho2 hg2 hat3; have hba := (Below.refl W2.heap.size W2).alloc (Nat.le_refl _) (.cells #[.int .i64 r0, .slice r1 r2 r3, .bool r4, .int .i64 r5, .int .i64 r6, .bool r7, .int .i64 r8, .string r9, .slice ra rb rc] 29); have hk2 := (HK2.out.below hba).push ho2 hg2 hat3 (Lies.on (StandN.below hba) _ _ HL2.out); obtain ⟨A2, c2, hv2, hcc, hcm⟩ := ho2.form; rw [List.length_append, List.length_singleton] at hv2 hcc; subst hv2; have HK3 := Lib.hid hk2; clear ho2 hg2 hat3 hk2 hba))
          go_wp2
          go_roundg m
          case measure => omega
          case rel => exact ⟨l ++ [nd], _, p1, s1, true, rfl, HE2, HK3, hat4, by omega, by rw [List.length_append, List.length_singleton]; omega, by omega, fun _ => by rw [List.length_append, List.length_singleton]; omega⟩


end Go.Proofs.YtblkejnckbeieaaGreatDoor
