/- Chapter 12: the walk of the law SimpleFolds. -/
import Derived.Test.YtblkejnckbeieaaGreatDoorZk47
import Derived.Test.YtblkejnckbeieaaGreatDoorZk50
import Derived.Test.YtblkejnckbeieaaGreatDoorZk48
import Derived.Deep.RegionHeld3
namespace Go.Proofs.YtblkejnckbeieaaGreatDoor
open Go.RowKit SetPure OrbPure

theorem step_append_seqF {P : Program} (w : World) {α : Type} {E : Enc α} {w0 : World} {e : TypeId} {v : Value} {l l' : List α} {B : Nat} {A : Option Addr} {c : Nat}
    {ops : Array Oper} {o : Oper} {a : Act} {K : Act → World → Prop} {Q : Exit → Act → World → Prop} {F : Prop} (hgd : o.guard = none) (s x : Operand) (t : TypeId)
    (ho : o.op = .call { callee := .builtin .append, args := #[s, x], argTypes := #[t, t] }) (bytes : Nat) (he : ElemOf P t e E.k bytes)
    (hs : a.eval s = v) (hown : Own E e w0 w v l) (m : Nat) (hx : a.eval x = .slice A m c) (hr : SeqAt E w B A l') (hm : l'.length = m)
    (h63 : l.length + m ≤ maxLen) (hbytes : (l.length + m) * bytes ≤ 140737488355328)
    (h : ∀ v' w', Own E e w0 w' v' (l ++ l') → w.grownBy w' v.ownBlock → K (a.put o.dst v') w') :
    if Region.wanted o (yielded ops a.tmps) = true then Oper.wp P o a w K Q else F := by
  have hw : Region.wanted o (yielded ops a.tmps) = true := by simp [Region.wanted, hgd]
  rw [if_pos hw]
  exact wp_append_seq w s x t ho bytes he hs hown m hx hr hm h63 hbytes h


/-- The closed set, of what is in reach. -/
def clS (f : Int → Bool) : Int → Bool := closeF fun z => inR z && f z
theorem close_new (v : Value) (f : Int → Bool) (w : World) (h : SetV w v f) : Calls Tryz.prog 26 #[v] w (NewSet w (clS f)) := by
  refine (close_any v _ w w _ h.hold (List.Mem.head _)).mono ?_
  rintro e w' ⟨x, rfl, hx⟩
  exact ⟨x, rfl, SetV.of (hx.get (List.Mem.head _)), hx.1⟩
theorem same_new {w : World} {v u : Value} {f g : Int → Bool} (h : SetV w v f) (k : SetV w u g) (e : ∀ z, inR z = true → f z = g z) : Calls Tryz.prog 20 #[v, u] w fun e w' => e = .returned (.bool true) ∧ Below w.heap.size w w' := by
  refine (hold_same (h.hold.add (Below.refl _ w) k) (List.Mem.tail _ (List.Mem.head _)) (List.Mem.head _) fun z hz => by rw [hz, e z hz]).mono ?_
  rintro e w' ⟨rfl, hx⟩
  exact ⟨rfl, hx.1⟩
/-- Simplify of a class alone. -/
theorem simp_cls (f : Int → Bool) (fold : Bool) (v : Value) (w : World) (h : SetV w v f) :
    Calls Tryz.prog 12 #[.agg #[.int .i64 1, v, .bool fold, .int .i64 0, .int .i64 0, .bool false, .int .i64 0, .string ⟨#[]⟩, .slice none 0 0]] w fun e w' => ∃ q : RawN, e = .returned (.tuple #[.agg q.cells.toArray, .int .i64 0]) ∧ Below w.heap.size w w' ∧ q.fold = false ∧ SetV w' (.slice q.sA q.sn q.sc) (SynP.lessF (if fold then clS f else f)) := by
  obtain ⟨s1, s2, s3, rfl⟩ := h.form
  have hcnt : SynP.cntN (SynP.Nd.cls f fold) ≤ 8192 := by unfold SynP.Nd.cls SynP.cntN; rw [if_neg (by omega), if_neg (by omega), if_neg (by omega)]; decide
  have hC : CountC (SynP.Nd.cls f fold) := count_one (some f) fold 0 0 false 0 [] [] 1 (by decide) (by decide) (by decide) (by decide)
  have hM : MadeC clS (SynP.Nd.cls f fold) := by
    cases fold with
    | false => exact made_cls_false clS 0 0 false 0 [] [] f (by simp) fun x hx => absurd hx List.not_mem_nil
    | true => exact made_cls_true clS 0 0 false 0 [] [] f (fun v w h => close_new v f w h) (by simp) fun x hx => absurd hx List.not_mem_nil
  have hl : Lies w (fun _ => True) (SynP.Nd.cls f fold) (clsN (s1, s2, s3) fold) := Lies.cls h
  refine (simplify_any clS _ hC hcnt hM _ _ w hl).mono ?_
  rintro e w' ⟨q, rfl, hb, hq⟩
  have he : SynP.mkN clS (SynP.Nd.cls f fold) = .mk 1 (some (SynP.lessF (if fold then clS f else f))) false 0 0 false 0 [] [] := by
    unfold SynP.Nd.cls
    rw [SynP.mkN, if_neg (by omega), if_pos rfl]
    rfl
  rw [he] at hq
  unfold Lies at hq
  exact ⟨q, rfl, hb, hq.2.2.1, hq.2.1⟩

set_option maxRecDepth 100000 in
set_option maxHeartbeats 12800000 in
theorem law_sfolds (A : Option Addr) (c : Nat) (l : List Rg) (w : World) (hl : l.length ≤ 8796093022208) (hA : SeqAt Epair w w.heap.size A l) :
    Calls Tryz.prog 8 #[.slice A l.length c] w fun e w' => e = .returned (.bool true) ∧ Below w.heap.size w w' := by
  have HA := Lib.hid hA
  clear hA
  go_enter Tryz.func8, Tryz.ntmps8
  go_wp2_with (go_at_call 23; refine (sp12_any _).mono ?_; rintro e w1 ⟨rfl, hb1⟩; have HB1 := Lib.hid hb1; clear hb1)
  go_loopw [3, 4] (fun s3 s4 wr => ∃ k : Nat, k ≤ l.length ∧ k ≤ 20 ∧ s4 = .int .i64 k ∧ Hid (Own Epair 51 w1 wr s3 (l.take k))) (fun _ s4 _ => l.length + 1 - (intOf s4).toNat)
  case atStart => exact ⟨0, by omega, by omega, rfl, Lib.hid (Own.nil_ _)⟩
  case round =>
    obtain ⟨k, hk, hk20, rfl, HO⟩ := hrel
    have hlk : (l.take k).length = k := by rw [List.length_take]; omega
    by_cases hlt : k < l.length ∧ k < 20
    · obtain ⟨hlt, hlt2⟩ := hlt
      have hki : (k : Int) < (l.length : Int) := by omega
      have hk2 : (k : Int) < 20 := by omega
      have hk0 : (0 : Int) ≤ (k : Int) := by omega
      obtain ⟨b, off, rfl, hb, hc⟩ := (((HA.out.below HB1.out).more HB1.out.size).below HO.out.2).pairs_ (by omega)
      obtain ⟨h0, h1⟩ := hc k hlt
      clear hc
      obtain ⟨⟨x, y⟩, hr⟩ : ∃ r, l.getD k (0, 0) = r := ⟨_, rfl⟩
      rw [hr] at h0 h1
      simp only at h0 h1
      have HS := Lib.hid (take_next' hlt hr)
      have hbw : b < wr.heap.size := Nat.lt_of_lt_of_le hb HO.out.2.size
      have E0 := Lib.hid h0
      have E1 := Lib.hid h1
      clear hr
      go_upto_region 7 with fail
      go_region_held3 (fun w' => w'.cell? ⟨b, off + k * 2, none⟩ = some (.int .i64 x) ∧ w'.cell? ⟨b, off + k * 2 + 1, none⟩ = some (.int .i64 y))
        (first | exact ⟨(ho1.2.cell (p := ⟨b, off + k * 2, none⟩) hb).trans ((HO.out.2.cell (p := ⟨b, off + k * 2, none⟩) hb).symm.trans E0.out), (ho1.2.cell (p := ⟨b, off + k * 2 + 1, none⟩) hb).trans ((HO.out.2.cell (p := ⟨b, off + k * 2 + 1, none⟩) hb).symm.trans E1.out)⟩ | go_keep)
        ((refine step_append_seqF _ (by rfl) (.tmp 23) (.tmp 35) 25 (by rfl) 16 elRanges (by rfl) ((HO.out.alloc _).drew) 1 (by rfl) (SeqAt.new (E := Epair) wr [(x, y)] 51).drew (by rfl) (by simp only [maxLen]; omega) (by omega) ?_; intro v1 w2 ho1 hg1))
      have HO1 := Lib.hid ho1
      clear ho1 hg1 h0 h1
      go_wp2
      exact ⟨⟨k + 1, by omega, by omega, by simp, by rw [HS.out]; exact HO1⟩, by simp only [intOf]; omega⟩
    · have HO' := HO
      obtain ⟨s, hs⟩ : ∃ s, l.take k = s := ⟨_, rfl⟩
      rw [hs] at HO'
      have hsl : s.length ≤ 20 := by rw [← hs, hlk]; exact hk20
      clear HO
      by_cases hlt2 : k < l.length
      case' neg =>
        have hki : ¬ (k : Int) < (l.length : Int) := by omega
      case' pos =>
        have hki : (k : Int) < (l.length : Int) := by omega
        have hk2 : ¬ (k : Int) < 20 := by omega
      all_goals
        clear hlt hlt2 hs hlk
        have HIs := Lib.hid HO'.out.isSeq
        have HBs := Lib.hid HO'.out.2
        go_upto_region 9 with (go_at_call 16; refine (hold_of (Hold.start _) HIs.out (by omega)).mono ?_; rintro e w3 ⟨x3, rfl, hH⟩; have HV3 := Lib.hid (SetV.of (hH.get (List.Mem.head _))); have HB3 := Lib.hid (HBs.out.trans (hH.1.mono HBs.out.size)); clear hH)
        generalize (fun z => inB s z && inR z) = f at HV3
        obtain ⟨s1, s2, s3, rfl⟩ := HV3.out.form
        have HN1 := Lib.hid (simp_cls f true _ w3 HV3.out)
        go_upto_region 10 with (go_at_call 12; refine HN1.out.mono ?_; rintro e w4 ⟨⟨p0, p1, p2, p3, p4, p5, p6, p7, p8, p9, pa, pb, pc⟩, rfl, hb4, hp4, hv4⟩; have HB4 := Lib.hid hb4; have HV4 := Lib.hid hv4; clear hb4 hv4; simp only at hp4; subst hp4; simp only [RawN.cells])
        obtain ⟨M1, hM1⟩ : ∃ M, w4.heap.size = M := ⟨_, rfl⟩
        have hx1 := heap_alloc_new w4 (.cells #[.int .i64 p0, .slice p1 p2 p3, .bool false, .int .i64 p5, .int .i64 p6, .bool p7, .int .i64 p8, .string p9, .slice pa pb pc] 29)
        have hb5 : Below w3.heap.size w3 (w4.alloc (.cells #[.int .i64 p0, .slice p1 p2 p3, .bool false, .int .i64 p5, .int .i64 p6, .bool p7, .int .i64 p8, .string p9, .slice pa pb pc] 29)) := HB4.out.alloc HB4.out.size _
        have hv5 := HV4.out.on (KeepR.below ((Below.refl _ w4).alloc (Nat.le_refl _) (.cells #[.int .i64 p0, .slice p1 p2 p3, .bool false, .int .i64 p5, .int .i64 p6, .bool p7, .int .i64 p8, .string p9, .slice pa pb pc] 29)))
        rw [hM1] at hx1 ⊢
        generalize w4.alloc (.cells #[.int .i64 p0, .slice p1 p2 p3, .bool false, .int .i64 p5, .int .i64 p6, .bool p7, .int .i64 p8, .string p9, .slice pa pb pc] 29) = w5 at hx1 hb5 hv5 ⊢
        have HX1 := Lib.hid hx1
        have HB5 := Lib.hid hb5
        have HV5 := Lib.hid hv5
        have HVs := Lib.hid (HV3.out.on (KeepR.below hb5))
        have HN2 := Lib.hid (simp_cls f false _ w5 HVs.out)
        clear hx1 hb5 hv5 HN1 hM1
        go_upto_region 11 with (go_at_call 12; refine HN2.out.mono ?_; rintro e w6 ⟨⟨q0, q1, q2, q3, q4, q5, q6, q7, q8, q9, qa, qb, qc⟩, rfl, hb6, hp6, hv6⟩; have HB6 := Lib.hid hb6; have HV6 := Lib.hid hv6; clear hb6 hv6; simp only at hp6; subst hp6; simp only [RawN.cells])
        obtain ⟨M2, hM2⟩ : ∃ M, w6.heap.size = M := ⟨_, rfl⟩
        have hx2 := heap_alloc_new w6 (.cells #[.int .i64 q0, .slice q1 q2 q3, .bool false, .int .i64 q5, .int .i64 q6, .bool q7, .int .i64 q8, .string q9, .slice qa qb qc] 29)
        have hb7 : Below w5.heap.size w5 (w6.alloc (.cells #[.int .i64 q0, .slice q1 q2 q3, .bool false, .int .i64 q5, .int .i64 q6, .bool q7, .int .i64 q8, .string q9, .slice qa qb qc] 29)) := HB6.out.alloc HB6.out.size _
        have hv7 := HV6.out.on (KeepR.below ((Below.refl _ w6).alloc (Nat.le_refl _) (.cells #[.int .i64 q0, .slice q1 q2 q3, .bool false, .int .i64 q5, .int .i64 q6, .bool q7, .int .i64 q8, .string q9, .slice qa qb qc] 29)))
        rw [hM2] at hx2 ⊢
        generalize w6.alloc (.cells #[.int .i64 q0, .slice q1 q2 q3, .bool false, .int .i64 q5, .int .i64 q6, .bool q7, .int .i64 q8, .string q9, .slice qa qb qc] 29) = w7 at hx2 hb7 hv7 ⊢
        have HX2 := Lib.hid hx2
        have HB7 := Lib.hid hb7
        have HV7 := Lib.hid hv7
        clear hx2 hb7 hv7 HN2 hM2
        go_upto_region 12 with (go_at_call 16; refine (of_range 55296 57343 _ _ rfl).mono ?_; rintro e w8 ⟨v8, rfl, hv8, hb8⟩; obtain ⟨g1, g2, g3, rfl⟩ := hv8.form; have HB8 := Lib.hid hb8; have HV8 := Lib.hid hv8; clear hb8 hv8)
        have HB58 := Lib.hid (HB7.out.trans (HB8.out.mono HB7.out.size))
        have hc1 : ∀ o, w8.cell? ⟨M1, o, none⟩ = #[Value.int .i64 p0, .slice p1 p2 p3, .bool false, .int .i64 p5, .int .i64 p6, .bool p7, .int .i64 p8, .string p9, .slice pa pb pc][o]? := fun o => Lib.cell_of_heap ((HB58.out.block M1 (Array.getElem?_eq_some_iff.1 HX1.out).1).trans HX1.out) o
        have hc2 : ∀ o, w8.cell? ⟨M2, o, none⟩ = #[Value.int .i64 q0, .slice q1 q2 q3, .bool false, .int .i64 q5, .int .i64 q6, .bool q7, .int .i64 q8, .string q9, .slice qa qb qc][o]? := fun o => Lib.cell_of_heap ((HB8.out.block M2 (Array.getElem?_eq_some_iff.1 HX2.out).1).trans HX2.out) o
        have HS8 := Lib.hid (HVs.out.on (KeepR.below HB58.out))
        have HP8 := Lib.hid (HV5.out.on (KeepR.below HB58.out))
        have HQ8 := Lib.hid (HV7.out.on (KeepR.below HB8.out))
        have HT : Hid (Below w3.heap.size w3 w8) := Lib.hid (HB5.out.trans (HB58.out.mono HB5.out.size))
        have HC0 : Hid (∀ wx, Below w8.heap.size w8 wx → wx.cell? ⟨M1, 1, none⟩ = some (.slice p1 p2 p3) ∧ wx.cell? ⟨M1, 2, none⟩ = some (.bool false) ∧ wx.cell? ⟨M2, 1, none⟩ = some (.slice q1 q2 q3)) := Lib.hid fun wx hb => by
          have l1 := (Array.getElem?_eq_some_iff.1 ((HB58.out.block M1 (Array.getElem?_eq_some_iff.1 HX1.out).1).trans HX1.out)).1
          have l2 := (Array.getElem?_eq_some_iff.1 ((HB8.out.block M2 (Array.getElem?_eq_some_iff.1 HX2.out).1).trans HX2.out)).1
          exact ⟨(hb.cell (p := ⟨M1, 1, none⟩) l1).trans (hc1 1), (hb.cell (p := ⟨M1, 2, none⟩) l1).trans (hc1 2), (hb.cell (p := ⟨M2, 1, none⟩) l2).trans (hc2 1)⟩
        have hk0 := HC0.out w8 (Below.refl _ _)
        clear hc1 hc2
        have T1 : Hid True := Lib.hid trivial
        have T2 : Hid True := Lib.hid trivial
        go_region_held3 (fun w' => w'.cell? ⟨M1, 1, none⟩ = some (.slice p1 p2 p3) ∧ w'.cell? ⟨M1, 2, none⟩ = some (.bool false) ∧ w'.cell? ⟨M2, 1, none⟩ = some (.slice q1 q2 q3))
          (first | exact HC0.out _ HB13.out | exact HC0.out _ HB12.out | exact HC0.out _ HB11.out | exact HC0.out _ HB10.out | exact HC0.out _ HB9.out | go_keep)
          ((first
            | (go_at_call 26; refine (close_new _ f _ (HS8.out.on (KeepR.below (show Below w8.heap.size w8 w8.drew from (Below.refl _ _).drew)))).mono ?_; rintro e w9 ⟨v9, rfl, hv9, hb9⟩; obtain ⟨d1, d2, d3, rfl⟩ := hv9.form; have HB9 : Hid (Below w8.heap.size w8 w9) := Lib.hid ⟨hb9.os, hb9.tape, hb9.output, hb9.size, hb9.block⟩; have HV9 := Lib.hid hv9; clear hb9 hv9)
            | (go_at_call 27; clear T1; refine (less_new HV9.out (HV8.out.on (KeepR.below HB9.out))).mono ?_; rintro e w10 ⟨v10, rfl, hv10, hb10⟩; obtain ⟨m1, m2, m3, rfl⟩ := hv10.form; have HB10 := Lib.hid (HB9.out.trans (hb10.mono HB9.out.size)); have HV10 := Lib.hid hv10; clear hb10 hv10)
            | (go_at_call 20; clear T2; refine (same_new (HP8.out.on (KeepR.below HB10.out)) HV10.out (fun _ _ => rfl)).mono ?_; rintro e w11 ⟨rfl, hb11⟩; have HB11 := Lib.hid (HB10.out.trans (hb11.mono HB10.out.size)); clear hb11)
            | (go_at_call 27; refine (less_new (HS8.out.on (KeepR.below HB11.out)) (HV8.out.on (KeepR.below HB11.out))).mono ?_; rintro e w12 ⟨v12, rfl, hv12, hb12⟩; obtain ⟨j1, j2, j3, rfl⟩ := hv12.form; have HB12 := Lib.hid (HB11.out.trans (hb12.mono HB11.out.size)); have HV12 := Lib.hid hv12; clear hb12 hv12)
            | (go_at_call 20; refine (same_new (HQ8.out.on (KeepR.below HB12.out)) HV12.out (fun _ _ => rfl)).mono ?_; rintro e w13 ⟨rfl, hb13⟩; have HB13 := Lib.hid (HB12.out.trans (hb13.mono HB12.out.size)); clear hb13)))
        go_wp2_with fail
        go_ret
        exact ⟨rfl, HB1.out.trans ((HB3.out.trans ((HT.out.trans (HB13.out.mono HT.out.size)).mono HB3.out.size)).mono HB1.out.size)⟩

end Go.Proofs.YtblkejnckbeieaaGreatDoor
