/- The walk of Show: the one text of any value. -/
import Derived.Test.YtemcflfgoelpiaaJsonShowP
import Derived.Test.YtemcflfgoelpiaaJsonEq
import Derived.Test.YtemcflfgoelpiaaJsonM
import Derived.Test.YtemcflfgoelpiaaQuote
import Derived.Test.YtemcflfgoelpiaaJoin
namespace Go.Proofs.Ytemcflfgoelpiaa
open Go.RowKit

theorem str_size' (l : List UInt8) : (str l).size = l.length := by simp [str, ByteArray.size]
theorem str_toList (l : List UInt8) : (str l).data.toList = l := by simp [str]
theorem str_app' (a b : List UInt8) : str a ++ str b = str (a ++ b) := by simp [str, ByteArray.ext_iff]
theorem quote_str (t : List UInt8) (w : World) (h : t.length ≤ 1000000000) :
    Calls Try.prog 8 #[.string (str t)] w fun e w' => e = .returned (.string (str (JsonP.quote (DecP.runes t)))) ∧ Below w.heap.size w w' := by
  have := quote_any (str t) w (by rw [str_size']; exact h)
  rw [str_toList] at this
  exact this
theorem joinL_str (L : List (List UInt8)) : joinL 44 (L.map str) = JsonP.sep L := by
  cases L with
  | nil => rfl
  | cons a l =>
    show (str a).data.toList ++ (l.map str).flatMap _ = a ++ l.flatMap _
    rw [str_toList, List.flatMap_map]
    congr 1
theorem sizes_str (L : List (List UInt8)) : sizes (L.map str) = JsonP.total L := by
  unfold sizes JsonP.total
  rw [List.map_map]
  congr 1

/-- What Show holds in its loop: the boxed value, what lies behind it, the pieces. -/
structure ShwS (w wr : World) (N : Nat) (A : Nat → Prop) (j : JsonP.J) (r : Raw) (v : Value) (L : List ByteArray) : Prop where
  bel : Below w.heap.size w wr
  box : wr.heap[N]? = some (.cells r.cells.toArray 37)
  lies : Lies wr (fun k => A k ∧ k < w.heap.size) j r
  own : OwnB Estr 9 (N + 1) wr v L
theorem ShwS.below {w wr wx : World} {N : Nat} {A : Nat → Prop} {j : JsonP.J} {r : Raw} {v : Value} {L : List ByteArray} (h : ShwS w wr N A j r v L) (k : Below wr.heap.size wr wx) : ShwS w wx N A j r v L :=
  ⟨h.bel.trans (k.mono h.bel.size), (k.block _ (Array.getElem?_eq_some_iff.1 h.box).1).trans h.box, Lies.on (Stand.below k) _ _ h.lies, h.own.below k⟩
theorem ShwS.start {w : World} {A : Nat → Prop} {j : JsonP.J} {r : Raw} (h : Lies w A j r) :
    ShwS w (w.alloc (.cells r.cells.toArray 37)) w.heap.size A j r (.slice none 0 0) [] := by
  have hb : Below w.heap.size w (w.alloc (.cells r.cells.toArray 37)) := (Below.refl _ w).alloc (Nat.le_refl _) _
  exact ⟨hb, heap_alloc_new w _, Lies.on (Stand.below hb) _ _ (Lies.mono (fun k hk hlt => ⟨hk, hlt⟩) _ _ h), OwnB.nil_ (by simp)⟩
theorem ShwS.add {w wr wx : World} {N : Nat} {A : Nat → Prop} {j : JsonP.J} {r : Raw} {v v' : Value} {L L' : List ByteArray} (h : ShwS w wr N A j r v L) (hN : w.heap.size = N) (ho : OwnB Estr 9 (N + 1) wx v' L') (hg : wr.grownBy wx v.ownBlock) : ShwS w wx N A j r v' L' := by
  have hlt := fun g (e : v.ownBlock = some g) => h.own.lt g e
  refine ⟨⟨hg.os.trans h.bel.os, hg.tape.trans h.bel.tape, hg.output.trans h.bel.output, Nat.le_trans h.bel.size hg.size, fun k hkk => (hg.block k (Nat.lt_of_lt_of_le hkk h.bel.size) (fun e => by have := (hlt k e.symm).1; omega)).trans (h.bel.block k hkk)⟩, ?_, ?_, ho⟩
  · exact (hg.block N (Array.getElem?_eq_some_iff.1 h.box).1 (fun e => by have := (hlt N e.symm).1; omega)).trans h.box
  · exact Lies.on (Stand.grown hg (fun k hk e => by have := (hlt k e.symm).1; have := hk.2; omega)) _ _ h.lies

set_option maxRecDepth 100000 in
set_option maxHeartbeats 6400000 in
theorem show_all (n : Nat) : ∀ (j : JsonP.J), SizeOf.sizeOf j ≤ n → JsonP.wt j ≤ 100000000 → ∀ (r : Raw) (A : Nat → Prop) (w : World), Lies w A j r →
    Calls Try.prog 15 #[.agg r.cells.toArray] w fun e w' => e = .returned (.string (str (JsonP.showT j))) ∧ Below w.heap.size w w' := by
  induction n with
  | zero => intro j hj; cases j; simp at hj
  | succ n ih =>
    intro j hj hwt r A w hl
    have IH := Lib.hid ih
    clear ih
    obtain ⟨k, t, ks, js⟩ := j
    obtain ⟨rk, rt, ra, rn, rc, rb, rm, rd⟩ := r
    have HS0 := Lib.hid (ShwS.start hl)
    have HJ : Hid (∀ x ∈ js, SizeOf.sizeOf x ≤ n ∧ JsonP.wt x ≤ 100000000) := Lib.hid fun x hx => by
      have h1 := List.sizeOf_lt_of_mem hx
      have h2 := JsonP.wt_mem hx
      unfold JsonP.wt at hwt
      simp at hj
      exact ⟨by omega, by omega⟩
    unfold Lies at hl
    obtain ⟨e1, e2, e3, e5, e6, -, e4, e7, e8, -⟩ := hl
    simp only at e1 e2 e3 e4 e5 e6 e7 e8
    subst e1; subst e2; subst e3; subst e4
    have HW := Lib.hid hwt
    have htl : t.length ≤ 100000000 := by unfold JsonP.wt at hwt; omega
    by_cases hk4 : k ≤ 4
    · have hkk : k = 0 ∨ k = 1 ∨ k = 2 ∨ k = 3 ∨ k = 4 := by omega
      clear hk4 HS0 e5 e6 e7 e8 hj hwt
      have HT : Hid (∀ W, Calls Try.prog 8 #[.string (str t)] W fun e w' => e = .returned (.string (str (JsonP.quote (DecP.runes t)))) ∧ Below W.heap.size W w') := Lib.hid fun W => quote_str t W (by omega)
      have HX : Hid (JsonP.showT (.mk k t ks js) = if k = 0 then [110, 117, 108, 108] else if k = 1 then [102, 97, 108, 115, 101] else if k = 2 then [116, 114, 117, 101] else if k = 3 then t else if k = 4 then JsonP.quote (DecP.runes t) else if k = 6 then 123 :: (JsonP.sep (JsonP.pieces true ks js) ++ [125]) else 91 :: (JsonP.sep (JsonP.pieces false ks js) ++ [93])) := Lib.hid (by conv => lhs; unfold JsonP.showT)
      simp only [Raw.cells]
      obtain ⟨tt, htt⟩ : ∃ tt, str t = tt := ⟨_, rfl⟩
      have HTT := Lib.hid htt
      rw [htt] at HT ⊢
      obtain ⟨kn, hkn⟩ : ∃ kn, ks.length = kn := ⟨_, rfl⟩
      obtain ⟨jn, hjn⟩ : ∃ jn, js.length = jn := ⟨_, rfl⟩
      rw [hkn, hjn]
      clear htt hkn hjn
      obtain ⟨out, hout⟩ : ∃ out, str (JsonP.showT (.mk k t ks js)) = out := ⟨_, rfl⟩
      rw [hout]
      have HO := Lib.hid hout
      clear hout
      rcases hkk with rfl | rfl | rfl | rfl | rfl
      all_goals
        go_enter Try.func15, Try.ntmps15
        go_wp2_with (go_at_call 8; (with_reducible refine (HT.out _).mono ?_); rintro e w3 ⟨rfl, hb3⟩)
        go_ret
        first
          | exact ⟨by rw [← HO.out, HX.out]; rfl, (Below.refl _ w).alloc (Nat.le_refl _) _⟩
          | exact ⟨by rw [← HO.out, HX.out, ← HTT.out]; rfl, (Below.refl _ w).alloc (Nat.le_refl _) _⟩
          | exact ⟨by rw [← HO.out, HX.out]; rfl, ((Below.refl _ w).alloc (Nat.le_refl _) _).trans (hb3.mono (by simp))⟩
    · have hk5 : 5 ≤ k := by omega
      have n0 : ¬ (k : Int) = 0 := by omega
      have n1 : ¬ (k : Int) = 1 := by omega
      have n2 : ¬ (k : Int) = 2 := by omega
      have n3 : ¬ (k : Int) = 3 := by omega
      have n4 : ¬ (k : Int) = 4 := by omega
      have hjl := JsonP.wts_len js
      have hjb : js.length ≤ 12500000 := by unfold JsonP.wt at hwt; omega
      obtain ⟨kn, hkn⟩ : ∃ kn, ks.length = kn := ⟨_, rfl⟩
      obtain ⟨jn, hjn⟩ : ∃ jn, js.length = jn := ⟨_, rfl⟩
      have HKn := Lib.hid hkn
      have HJn := Lib.hid hjn
      obtain ⟨tt, htt⟩ : ∃ tt, str t = tt := ⟨_, rfl⟩
      rw [hkn] at e5
      rw [hjn] at hjb
      have hkb : (kn : Int) ≤ 9223372036854775807 := by unfold maxLen at *; omega
      have hkey : ∀ i, (ks.getD i []).length ≤ 100000000 := fun i => by
        have := JsonP.keyAt_len ks i
        unfold JsonP.wt at hwt
        omega
      have HKey := Lib.hid hkey
      have htot : ∀ b, JsonP.total (JsonP.pieces b ks js) ≤ 100000000 := fun b => by
        have := JsonP.pieces_total b ks js
        unfold JsonP.wt at hwt
        omega
      have HTot := Lib.hid htot
      obtain ⟨N, hN⟩ : ∃ N, w.heap.size = N := ⟨_, rfl⟩
      have HNe := Lib.hid hN
      simp only [Raw.cells] at HS0 ⊢
      rw [hkn, hjn, htt] at HS0 ⊢
      clear hk4 hj hwt htl hjl hkn hjn htt hkey htot e6 e7 e8 hN
      by_cases h6 : k = 6
      · subst h6
        rw [show ((6 : Nat) : Int) = 6 from rfl] at HS0 ⊢
        clear n0 n1 n2 n3 n4
        obtain ⟨P, hP⟩ : ∃ P, JsonP.pieces true ks js = P := ⟨_, rfl⟩
        have hPl : P.length = jn := by rw [← hP, JsonP.pieces_len, HJn.out]
        have HP := Lib.hid hP
        have HPl := Lib.hid hPl
        have HX : Hid (str (JsonP.showT (.mk 6 t ks js)) = ⟨#[123]⟩ ++ str (JsonP.sep P) ++ ⟨#[125]⟩) := Lib.hid (by
          unfold JsonP.showT
          rw [HP.out]
          show _ = str [123] ++ _ ++ str [125]
          rw [str_app', str_app']
          rfl)
        have HPt : Hid (JsonP.total P ≤ 100000000) := Lib.hid (by rw [← hP]; exact HTot.out _)
        obtain ⟨J, hJ⟩ : ∃ J, str (JsonP.sep P) = J := ⟨_, rfl⟩
        have hJl : J.size ≤ 200000000 := by
          rw [← hJ, str_size']
          have h1 := JsonP.sep_len P
          have h2 := HPt.out
          rw [HPl.out] at h1
          omega
        have HJs := Lib.hid hJ
        rw [HX.out, hJ]
        clear hP hPl hJ
        go_enter Try.func15, Try.ntmps15
        go_upto_region 1 with fail
        rw [HNe.out] at HS0 ⊢
        generalize w.alloc (.cells #[.int .i64 6, .string tt, .slice ra kn rc, .slice rb jn rd] 37) = W at HS0 ⊢
        have hcW : ∀ o, W.cell? ⟨N, o, none⟩ = #[Value.int .i64 6, .string tt, .slice ra kn rc, .slice rb jn rd][o]? := fun o => Lib.cell_of_heap HS0.out.box o
        go_wp2_with fail
        clear hcW
        go_loopw [3, 28] (fun s3 s28 wr => ∃ i : Nat, i ≤ jn ∧ s28 = .int .i64 i ∧ Hid (ShwS w wr N A (.mk 6 t ks js) ⟨6, tt, ra, kn, rc, rb, jn, rd⟩ s3 ((P.take i).map str))) (fun _ s28 _ => jn + 1 - (intOf s28).toNat)
        case atStart => exact ⟨0, Nat.zero_le _, rfl, HS0⟩
        case round =>
          obtain ⟨i, hi, rfl, HS⟩ := hrel
          clear HS0
          have hcV : ∀ o, wr.cell? ⟨N, o, none⟩ = #[Value.int .i64 6, .string tt, .slice ra kn rc, .slice rb jn rd][o]? := fun o => Lib.cell_of_heap HS.out.box o
          have zN := (Array.getElem?_eq_some_iff.1 HS.out.box).1
          by_cases hlt : i < jn
          · have hii : (i : Int) < (jn : Int) := by omega
            have hi0 : (0 : Int) ≤ (i : Int) := by omega
            have hl1 := HS.out.lies
            unfold Lies at hl1
            obtain ⟨-, -, -, -, -, sk, -, -, -, rs, nr, sj, mr⟩ := hl1
            have hij : i < js.length := by rw [HJn.out]; exact hlt
            have hir : i < rs.length := by rw [nr]; exact hij
            obtain ⟨p1, o1, rfl, q1, x1⟩ := sj.raws_ (by omega)
            have y1 := x1 i hir
            have k1 := LiesL.at_ js rs i hij hir mr
            obtain ⟨z1, hz1⟩ : ∃ z, rs[i]'hir = z := ⟨_, rfl⟩
            rw [hz1] at y1 k1
            have HC : Hid (∀ wx, Below wr.heap.size wr wx → Calls Try.prog 15 #[.agg z1.cells.toArray] wx fun e w' => e = .returned (.string (str (JsonP.showT js[i]))) ∧ Below wx.heap.size wx w') := Lib.hid fun wx hb =>
              IH.out _ (HJ.out _ (List.getElem_mem hij)).1 (HJ.out _ (List.getElem_mem hij)).2 z1 _ wx (Lies.on (Stand.below hb) _ _ k1)
            obtain ⟨a1, a2, a3, a4, a5, a6, a7, a8⟩ := z1
            simp only [Raw.cells] at HC
            have m1 : wr.cell? ⟨p1, o1 + i * 4, none⟩ = some (.int .i64 a1) := y1 0 (by decide)
            have m2 : wr.cell? ⟨p1, o1 + i * 4 + 1, none⟩ = some (.string a2) := y1 1 (by decide)
            have m3 : wr.cell? ⟨p1, o1 + i * 4 + 2, none⟩ = some (.slice a3 a4 a5) := y1 2 (by decide)
            have m4 : wr.cell? ⟨p1, o1 + i * 4 + 3, none⟩ = some (.slice a6 a7 a8) := y1 3 (by decide)
            have hPi : (P.take (i + 1)).map str = (P.take i).map str ++ [str (JsonP.quote (DecP.runes (ks.getD i [])) ++ 58 :: JsonP.showT js[i])] := by
              have hiP : i < P.length := by rw [HPl.out]; exact hlt
              have := JsonP.pieces_at_obj js ks i hij
              rw [List.take_succ_eq_append_getElem hiP, List.map_append, List.map_singleton]
              congr 3
              rw [← this]
              congr 1
              exact HP.out.symm
            have HPi := Lib.hid hPi
            have hsz : (JsonP.showT js[i]).length ≤ 100000000 := Nat.le_trans (JsonP.show_len _) (HJ.out _ (List.getElem_mem hij)).2
            obtain ⟨sj, hsj⟩ : ∃ x, str (JsonP.showT js[i]) = x := ⟨_, rfl⟩
            have hsz2 : sj.size ≤ 100000000 := by rw [← hsj, str_size']; exact hsz
            have HSj := Lib.hid hsj
            rw [hsj] at HC
            obtain ⟨L, hL⟩ : ∃ L, (P.take i).map str = L := ⟨_, rfl⟩
            have hLl : L.length ≤ 12500000 := by rw [← hL, List.length_map, List.length_take]; omega
            rw [hL] at HS HPi
            clear y1 x1 k1 hz1 hsj hsz hPi nr mr hL
            go_upto_region 17 with (go_at_call 15; (refine (HC.out _ ((Below.refl _ wr).alloc (Nat.le_refl _) _)).mono ?_); rintro e w3 ⟨rfl, hb3⟩)
            have HB3 : Hid (Below wr.heap.size wr w3) := Lib.hid (((Below.refl _ wr).alloc (Nat.le_refl _) _).trans (hb3.mono (by simp)))
            have HS3 := Lib.hid (HS.out.below HB3.out)
            have hc3 : ∀ o, w3.cell? ⟨N, o, none⟩ = #[Value.int .i64 6, .string tt, .slice ra kn rc, .slice (some ⟨p1, o1, none⟩) jn rd][o]? := fun o => Lib.cell_of_heap HS3.out.box o
            clear hb3 m1 m2 m3 m4 hcV
            obtain ⟨kb, hkb1⟩ : ∃ x, ks.getD i [] = x := ⟨_, rfl⟩
            have hkbl : kb.length ≤ 100000000 := by rw [← hkb1]; exact HKey.out i
            have HQ := Lib.hid fun W => quote_str kb W (by omega)
            obtain ⟨q, hq⟩ : ∃ q, str (JsonP.quote (DecP.runes kb)) = q := ⟨_, rfl⟩
            have hql : q.size ≤ 600000002 := by
              rw [← hq, str_size']
              have := JsonP.quote_runes_len kb
              omega
            have HPc : Hid ((P.take (i + 1)).map str = L ++ [q ++ ⟨#[58]⟩ ++ sj]) := Lib.hid (by
              rw [HPi.out, hkb1, ← hq, ← HSj.out]
              congr 2
              rw [show (⟨#[58]⟩ : ByteArray) = str [58] from rfl, str_app', str_app']
              congr 1
              rw [List.append_assoc]
              rfl)
            rw [hq] at HQ
            have z1 : ¬ q.size + 1 > 9223372036854775807 := by omega
            have z2 : ¬ q.size + 1 + sj.size > 9223372036854775807 := by omega
            by_cases hik : i < kn
            · have hikk : (i : Int) < (kn : Int) := by omega
              obtain ⟨p2, o2, rfl, q2, x2⟩ := sk.strs_ (by rw [HKn.out]; omega)
              have y2 := x2 i (by rw [HKn.out]; exact hik)
              have hkb2 : ks[i]'(by rw [HKn.out]; exact hik) = kb := by rw [← hkb1, List.getD_eq_getElem?_getD, List.getElem?_eq_getElem (by rw [HKn.out]; exact hik)]; rfl
              rw [hkb2] at y2
              have y3 : w3.cell? ⟨p2, o2 + i, none⟩ = some (.string (str kb)) := (HB3.out.cell (p := ⟨p2, o2 + i, none⟩) q2).trans y2
              clear y2 x2 sk hkb2 hkb1 hq
              go_wp2_with (first
                | (go_at_call 8; (with_reducible refine (HQ.out _).mono ?_); rintro e w4 ⟨rfl, hb4⟩; have HS4 := Lib.hid (HS3.out.below hb4); clear hb4)
                | (at_builtin; (refine wpList_append_one (E := Estr) (base := N + 1) (l := L) (q ++ ⟨#[58]⟩ ++ sj) ⟨w4.heap.size, 0, none⟩ 1 rfl (.tmp 53) (.tmp 55) 34 rfl 16 elStrE rfl (HS4.out.own.alloc _) rfl (news_new w4 _ _ _ rfl) (by unfold maxLen; omega) (by omega) ?_); intro v5 w5 ho5 hg5 hat5; have HS5 := Lib.hid ((HS4.out.below ((Below.refl _ w4).alloc (Nat.le_refl _) _)).add HNe.out ho5 hg5); clear ho5 hg5 hat5))
              exact ⟨⟨i + 1, by omega, by simp, by rw [HPc.out]; exact HS5⟩, by simp only [intOf]; omega⟩
            · have hikk : ¬ (i : Int) < (kn : Int) := by omega
              have hkb2 : kb = [] := by rw [← hkb1, List.getD_eq_getElem?_getD, List.getElem?_eq_none (by rw [HKn.out]; omega)]; rfl
              rw [hkb2, show str [] = (⟨#[]⟩ : ByteArray) from rfl] at HQ
              clear sk hkb2 hkb1 hq
              go_wp2_with (first
                | (go_at_call 8; (with_reducible refine (HQ.out _).mono ?_); rintro e w4 ⟨rfl, hb4⟩; have HS4 := Lib.hid (HS3.out.below hb4); clear hb4)
                | (at_builtin; (refine wpList_append_one (E := Estr) (base := N + 1) (l := L) (q ++ ⟨#[58]⟩ ++ sj) ⟨w4.heap.size, 0, none⟩ 1 rfl (.tmp 53) (.tmp 55) 34 rfl 16 elStrE rfl (HS4.out.own.alloc _) rfl (news_new w4 _ _ _ rfl) (by unfold maxLen; omega) (by omega) ?_); intro v5 w5 ho5 hg5 hat5; have HS5 := Lib.hid ((HS4.out.below ((Below.refl _ w4).alloc (Nat.le_refl _) _)).add HNe.out ho5 hg5); clear ho5 hg5 hat5))
              exact ⟨⟨i + 1, by omega, by simp, by rw [HPc.out]; exact HS5⟩, by simp only [intOf]; omega⟩
          · obtain rfl : i = jn := by omega
            have hii : ¬ (i : Int) < (i : Int) := by omega
            have hT : P.take i = P := List.take_of_length_le (by rw [HPl.out]; exact Nat.le_refl _)
            rw [hT] at HS
            obtain ⟨A', c', rfl, hA1, hA2⟩ := HS.out.own.form
            have hLn : (P.map str).length = i := by rw [List.length_map, HPl.out]
            have hown := HS.out.own.seq
            rw [hLn] at hA1 HS ⊢
            have HJo : Hid (Calls Try.prog 32 #[.slice A' i c', .string ⟨#[44]⟩] wr fun e w' => e = .returned (.string (str (JsonP.sep P))) ∧ Below wr.heap.size wr w') := Lib.hid (by
              have := join_any 44 A' c' i (P.map str) wr hLn (hown) hA1 (by omega) (by rw [sizes_str]; have := HPt.out; omega)
              rw [joinL_str] at this
              exact this)
            rw [HJs.out] at HJo
            have z1 : ¬ 1 + J.size > 9223372036854775807 := by omega
            have z2 : ¬ 1 + J.size + 1 > 9223372036854775807 := by omega
            clear hT hLn hown
            go_wp2_with (go_at_call 32; (with_reducible refine HJo.out.mono ?_); rintro e w4 ⟨rfl, hb4⟩)
            go_ret
            exact ⟨rfl, HS.out.bel.trans (hb4.mono HS.out.bel.size)⟩
      · have h6i : ¬ (k : Int) = 6 := by omega
        have b0 : ((k : Int) == 0) = false := by simp; omega
        have b1 : ((k : Int) == 1) = false := by simp; omega
        have b2 : ((k : Int) == 2) = false := by simp; omega
        have b3 : ((k : Int) == 3) = false := by simp; omega
        have b4 : ((k : Int) == 4) = false := by simp; omega
        have b6 : ((k : Int) == 6) = false := by simp; omega
        obtain ⟨P, hP⟩ : ∃ P, JsonP.pieces false ks js = P := ⟨_, rfl⟩
        have hPl : P.length = jn := by rw [← hP, JsonP.pieces_len, HJn.out]
        have HP := Lib.hid hP
        have HPl := Lib.hid hPl
        have HX : Hid (str (JsonP.showT (.mk k t ks js)) = ⟨#[91]⟩ ++ str (JsonP.sep P) ++ ⟨#[93]⟩) := Lib.hid (by
          unfold JsonP.showT
          rw [HP.out, if_neg (by omega), if_neg (by omega), if_neg (by omega), if_neg (by omega), if_neg (by omega), if_neg h6]
          show _ = str [91] ++ _ ++ str [93]
          rw [str_app', str_app']
          rfl)
        have HPt : Hid (JsonP.total P ≤ 100000000) := Lib.hid (by rw [← hP]; exact HTot.out _)
        obtain ⟨J, hJ⟩ : ∃ J, str (JsonP.sep P) = J := ⟨_, rfl⟩
        have hJl : J.size ≤ 200000000 := by
          rw [← hJ, str_size']
          have h1 := JsonP.sep_len P
          have h2 := HPt.out
          rw [HPl.out] at h1
          omega
        have HJs := Lib.hid hJ
        rw [HX.out, hJ]
        clear hP hPl hJ
        go_enter Try.func15, Try.ntmps15
        go_upto_region 1 with fail
        rw [HNe.out] at HS0 ⊢
        generalize w.alloc (.cells #[.int .i64 (k : Int), .string tt, .slice ra kn rc, .slice rb jn rd] 37) = W at HS0 ⊢
        have hcW : ∀ o, W.cell? ⟨N, o, none⟩ = #[Value.int .i64 (k : Int), .string tt, .slice ra kn rc, .slice rb jn rd][o]? := fun o => Lib.cell_of_heap HS0.out.box o
        go_wp2_with fail
        clear hcW
        go_loopw [3, 28] (fun s3 s28 wr => ∃ i : Nat, i ≤ jn ∧ s28 = .int .i64 i ∧ Hid (ShwS w wr N A (.mk k t ks js) ⟨k, tt, ra, kn, rc, rb, jn, rd⟩ s3 ((P.take i).map str))) (fun _ s28 _ => jn + 1 - (intOf s28).toNat)
        case atStart => exact ⟨0, Nat.zero_le _, rfl, HS0⟩
        case round =>
          obtain ⟨i, hi, rfl, HS⟩ := hrel
          clear HS0
          have hcV : ∀ o, wr.cell? ⟨N, o, none⟩ = #[Value.int .i64 (k : Int), .string tt, .slice ra kn rc, .slice rb jn rd][o]? := fun o => Lib.cell_of_heap HS.out.box o
          have zN := (Array.getElem?_eq_some_iff.1 HS.out.box).1
          by_cases hlt : i < jn
          · have hii : (i : Int) < (jn : Int) := by omega
            have hi0 : (0 : Int) ≤ (i : Int) := by omega
            have hl1 := HS.out.lies
            unfold Lies at hl1
            obtain ⟨-, -, -, -, -, sk, -, -, -, rs, nr, sj, mr⟩ := hl1
            have hij : i < js.length := by rw [HJn.out]; exact hlt
            have hir : i < rs.length := by rw [nr]; exact hij
            obtain ⟨p1, o1, rfl, q1, x1⟩ := sj.raws_ (by omega)
            have y1 := x1 i hir
            have k1 := LiesL.at_ js rs i hij hir mr
            obtain ⟨z1, hz1⟩ : ∃ z, rs[i]'hir = z := ⟨_, rfl⟩
            rw [hz1] at y1 k1
            have HC : Hid (∀ wx, Below wr.heap.size wr wx → Calls Try.prog 15 #[.agg z1.cells.toArray] wx fun e w' => e = .returned (.string (str (JsonP.showT js[i]))) ∧ Below wx.heap.size wx w') := Lib.hid fun wx hb =>
              IH.out _ (HJ.out _ (List.getElem_mem hij)).1 (HJ.out _ (List.getElem_mem hij)).2 z1 _ wx (Lies.on (Stand.below hb) _ _ k1)
            obtain ⟨a1, a2, a3, a4, a5, a6, a7, a8⟩ := z1
            simp only [Raw.cells] at HC
            have m1 : wr.cell? ⟨p1, o1 + i * 4, none⟩ = some (.int .i64 a1) := y1 0 (by decide)
            have m2 : wr.cell? ⟨p1, o1 + i * 4 + 1, none⟩ = some (.string a2) := y1 1 (by decide)
            have m3 : wr.cell? ⟨p1, o1 + i * 4 + 2, none⟩ = some (.slice a3 a4 a5) := y1 2 (by decide)
            have m4 : wr.cell? ⟨p1, o1 + i * 4 + 3, none⟩ = some (.slice a6 a7 a8) := y1 3 (by decide)
            have hPi : (P.take (i + 1)).map str = (P.take i).map str ++ [str (JsonP.showT js[i])] := by
              have hiP : i < P.length := by rw [HPl.out]; exact hlt
              have := JsonP.pieces_at_list ks js i hij
              rw [List.take_succ_eq_append_getElem hiP, List.map_append, List.map_singleton]
              congr 3
              rw [← this]
              congr 1
              exact HP.out.symm
            have HPi := Lib.hid hPi
            have hsz : (JsonP.showT js[i]).length ≤ 100000000 := Nat.le_trans (JsonP.show_len _) (HJ.out _ (List.getElem_mem hij)).2
            obtain ⟨sj, hsj⟩ : ∃ x, str (JsonP.showT js[i]) = x := ⟨_, rfl⟩
            have hsz2 : sj.size ≤ 100000000 := by rw [← hsj, str_size']; exact hsz
            have HSj := Lib.hid hsj
            rw [hsj] at HC
            obtain ⟨L, hL⟩ : ∃ L, (P.take i).map str = L := ⟨_, rfl⟩
            have hLl : L.length ≤ 12500000 := by rw [← hL, List.length_map, List.length_take]; omega
            rw [hL] at HS HPi
            clear y1 x1 k1 hz1 hsj hsz hPi nr mr hL
            go_upto_region 17 with (go_at_call 15; (refine (HC.out _ ((Below.refl _ wr).alloc (Nat.le_refl _) _)).mono ?_); rintro e w3 ⟨rfl, hb3⟩)
            have HB3 : Hid (Below wr.heap.size wr w3) := Lib.hid (((Below.refl _ wr).alloc (Nat.le_refl _) _).trans (hb3.mono (by simp)))
            have HS3 := Lib.hid (HS.out.below HB3.out)
            have hc3 : ∀ o, w3.cell? ⟨N, o, none⟩ = #[Value.int .i64 (k : Int), .string tt, .slice ra kn rc, .slice (some ⟨p1, o1, none⟩) jn rd][o]? := fun o => Lib.cell_of_heap HS3.out.box o
            clear hb3 m1 m2 m3 m4 hcV
            rw [HSj.out] at HPi
            clear sk
            go_wp2_with (at_builtin; (refine wpList_append_one (E := Estr) (base := N + 1) (l := L) sj ⟨w3.heap.size, 0, none⟩ 1 rfl (.tmp 53) (.tmp 55) 34 rfl 16 elStrE rfl (HS3.out.own.alloc _) rfl (news_new w3 _ _ _ rfl) (by unfold maxLen; omega) (by omega) ?_); intro v5 w5 ho5 hg5 hat5; have HS5 := Lib.hid ((HS3.out.below ((Below.refl _ w3).alloc (Nat.le_refl _) _)).add HNe.out ho5 hg5); clear ho5 hg5 hat5)
            exact ⟨⟨i + 1, by omega, by simp, by rw [HPi.out]; exact HS5⟩, by simp only [intOf]; omega⟩
          · obtain rfl : i = jn := by omega
            have hii : ¬ (i : Int) < (i : Int) := by omega
            have hT : P.take i = P := List.take_of_length_le (by rw [HPl.out]; exact Nat.le_refl _)
            rw [hT] at HS
            obtain ⟨A', c', rfl, hA1, hA2⟩ := HS.out.own.form
            have hLn : (P.map str).length = i := by rw [List.length_map, HPl.out]
            have hown := HS.out.own.seq
            rw [hLn] at hA1 HS ⊢
            have HJo : Hid (Calls Try.prog 32 #[.slice A' i c', .string ⟨#[44]⟩] wr fun e w' => e = .returned (.string (str (JsonP.sep P))) ∧ Below wr.heap.size wr w') := Lib.hid (by
              have := join_any 44 A' c' i (P.map str) wr hLn (hown) hA1 (by omega) (by rw [sizes_str]; have := HPt.out; omega)
              rw [joinL_str] at this
              exact this)
            rw [HJs.out] at HJo
            have z1 : ¬ 1 + J.size > 9223372036854775807 := by omega
            have z2 : ¬ 1 + J.size + 1 > 9223372036854775807 := by omega
            clear hT hLn hown
            go_wp2_with (go_at_call 32; (with_reducible refine HJo.out.mono ?_); rintro e w4 ⟨rfl, hb4⟩)
            go_ret
            exact ⟨rfl, HS.out.bel.trans (hb4.mono HS.out.bel.size)⟩

end Go.Proofs.Ytemcflfgoelpiaa
