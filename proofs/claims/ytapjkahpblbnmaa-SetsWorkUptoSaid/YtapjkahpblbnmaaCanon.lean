/- The walk of the document's Canon. -/
import Derived.Test.YtapjkahpblbnmaaEdges
import Derived.Test.YtapjkahpblbnmaaMade
import Derived.StillTailTactics
namespace Go.Proofs.Ytapjkahpblbnmaa
open Go.RowKit SetPure CanonPure

theorem step_append_seqC {P : Program} (w : World) {α : Type} {E : Enc α} {w0 : World} {e : TypeId} {v : Value} {l l' : List α} {B : Nat} {A : Option Addr} {c : Nat}
    {ops : Array Oper} {o : Oper} {a : Act} {K : Act → World → Prop} {Q : Exit → Act → World → Prop} {F : Prop} (hgd : o.guard = none) (s x : Operand) (t : TypeId)
    (ho : o.op = .call { callee := .builtin .append, args := #[s, x], argTypes := #[t, t] }) (bytes : Nat) (he : ElemOf P t e E.k bytes)
    (hs : a.eval s = v) (hown : Own E e w0 w v l) (m : Nat) (hx : a.eval x = .slice A m c) (hr : SeqAt E w B A l') (hm : l'.length = m)
    (h63 : l.length + m ≤ maxLen) (hbytes : (l.length + m) * bytes ≤ 140737488355328)
    (h : ∀ v' w', Own E e w0 w' v' (l ++ l') → w.grownBy w' v.ownBlock → K (a.put o.dst v') w') :
    if Region.wanted o (yielded ops a.tmps) = true then Oper.wp P o a w K Q else F := by
  have hw : Region.wanted o (yielded ops a.tmps) = true := by simp [Region.wanted, hgd]
  rw [if_pos hw]
  exact wp_append_seq w s x t ho bytes he hs hown m hx hr hm h63 hbytes h

def wantF (b0 b1 b2 b3 : Bool) (k : Nat) : Bool := if k = 0 then b0 else if k = 1 then b1 else if k = 2 then b2 else b3
theorem want_cell (b0 b1 b2 b3 : Bool) (w : World) (k : Nat) (hk : k < 4) : (w.alloc (.cells #[.bool b0, .bool b1, .bool b2, .bool b3] 43)).cell? ⟨w.heap.size, k, none⟩ = some (.bool (wantF b0 b1 b2 b3 k)) := by
  obtain rfl | rfl | rfl | rfl : k = 0 ∨ k = 1 ∨ k = 2 ∨ k = 3 := by omega
  all_goals (go_simp; try rfl)
theorem edges_bd (l : List Rg) : ∀ x ∈ edgesL l ++ [1114112], 0 ≤ x ∧ x ≤ 1114112 := by
  intro x hx
  rcases List.mem_append.1 hx with hx | hx
  · rcases List.mem_cons.1 hx with rfl | hx
    · omega
    · have := edgesF_bd l 1114112 0 (Int.le_refl _) (by omega) x hx
      omega
  · obtain rfl := List.mem_singleton.1 hx
    omega
theorem edges_len (l : List Rg) : (edgesL l ++ [1114112]).length ≤ 1114114 := by
  have := edgesF_len l 1114112 0
  simp [edgesL]; omega
theorem getD_mem' {l : List Int} {i : Nat} (h : i < l.length) : l.getD i 0 ∈ l := by
  rw [List.getD_eq_getElem?_getD, List.getElem?_eq_getElem h]; exact List.getElem_mem h

set_option maxHeartbeats 4000000 in
set_option maxRecDepth 100000 in
theorem canon_any (A A' : Option Addr) (c c' : Nat) (a b : List Rg) (b0 b1 b2 b3 : Bool) (w : World) (hla : a.length ≤ 1048576) (hlb : b.length ≤ 1048576) (hA : SeqAt Epair w w.heap.size A a) (hA' : SeqAt Epair w w.heap.size A' b) :
    Calls Try.prog 19 #[.slice A a.length c, .slice A' b.length c', .agg #[.bool b0, .bool b1, .bool b2, .bool b3]] w (RetOwn Epair 47 w (canonL (wantF b0 b1 b2 b3) a b)) := by
  obtain ⟨wb, hwb⟩ : ∃ wb, w.alloc (.cells #[.bool b0, .bool b1, .bool b2, .bool b3] 43) = wb := ⟨_, rfl⟩
  have HC := Lib.hid (show ∀ k, k < 4 → wb.cell? ⟨w.heap.size, k, none⟩ = some (.bool (wantF b0 b1 b2 b3 k)) from fun k hk => by
    rw [← hwb]
    exact want_cell b0 b1 b2 b3 w k hk)
  have hbb : Below w.heap.size w wb := by rw [← hwb]; exact (Below.refl _ w).alloc (Nat.le_refl _) _
  have hzb : wb.heap.size = w.heap.size + 1 := by rw [← hwb]; simp
  have HA := Lib.hid ((hA.below hbb).more (show w.heap.size ≤ wb.heap.size by omega))
  have HA' := Lib.hid ((hA'.below hbb).more (show w.heap.size ≤ wb.heap.size by omega))
  have HWB := Lib.hid hwb
  have HZB := Lib.hid hzb
  have HL := Lib.hid (edges_len (a ++ b))
  have HBD := Lib.hid (edges_bd (a ++ b))
  have HAB := Lib.hid (show (a ++ b).length = a.length + b.length from List.length_append)
  clear hA hA' hzb
  go_enter Try.func19, Try.ntmps19
  go_wp2_with (first
    | (at_builtin; (refine wpList_append_seq _ rfl (.tmp 13) (.tmp 14) 26 rfl 16 elRRanges rfl (Own.nil_ wb) a.length rfl HA.out rfl (by simp only [maxLen, List.length_nil]; omega) (by simp only [List.length_nil]; omega) ?_); intro v1 w1 ho1 hg1; simp only [List.nil_append] at ho1)
    | (at_builtin; (refine wpList_append_seq _ rfl (.tmp 16) (.tmp 17) 26 rfl 16 elRRanges rfl ho1 b.length rfl (HA'.out.below ho1.2) rfl (by simp only [maxLen]; omega) (by omega) ?_); intro v2 w2 ho2 hg2; obtain ⟨A2, c2, rfl, _, _⟩ := OwnB.form ⟨ho2.1, ho2.size⟩; have HE := Lib.hid (edges_any A2 c2 w2.heap.size (a ++ b) w2 (by rw [HAB.out]; omega) (OwnB.seq ⟨ho2.1, ho2.size⟩) (Nat.le_refl _)); simp only [List.length_append] at HE)
    | (go_at_call 27; refine HE.out.mono ?_; rintro e w3 ⟨v3, rfl, ho3⟩; have hel := edgesF_len (a ++ b) 1114112 0)
    | (at_builtin; (refine wpList_append_seq _ rfl (.tmp 21) (.tmp 22) 52 rfl 8 elIntE rfl (ho3.alloc _) 1 rfl (SeqAt.new (E := Eint) w3 [1114112] 3) rfl (by simp only [maxLen, edgesL, List.length_cons]; omega) (by simp only [edgesL, List.length_cons]; omega) ?_); intro v4 w4 ho4 hg4; obtain ⟨E, hE⟩ : ∃ E, edgesL (a ++ b) ++ [1114112] = E := ⟨_, rfl⟩; have HEE := Lib.hid hE; rw [hE] at ho4; clear hE; obtain ⟨A4, c4, rfl, _, _⟩ := OwnB.form ⟨ho4.1, ho4.size⟩))
  have hb24 : Below w2.heap.size w2 w4 := ho4.2
  have hbA : Below wb.heap.size wb w4 := ho2.2.trans (hb24.mono ho2.size)
  have hz4 : wb.heap.size ≤ w4.heap.size := hbA.size
  have HE4 := Lib.hid (OwnB.seq ⟨ho4.1, ho4.size⟩)
  have HFin := Lib.hid (show ∀ wx v o, Own Epair 47 w4 wx v o → Own Epair 47 w wx v o from fun wx v o h => Own.earlier (hbb.trans (hbA.mono hbb.size)) h)
  have HR0 := Lib.hid (show canonL (wantF b0 b1 b2 b3) a b = runC (maskB (wantF b0 b1 b2 b3) a b) [] (E.drop 0) by rw [← HEE.out]; rfl)
  rw [HEE.out] at HL HBD
  have hEl := HL.out
  have hH := hwb
  clear hel ho1 ho2 ho3 ho4 hg1 hg2 hg4 hb24 HE HAB hwb hH
  go_loopw [9, 10, 11, 12] (fun uo ix _ _ wr => ∃ (i : Nat) (o : List Rg), i ≤ E.length ∧ ix = .int .i64 i ∧ o.length ≤ i ∧ Own Epair 47 w4 wr uo o ∧ Hid (canonL (wantF b0 b1 b2 b3) a b = runC (maskB (wantF b0 b1 b2 b3) a b) o (E.drop i)))
    (fun _ ix _ _ _ => E.length + 1 - (intOf ix).toNat)
  case atStart => exact ⟨0, [], by omega, rfl, by simp, Own.nil_ _, HR0.out⟩
  case round =>
    obtain ⟨i, o, hi, rfl, hol, hown, hrest⟩ := hrel
    have hz := hown.size
    by_cases hlt : i + 1 < E.length
    · obtain ⟨be, offe, rfl, hbe, hce⟩ := (HE4.out.below hown.2).ints_ (by omega)
      have g0 := hce i (by omega)
      have g1 := hce (i + 1) hlt
      clear hce
      have x0 := HBD.out _ (getD_mem' (show i < E.length by omega))
      have y0 := HBD.out _ (getD_mem' hlt)
      have HS := Lib.hid (runC_drop (maskB (wantF b0 b1 b2 b3) a b) o E i hlt)
      obtain ⟨x, hx⟩ : ∃ x, E.getD i 0 = x := ⟨_, rfl⟩
      obtain ⟨y, hy⟩ : ∃ y, E.getD (i + 1) 0 = y := ⟨_, rfl⟩
      rw [hx] at g0 x0 HS
      rw [hy] at g1 y0 HS
      clear hx hy
      obtain ⟨x1, x2⟩ := x0
      obtain ⟨y1, y2⟩ := y0
      have HIa := Lib.hid (fun wx (hb : Below wr.heap.size wr wx) => refIn_any A c wb.heap.size a x wx (by omega) ((HA.out.below (hbA.trans (hown.2.mono hz4))).below (hb.mono (by omega))) (by have := hb.size; omega))
      have HIb := Lib.hid (fun wx (hb : Below wr.heap.size wr wx) => refIn_any A' c' wb.heap.size b x wx (by omega) ((HA'.out.below (hbA.trans (hown.2.mono hz4))).below (hb.mono (by omega))) (by have := hb.size; omega))
      have hbw : be < wr.heap.size := by omega
      have hie : (i : Int) + 1 < (E.length : Int) := by omega
      have hie0 : (i : Int) < (E.length : Int) := by omega
      have HWC := Lib.hid (fun k hk => ((hbA.trans (hown.2.mono hz4)).cell (p := ⟨w.heap.size, k, none⟩) (show w.heap.size < wb.heap.size by rw [HZB.out]; omega)).trans (HC.out k hk))
      have hwb' : w.heap.size < wr.heap.size := by have := HZB.out; omega
      have HOW := Lib.hid hown
      have HG1 := Lib.hid g1
      clear hown g1
      have ck := HWC.out ((if inB a x then 1 else 0) + (if inB b x then 2 else 0)) (by split <;> split <;> omega)
      rw [show wantF b0 b1 b2 b3 ((if inB a x then 1 else 0) + (if inB b x then 2 else 0)) = maskB (wantF b0 b1 b2 b3) a b x from rfl] at ck
      obtain ⟨wv, hwv⟩ : ∃ wv, maskB (wantF b0 b1 b2 b3) a b x = wv := ⟨_, rfl⟩
      rw [hwv] at ck
      have HWV := Lib.hid hwv
      clear hwv
      cases hba : inB a x <;> cases hbb2 : inB b x <;>
        (rw [hba, hbb2] at ck
         rw [hba] at HIa
         rw [hbb2] at HIb
         clear hba hbb2
         simp only [if_true, Bool.false_eq_true, if_false, Nat.zero_add, Nat.add_zero, Nat.reduceAdd] at ck
         cases wv
         · have HST := Lib.hid (show stepC (maskB (wantF b0 b1 b2 b3) a b) o x y = o by unfold stepC; rw [HWV.out]; rfl)
           have HM1 : Hid True := trivial
           go_wp2_with (first
             | (go_at_call 20; clear HM1; refine (HIa.out _ (Below.refl _ _)).mono ?_; rintro e w5 ⟨rfl, hb5⟩; have g1 := (hb5.cell (p := ⟨be, offe + i, none⟩) hbw).trans g0; have ck5 := (hb5.cell (p := ⟨w.heap.size, _, none⟩) hwb').trans ck)
             | (go_at_call 20; refine (HIb.out _ hb5).mono ?_; rintro e w6 ⟨rfl, hb6⟩; have hb56 := hb5.trans (hb6.mono hb5.size); have ck6 := (hb6.cell (p := ⟨w.heap.size, _, none⟩) (by have := hb5.size; simp only; omega)).trans ck5))
           go_roundw
           case rel => exact ⟨i + 1, o, by omega, by go_num, by omega, HOW.out.below hb56, Lib.hid (by rw [hrest.out, HS.out, HST.out])⟩
           case measure => simp [intOf]; omega
         · have HST := Lib.hid (show stepC (maskB (wantF b0 b1 b2 b3) a b) o x y = put o x y by unfold stepC; rw [HWV.out]; rfl)
           have HM1 : Hid True := trivial
           rcases List.eq_nil_or_concat o with rfl | ⟨S, q, rfl⟩
           · obtain ⟨A5, c5, rfl, _, _⟩ := OwnB.form ⟨HOW.out.1, HOW.out.size⟩
             go_wp2_with (first
               | (go_at_call 20; clear HM1; refine (HIa.out _ (Below.refl _ _)).mono ?_; rintro e w5 ⟨rfl, hb5⟩; have g1 := (hb5.cell (p := ⟨be, offe + i, none⟩) hbw).trans g0; have ck5 := (hb5.cell (p := ⟨w.heap.size, _, none⟩) hwb').trans ck)
               | (go_at_call 20; refine (HIb.out _ hb5).mono ?_; rintro e w6 ⟨rfl, hb6⟩; have hb56 := hb5.trans (hb6.mono hb5.size); have ck6 := (hb6.cell (p := ⟨w.heap.size, _, none⟩) (by have := hb5.size; simp only; omega)).trans ck5; have k0 := (hb56.cell (p := ⟨be, offe + i, none⟩) hbw).trans g0; have k1 := (hb56.cell (p := ⟨be, offe + (i + 1), none⟩) hbw).trans HG1.out; have hown6 := HOW.out.below hb56; have hbw6 : be < w6.heap.size := by have := hb56.size; omega))
             go_quiet (fail)
             go_upto_region 9 with (fail)
             have HR7 := Lib.hid (show canonL (wantF b0 b1 b2 b3) a b = runC (maskB (wantF b0 b1 b2 b3) a b) ([] ++ [(x, y - 1)]) (E.drop (i + 1)) by rw [hrest.out, HS.out, HST.out]; rfl)
             have t1 : IntKind.i64.wrap ((i : Int) + 1) = (i : Int) + 1 := IntWalk.i64_in _ (by omega)
             have t2 : ((i : Int) + 1).toNat = i + 1 := by omega
             have t3 : (0 : Int) ≤ (i : Int) + 1 := by omega
             have t4 : IntKind.i64.wrap (y - 1) = y - 1 := IntWalk.i64_in _ (by omega)
             have hown7 := hown6.below (below_drewN (Below.refl w6.heap.size w6) nq)
             have k2 : (w6.drewN nq).cell? ⟨be, offe + i, none⟩ = some (.int .i64 x) := k0
             have k3 : (w6.drewN nq).cell? ⟨be, offe + (i + 1), none⟩ = some (.int .i64 y) := k1
             have hbw7 : be < (w6.drewN nq).heap.size := hbw6
             have hz7 : w4.heap.size ≤ (w6.drewN nq).heap.size := hown6.size
             clear k0 k1 g0 ck6 ck5 ck
             obtain ⟨w7, hw7⟩ : ∃ w7, w6.drewN nq = w7 := ⟨_, rfl⟩
             rw [hw7] at hown7 k2 k3 hbw7 hz7 ⊢
             clear hw7
             have E0 := Lib.hid k2
             have E1 := Lib.hid k3
             go_region_held3 (fun w' => w'.cell? ⟨be, offe + i, none⟩ = some (.int .i64 x) ∧ w'.cell? ⟨be, offe + (i + 1), none⟩ = some (.int .i64 y)) (first | exact ⟨(hown1.2.cell (p := ⟨be, offe + i, none⟩) hbe).trans (((hown7.2.cell (p := ⟨be, offe + i, none⟩) hbe).symm).trans E0.out), (hown1.2.cell (p := ⟨be, offe + (i + 1), none⟩) hbe).trans (((hown7.2.cell (p := ⟨be, offe + (i + 1), none⟩) hbe).symm).trans E1.out)⟩ | go_keep)
               ((refine step_append_seqC _ (by rfl) (.tmp 80) (.tmp 92) 26 (by rfl) 16 elRRanges (by rfl) ((hown7.alloc _).drew) 1 (by rfl) (SeqAt.new (E := Epair) w7 [(x, y - 1)] 47).drew (by rfl) (by simp only [maxLen]; omega) (by omega) ?_; intro v1 w1 hown1 hgrow))
             clear t1 t2 t3 t4
             go_wp2
             go_roundw
             case rel => exact ⟨i + 1, _, by omega, by go_num, by simp, hown1, HR7⟩
             case measure => simp [intOf]; omega
           · rw [List.concat_eq_append] at HST HOW hrest hol HS
             have hSl : (S ++ [q]).length = S.length + 1 := by simp
             rw [hSl] at hol
             have HSl := Lib.hid hSl
             clear hSl
             obtain ⟨g, c5, rfl⟩ := own_row HOW.out
             go_wp2_with (first
               | (go_at_call 20; clear HM1; refine (HIa.out _ (Below.refl _ _)).mono ?_; rintro e w5 ⟨rfl, hb5⟩; have g1 := (hb5.cell (p := ⟨be, offe + i, none⟩) hbw).trans g0; have ck5 := (hb5.cell (p := ⟨w.heap.size, _, none⟩) hwb').trans ck)
               | (go_at_call 20; refine (HIb.out _ hb5).mono ?_; rintro e w6 ⟨rfl, hb6⟩; have hb56 := hb5.trans (hb6.mono hb5.size); have ck6 := (hb6.cell (p := ⟨w.heap.size, _, none⟩) (by have := hb5.size; simp only; omega)).trans ck5; have k0 := (hb56.cell (p := ⟨be, offe + i, none⟩) hbw).trans g0; have k1 := (hb56.cell (p := ⟨be, offe + (i + 1), none⟩) hbw).trans HG1.out; have hown6 := HOW.out.below hb56; have hbw6 : be < w6.heap.size := by have := hb56.size; omega))
             obtain ⟨l1, l2, l3, l4, l5⟩ := own_last hown6
             have HL5 := Lib.hid l5
             have hil : (i : Int) ≤ 1114114 := by omega
             clear l5
             have t5 : IntKind.i64.wrap (((S.length : Int) + 1) - 1) = (S.length : Int) := by rw [show ((S.length : Int) + 1) - 1 = (S.length : Int) by omega]; exact IntWalk.i64_in _ (by omega)
             have t6 : IntKind.i64.wrap (x - 1) = x - 1 := IntWalk.i64_in _ (by omega)
             by_cases ht : q.2 = x - 1
             · have hte : (q.2 == x - 1) = true := by simpa using ht
               have HPT := Lib.hid (show put (S ++ [q]) x y = S ++ [(q.1, y - 1)] by rw [put_snoc, if_pos ht])
               clear ht
               go_quiet (fail)
               clear t5 t6
               have hw67 : ∃ w7, w6.drewN nq = w7 := ⟨_, rfl⟩
               have m1 : (w6.drewN nq).cell? ⟨g, S.length * 2 + 1, none⟩ = some (.int .i64 q.2) := l1
               have m2 : (w6.drewN nq).frozen? ⟨g, S.length * 2 + 1, none⟩ = false := l2
               have k3 : (w6.drewN nq).cell? ⟨be, offe + (i + 1), none⟩ = some (.int .i64 y) := k1
               have HL7 := Lib.hid (fun u => (own_last (hown6.below (below_drewN (Below.refl w6.heap.size w6) nq))).2.2.2.2 u)
               generalize w6.drewN nq = w7 at *
               go_wp2
               go_roundw
               case rel => exact ⟨i + 1, S ++ [(q.1, y - 1)], by omega, by go_num, by simp; omega, by simpa using HL7.out (y - 1), Lib.hid (by rw [hrest.out, HS.out, HST.out, HPT.out])⟩
               case measure => simp [intOf]; omega
             · have hte : (q.2 == x - 1) = false := by simpa using ht
               have HR7 := Lib.hid (show canonL (wantF b0 b1 b2 b3) a b = runC (maskB (wantF b0 b1 b2 b3) a b) (S ++ [q] ++ [(x, y - 1)]) (E.drop (i + 1)) by rw [hrest.out, HS.out, HST.out, put_snoc, if_neg ht])
               clear ht
               go_quiet (fail)
               go_upto_region 9 with (fail)
               clear t5 t6
               have t1 : IntKind.i64.wrap ((i : Int) + 1) = (i : Int) + 1 := IntWalk.i64_in _ (by omega)
               have t2 : ((i : Int) + 1).toNat = i + 1 := by omega
               have t3 : (0 : Int) ≤ (i : Int) + 1 := by omega
               have t4 : IntKind.i64.wrap (y - 1) = y - 1 := IntWalk.i64_in _ (by omega)
               have hown7 := hown6.below (below_drewN (Below.refl w6.heap.size w6) nq)
               rw [HSl.out] at hown7
               have k2 : (w6.drewN nq).cell? ⟨be, offe + i, none⟩ = some (.int .i64 x) := k0
               have k3 : (w6.drewN nq).cell? ⟨be, offe + (i + 1), none⟩ = some (.int .i64 y) := k1
               have hbw7 : be < (w6.drewN nq).heap.size := hbw6
               have hz7 : w4.heap.size ≤ (w6.drewN nq).heap.size := hown6.size
               clear k0 k1 g0 ck6 ck5 ck l1 l2 l4 HL5
               obtain ⟨w7, hw7⟩ : ∃ w7, w6.drewN nq = w7 := ⟨_, rfl⟩
               rw [hw7] at hown7 k2 k3 hbw7 hz7 ⊢
               clear hw7
               have E0 := Lib.hid k2
               have E1 := Lib.hid k3
               go_region_held3 (fun w' => w'.cell? ⟨be, offe + i, none⟩ = some (.int .i64 x) ∧ w'.cell? ⟨be, offe + (i + 1), none⟩ = some (.int .i64 y)) (first | exact ⟨(hown1.2.cell (p := ⟨be, offe + i, none⟩) hbe).trans (((hown7.2.cell (p := ⟨be, offe + i, none⟩) hbe).symm).trans E0.out), (hown1.2.cell (p := ⟨be, offe + (i + 1), none⟩) hbe).trans (((hown7.2.cell (p := ⟨be, offe + (i + 1), none⟩) hbe).symm).trans E1.out)⟩ | go_keep)
                 ((refine step_append_seqC _ (by rfl) (.tmp 80) (.tmp 92) 26 (by rfl) 16 elRRanges (by rfl) ((hown7.alloc _).drew) 1 (by rfl) (SeqAt.new (E := Epair) w7 [(x, y - 1)] 47).drew (by rfl) (by rw [HSl.out]; simp only [maxLen]; omega) (by rw [HSl.out]; omega) ?_; intro v1 w1 hown1 hgrow))
               clear t1 t2 t3 t4
               go_wp2
               go_roundw
               case rel => exact ⟨i + 1, _, by omega, by go_num, by simp; omega, hown1, HR7⟩
               case measure => simp [intOf]; omega)
    · have HX := Lib.hid (runC_end (maskB (wantF b0 b1 b2 b3) a b) o E i hlt)
      go_wp2
      go_ret
      exact ⟨_, rfl, by rw [hrest.out, HX.out]; exact HFin.out _ _ _ hown⟩

end Go.Proofs.Ytapjkahpblbnmaa
