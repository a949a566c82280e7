/- Chapter 12: the walks of repeat and of its closure. -/
import Derived.Test.YtblkejnckbeieaaGreatDoorZk25
import Derived.Test.YtblkejnckbeieaaGreatDoorZk12
namespace Go.Proofs.YtblkejnckbeieaaGreatDoor
open Go.RowKit SetPure

set_option maxRecDepth 100000 in
set_option maxHeartbeats 3200000 in
theorem again_any (P : Nat → Prop) (nd : SynP.Nd) (r : RawN) (m : Int) (N : Nat) (lz : Bool) (w : World) (hN : w.cell? ⟨N, 5, none⟩ = some (.bool lz)) (hNl : N < w.heap.size) (hl : Lies w P nd r) :
    Calls Tryz.prog 104 #[.agg r.cells.toArray, .int .i64 m, .pointer (some ⟨N, 0, none⟩)] w fun e w' => ∃ r2 : RawN, e = .returned (.agg r2.cells.toArray) ∧ Below w.heap.size w w' ∧ Lies w' (Qw w P) (SynP.Nd.rep 0 m lz nd) r2 := by
  obtain ⟨r0, r1, r2, r3, r4, r5, r6, r7, r8, r9, ra, rb, rc⟩ := r
  have HL := Lib.hid hl
  have HZ : Hid (BoxN ((w.alloc (.cells #[.int .i64 r0, .slice r1 r2 r3, .bool r4, .int .i64 r5, .int .i64 r6, .bool r7, .int .i64 r8, .string r9, .slice ra rb rc] 29)).alloc (.cells zeroA 29)) (w.heap.size + 1) zeroA) := Lib.hid (by
    have := heap_alloc_new (w.alloc (.cells #[.int .i64 r0, .slice r1 r2 r3, .bool r4, .int .i64 r5, .int .i64 r6, .bool r7, .int .i64 r8, .string r9, .slice ra rb rc] 29)) (.cells zeroA 29)
    rw [World.size_alloc] at this
    exact this)
  have HB := Lib.hid (below_two w (.cells #[.int .i64 r0, .slice r1 r2 r3, .bool r4, .int .i64 r5, .int .i64 r6, .bool r7, .int .i64 r8, .string r9, .slice ra rb rc] 29) (.cells zeroA 29))
  have HX : Hid (((w.alloc (.cells #[.int .i64 r0, .slice r1 r2 r3, .bool r4, .int .i64 r5, .int .i64 r6, .bool r7, .int .i64 r8, .string r9, .slice ra rb rc] 29)).alloc (.cells zeroA 29)).heap[w.heap.size]? = some (.cells #[.int .i64 r0, .slice r1 r2 r3, .bool r4, .int .i64 r5, .int .i64 r6, .bool r7, .int .i64 r8, .string r9, .slice ra rb rc] 29)) := Lib.hid ((Below.heap_alloc _ _ _ (by simp)).trans (heap_alloc_new w _))
  have HS : Hid (((w.alloc (.cells #[.int .i64 r0, .slice r1 r2 r3, .bool r4, .int .i64 r5, .int .i64 r6, .bool r7, .int .i64 r8, .string r9, .slice ra rb rc] 29)).alloc (.cells zeroA 29)).heap.size = w.heap.size + 2) := Lib.hid (by simp)
  have hcN : ((w.alloc (.cells #[.int .i64 r0, .slice r1 r2 r3, .bool r4, .int .i64 r5, .int .i64 r6, .bool r7, .int .i64 r8, .string r9, .slice ra rb rc] 29)).alloc (.cells zeroA 29)).cell? ⟨N, 5, none⟩ = some (.bool lz) := (HB.out.cell (p := ⟨N, 5, none⟩) hNl).trans hN
  simp only [RawN.cells] at HZ HB ⊢
  clear hN hl hNl
  go_enter Tryz.func104, Tryz.ntmps104
  go_upto_region 1 with fail
  unfold zeroA at HZ HB HX HS hcN
  generalize (w.alloc (.cells #[.int .i64 r0, .slice r1 r2 r3, .bool r4, .int .i64 r5, .int .i64 r6, .bool r7, .int .i64 r8, .string r9, .slice ra rb rc] 29)).alloc (.cells #[.int .i64 0, .slice none 0 0, .bool false, .int .i64 0, .int .i64 0, .bool false, .int .i64 0, .string ⟨#[]⟩, .slice none 0 0] 29) = W at HZ HB HX HS hcN ⊢
  have hc : ∀ o, W.cell? ⟨w.heap.size, o, none⟩ = #[Value.int .i64 r0, .slice r1 r2 r3, .bool r4, .int .i64 r5, .int .i64 r6, .bool r7, .int .i64 r8, .string r9, .slice ra rb rc][o]? := fun o => Lib.cell_of_heap HX.out o
  have HZa : Hid (∀ o : Obj, BoxN (W.alloc o) (w.heap.size + 1) zeroA) := Lib.hid fun o => (Below.heap_alloc _ _ _ (by rw [HS.out]; omega)).trans HZ.out
  go_wp2_with (refine wpList_store_row rfl 29 (.tmp 5) (.tmp 11) rfl (w.heap.size + 1) (repN 0 m lz W.heap.size).cells.toArray rfl rfl 29 _ (HZa.out _) sizeN rfl (cellsN_one _) ?_)
  have hbel : Below w.heap.size w (W.alloc (.cells #[.int .i64 r0, .slice r1 r2 r3, .bool r4, .int .i64 r5, .int .i64 r6, .bool r7, .int .i64 r8, .string r9, .slice ra rb rc] 29)) := HB.out.alloc HB.out.size _
  have hl2 : Lies (W.alloc (.cells #[.int .i64 r0, .slice r1 r2 r3, .bool r4, .int .i64 r5, .int .i64 r6, .bool r7, .int .i64 r8, .string r9, .slice ra rb rc] 29)) (fun k => P k ∧ k < w.heap.size ∨ k = W.heap.size) (SynP.Nd.rep 0 m lz nd) (repN 0 m lz W.heap.size) := by
    refine Lies.rep (.inr rfl) (r := ⟨r0, r1, r2, r3, r4, r5, r6, r7, r8, r9, ra, rb, rc⟩) (heap_alloc_new W _) ?_
    exact Lies.on (StandN.below hbel) _ _ (Lies.mono (fun b hb hlt => .inl ⟨hb, hlt⟩) _ _ HL.out)
  obtain ⟨e1, e2⟩ := box_ret hbel (HZa.out _) (Nat.le_succ _) hl2 (by rintro (⟨_, h⟩ | h); all_goals (have := HS.out; omega))
  refine retN rfl (repN 0 m lz W.heap.size) rfl (setRow_heap _ _ _ _ _ _ (HZa.out _)) rfl ⟨_, rfl, e1, ?_⟩
  refine Lies.mono (fun k hk _ => ?_) _ _ e2
  rcases hk with hk | rfl
  · exact .inl hk
  · exact .inr (by rw [HS.out]; omega)

/-- Old blocks of which P holds, and blocks behind T. -/
def R2 (w : World) (P : Nat → Prop) (T k : Nat) : Prop := P k ∧ k < w.heap.size ∨ T < k
theorem R2.of_Qw {w wx : World} {P : Nat → Prop} {T k : Nat} (hT : T < wx.heap.size) (h : Qw wx (R2 w P T) k) : R2 w P T k := by
  rcases h with ⟨h, _⟩ | h
  · exact h
  · exact .inr (by omega)
theorem flat_two (x y : SynP.Nd) (hx : x.kind = 1) (hy : y.kind ≠ 8) : SynP.flatN 8 [x, y] = [x, y] := by
  simp [SynP.flatN, hx, hy]
theorem tail_kind (lz : Bool) (x : SynP.Nd) : ∀ n, (SynP.tailN lz x n).kind ≠ 8
  | 0 => by show ¬ (0 : Nat) = 8; decide
  | n + 1 => by show ¬ (10 : Nat) = 8; decide
theorem flat_times (a : Nat) (x y : SynP.Nd) (hx : x.kind = 1) (hy : y.kind ≠ 8) : (SynP.flatN 8 (List.replicate a x ++ [y])).length = a + 1 := by
  have h1 : ∀ a, (SynP.flatN 8 (List.replicate a x)).length = a := fun a => by
    induction a with
    | zero => rfl
    | succ a ih =>
      unfold SynP.flatN at ih ⊢
      rw [List.replicate_succ, List.flatMap_cons, List.length_append, ih, if_neg (by omega)]
      simp only [List.length_singleton]
      omega
  have h2 := h1 a
  unfold SynP.flatN at h2 ⊢
  rw [List.flatMap_append, List.length_append, h2]
  simp [hy]
/-- What repeat holds while it lays the tail: its tail's box. -/
structure TlS (w Wl wr : World) (P : Nat → Prop) (T : Nat) (nd : SynP.Nd) (r : RawN) : Prop where
  bel : Below T Wl wr
  box : BoxN wr T r.cells.toArray
  lies : Lies wr (R2 w P T) nd r
theorem row_two {w : World} {A : Nat → Prop} {S : Nat} {fz : Nat × Nat} {r q : RawN} (hA : A S) (hS : w.heap[S]? = some (.cells (r.cells ++ q.cells).toArray 29 fz)) : KidsAt w A (some ⟨S, 0, none⟩) [r, q] := fun _ =>
  ⟨S, 0, rfl, hA, ⟨_, _, hS⟩, fun j hj => by
    rw [Nat.zero_add, cell_of_row w S j _ _ fz hS, List.getElem?_toArray]
    have e : [r, q].flatMap Enode.enc = r.cells ++ q.cells := by simp [Enode]
    rw [e, List.getD_eq_getElem?_getD, List.getElem?_eq_getElem (by have : [r, q].length * 9 = 18 := rfl; show j < 18; omega)]
    rfl⟩

set_option maxRecDepth 100000 in
set_option maxHeartbeats 12800000 in
theorem repeat_any (P : Nat → Prop) (x : SynP.Nd) (hx : x.kind = 1) (nr r : RawN) (w : World) (h1 : 0 ≤ nr.mn) (h2 : nr.mn ≤ nr.mx) (h3 : nr.mx ≤ 1000) (hl : Lies w P x r) :
    Calls Tryz.prog 73 #[.agg nr.cells.toArray, .agg r.cells.toArray] w fun e w' => ∃ q : RawN, e = .returned (.agg q.cells.toArray) ∧ Below w.heap.size w w' ∧ Lies w' (Qw w P) (SynP.timesN nr.mn nr.mx nr.lazy x) q := by
  obtain ⟨n0, n1, n2, n3, n4, n5, n6, n7, n8, n9, na, nb, nc⟩ := nr
  obtain ⟨r0, r1, r2, r3, r4, r5, r6, r7, r8, r9, ra, rb, rc⟩ := r
  simp only at h1 h2 h3 ⊢
  obtain ⟨a, rfl⟩ : ∃ a : Nat, n5 = a := ⟨n5.toNat, by omega⟩
  obtain ⟨m, rfl⟩ : ∃ m : Nat, n6 = (m : Int) := ⟨n6.toNat, by omega⟩
  obtain ⟨b, hb⟩ : ∃ b : Nat, m = a + b := ⟨m - a, by omega⟩
  have HM := Lib.hid hb
  have hm9 : m ≤ 1000 := by omega
  have ha9 : a ≤ m := by omega
  have hb9 : b ≤ m := by omega
  have hE : SynP.timesN (a : Int) (m : Int) n7 x = SynP.rowN (List.replicate a x ++ [SynP.tailN n7 x b]) := by
    unfold SynP.timesN
    rw [if_neg (by omega), show ((a : Int)).toNat = a by omega, show ((m : Int) - (a : Int)).toNat = b by omega]
  clear hb
  have HE := Lib.hid hE
  have HX1 := Lib.hid hx
  obtain ⟨N, hN⟩ : ∃ N, w.heap.size = N := ⟨_, rfl⟩
  have HNe := Lib.hid hN
  have HL0 := Lib.hid hl
  obtain ⟨W0, hW0⟩ : ∃ W0, ((w.alloc (.cells #[.int .i64 n0, .slice n1 n2 n3, .bool n4, .int .i64 a, .int .i64 (m : Int), .bool n7, .int .i64 n8, .string n9, .slice na nb nc] 29)).alloc (.cells #[.int .i64 r0, .slice r1 r2 r3, .bool r4, .int .i64 r5, .int .i64 r6, .bool r7, .int .i64 r8, .string r9, .slice ra rb rc] 29)).alloc (.cells zeroA 29) = W0 := ⟨_, rfl⟩
  have HS : Hid (W0.heap.size = N + 3) := Lib.hid (by rw [← hW0]; simp [hN])
  have HB0 : Hid (Below N w W0) := Lib.hid (by rw [← hW0, ← hN]; exact (below_two w _ _).alloc (by simp only [World.size_alloc]; omega) _)
  have HbN : Hid (BoxN W0 N #[.int .i64 n0, .slice n1 n2 n3, .bool n4, .int .i64 a, .int .i64 (m : Int), .bool n7, .int .i64 n8, .string n9, .slice na nb nc]) := Lib.hid (by
    rw [← hW0, ← hN]
    exact (Below.heap_alloc _ _ _ (by simp only [World.size_alloc]; omega)).trans ((Below.heap_alloc _ _ _ (by simp)).trans (heap_alloc_new w _)))
  have HbX : Hid (BoxN W0 (N + 1) #[.int .i64 r0, .slice r1 r2 r3, .bool r4, .int .i64 r5, .int .i64 r6, .bool r7, .int .i64 r8, .string r9, .slice ra rb rc]) := Lib.hid (by
    rw [← hW0, ← hN]
    have := heap_alloc_new (w.alloc (.cells #[.int .i64 n0, .slice n1 n2 n3, .bool n4, .int .i64 a, .int .i64 (m : Int), .bool n7, .int .i64 n8, .string n9, .slice na nb nc] 29)) (.cells #[.int .i64 r0, .slice r1 r2 r3, .bool r4, .int .i64 r5, .int .i64 r6, .bool r7, .int .i64 r8, .string r9, .slice ra rb rc] 29)
    rw [World.size_alloc] at this
    exact (Below.heap_alloc _ _ _ (by simp)).trans this)
  have HbV : Hid (BoxN W0 (N + 2) zeroA) := Lib.hid (by
    rw [← hW0, ← hN]
    have := heap_alloc_new ((w.alloc (.cells #[.int .i64 n0, .slice n1 n2 n3, .bool n4, .int .i64 a, .int .i64 (m : Int), .bool n7, .int .i64 n8, .string n9, .slice na nb nc] 29)).alloc (.cells #[.int .i64 r0, .slice r1 r2 r3, .bool r4, .int .i64 r5, .int .i64 r6, .bool r7, .int .i64 r8, .string r9, .slice ra rb rc] 29)) (.cells zeroA 29)
    rw [World.size_alloc, World.size_alloc] at this
    exact this)
  have HLx : Hid (Lies W0 (fun k => P k ∧ k < N) x ⟨r0, r1, r2, r3, r4, r5, r6, r7, r8, r9, ra, rb, rc⟩) := Lib.hid (Lies.on (StandN.below (by rw [hN]; exact HB0.out)) _ _ (Lies.mono (fun k hk hlt => ⟨hk, by omega⟩) _ _ hl))
  have hmf : ∀ (fn : Fn) (first cap : Array Value) (w : World), (Instr.makeFunc fn first cap).run Tryz.prog w = .ok (.func fn first cap) w := fun _ _ _ _ => rfl
  simp only [RawN.cells]
  clear hE hl hx h1 h2 h3
  go_enter Tryz.func73, Tryz.ntmps73
  go_upto_region 1 with fail
  clear hW0 hN
  have hcN : ∀ o, W0.cell? ⟨N, o, none⟩ = #[Value.int .i64 n0, .slice n1 n2 n3, .bool n4, .int .i64 a, .int .i64 (m : Int), .bool n7, .int .i64 n8, .string n9, .slice na nb nc][o]? := fun o => Lib.cell_of_heap HbN.out o
  go_wp2_with fail
  clear hcN
  go_loopw [6, 11] (fun s6 s11 wr => ∃ i : Nat, i ≤ a ∧ s11 = .int .i64 i ∧ Hid (KdS W0 wr (fun k => P k ∧ k < N) (List.replicate i x) (List.replicate i ⟨r0, r1, r2, r3, r4, r5, r6, r7, r8, r9, ra, rb, rc⟩) s6)) (fun _ s11 _ => a + 1 - (intOf s11).toNat)
  case atStart => exact ⟨0, Nat.zero_le _, rfl, Lib.hid (KdS.start W0 _)⟩
  case round =>
    obtain ⟨i, hi, rfl, HK⟩ := hrel
    obtain ⟨A0, c0, rfl, hc0, hm0⟩ := HK.out.own.form
    have hlr : (List.replicate i (⟨r0, r1, r2, r3, r4, r5, r6, r7, r8, r9, ra, rb, rc⟩ : RawN)).length = i := List.length_replicate
    have HXr : Hid (BoxN wr (N + 1) #[.int .i64 r0, .slice r1 r2 r3, .bool r4, .int .i64 r5, .int .i64 r6, .bool r7, .int .i64 r8, .string r9, .slice ra rb rc]) := Lib.hid ((HK.out.bel.block (N + 1) HbX.out.lt).trans HbX.out)
    have hcX : ∀ o, wr.cell? ⟨N + 1, o, none⟩ = #[Value.int .i64 r0, .slice r1 r2 r3, .bool r4, .int .i64 r5, .int .i64 r6, .bool r7, .int .i64 r8, .string r9, .slice ra rb rc][o]? := fun o => Lib.cell_of_heap HXr.out o
    by_cases hlt : i < a
    · have hii : (i : Int) < (a : Int) := by omega
      have HSn : Hid (List.replicate (i + 1) x = List.replicate i x ++ [x] ∧ List.replicate (i + 1) (⟨r0, r1, r2, r3, r4, r5, r6, r7, r8, r9, ra, rb, rc⟩ : RawN) = List.replicate i ⟨r0, r1, r2, r3, r4, r5, r6, r7, r8, r9, ra, rb, rc⟩ ++ [⟨r0, r1, r2, r3, r4, r5, r6, r7, r8, r9, ra, rb, rc⟩]) := Lib.hid ⟨List.replicate_succ', List.replicate_succ'⟩
      obtain ⟨ws, hws⟩ : ∃ ws, List.replicate i (⟨r0, r1, r2, r3, r4, r5, r6, r7, r8, r9, ra, rb, rc⟩ : RawN) = ws := ⟨_, rfl⟩
      have HWs := Lib.hid hws
      rw [hws] at HK hlr ⊢
      clear hws
      go_wp2_with (at_builtin; refine wpList_append_one (E := Enode) (base := W0.heap.size) (l := ws) ⟨r0, r1, r2, r3, r4, r5, r6, r7, r8, r9, ra, rb, rc⟩ ⟨wr.heap.size, 0, none⟩ 1 rfl (.tmp 13) (.tmp 15) 27 (by rfl) 112 elNode (by rfl) (HK.out.own.alloc _) (by rfl) (by exact news_new wr _ _ _ rfl) (by unfold maxLen; omega) (by omega) ?_; intro v2 w2 ho2 hg2 hat2; have hba := (Below.refl wr.heap.size wr).alloc (Nat.le_refl _) (.cells #[.int .i64 r0, .slice r1 r2 r3, .bool r4, .int .i64 r5, .int .i64 r6, .bool r7, .int .i64 r8, .string r9, .slice ra rb rc] 29); have HK2 := Lib.hid ((HK.out.below hba).push ho2 hg2 hat2 ((HK.out.below hba).oldOne HLx.out)); clear ho2 hg2 hat2 hba)
      exact ⟨⟨i + 1, by omega, by simp, by rw [HSn.out.1, HSn.out.2, HWs.out]; exact HK2⟩, by simp only [intOf]; omega⟩
    · obtain rfl : i = a := by omega
      have hii : ¬ (i : Int) < (i : Int) := by omega
      obtain ⟨ws, hws⟩ : ∃ ws, List.replicate i (⟨r0, r1, r2, r3, r4, r5, r6, r7, r8, r9, ra, rb, rc⟩ : RawN) = ws := ⟨_, rfl⟩
      rw [hws] at HK hlr ⊢
      rw [hlr]
      have HWl := Lib.hid hlr
      have HNr : Hid (BoxN wr N #[.int .i64 n0, .slice n1 n2 n3, .bool n4, .int .i64 i, .int .i64 (m : Int), .bool n7, .int .i64 n8, .string n9, .slice na nb nc]) := Lib.hid ((HK.out.bel.block N HbN.out.lt).trans HbN.out)
      have HVr : Hid (BoxN wr (N + 2) zeroA) := Lib.hid ((HK.out.bel.block (N + 2) HbV.out.lt).trans HbV.out)
      have hcNr : ∀ o, wr.cell? ⟨N, o, none⟩ = #[Value.int .i64 n0, .slice n1 n2 n3, .bool n4, .int .i64 i, .int .i64 (m : Int), .bool n7, .int .i64 n8, .string n9, .slice na nb nc][o]? := fun o => Lib.cell_of_heap HNr.out o
      have hm1 : ((m : Int) == -1) = false := beq_false_of_ne (by omega)
      have hsub : IntKind.i64.wrap ((m : Int) - (i : Int)) = (b : Int) := by have := HM.out; rw [IntWalk.i64_in _ (by omega)]; omega
      have HNlt := Lib.hid HNr.out.lt
      clear hws hlr hcX
      obtain ⟨wl, rfl⟩ : ∃ w2 : World, w2 = wr := ⟨_, rfl⟩
      obtain ⟨T, hT⟩ : ∃ T, wl.heap.size = T := ⟨_, rfl⟩
      have HTe := Lib.hid hT
      have HT0 : Hid (TlS w wl (wl.alloc (.cells zeroA 29)) P T (SynP.Nd.leaf 0) zeroN) := Lib.hid ⟨by rw [← hT]; exact (Below.refl _ _).alloc (Nat.le_refl _) _, by rw [← hT]; exact BoxN.new wl, Lies.leaf _ _ 0⟩
      clear hT
      go_upto_region 10 with fail
      rw [HTe.out]
      have hcNa : ∀ o, (wl.alloc (.cells zeroA 29)).cell? ⟨N, o, none⟩ = #[Value.int .i64 n0, .slice n1 n2 n3, .bool n4, .int .i64 i, .int .i64 (m : Int), .bool n7, .int .i64 n8, .string n9, .slice na nb nc][o]? := fun o => (World.cell?_alloc_lt wl _ ⟨N, o, none⟩ HNlt.out).trans (hcNr o)
      unfold zeroA at HT0 hcNa
      generalize wl.alloc (.cells #[.int .i64 0, .slice none 0 0, .bool false, .int .i64 0, .int .i64 0, .bool false, .int .i64 0, .string ⟨#[]⟩, .slice none 0 0] 29) = W1 at HT0 hcNa ⊢
      clear hcNr
      go_wp2_with fail
      clear hcNa
      go_loopw [33] (fun s33 wr => ∃ (j : Nat) (q : RawN), j ≤ b ∧ s33 = .int .i64 j ∧ Hid (TlS w wl wr P T (SynP.tailN n7 x j) q)) (fun s33 _ => b + 1 - (intOf s33).toNat)
      case atStart => exact ⟨0, zeroN, Nat.zero_le _, rfl, HT0⟩
      case round =>
        obtain ⟨j, q, hj, rfl, HS2⟩ := hrel
        clear HT0
        have HBq : Hid (Below wl.heap.size wl wr) := Lib.hid (by rw [HTe.out]; exact HS2.out.bel)
        have HXx : Hid (BoxN wr (N + 1) #[.int .i64 r0, .slice r1 r2 r3, .bool r4, .int .i64 r5, .int .i64 r6, .bool r7, .int .i64 r8, .string r9, .slice ra rb rc]) := Lib.hid ((HBq.out.block (N + 1) HXr.out.lt).trans HXr.out)
        have hcX : ∀ o, wr.cell? ⟨N + 1, o, none⟩ = #[Value.int .i64 r0, .slice r1 r2 r3, .bool r4, .int .i64 r5, .int .i64 r6, .bool r7, .int .i64 r8, .string r9, .slice ra rb rc][o]? := fun o => Lib.cell_of_heap HXx.out o
        obtain ⟨q0, q1, q2, q3, q4, q5, q6, q7, q8, q9, qa, qb, qc⟩ := q
        have hcT : ∀ o, wr.cell? ⟨T, o, none⟩ = #[Value.int .i64 q0, .slice q1 q2 q3, .bool q4, .int .i64 q5, .int .i64 q6, .bool q7, .int .i64 q8, .string q9, .slice qa qb qc][o]? := fun o => Lib.cell_of_heap HS2.out.box o
        have HTlt := Lib.hid HS2.out.box.lt
        have HKx := Lib.hid (HK.out.below HBq.out)
        by_cases hlt : j < b
        · have hjj : (j : Int) < (b : Int) := by omega
          have HLx2 : Hid (Lies wr (R2 w P T) x ⟨r0, r1, r2, r3, r4, r5, r6, r7, r8, r9, ra, rb, rc⟩) := Lib.hid (Lies.mono (fun k hk _ => .inl ⟨hk.1, by rw [HNe.out]; exact hk.2⟩) _ _ (Lies.on (StandN.below (HKx.out.bel)) _ _ HLx.out))
          have HLq : Hid (Lies wr (R2 w P T) (SynP.tailN n7 x j) ⟨q0, q1, q2, q3, q4, q5, q6, q7, q8, q9, qa, qb, qc⟩) := Lib.hid HS2.out.lies
          have HcN : Hid (wr.cell? ⟨N, 5, none⟩ = some (.bool n7)) := Lib.hid (Lib.cell_of_heap ((HBq.out.block N HNr.out.lt).trans HNr.out) 5)
          have HNx : Hid (N < wr.heap.size) := Lib.hid (Nat.lt_of_lt_of_le HNr.out.lt HBq.out.size)
          have HRow : Hid (∀ W2 : World, Below wr.heap.size wr W2 → W2.heap[wr.heap.size]? = some (.cells #[.int .i64 r0, .slice r1 r2 r3, .bool r4, .int .i64 r5, .int .i64 r6, .bool r7, .int .i64 r8, .string r9, .slice ra rb rc, .int .i64 q0, .slice q1 q2 q3, .bool q4, .int .i64 q5, .int .i64 q6, .bool q7, .int .i64 q8, .string q9, .slice qa qb qc] 29) → Calls Tryz.prog 70 #[.slice (some ⟨wr.heap.size, 0, none⟩) 2 2] W2 fun e w' => ∃ r : RawN, e = .returned (.agg r.cells.toArray) ∧ Below W2.heap.size W2 w' ∧ Lies w' (R2 w P T) (SynP.rowN [x, SynP.tailN n7 x j]) r) := Lib.hid fun W2 hb hh => by
            have hTW : T < W2.heap.size := Nat.lt_of_lt_of_le HTlt.out hb.size
            refine (rowS_any (R2 w P T) [x, SynP.tailN n7 x j] [⟨r0, r1, r2, r3, r4, r5, r6, r7, r8, r9, ra, rb, rc⟩, ⟨q0, q1, q2, q3, q4, q5, q6, q7, q8, q9, qa, qb, qc⟩] (some ⟨wr.heap.size, 0, none⟩) 2 W2 rfl (Nat.le_refl _) (by unfold maxLen; decide) (row_two (.inr HTlt.out) hh) ?_ ?_).mono fun e w' ⟨r, h1, h2, h3⟩ => ⟨r, h1, h2, Lies.mono (fun k hk _ => R2.of_Qw hTW hk) _ _ h3⟩
            · unfold LiesL LiesL LiesL
              exact ⟨Lies.on (StandN.below hb) _ _ HLx2.out, Lies.on (StandN.below hb) _ _ HLq.out, trivial⟩
            · rw [flat_two x _ HX1.out (tail_kind n7 x j)]; simp
          go_wp2_with (first
            | (go_at_call 70; refine (HRow.out _ ((Below.refl _ _).alloc (Nat.le_refl _) _) (heap_alloc_new wr _)).mono ?_; rintro e w4 ⟨y, rfl, hb4, hl4⟩; have HB4 := Lib.hid (((Below.refl wr.heap.size wr).alloc (Nat.le_refl _) (.cells #[.int .i64 r0, .slice r1 r2 r3, .bool r4, .int .i64 r5, .int .i64 r6, .bool r7, .int .i64 r8, .string r9, .slice ra rb rc, .int .i64 q0, .slice q1 q2 q3, .bool q4, .int .i64 q5, .int .i64 q6, .bool q7, .int .i64 q8, .string q9, .slice qa qb qc] 29)).trans (hb4.mono (by simp))); have HL4 := Lib.hid hl4; clear hb4 hl4)
            | (go_at_call 104; refine (again_any (R2 w P T) _ y 1 N n7 _ ((HB4.out.cell (p := ⟨N, 5, none⟩) HNx.out).trans HcN.out) (Nat.lt_of_lt_of_le HNx.out HB4.out.size) HL4.out).mono ?_; rintro e w5 ⟨y2, rfl, hb5, hl5⟩; have HB5 := Lib.hid (HB4.out.trans (hb5.mono HB4.out.size)); have HL5 := Lib.hid (Lies.mono (A' := R2 w P T) (fun k hk _ => R2.of_Qw (Nat.lt_of_lt_of_le HTlt.out HB4.out.size) hk) _ _ hl5); clear hb5 hl5)
            | (refine wpList_store_row rfl 29 (.tmp 7) (.tmp 40) rfl T y2.cells.toArray rfl rfl 29 _ ((HB5.out.block T HTlt.out).trans HS2.out.box) sizeN rfl (cellsN_one _) ?_))
          have hT5 : w5.heap[T]? = some (.cells #[.int .i64 q0, .slice q1 q2 q3, .bool q4, .int .i64 q5, .int .i64 q6, .bool q7, .int .i64 q8, .string q9, .slice qa qb qc] 29 (0, 0)) := (HB5.out.block T HTlt.out).trans HS2.out.box
          have HS3 : Hid (TlS w wl (w5.setRow T y2.cells.toArray) P T (SynP.tailN n7 x (j + 1)) y2) := Lib.hid ⟨below_setRow_ (HS2.out.bel.trans (HB5.out.mono (Nat.le_of_lt HTlt.out))) (Nat.le_refl _) _, setRow_heap _ _ _ _ _ _ hT5, Lies.on (StandN.setRow _ hT5 (by
            rintro (⟨_, h⟩ | h)
            · have := HNlt.out; have := HTe.out; have := HNe.out; omega
            · exact absurd h (Nat.lt_irrefl _))) _ _ HL5.out⟩
          exact ⟨⟨j + 1, y2, by omega, by simp, HS3⟩, by simp only [intOf]; omega⟩
        · obtain rfl : j = b := by omega
          have hjj : ¬ (j : Int) < (j : Int) := by omega
          have hws1 : ws.length + 1 ≤ 1001 := by rw [HWl.out]; omega
          obtain ⟨A1, c1, e1, hc1, hm1⟩ := HKx.out.own.form
          have HTl : Hid (Lies wr (fun k => Qw W0 (fun k => P k ∧ k < N) k ∧ (Value.slice A0 i c0).ownBlock ≠ some k) (SynP.tailN n7 x j) ⟨q0, q1, q2, q3, q4, q5, q6, q7, q8, q9, qa, qb, qc⟩) := Lib.hid (Lies.mono (fun k hk _ => by
            have h0 := HS.out
            have h1 := HNe.out
            have h2 := HK.out.bel.size
            have h3 := HTe.out
            rcases hk with ⟨hk1, hk2⟩ | hk
            · refine ⟨.inl ⟨⟨hk1, by omega⟩, by omega⟩, fun e => ?_⟩
              rw [← HWl.out] at e
              have := (HK.out.own.lt k e).1
              omega
            · refine ⟨.inr (by omega), fun e => ?_⟩
              rw [← HWl.out] at e
              have := (HK.out.own.lt k e).2
              omega) _ _ HS2.out.lies)
          rw [HWl.out] at HKx
          clear e1 hc1 hm1 hcX
          have HFin : Hid (∀ (v : Value) (ws2 : List RawN) (W3 : World), KdS W0 W3 (fun k => P k ∧ k < N) (List.replicate i x ++ [SynP.tailN n7 x j]) ws2 v → Calls Tryz.prog 70 #[v] W3 fun e w' => ∃ r : RawN, e = .returned (.agg r.cells.toArray) ∧ Below W3.heap.size W3 w' ∧ Below N w w' ∧ BoxN w' (N + 2) zeroA ∧ Lies w' (Qw W0 fun k => P k ∧ k < N) (SynP.rowN (List.replicate i x ++ [SynP.tailN n7 x j])) r) := Lib.hid fun v ws2 W3 hk => by
            obtain ⟨A2, c2, rfl, hc2, hm2⟩ := hk.own.form
            refine (rowS_any (Qw W0 fun k => P k ∧ k < N) _ ws2 A2 c2 W3 hk.len hc2 hm2 hk.kids hk.all (by rw [flat_times _ _ _ HX1.out (tail_kind n7 x j)]; omega)).mono fun e w' ⟨r, h1, h2, h3⟩ => ⟨r, h1, h2, HB0.out.trans ((hk.bel.mono (by rw [HS.out]; omega)).trans (h2.mono (Nat.le_trans (by rw [HS.out]; omega) hk.bel.size))), (h2.block (N + 2) (Nat.lt_of_lt_of_le HbV.out.lt hk.bel.size)).trans ((hk.bel.block (N + 2) HbV.out.lt).trans HbV.out), Lies.mono (fun k hq _ => ?_) _ _ h3⟩
            rcases hq with ⟨hq, _⟩ | hq
            · exact hq
            · exact .inr (Nat.le_trans hk.bel.size hq)
          go_wp2_with (first
            | (at_builtin; refine wpList_append_one (E := Enode) (base := W0.heap.size) (l := ws) ⟨q0, q1, q2, q3, q4, q5, q6, q7, q8, q9, qa, qb, qc⟩ ⟨wr.heap.size, 0, none⟩ 1 rfl (.tmp 42) (.tmp 44) 27 (by rfl) 112 elNode (by rfl) (HKx.out.own.alloc _) (by rfl) (by exact news_new wr _ _ _ rfl) (by unfold maxLen; omega) (by omega) ?_; intro v2 w2 ho2 hg2 hat2; have hba := (Below.refl wr.heap.size wr).alloc (Nat.le_refl _) (.cells #[.int .i64 q0, .slice q1 q2 q3, .bool q4, .int .i64 q5, .int .i64 q6, .bool q7, .int .i64 q8, .string q9, .slice qa qb qc] 29); have HK2 := Lib.hid ((HKx.out.below hba).push ho2 hg2 hat2 (Lies.on (StandN.below hba) _ _ HTl.out)); clear ho2 hg2 hat2 hba)
            | (go_at_call 70; refine (HFin.out _ _ _ HK2.out).mono ?_; rintro e w4 ⟨y, rfl, hb4, hbw, hv4, hl4⟩; have HB4 := Lib.hid hbw; have HV4 := Lib.hid hv4; have HL4 := Lib.hid hl4; clear hb4 hbw hv4 hl4)
            | (refine wpList_store_row rfl 29 (.tmp 4) (.tmp 46) rfl (N + 2) y.cells.toArray rfl rfl 29 _ HV4.out sizeN rfl (cellsN_one _) ?_))
          obtain ⟨e1, e2⟩ := box_ret (by rw [HNe.out]; exact HB4.out) HV4.out (by rw [HNe.out]; omega) HL4.out (by
            rintro (⟨⟨_, h⟩, _⟩ | h)
            · omega
            · rw [HS.out] at h; omega)
          refine retN rfl y rfl (setRow_heap _ _ _ _ _ _ HV4.out) rfl ⟨y, rfl, e1, ?_⟩
          rw [HE.out]
          refine Lies.mono (fun k hk _ => ?_) _ _ e2
          rcases hk with ⟨⟨hk, hk2⟩, _⟩ | hk
          · exact .inl ⟨hk, by rw [HNe.out]; exact hk2⟩
          · exact .inr (by rw [HS.out] at hk; rw [HNe.out]; omega)

end Go.Proofs.YtblkejnckbeieaaGreatDoor
