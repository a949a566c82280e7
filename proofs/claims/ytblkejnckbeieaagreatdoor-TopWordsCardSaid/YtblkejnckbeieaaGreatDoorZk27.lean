/- Chapter 12: the walks of made and of Simplify. -/
import Derived.Test.YtblkejnckbeieaaGreatDoorZk26
import Derived.Test.YtblkejnckbeieaaGreatDoorZk11
import Derived.Deep.RegionWith
namespace Go.Proofs.YtblkejnckbeieaaGreatDoor
open Go.RowKit SetPure

/-- A node's box: its cell is stored. -/
theorem StandN.setN {w : World} {A : Nat → Prop} {N : Nat} {cs : Array Value} {fz : Nat × Nat} (o : Nat) (u : Value) (hV : w.heap[N]? = some (.cells cs 29 fz)) (hA : ¬ A N) : StandN A w (w.setCell ⟨N, o, none⟩ u) :=
  ⟨⟨by simp [World.setCell], fun k cs' fz' e => Below.heap_setCell w ⟨N, o, none⟩ u k (by
    rintro rfl
    rw [hV] at e
    injection e with e
    injection e with _ e
    exact absurd e (by decide))⟩, fun k _ _ ha _ => Below.heap_setCell w ⟨N, o, none⟩ u k (by rintro rfl; exact hA ha)⟩
theorem BoxN.set {w : World} {N : Nat} {cs : Array Value} (h : BoxN w N cs) (o : Nat) (u : Value) : BoxN (w.setCell ⟨N, o, none⟩ u) N (cs.setIfInBounds o u) := by
  unfold BoxN at h ⊢
  simp only [World.setCell, Array.getElem?_modify, if_true, h, Option.map_some]
  rfl
theorem StandN.step_ {A : Nat → Prop} {a b c : World} (h : StandN A a b) (k : StandN A b c) : StandN A a c :=
  ⟨h.keep.step k.keep, fun n cs fz ha e => by
    have h1 := h.row n cs fz ha e
    exact (k.row n cs fz ha (h1.trans e)).trans h1⟩
theorem frozen_box {w : World} {N : Nat} {cs : Array Value} (h : BoxN w N cs) (o : Nat) : w.frozen? ⟨N, o, none⟩ = false := by
  unfold BoxN at h
  simp [World.frozen?, h]
theorem Lies.fold_ {w : World} {P : Nat → Prop} {kind : Nat} {set : Option (Int → Bool)} {fold : Bool} {least most : Int} {lazy : Bool} {cap : Nat} {name : List UInt8} {kids : List SynP.Nd} {r : RawN} (h : Lies w P (.mk kind set fold least most lazy cap name kids) r) : r.fold = fold := by
  unfold Lies at h
  exact h.2.2.1
theorem Lies.lazy_ {w : World} {P : Nat → Prop} {kind : Nat} {set : Option (Int → Bool)} {fold : Bool} {least most : Int} {lazy : Bool} {cap : Nat} {name : List UInt8} {kids : List SynP.Nd} {r : RawN} (h : Lies w P (.mk kind set fold least most lazy cap name kids) r) : r.lazy = lazy := by
  unfold Lies at h
  exact h.2.2.2.2.2.1
theorem of_range_drew (a b : Int) (w : World) : Calls Tryz.prog 16 #[.slice (some ⟨w.heap.size, 0, none⟩) 1 1] (w.alloc (.cells #[.int .i64 a, .int .i64 b] 51)).drew fun e w' => ∃ v, e = .returned v ∧ SetV w' v (fun z => decide (a ≤ z ∧ z ≤ b)) ∧ Below w.heap.size w w' :=
  (show Calls Tryz.prog 16 #[.slice (some ⟨w.heap.size, 0, none⟩) 1 1] (w.alloc (.cells #[.int .i64 a, .int .i64 b] 51)).drew _ from of_range a b w.drew w.heap.size rfl).mono fun _ _ ⟨v, h1, h2, h⟩ => ⟨v, h1, h2, ⟨h.os, h.tape, h.output, h.size, h.block⟩⟩
theorem BoxN.other {w : World} {N M : Nat} {cs : Array Value} (h : BoxN w M cs) (o : Nat) (u : Value) (hne : M ≠ N) : BoxN (w.setCell ⟨N, o, none⟩ u) M cs := (Below.heap_setCell w ⟨N, o, none⟩ u M hne).trans h
/-- A box's cells, all stored anew. -/
theorem put_box {w : World} {V : Nat} {P : Nat → Prop} (h : BoxN w V zeroA) (q : RawN) (hP : ¬ P V) :
    let W := ((((((((w.setCell ⟨V, 0, none⟩ (.int .i64 q.kind)).setCell ⟨V, 1, none⟩ (.slice q.sA q.sn q.sc)).setCell ⟨V, 2, none⟩ (.bool q.fold)).setCell ⟨V, 3, none⟩ (.int .i64 q.mn)).setCell ⟨V, 4, none⟩ (.int .i64 q.mx)).setCell ⟨V, 5, none⟩ (.bool q.lazy)).setCell ⟨V, 6, none⟩ (.int .i64 q.cap)).setCell ⟨V, 7, none⟩ (.string q.name)).setCell ⟨V, 8, none⟩ (.slice q.kA q.kn q.kc)
    BoxN W V q.cells.toArray ∧ StandN P w W ∧ Below V w W := by
  have st : ∀ {a b : World} {cs : Array Value}, BoxN b V cs → StandN P a b → Below V a b → ∀ (o : Nat) (u : Value), StandN P a (b.setCell ⟨V, o, none⟩ u) ∧ Below V a (b.setCell ⟨V, o, none⟩ u) := fun hb k m o u => ⟨k.step_ (StandN.setN o u hb hP), m.setCell (p := ⟨V, o, none⟩) (Nat.le_refl _) u⟩
  have b0 := h.set 0 (.int .i64 q.kind)
  have k0 := st h (StandN.below (Below.refl _ _)) (Below.refl _ _) 0 (.int .i64 q.kind)
  have b1 := b0.set 1 (.slice q.sA q.sn q.sc)
  have k1 := st b0 k0.1 k0.2 1 (.slice q.sA q.sn q.sc)
  have b2 := b1.set 2 (.bool q.fold)
  have k2 := st b1 k1.1 k1.2 2 (.bool q.fold)
  have b3 := b2.set 3 (.int .i64 q.mn)
  have k3 := st b2 k2.1 k2.2 3 (.int .i64 q.mn)
  have b4 := b3.set 4 (.int .i64 q.mx)
  have k4 := st b3 k3.1 k3.2 4 (.int .i64 q.mx)
  have b5 := b4.set 5 (.bool q.lazy)
  have k5 := st b4 k4.1 k4.2 5 (.bool q.lazy)
  have b6 := b5.set 6 (.int .i64 q.cap)
  have k6 := st b5 k5.1 k5.2 6 (.int .i64 q.cap)
  have b7 := b6.set 7 (.string q.name)
  have k7 := st b6 k6.1 k6.2 7 (.string q.name)
  have b8 := b7.set 8 (.slice q.kA q.kn q.kc)
  have k8 := st b7 k7.1 k7.2 8 (.slice q.kA q.kn q.kc)
  simp only [List.setIfInBounds_toArray, List.set_cons_zero, List.set_cons_succ] at b8
  exact ⟨b8, k8.1, k8.2⟩
section
variable (cl : (Int → Bool) → Int → Bool)
theorem mkL_take : ∀ (l : List SynP.Nd) (i : Nat) (h : i < l.length), SynP.mkL cl (l.take (i + 1)) = SynP.mkL cl (l.take i) ++ [SynP.mkN cl l[i]] := fun l i h => by
  rw [SynP.mkL_map, SynP.mkL_map, List.take_succ_eq_append_getElem h, List.map_append]
  rfl
/-- made makes a tree simpler. -/
def MadeC (nd : SynP.Nd) : Prop := ∀ (r : RawN) (P : Nat → Prop) (w : World), Lies w P nd r → Calls Tryz.prog 33 #[.agg r.cells.toArray] w fun e w' => ∃ q : RawN, e = .returned (.agg q.cells.toArray) ∧ Below w.heap.size w w' ∧ Lies w' (Qw w P) (SynP.mkN cl nd) q
variable (set : Option (Int → Bool)) (fold : Bool) (least most : Int) (lazy : Bool) (cap : Nat) (name : List UInt8) (kids : List SynP.Nd)
set_option maxRecDepth 100000 in
set_option maxHeartbeats 12800000 in
theorem made_other (kind : Nat) (h1 : kind ≠ 1) (h8 : kind ≠ 8) (h9 : kind ≠ 9) (h10 : kind ≠ 10) (hkl : kids.length ≤ 1000000) (IH : ∀ x ∈ kids, MadeC cl x) : MadeC cl (.mk kind set fold least most lazy cap name kids) := by
  have hE : SynP.mkN cl (.mk kind set fold least most lazy cap name kids) = .mk kind set fold least most lazy cap name (SynP.mkL cl kids) := by rw [SynP.mkN, if_neg (by omega), if_neg h1, if_neg h8, if_neg h9, if_neg h10]
  have HE := Lib.hid hE
  have HIH := Lib.hid IH
  clear hE IH
  intro r P w hl
  have hn := hl.kids.1
  have hmax := hl.roomS
  have hrk := hl.kind_z
  have hrm := hl.nums
  obtain ⟨N, hN⟩ : ∃ N, w.heap.size = N := ⟨_, rfl⟩
  have HNe := Lib.hid hN
  obtain ⟨r0, r1, r2, r3, r4, r5, r6, r7, r8, r9, ra, rb, rc⟩ := r
  simp only at hn hmax hrk hrm
  obtain ⟨rfl, rfl⟩ := hrm
  have hrk' : r0 = (kind : Int) := hrk
  subst hrk'
  obtain ⟨W0, hW0⟩ : ∃ W0, (w.alloc (.cells #[.int .i64 (kind : Int), .slice r1 r2 r3, .bool r4, .int .i64 r5, .int .i64 r6, .bool r7, .int .i64 r8, .string r9, .slice ra rb rc] 29)).alloc (.cells zeroA 29) = W0 := ⟨_, rfl⟩
  have HS0 : Hid (W0.heap.size = N + 2) := Lib.hid (by rw [← hW0]; simp [hN])
  have HB : Hid (Below N w W0) := Lib.hid (by rw [← hW0, ← hN]; exact below_two w _ _)
  have HBx : Hid (BoxN W0 N #[.int .i64 (kind : Int), .slice r1 r2 r3, .bool r4, .int .i64 r5, .int .i64 r6, .bool r7, .int .i64 r8, .string r9, .slice ra rb rc]) := Lib.hid (by rw [← hW0, ← hN]; exact (Below.heap_alloc _ _ _ (by simp)).trans (heap_alloc_new w _))
  have HBv : Hid (BoxN W0 (N + 1) zeroA) := Lib.hid (by
    rw [← hW0, ← hN]
    have := heap_alloc_new (w.alloc (.cells #[.int .i64 (kind : Int), .slice r1 r2 r3, .bool r4, .int .i64 r5, .int .i64 r6, .bool r7, .int .i64 r8, .string r9, .slice ra rb rc] 29)) (.cells zeroA 29)
    rw [World.size_alloc] at this
    exact this)
  have HL : Hid (Lies W0 (fun k => P k ∧ k < N) (.mk kind set fold r5 r6 lazy cap name kids) ⟨(kind : Int), r1, r2, r3, r4, r5, r6, r7, r8, r9, ra, rb, rc⟩) := Lib.hid (Lies.on (StandN.below (by rw [hN]; exact HB.out)) _ _ (Lies.mono (fun k hk hlt => ⟨hk, by omega⟩) _ _ hl))
  have HKn : Hid (kids.length = rb) := Lib.hid hn.symm
  obtain ⟨-, rs, hrs, hk, hls⟩ := HL.out.kids
  have HRs := Lib.hid hrs
  have HK := Lib.hid hk
  have HLs := Lib.hid hls
  have hrb : rb ≤ 1000000 := by omega
  simp only [RawN.cells]
  clear hl hn hrk hrs hk hls hkl
  go_enter Tryz.func33, Tryz.ntmps33
  go_upto_region 1 with fail
  clear hW0 hN
  have hcW : ∀ o, W0.cell? ⟨N, o, none⟩ = #[Value.int .i64 (kind : Int), .slice r1 r2 r3, .bool r4, .int .i64 r5, .int .i64 r6, .bool r7, .int .i64 r8, .string r9, .slice ra rb rc][o]? := fun o => Lib.cell_of_heap HBx.out o
  have z1 : ((kind : Int) == 1) = false := beq_false_of_ne (by omega)
  have z8 : ((kind : Int) == 8) = false := beq_false_of_ne (by omega)
  have z9 : ((kind : Int) == 9) = false := beq_false_of_ne (by omega)
  have z10 : ((kind : Int) == 10) = false := beq_false_of_ne (by omega)
  go_wp2_with fail
  clear hcW
  go_loopw [3, 23] (fun s3 s23 wr => ∃ (i : Nat) (ws : List RawN), i ≤ rb ∧ s23 = .int .i64 i ∧ Hid (KdS W0 wr (fun k => P k ∧ k < N) (SynP.mkL cl (kids.take i)) ws s3)) (fun _ s23 _ => rb + 1 - (intOf s23).toNat)
  case atStart => exact ⟨0, [], Nat.zero_le _, rfl, Lib.hid (KdS.start W0 _)⟩
  case round =>
    obtain ⟨i, ws, hi, rfl, HS⟩ := hrel
    have hlen := HS.out.len
    rw [SynP.mkL_len, List.length_take] at hlen
    obtain ⟨A2, c2, rfl, hc2, hm2⟩ := HS.out.own.form
    by_cases hlt : i < rb
    · have hii : (i : Int) < (rb : Int) := by omega
      have hi0 : (0 : Int) ≤ (i : Int) := by omega
      have hij : i < kids.length := by rw [HKn.out]; exact hlt
      have hws : ws.length + 1 ≤ 1000001 := by omega
      obtain ⟨b, off, z, rfl, hb, hz, hcz⟩ := HK.out.kid_at HRs.out HLs.out i hij
      have hF := mkL_take cl kids i hij
      obtain ⟨x, hx⟩ : ∃ x, kids[i]'hij = x := ⟨_, rfl⟩
      have hxm : x ∈ kids := by rw [← hx]; exact List.getElem_mem hij
      rw [hx] at hz hF
      have HF := Lib.hid hF
      have mm : ∀ o, o < 9 → wr.cell? ⟨b, off + (i * 9 + o), none⟩ = some (z.cells.getD o undef) := fun o ho => (HS.out.bel.cell (p := ⟨b, off + (i * 9 + o), none⟩) hb).trans (hcz o ho)
      have HCm : Hid (∀ wx, Below W0.heap.size W0 wx → Calls Tryz.prog 33 #[.agg z.cells.toArray] wx fun e w' => ∃ q : RawN, e = .returned (.agg q.cells.toArray) ∧ Below wx.heap.size wx w' ∧ Lies w' (Qw wx fun k => (P k ∧ k < N) ∧ k < W0.heap.size) (SynP.mkN cl x) q) := Lib.hid fun wx hb => HIH.out x hxm z _ wx (Lies.mono (fun k hk _ => ⟨hk, by have := HS0.out; have := hk.2; omega⟩) _ _ (Lies.on (StandN.below hb) _ _ hz))
      obtain ⟨a0, a1, a2, a3, a4, a5, a6, a7, a8, a9, aa, ab, ac⟩ := z
      simp only [RawN.cells] at HCm
      have m0 : wr.cell? ⟨b, off + i * 9, none⟩ = some (.int .i64 a0) := mm 0 (by decide)
      have m1 : wr.cell? ⟨b, off + i * 9 + 1, none⟩ = some (.slice a1 a2 a3) := mm 1 (by decide)
      have m2 : wr.cell? ⟨b, off + i * 9 + 2, none⟩ = some (.bool a4) := mm 2 (by decide)
      have m3 : wr.cell? ⟨b, off + i * 9 + 3, none⟩ = some (.int .i64 a5) := mm 3 (by decide)
      have m4 : wr.cell? ⟨b, off + i * 9 + 4, none⟩ = some (.int .i64 a6) := mm 4 (by decide)
      have m5 : wr.cell? ⟨b, off + i * 9 + 5, none⟩ = some (.bool a7) := mm 5 (by decide)
      have m6 : wr.cell? ⟨b, off + i * 9 + 6, none⟩ = some (.int .i64 a8) := mm 6 (by decide)
      have m7 : wr.cell? ⟨b, off + i * 9 + 7, none⟩ = some (.string a9) := mm 7 (by decide)
      have m8 : wr.cell? ⟨b, off + i * 9 + 8, none⟩ = some (.slice aa ab ac) := mm 8 (by decide)
      have HSa : Hid (∀ o : Obj, KdS W0 (wr.alloc o) (fun k => P k ∧ k < N) (SynP.mkL cl (kids.take i)) ws (.slice A2 ws.length c2)) := Lib.hid fun o => HS.out.below ((Below.refl _ wr).alloc (Nat.le_refl _) o)
      clear hcz hz hx hF hxm mm hlen
      go_wp2_with (first
        | (go_at_call 33; refine (HCm.out _ (HSa.out _).bel).mono ?_; rintro e w4 ⟨⟨q0, q1, q2, q3, q4, q5, q6, q7, q8, q9, qa, qb, qc⟩, rfl, hb4, hl4⟩; have HS4 := Lib.hid ((HSa.out _).below hb4); have HL4 := Lib.hid ((HSa.out _).made hl4); clear hb4 hl4)
        | (at_builtin; refine wpList_append_one (E := Enode) (base := W0.heap.size) (l := ws) ⟨q0, q1, q2, q3, q4, q5, q6, q7, q8, q9, qa, qb, qc⟩ ⟨w4.heap.size, 0, none⟩ 1 rfl (.tmp 27) (.tmp 30) 27 (by rfl) 112 elNode (by rfl) (HS4.out.own.alloc _) (by rfl) (by exact news_new w4 _ _ _ rfl) (by unfold maxLen; omega) (by omega) ?_; intro v2 w2 ho2 hg2 hat2; have hba := (Below.refl w4.heap.size w4).alloc (Nat.le_refl _) (.cells #[.int .i64 q0, .slice q1 q2 q3, .bool q4, .int .i64 q5, .int .i64 q6, .bool q7, .int .i64 q8, .string q9, .slice qa qb qc] 29); have HS2 := Lib.hid ((HS4.out.below hba).push ho2 hg2 hat2 (Lies.on (StandN.below hba) _ _ HL4.out)); clear ho2 hg2 hat2 hba))
      exact ⟨⟨i + 1, _, by omega, by simp, by rw [HF.out]; exact HS2⟩, by simp only [intOf]; omega⟩
    · obtain rfl : i = rb := by omega
      have hii : ¬ (i : Int) < (i : Int) := by omega
      have hT : kids.take i = kids := List.take_of_length_le (by rw [HKn.out]; exact Nat.le_refl _)
      rw [hT] at HS
      have HSe := HS
      have HC2 := Lib.hid (And.intro hc2 hm2)
      have HXr : Hid (BoxN wr N #[.int .i64 (kind : Int), .slice r1 r2 r3, .bool r4, .int .i64 r5, .int .i64 r6, .bool r7, .int .i64 r8, .string r9, .slice ra i rc]) := Lib.hid ((HSe.out.bel.block N HBx.out.lt).trans HBx.out)
      have HVr : Hid (BoxN wr (N + 1) zeroA) := Lib.hid ((HSe.out.bel.block (N + 1) HBv.out.lt).trans HBv.out)
      have HBr : Hid (Below N w wr) := Lib.hid (HB.out.trans (HSe.out.bel.mono (by have := HS0.out; omega)))
      have hcr : ∀ o, wr.cell? ⟨N, o, none⟩ = #[Value.int .i64 (kind : Int), .slice r1 r2 r3, .bool r4, .int .i64 r5, .int .i64 r6, .bool r7, .int .i64 r8, .string r9, .slice ra i rc][o]? := fun o => Lib.cell_of_heap HXr.out o
      have hzr : ∀ o, wr.frozen? ⟨N, o, none⟩ = false := fun o => frozen_box HXr.out o
      have HPN : Hid (¬ Qw W0 (fun k => P k ∧ k < N) N ∧ ¬ Qw W0 (fun k => P k ∧ k < N) (N + 1)) := Lib.hid ⟨by
        rintro (⟨⟨_, h⟩, _⟩ | h)
        · exact absurd h (Nat.lt_irrefl _)
        · have := HS0.out; omega, by
        rintro (⟨⟨_, h⟩, _⟩ | h)
        · omega
        · have := HS0.out; omega⟩
      have HQb : Hid (∀ k, Qw W0 (fun k => P k ∧ k < N) k → Qw w P k) := Lib.hid fun k hk => by
        have h0 := HS0.out
        have h1 := HNe.out
        rcases hk with ⟨⟨h2, h3⟩, _⟩ | h2
        · exact .inl ⟨h2, by omega⟩
        · exact .inr (by omega)
      clear HS hT hc2 hm2 hlen
      have hl1 : Lies wr (Qw W0 (fun k => P k ∧ k < N)) (.mk kind set fold r5 r6 lazy cap name (SynP.mkL cl kids)) ⟨(kind : Int), r1, r2, r3, r4, r5, r6, r7, r8, r9, A2, ws.length, c2⟩ := by
        have h := Lies.on (StandN.below HSe.out.bel) _ _ HL.out
        unfold Lies at h ⊢
        obtain ⟨h1, h2, h3, h4, h5, h6, h7, h8, _⟩ := h
        exact ⟨h1, h2, h3, h4, h5, h6, h7, h8, HSe.out.len, HC2.out.1, HC2.out.2, ws, HSe.out.len, HSe.out.kids, HSe.out.all⟩
      have HLw := Lib.hid (Lies.on (StandN.setN 8 (.slice A2 ws.length c2) HXr.out HPN.out.1) _ _ hl1)
      have HVw := Lib.hid (HVr.out.other (N := N) 8 (.slice A2 ws.length c2) (by omega))
      have HBw := Lib.hid (HBr.out.setCell (p := ⟨N, 8, none⟩) (Nat.le_refl _) (.slice A2 ws.length c2))
      clear hl1
      go_wp2_with (refine wpList_store_row rfl 29 (.tmp 2) (.tmp 70) rfl (N + 1) (RawN.cells ⟨(kind : Int), r1, r2, r3, r4, r5, r6, r7, r8, r9, A2, ws.length, c2⟩).toArray rfl rfl 29 _ HVw.out sizeN rfl (cellsN_one _) ?_)
      obtain ⟨e1, e2⟩ := box_ret (by rw [HNe.out]; exact HBw.out) HVw.out (by rw [HNe.out]; omega) HLw.out HPN.out.2
      refine retN rfl ⟨(kind : Int), r1, r2, r3, r4, r5, r6, r7, r8, r9, A2, ws.length, c2⟩ rfl (setRow_heap _ _ _ _ _ _ HVw.out) rfl ⟨⟨(kind : Int), r1, r2, r3, r4, r5, r6, r7, r8, r9, A2, ws.length, c2⟩, rfl, e1, ?_⟩
      rw [HE.out]
      exact Lies.mono (fun k hk _ => HQb.out k hk) _ _ e2
set_option maxRecDepth 100000 in
set_option maxHeartbeats 12800000 in
theorem made_cat (hfl : (SynP.flatN 8 (SynP.mkL cl kids)).length ≤ 1000000) (hkl : kids.length ≤ 1000000) (IH : ∀ x ∈ kids, MadeC cl x) : MadeC cl (.mk 8 set fold least most lazy cap name kids) := by
  have hE : SynP.mkN cl (.mk 8 set fold least most lazy cap name kids) = SynP.rowN (SynP.mkL cl kids) := by rw [SynP.mkN, if_neg (by omega), if_neg (by omega), if_pos rfl]
  have HE := Lib.hid hE
  have HIH := Lib.hid IH
  clear hE IH
  have HFl := Lib.hid hfl
  clear hfl
  intro r P w hl
  have hn := hl.kids.1
  have hmax := hl.roomS
  have hrk := hl.kind_z
  have hrm := hl.nums
  obtain ⟨N, hN⟩ : ∃ N, w.heap.size = N := ⟨_, rfl⟩
  have HNe := Lib.hid hN
  obtain ⟨r0, r1, r2, r3, r4, r5, r6, r7, r8, r9, ra, rb, rc⟩ := r
  simp only at hn hmax hrk hrm
  obtain ⟨rfl, rfl⟩ := hrm
  have hrk' : r0 = 8 := hrk
  subst hrk'
  obtain ⟨W0, hW0⟩ : ∃ W0, (w.alloc (.cells #[.int .i64 8, .slice r1 r2 r3, .bool r4, .int .i64 r5, .int .i64 r6, .bool r7, .int .i64 r8, .string r9, .slice ra rb rc] 29)).alloc (.cells zeroA 29) = W0 := ⟨_, rfl⟩
  have HS0 : Hid (W0.heap.size = N + 2) := Lib.hid (by rw [← hW0]; simp [hN])
  have HB : Hid (Below N w W0) := Lib.hid (by rw [← hW0, ← hN]; exact below_two w _ _)
  have HBx : Hid (BoxN W0 N #[.int .i64 8, .slice r1 r2 r3, .bool r4, .int .i64 r5, .int .i64 r6, .bool r7, .int .i64 r8, .string r9, .slice ra rb rc]) := Lib.hid (by rw [← hW0, ← hN]; exact (Below.heap_alloc _ _ _ (by simp)).trans (heap_alloc_new w _))
  have HBv : Hid (BoxN W0 (N + 1) zeroA) := Lib.hid (by
    rw [← hW0, ← hN]
    have := heap_alloc_new (w.alloc (.cells #[.int .i64 8, .slice r1 r2 r3, .bool r4, .int .i64 r5, .int .i64 r6, .bool r7, .int .i64 r8, .string r9, .slice ra rb rc] 29)) (.cells zeroA 29)
    rw [World.size_alloc] at this
    exact this)
  have HL : Hid (Lies W0 (fun k => P k ∧ k < N) (.mk 8 set fold r5 r6 lazy cap name kids) ⟨8, r1, r2, r3, r4, r5, r6, r7, r8, r9, ra, rb, rc⟩) := Lib.hid (Lies.on (StandN.below (by rw [hN]; exact HB.out)) _ _ (Lies.mono (fun k hk hlt => ⟨hk, by omega⟩) _ _ hl))
  have HKn : Hid (kids.length = rb) := Lib.hid hn.symm
  obtain ⟨-, rs, hrs, hk, hls⟩ := HL.out.kids
  have HRs := Lib.hid hrs
  have HK := Lib.hid hk
  have HLs := Lib.hid hls
  have hrb : rb ≤ 1000000 := by omega
  simp only [RawN.cells]
  clear hl hn hrk hrs hk hls hkl
  go_enter Tryz.func33, Tryz.ntmps33
  go_upto_region 1 with fail
  clear hW0 hN
  have hcW : ∀ o, W0.cell? ⟨N, o, none⟩ = #[Value.int .i64 8, .slice r1 r2 r3, .bool r4, .int .i64 r5, .int .i64 r6, .bool r7, .int .i64 r8, .string r9, .slice ra rb rc][o]? := fun o => Lib.cell_of_heap HBx.out o
  go_wp2_with fail
  clear hcW
  go_loopw [3, 23] (fun s3 s23 wr => ∃ (i : Nat) (ws : List RawN), i ≤ rb ∧ s23 = .int .i64 i ∧ Hid (KdS W0 wr (fun k => P k ∧ k < N) (SynP.mkL cl (kids.take i)) ws s3)) (fun _ s23 _ => rb + 1 - (intOf s23).toNat)
  case atStart => exact ⟨0, [], Nat.zero_le _, rfl, Lib.hid (KdS.start W0 _)⟩
  case round =>
    obtain ⟨i, ws, hi, rfl, HS⟩ := hrel
    have hlen := HS.out.len
    rw [SynP.mkL_len, List.length_take] at hlen
    obtain ⟨A2, c2, rfl, hc2, hm2⟩ := HS.out.own.form
    by_cases hlt : i < rb
    · have hii : (i : Int) < (rb : Int) := by omega
      have hi0 : (0 : Int) ≤ (i : Int) := by omega
      have hij : i < kids.length := by rw [HKn.out]; exact hlt
      have hws : ws.length + 1 ≤ 1000001 := by omega
      obtain ⟨b, off, z, rfl, hb, hz, hcz⟩ := HK.out.kid_at HRs.out HLs.out i hij
      have hF := mkL_take cl kids i hij
      obtain ⟨x, hx⟩ : ∃ x, kids[i]'hij = x := ⟨_, rfl⟩
      have hxm : x ∈ kids := by rw [← hx]; exact List.getElem_mem hij
      rw [hx] at hz hF
      have HF := Lib.hid hF
      have mm : ∀ o, o < 9 → wr.cell? ⟨b, off + (i * 9 + o), none⟩ = some (z.cells.getD o undef) := fun o ho => (HS.out.bel.cell (p := ⟨b, off + (i * 9 + o), none⟩) hb).trans (hcz o ho)
      have HCm : Hid (∀ wx, Below W0.heap.size W0 wx → Calls Tryz.prog 33 #[.agg z.cells.toArray] wx fun e w' => ∃ q : RawN, e = .returned (.agg q.cells.toArray) ∧ Below wx.heap.size wx w' ∧ Lies w' (Qw wx fun k => (P k ∧ k < N) ∧ k < W0.heap.size) (SynP.mkN cl x) q) := Lib.hid fun wx hb => HIH.out x hxm z _ wx (Lies.mono (fun k hk _ => ⟨hk, by have := HS0.out; have := hk.2; omega⟩) _ _ (Lies.on (StandN.below hb) _ _ hz))
      obtain ⟨a0, a1, a2, a3, a4, a5, a6, a7, a8, a9, aa, ab, ac⟩ := z
      simp only [RawN.cells] at HCm
      have m0 : wr.cell? ⟨b, off + i * 9, none⟩ = some (.int .i64 a0) := mm 0 (by decide)
      have m1 : wr.cell? ⟨b, off + i * 9 + 1, none⟩ = some (.slice a1 a2 a3) := mm 1 (by decide)
      have m2 : wr.cell? ⟨b, off + i * 9 + 2, none⟩ = some (.bool a4) := mm 2 (by decide)
      have m3 : wr.cell? ⟨b, off + i * 9 + 3, none⟩ = some (.int .i64 a5) := mm 3 (by decide)
      have m4 : wr.cell? ⟨b, off + i * 9 + 4, none⟩ = some (.int .i64 a6) := mm 4 (by decide)
      have m5 : wr.cell? ⟨b, off + i * 9 + 5, none⟩ = some (.bool a7) := mm 5 (by decide)
      have m6 : wr.cell? ⟨b, off + i * 9 + 6, none⟩ = some (.int .i64 a8) := mm 6 (by decide)
      have m7 : wr.cell? ⟨b, off + i * 9 + 7, none⟩ = some (.string a9) := mm 7 (by decide)
      have m8 : wr.cell? ⟨b, off + i * 9 + 8, none⟩ = some (.slice aa ab ac) := mm 8 (by decide)
      have HSa : Hid (∀ o : Obj, KdS W0 (wr.alloc o) (fun k => P k ∧ k < N) (SynP.mkL cl (kids.take i)) ws (.slice A2 ws.length c2)) := Lib.hid fun o => HS.out.below ((Below.refl _ wr).alloc (Nat.le_refl _) o)
      clear hcz hz hx hF hxm mm hlen
      go_wp2_with (first
        | (go_at_call 33; refine (HCm.out _ (HSa.out _).bel).mono ?_; rintro e w4 ⟨⟨q0, q1, q2, q3, q4, q5, q6, q7, q8, q9, qa, qb, qc⟩, rfl, hb4, hl4⟩; have HS4 := Lib.hid ((HSa.out _).below hb4); have HL4 := Lib.hid ((HSa.out _).made hl4); clear hb4 hl4)
        | (at_builtin; refine wpList_append_one (E := Enode) (base := W0.heap.size) (l := ws) ⟨q0, q1, q2, q3, q4, q5, q6, q7, q8, q9, qa, qb, qc⟩ ⟨w4.heap.size, 0, none⟩ 1 rfl (.tmp 27) (.tmp 30) 27 (by rfl) 112 elNode (by rfl) (HS4.out.own.alloc _) (by rfl) (by exact news_new w4 _ _ _ rfl) (by unfold maxLen; omega) (by omega) ?_; intro v2 w2 ho2 hg2 hat2; have hba := (Below.refl w4.heap.size w4).alloc (Nat.le_refl _) (.cells #[.int .i64 q0, .slice q1 q2 q3, .bool q4, .int .i64 q5, .int .i64 q6, .bool q7, .int .i64 q8, .string q9, .slice qa qb qc] 29); have HS2 := Lib.hid ((HS4.out.below hba).push ho2 hg2 hat2 (Lies.on (StandN.below hba) _ _ HL4.out)); clear ho2 hg2 hat2 hba))
      exact ⟨⟨i + 1, _, by omega, by simp, by rw [HF.out]; exact HS2⟩, by simp only [intOf]; omega⟩
    · obtain rfl : i = rb := by omega
      have hii : ¬ (i : Int) < (i : Int) := by omega
      have hT : kids.take i = kids := List.take_of_length_le (by rw [HKn.out]; exact Nat.le_refl _)
      rw [hT] at HS
      have HSe := HS
      have HC2 := Lib.hid (And.intro hc2 hm2)
      have HXr : Hid (BoxN wr N #[.int .i64 8, .slice r1 r2 r3, .bool r4, .int .i64 r5, .int .i64 r6, .bool r7, .int .i64 r8, .string r9, .slice ra i rc]) := Lib.hid ((HSe.out.bel.block N HBx.out.lt).trans HBx.out)
      have HVr : Hid (BoxN wr (N + 1) zeroA) := Lib.hid ((HSe.out.bel.block (N + 1) HBv.out.lt).trans HBv.out)
      have HBr : Hid (Below N w wr) := Lib.hid (HB.out.trans (HSe.out.bel.mono (by have := HS0.out; omega)))
      have hcr : ∀ o, wr.cell? ⟨N, o, none⟩ = #[Value.int .i64 8, .slice r1 r2 r3, .bool r4, .int .i64 r5, .int .i64 r6, .bool r7, .int .i64 r8, .string r9, .slice ra i rc][o]? := fun o => Lib.cell_of_heap HXr.out o
      have hzr : ∀ o, wr.frozen? ⟨N, o, none⟩ = false := fun o => frozen_box HXr.out o
      have HPN : Hid (¬ Qw W0 (fun k => P k ∧ k < N) N ∧ ¬ Qw W0 (fun k => P k ∧ k < N) (N + 1)) := Lib.hid ⟨by
        rintro (⟨⟨_, h⟩, _⟩ | h)
        · exact absurd h (Nat.lt_irrefl _)
        · have := HS0.out; omega, by
        rintro (⟨⟨_, h⟩, _⟩ | h)
        · omega
        · have := HS0.out; omega⟩
      have HQb : Hid (∀ k, Qw W0 (fun k => P k ∧ k < N) k → Qw w P k) := Lib.hid fun k hk => by
        have h0 := HS0.out
        have h1 := HNe.out
        rcases hk with ⟨⟨h2, h3⟩, _⟩ | h2
        · exact .inl ⟨h2, by omega⟩
        · exact .inr (by omega)
      clear HS hT hc2 hm2 hlen
      go_wp2_with (first
        | (go_at_call 70; refine (rowS_any (Qw W0 (fun k => P k ∧ k < N)) _ ws A2 c2 _ HSe.out.len HC2.out.1 HC2.out.2 HSe.out.kids HSe.out.all HFl.out).mono ?_; rintro e w4 ⟨y, rfl, hb4, hl4⟩; have HBw := Lib.hid (HBr.out.trans (hb4.mono (by have := HBr.out.size; have := HNe.out; omega))); have HVw : Hid (BoxN w4 (N + 1) zeroA) := Lib.hid ((hb4.block (N + 1) HVr.out.lt).trans HVr.out); have HLw := Lib.hid (Lies.mono (A' := Qw W0 (fun k => P k ∧ k < N)) (fun k hk _ => hk.elim (fun h => h.1) (fun h => .inr (Nat.le_trans HSe.out.bel.size h))) _ _ hl4); clear hb4 hl4)
        | (refine wpList_store_row rfl 29 (.tmp 2) (.tmp 55) rfl (N + 1) y.cells.toArray rfl rfl 29 _ HVw.out sizeN rfl (cellsN_one _) ?_))
      obtain ⟨e1, e2⟩ := box_ret (by rw [HNe.out]; exact HBw.out) HVw.out (by rw [HNe.out]; omega) HLw.out HPN.out.2
      refine retN rfl y rfl (setRow_heap _ _ _ _ _ _ HVw.out) rfl ⟨y, rfl, e1, ?_⟩
      rw [HE.out]
      exact Lies.mono (fun k hk _ => HQb.out k hk) _ _ e2
set_option maxRecDepth 100000 in
set_option maxHeartbeats 12800000 in
theorem made_cls_false (f : Int → Bool) (hkl : kids.length ≤ 1000000) (IH : ∀ x ∈ kids, MadeC cl x) : MadeC cl (.mk 1 (some f) false least most lazy cap name kids) := by
  have hE : SynP.mkN cl (.mk 1 (some f) false least most lazy cap name kids) = .mk 1 (some (SynP.lessF (f))) false least most lazy cap name kids := by rw [SynP.mkN, if_neg (by omega), if_pos rfl]; rfl
  have HE := Lib.hid hE
  have HIH := Lib.hid IH
  clear hE IH
  intro r P w hl
  have hn := hl.kids.1
  have hmax := hl.roomS
  have hrk := hl.kind_z
  have hrm := hl.nums
  obtain ⟨N, hN⟩ : ∃ N, w.heap.size = N := ⟨_, rfl⟩
  have HNe := Lib.hid hN
  obtain ⟨r0, r1, r2, r3, r4, r5, r6, r7, r8, r9, ra, rb, rc⟩ := r
  simp only at hn hmax hrk hrm
  obtain ⟨rfl, rfl⟩ := hrm
  obtain rfl : r4 = false := hl.fold_
  have hrk' : r0 = 1 := hrk
  subst hrk'
  obtain ⟨W0, hW0⟩ : ∃ W0, (w.alloc (.cells #[.int .i64 1, .slice r1 r2 r3, .bool false, .int .i64 r5, .int .i64 r6, .bool r7, .int .i64 r8, .string r9, .slice ra rb rc] 29)).alloc (.cells zeroA 29) = W0 := ⟨_, rfl⟩
  have HS0 : Hid (W0.heap.size = N + 2) := Lib.hid (by rw [← hW0]; simp [hN])
  have HB : Hid (Below N w W0) := Lib.hid (by rw [← hW0, ← hN]; exact below_two w _ _)
  have HBx : Hid (BoxN W0 N #[.int .i64 1, .slice r1 r2 r3, .bool false, .int .i64 r5, .int .i64 r6, .bool r7, .int .i64 r8, .string r9, .slice ra rb rc]) := Lib.hid (by rw [← hW0, ← hN]; exact (Below.heap_alloc _ _ _ (by simp)).trans (heap_alloc_new w _))
  have HBv : Hid (BoxN W0 (N + 1) zeroA) := Lib.hid (by
    rw [← hW0, ← hN]
    have := heap_alloc_new (w.alloc (.cells #[.int .i64 1, .slice r1 r2 r3, .bool false, .int .i64 r5, .int .i64 r6, .bool r7, .int .i64 r8, .string r9, .slice ra rb rc] 29)) (.cells zeroA 29)
    rw [World.size_alloc] at this
    exact this)
  have HL : Hid (Lies W0 (fun k => P k ∧ k < N) (.mk 1 (some f) false r5 r6 lazy cap name kids) ⟨1, r1, r2, r3, false, r5, r6, r7, r8, r9, ra, rb, rc⟩) := Lib.hid (Lies.on (StandN.below (by rw [hN]; exact HB.out)) _ _ (Lies.mono (fun k hk hlt => ⟨hk, by omega⟩) _ _ hl))
  have HKn : Hid (kids.length = rb) := Lib.hid hn.symm
  obtain ⟨-, rs, hrs, hk, hls⟩ := HL.out.kids
  have HRs := Lib.hid hrs
  have HK := Lib.hid hk
  have HLs := Lib.hid hls
  have hrb : rb ≤ 1000000 := by omega
  simp only [RawN.cells]
  clear hl hn hrk hrs hk hls hkl
  go_enter Tryz.func33, Tryz.ntmps33
  go_upto_region 1 with fail
  clear hW0 hN
  have hcW : ∀ o, W0.cell? ⟨N, o, none⟩ = #[Value.int .i64 1, .slice r1 r2 r3, .bool false, .int .i64 r5, .int .i64 r6, .bool r7, .int .i64 r8, .string r9, .slice ra rb rc][o]? := fun o => Lib.cell_of_heap HBx.out o
  go_wp2_with fail
  clear hcW
  go_loopw [3, 23] (fun s3 s23 wr => ∃ (i : Nat) (ws : List RawN), i ≤ rb ∧ s23 = .int .i64 i ∧ Hid (KdS W0 wr (fun k => P k ∧ k < N) (SynP.mkL cl (kids.take i)) ws s3)) (fun _ s23 _ => rb + 1 - (intOf s23).toNat)
  case atStart => exact ⟨0, [], Nat.zero_le _, rfl, Lib.hid (KdS.start W0 _)⟩
  case round =>
    obtain ⟨i, ws, hi, rfl, HS⟩ := hrel
    have hlen := HS.out.len
    rw [SynP.mkL_len, List.length_take] at hlen
    obtain ⟨A2, c2, rfl, hc2, hm2⟩ := HS.out.own.form
    by_cases hlt : i < rb
    · have hii : (i : Int) < (rb : Int) := by omega
      have hi0 : (0 : Int) ≤ (i : Int) := by omega
      have hij : i < kids.length := by rw [HKn.out]; exact hlt
      have hws : ws.length + 1 ≤ 1000001 := by omega
      obtain ⟨b, off, z, rfl, hb, hz, hcz⟩ := HK.out.kid_at HRs.out HLs.out i hij
      have hF := mkL_take cl kids i hij
      obtain ⟨x, hx⟩ : ∃ x, kids[i]'hij = x := ⟨_, rfl⟩
      have hxm : x ∈ kids := by rw [← hx]; exact List.getElem_mem hij
      rw [hx] at hz hF
      have HF := Lib.hid hF
      have mm : ∀ o, o < 9 → wr.cell? ⟨b, off + (i * 9 + o), none⟩ = some (z.cells.getD o undef) := fun o ho => (HS.out.bel.cell (p := ⟨b, off + (i * 9 + o), none⟩) hb).trans (hcz o ho)
      have HCm : Hid (∀ wx, Below W0.heap.size W0 wx → Calls Tryz.prog 33 #[.agg z.cells.toArray] wx fun e w' => ∃ q : RawN, e = .returned (.agg q.cells.toArray) ∧ Below wx.heap.size wx w' ∧ Lies w' (Qw wx fun k => (P k ∧ k < N) ∧ k < W0.heap.size) (SynP.mkN cl x) q) := Lib.hid fun wx hb => HIH.out x hxm z _ wx (Lies.mono (fun k hk _ => ⟨hk, by have := HS0.out; have := hk.2; omega⟩) _ _ (Lies.on (StandN.below hb) _ _ hz))
      obtain ⟨a0, a1, a2, a3, a4, a5, a6, a7, a8, a9, aa, ab, ac⟩ := z
      simp only [RawN.cells] at HCm
      have m0 : wr.cell? ⟨b, off + i * 9, none⟩ = some (.int .i64 a0) := mm 0 (by decide)
      have m1 : wr.cell? ⟨b, off + i * 9 + 1, none⟩ = some (.slice a1 a2 a3) := mm 1 (by decide)
      have m2 : wr.cell? ⟨b, off + i * 9 + 2, none⟩ = some (.bool a4) := mm 2 (by decide)
      have m3 : wr.cell? ⟨b, off + i * 9 + 3, none⟩ = some (.int .i64 a5) := mm 3 (by decide)
      have m4 : wr.cell? ⟨b, off + i * 9 + 4, none⟩ = some (.int .i64 a6) := mm 4 (by decide)
      have m5 : wr.cell? ⟨b, off + i * 9 + 5, none⟩ = some (.bool a7) := mm 5 (by decide)
      have m6 : wr.cell? ⟨b, off + i * 9 + 6, none⟩ = some (.int .i64 a8) := mm 6 (by decide)
      have m7 : wr.cell? ⟨b, off + i * 9 + 7, none⟩ = some (.string a9) := mm 7 (by decide)
      have m8 : wr.cell? ⟨b, off + i * 9 + 8, none⟩ = some (.slice aa ab ac) := mm 8 (by decide)
      have HSa : Hid (∀ o : Obj, KdS W0 (wr.alloc o) (fun k => P k ∧ k < N) (SynP.mkL cl (kids.take i)) ws (.slice A2 ws.length c2)) := Lib.hid fun o => HS.out.below ((Below.refl _ wr).alloc (Nat.le_refl _) o)
      clear hcz hz hx hF hxm mm hlen
      go_wp2_with (first
        | (go_at_call 33; refine (HCm.out _ (HSa.out _).bel).mono ?_; rintro e w4 ⟨⟨q0, q1, q2, q3, q4, q5, q6, q7, q8, q9, qa, qb, qc⟩, rfl, hb4, hl4⟩; have HS4 := Lib.hid ((HSa.out _).below hb4); have HL4 := Lib.hid ((HSa.out _).made hl4); clear hb4 hl4)
        | (at_builtin; refine wpList_append_one (E := Enode) (base := W0.heap.size) (l := ws) ⟨q0, q1, q2, q3, q4, q5, q6, q7, q8, q9, qa, qb, qc⟩ ⟨w4.heap.size, 0, none⟩ 1 rfl (.tmp 27) (.tmp 30) 27 (by rfl) 112 elNode (by rfl) (HS4.out.own.alloc _) (by rfl) (by exact news_new w4 _ _ _ rfl) (by unfold maxLen; omega) (by omega) ?_; intro v2 w2 ho2 hg2 hat2; have hba := (Below.refl w4.heap.size w4).alloc (Nat.le_refl _) (.cells #[.int .i64 q0, .slice q1 q2 q3, .bool q4, .int .i64 q5, .int .i64 q6, .bool q7, .int .i64 q8, .string q9, .slice qa qb qc] 29); have HS2 := Lib.hid ((HS4.out.below hba).push ho2 hg2 hat2 (Lies.on (StandN.below hba) _ _ HL4.out)); clear ho2 hg2 hat2 hba))
      exact ⟨⟨i + 1, _, by omega, by simp, by rw [HF.out]; exact HS2⟩, by simp only [intOf]; omega⟩
    · obtain rfl : i = rb := by omega
      have hii : ¬ (i : Int) < (i : Int) := by omega
      have hT : kids.take i = kids := List.take_of_length_le (by rw [HKn.out]; exact Nat.le_refl _)
      rw [hT] at HS
      have HSe := HS
      have HC2 := Lib.hid (And.intro hc2 hm2)
      have HXr : Hid (BoxN wr N #[.int .i64 1, .slice r1 r2 r3, .bool false, .int .i64 r5, .int .i64 r6, .bool r7, .int .i64 r8, .string r9, .slice ra i rc]) := Lib.hid ((HSe.out.bel.block N HBx.out.lt).trans HBx.out)
      have HVr : Hid (BoxN wr (N + 1) zeroA) := Lib.hid ((HSe.out.bel.block (N + 1) HBv.out.lt).trans HBv.out)
      have HBr : Hid (Below N w wr) := Lib.hid (HB.out.trans (HSe.out.bel.mono (by have := HS0.out; omega)))
      have hcr : ∀ o, wr.cell? ⟨N, o, none⟩ = #[Value.int .i64 1, .slice r1 r2 r3, .bool false, .int .i64 r5, .int .i64 r6, .bool r7, .int .i64 r8, .string r9, .slice ra i rc][o]? := fun o => Lib.cell_of_heap HXr.out o
      have hzr : ∀ o, wr.frozen? ⟨N, o, none⟩ = false := fun o => frozen_box HXr.out o
      have HPN : Hid (¬ Qw W0 (fun k => P k ∧ k < N) N ∧ ¬ Qw W0 (fun k => P k ∧ k < N) (N + 1)) := Lib.hid ⟨by
        rintro (⟨⟨_, h⟩, _⟩ | h)
        · exact absurd h (Nat.lt_irrefl _)
        · have := HS0.out; omega, by
        rintro (⟨⟨_, h⟩, _⟩ | h)
        · omega
        · have := HS0.out; omega⟩
      have HQb : Hid (∀ k, Qw W0 (fun k => P k ∧ k < N) k → Qw w P k) := Lib.hid fun k hk => by
        have h0 := HS0.out
        have h1 := HNe.out
        rcases hk with ⟨⟨h2, h3⟩, _⟩ | h2
        · exact .inl ⟨h2, by omega⟩
        · exact .inr (by omega)
      clear HS hT hc2 hm2 hlen
      have HLs1 : Hid (∀ wx, StandN (fun k => P k ∧ k < N) wr wx → KidsAt wx (fun k => P k ∧ k < N) ra rs ∧ LiesL wx (fun k => P k ∧ k < N) kids rs) := Lib.hid fun wx hs => ⟨KidsAt.on (KidsAt.on HK.out (StandN.below HSe.out.bel)) hs, LiesL.on hs _ _ (LiesL.on (StandN.below HSe.out.bel) _ _ HLs.out)⟩
      have HPN2 : Hid (¬ (fun k => P k ∧ k < N) N) := Lib.hid fun h => absurd h.2 (Nat.lt_irrefl _)
      have hset : SetV wr (.slice r1 r2 r3) f := by
        have h := Lies.on (StandN.below HSe.out.bel) _ _ HL.out
        unfold Lies at h
        exact h.2.1
      have HSet := Lib.hid hset
      clear hset
      have hd := StandN.setN (A := (fun k => P k ∧ k < N)) 2 (.bool false) HXr.out HPN2.out
      have hdx := HXr.out.set 2 (.bool false)
      simp only [List.setIfInBounds_toArray, List.set_cons_zero, List.set_cons_succ] at hdx
      have hdv := HVr.out.other (N := N) 2 (.bool false) (by omega)
      have hdb := HBr.out.setCell (p := ⟨N, 2, none⟩) (Nat.le_refl _) (.bool false)
      have hds := HSet.out.on hd.keep
      have hdk := HLs1.out _ hd
      go_upto_region 14 with fail
      clear hcr hzr hd
      generalize wr.setCell ⟨N, 2, none⟩ (.bool false) = Wd at hdx hdv hdb hds hdk ⊢
      have hcd : ∀ o, Wd.cell? ⟨N, o, none⟩ = #[Value.int .i64 1, .slice r1 r2 r3, .bool false, .int .i64 r5, .int .i64 r6, .bool r7, .int .i64 r8, .string r9, .slice ra i rc][o]? := fun o => Lib.cell_of_heap hdx o
      have HDx := Lib.hid hdx
      have HDv := Lib.hid hdv
      have HDb := Lib.hid hdb
      have HDs := Lib.hid hds
      have HDk := Lib.hid hdk
      have zN := HDx.out.lt
      have zN2 : ¬ Wd.heap.size = N := by omega
      have zN3 : ¬ N = Wd.heap.size := by omega
      clear hdx hdv hdb hds hdk
      go_region_with (first
        | (go_at_call 16; refine (of_range_drew 55296 57343 Wd).mono ?_; rintro e w4 ⟨v4, rfl, hv4, hb4⟩; obtain ⟨u1, u2, u3, rfl⟩ := hv4.form; have hx4 := hb4; have HX4 : Hid (BoxN w4 N #[.int .i64 1, .slice r1 r2 r3, .bool false, .int .i64 r5, .int .i64 r6, .bool r7, .int .i64 r8, .string r9, .slice ra i rc]) := Lib.hid ((hx4.block N HDx.out.lt).trans HDx.out); have HB4 := Lib.hid hx4; have HG4 := Lib.hid hv4; replace hcd : ∀ o, w4.cell? ⟨N, o, none⟩ = #[Value.int .i64 1, .slice r1 r2 r3, .bool false, .int .i64 r5, .int .i64 r6, .bool r7, .int .i64 r8, .string r9, .slice ra i rc][o]? := fun o => Lib.cell_of_heap HX4.out o; clear hb4 hv4 hx4)
        | (go_at_call 27; refine (less_new (HDs.out.on (KeepR.below HB4.out)) HG4.out).mono ?_; rintro e w5 ⟨v5, rfl, hv5, hb5⟩; obtain ⟨t1, t2, t3, rfl⟩ := hv5.form; have HX5 : Hid (BoxN w5 N #[.int .i64 1, .slice r1 r2 r3, .bool false, .int .i64 r5, .int .i64 r6, .bool r7, .int .i64 r8, .string r9, .slice ra i rc]) := Lib.hid ((hb5.block N HX4.out.lt).trans HX4.out); have HB5 := Lib.hid (HB4.out.trans (hb5.mono HB4.out.size)); have HG5 := Lib.hid hv5; have hz5 : ∀ o, w5.frozen? ⟨N, o, none⟩ = false := fun o => frozen_box HX5.out o; replace hcd : ∀ o, w5.cell? ⟨N, o, none⟩ = #[Value.int .i64 1, .slice r1 r2 r3, .bool false, .int .i64 r5, .int .i64 r6, .bool r7, .int .i64 r8, .string r9, .slice ra i rc][o]? := fun o => Lib.cell_of_heap HX5.out o; clear hb5 hv5))
      all_goals
        have hdx := HX5.out.set 1 (.slice t1 t2 t3)
        simp only [List.setIfInBounds_toArray, List.set_cons_zero, List.set_cons_succ] at hdx
        have HXw := Lib.hid hdx
        have HVw := Lib.hid (BoxN.other (N := N) (show BoxN w5 (N + 1) zeroA from (HB5.out.block (N + 1) HDv.out.lt).trans HDv.out) 1 (.slice t1 t2 t3) (by omega))
        have HBw := Lib.hid ((HDb.out.trans (HB5.out.mono (by have := HDb.out.size; have := HNe.out; omega))).setCell (p := ⟨N, 1, none⟩) (Nat.le_refl _) (.slice t1 t2 t3))
        have hst : StandN (fun k => P k ∧ k < N) w5 (w5.setCell ⟨N, 1, none⟩ (.slice t1 t2 t3)) := StandN.setN 1 _ HX5.out HPN2.out
        have hl1 : Lies (w5.setCell ⟨N, 1, none⟩ (.slice t1 t2 t3)) (fun k => P k ∧ k < N) (.mk 1 (some (SynP.lessF (f))) false r5 r6 lazy cap name kids) ⟨1, t1, t2, t3, false, r5, r6, r7, r8, r9, ra, i, rc⟩ := by
          have h := Lies.on (StandN.below HSe.out.bel) _ _ HL.out
          unfold Lies at h ⊢
          obtain ⟨h1, _, _, h4, h5, h6, h7, h8, h9, h10, h11, _⟩ := h
          exact ⟨h1, HG5.out.on hst.keep, rfl, h4, h5, h6, h7, h8, h9, h10, h11, rs, HRs.out, KidsAt.on (KidsAt.on HDk.out.1 (StandN.below HB5.out)) hst, LiesL.on hst _ _ (LiesL.on (StandN.below HB5.out) _ _ HDk.out.2)⟩
        have HLw := Lib.hid (Lies.mono (A' := Qw W0 (fun k => P k ∧ k < N)) (fun k hk _ => .inl ⟨hk, by have := HS0.out; have := hk.2; omega⟩) _ _ hl1)
        clear hdx hst hl1 hcd hz5
        go_wp2_with (first
          | (refine wpList_load_row rfl 29 (.tmp 1) rfl N rfl 29 _ (0, 0) _ HXw.out Tryz.underlying29 rfl sizeN ?_)
          | (refine wpList_store_row rfl 29 (.tmp 2) (.tmp 51) rfl (N + 1) (RawN.cells ⟨1, t1, t2, t3, false, r5, r6, r7, r8, r9, ra, i, rc⟩).toArray rfl rfl 29 _ HVw.out sizeN rfl (cellsN_one _) ?_))
        obtain ⟨e1, e2⟩ := box_ret (by rw [HNe.out]; exact HBw.out) HVw.out (by rw [HNe.out]; omega) HLw.out HPN.out.2
        refine retN rfl ⟨1, t1, t2, t3, false, r5, r6, r7, r8, r9, ra, i, rc⟩ rfl (setRow_heap _ _ _ _ _ _ HVw.out) rfl ⟨⟨1, t1, t2, t3, false, r5, r6, r7, r8, r9, ra, i, rc⟩, rfl, e1, ?_⟩
        rw [HE.out]
        exact Lies.mono (fun k hk _ => HQb.out k hk) _ _ e2
end
end Go.Proofs.YtblkejnckbeieaaGreatDoor
