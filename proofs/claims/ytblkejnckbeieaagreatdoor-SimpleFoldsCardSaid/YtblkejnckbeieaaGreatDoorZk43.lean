/- Chapter 11: the walk of Show: alternatives, groups, classes, repeats; every tree of plain signs. -/
import Derived.Test.YtblkejnckbeieaaGreatDoorZk42
import Derived.Deep.RegionWith
namespace Go.Proofs.YtblkejnckbeieaaGreatDoor
open Go.RowKit SetPure

set_option maxRecDepth 100000 in
theorem info_strS : (Tryz.prog.info? 9).map (fun i => (i.zero, i.size, i.bytes)) = some (some (.string ⟨#[]⟩), 1, 16) := by kernel_rfl
set_option maxRecDepth 100000 in
theorem elStrS : ElemOf Tryz.prog 30 9 Estr.k 16 := by
  obtain ⟨i, hi, hz0, hz1, hz2⟩ := info_parts info_strS
  exact ⟨i, _, Tryz.underlying30, hi, hz0, hz1, hz2, rfl⟩
theorem str_listS (l : List UInt8) : (str l).data.toList = l := by simp [str]
theorem bar_cons (x : List UInt8) : ∀ l : List (List UInt8), SynP.barT (x :: l) = x ++ l.flatMap fun y => 124 :: y
  | [] => by simp [SynP.barT]
  | y :: l => by
    unfold SynP.barT
    rw [bar_cons y l]
    simp
theorem joinL_bar (L : List (List UInt8)) : joinL 124 (L.map str) = SynP.barT L := by
  cases L with
  | nil => rfl
  | cons a l =>
    rw [bar_cons]
    show (str a).data.toList ++ (l.map str).flatMap _ = a ++ l.flatMap _
    rw [str_listS, List.flatMap_map]
    congr 1
theorem sizes_strS (L : List (List UInt8)) : sizes (L.map str) = (L.map List.length).sum := by
  unfold sizes
  rw [List.map_map]
  congr 1

set_option maxRecDepth 100000 in
set_option maxHeartbeats 6400000 in
theorem show_alt (set : Option (Int → Bool)) (fold : Bool) (least most : Int) (lazy : Bool) (cap : Nat) (name : List UInt8) (kids : List SynP.Nd)
    (IH : ∀ x ∈ kids, ShowC x) (hlen : (SynP.shN (.mk 9 set fold least most lazy cap name kids)).length ≤ 1000000) : ShowC (.mk 9 set fold least most lazy cap name kids) := by
  intro r P w hl
  have hk : r.kind = 9 := hl.kind_
  have hn := hl.kids.1
  have hmax := hl.room
  rw [SynP.sh9] at hlen ⊢
  have HIH := Lib.hid IH
  have HLen := Lib.hid hlen
  obtain ⟨N, hN⟩ : ∃ N, w.heap.size = N := ⟨_, rfl⟩
  have HS0 := Lib.hid (AltS.start hN hl)
  have HNe := Lib.hid hN
  obtain ⟨r0, r1, r2, r3, r4, r5, r6, r7, r8, r9, ra, rb, rc⟩ := r
  simp only at hk hn hmax
  subst hk
  have HKn : Hid (kids.length = rb) := Lib.hid hn.symm
  obtain ⟨T, hT⟩ : ∃ T, SynP.kidsT kids = T := ⟨_, rfl⟩
  have HTe := Lib.hid hT
  have HTl : Hid (T.length = rb) := Lib.hid (by rw [← hT, hn]; simp [SynP.kidsT])
  simp only [RawN.cells] at HS0 ⊢
  rw [hT] at HLen ⊢
  clear IH hlen hl hN hn hT
  go_enter Tryz.func25, Tryz.ntmps25
  go_upto_region 30 with fail
  rw [HNe.out]
  generalize w.alloc (.cells #[.int .i64 9, .slice r1 r2 r3, .bool r4, .int .i64 r5, .int .i64 r6, .bool r7, .int .i64 r8, .string r9, .slice ra rb rc] 29) = W at HS0 ⊢
  have hcW : ∀ o, W.cell? ⟨N, o, none⟩ = #[Value.int .i64 9, .slice r1 r2 r3, .bool r4, .int .i64 r5, .int .i64 r6, .bool r7, .int .i64 r8, .string r9, .slice ra rb rc][o]? := fun o => Lib.cell_of_heap HS0.out.box o
  go_wp2_with fail
  clear hcW
  go_loopw [6, 57] (fun s6 s57 wr => ∃ i : Nat, i ≤ rb ∧ s57 = .int .i64 i ∧ Hid (AltS w wr N P (.mk 9 set fold least most lazy cap name kids) ⟨9, r1, r2, r3, r4, r5, r6, r7, r8, r9, ra, rb, rc⟩ s6 ((T.take i).map fun y => str (SynP.wrapT [9] y)))) (fun _ s57 _ => rb + 1 - (intOf s57).toNat)
  case atStart => exact ⟨0, Nat.zero_le _, rfl, HS0⟩
  case round =>
    obtain ⟨i, hi, rfl, HS⟩ := hrel
    clear HS0
    have zN := HS.out.lt
    by_cases hlt : i < rb
    · have hii : (i : Int) < (rb : Int) := by omega
      have hi0 : (0 : Int) ≤ (i : Int) := by omega
      have hij : i < kids.length := by rw [HKn.out]; exact hlt
      obtain ⟨b, off, z1, rfl, hb, k1, y1⟩ := HS.out.lies.kid_ i hij
      obtain ⟨x, hx⟩ : ∃ x, kids[i]'hij = x := ⟨_, rfl⟩
      rw [hx] at k1
      have hxm : x ∈ kids := by rw [← hx]; exact List.getElem_mem hij
      have HC : Hid (∀ wx, Below wr.heap.size wr wx → Calls Tryz.prog 25 #[.agg z1.cells.toArray] wx fun e w' => e = .returned (.string (str (SynP.shN x))) ∧ Below wx.heap.size wx w') := Lib.hid fun wx hb => HIH.out x hxm z1 P wx (Lies.on (StandN.below hb) _ _ k1)
      have hkd := k1.kind_
      have hiT : i < T.length := by rw [HTl.out]; exact hlt
      have hTi : T[i] = (x.kind, SynP.shN x) := by
        have := HTe.out
        subst this
        simp [SynP.kidsT, hx]
      have HTi : Hid (((T.take (i + 1)).map fun y => str (SynP.wrapT [9] y)) = ((T.take i).map fun y => str (SynP.wrapT [9] y)) ++ [str (SynP.wrapT [9] (x.kind, SynP.shN x))]) := Lib.hid (by
        rw [List.take_succ_eq_append_getElem hiT, List.map_append, hTi]
        rfl)
      have hxs : (SynP.shN x).length ≤ 1000000000 := by
        have h1 := SynP.kid_len9 hxm
        rw [HTe.out] at h1
        have := HLen.out
        omega
      have HXs := Lib.hid hxs
      obtain ⟨L, ho⟩ : ∃ L, ((T.take i).map fun y => str (SynP.wrapT [9] y)) = L := ⟨_, rfl⟩
      have hLl : L.length ≤ 1000001 := by
        have h1 := SynP.bar_count (T.map (SynP.wrapT [9]))
        have h2 := HLen.out
        have h3 := HTl.out
        rw [List.length_map] at h1
        rw [← ho, List.length_map, List.length_take]
        omega
      rw [ho] at HS HTi
      obtain ⟨q, hq⟩ : ∃ q, str (SynP.wrapT [9] (x.kind, SynP.shN x)) = q := ⟨_, rfl⟩
      have HQ := Lib.hid hq
      rw [hq] at HTi
      obtain ⟨a0, a1, a2, a3, a4, a5, a6, a7, a8, a9, aa, ab, ac⟩ := z1
      simp only at hkd
      have HKd := Lib.hid hkd
      simp only [RawN.cells] at HC
      have m0 : wr.cell? ⟨b, off + i * 9, none⟩ = some (.int .i64 a0) := y1 0 (by decide)
      have m1 : wr.cell? ⟨b, off + i * 9 + 1, none⟩ = some (.slice a1 a2 a3) := y1 1 (by decide)
      have m2 : wr.cell? ⟨b, off + i * 9 + 2, none⟩ = some (.bool a4) := y1 2 (by decide)
      have m3 : wr.cell? ⟨b, off + i * 9 + 3, none⟩ = some (.int .i64 a5) := y1 3 (by decide)
      have m4 : wr.cell? ⟨b, off + i * 9 + 4, none⟩ = some (.int .i64 a6) := y1 4 (by decide)
      have m5 : wr.cell? ⟨b, off + i * 9 + 5, none⟩ = some (.bool a7) := y1 5 (by decide)
      have m6 : wr.cell? ⟨b, off + i * 9 + 6, none⟩ = some (.int .i64 a8) := y1 6 (by decide)
      have m7 : wr.cell? ⟨b, off + i * 9 + 7, none⟩ = some (.string a9) := y1 7 (by decide)
      have m8 : wr.cell? ⟨b, off + i * 9 + 8, none⟩ = some (.slice aa ab ac) := y1 8 (by decide)
      clear y1 hx k1 hkd hxm hxs ho hTi hiT hq
      go_wp2_with (first
        | (refine wpList_store_newN rfl 29 (.tmp 8) (.tmp 60) rfl _ #[.int .i64 a0, .slice a1 a2 a3, .bool a4, .int .i64 a5, .int .i64 a6, .bool a7, .int .i64 a8, .string a9, .slice aa ab ac] rfl rfl 29 sizeN rfl (cellsN_one ⟨a0, a1, a2, a3, a4, a5, a6, a7, a8, a9, aa, ab, ac⟩) ?_)
        | (go_at_call 48; refine (within_any (SynP.shN x) x.kind ⟨a0, a1, a2, a3, a4, a5, a6, a7, a8, a9, aa, ab, ac⟩ HKd.out [9] 1 _ _ rfl (by decide) ?hg HXs.out ?HS).mono ?_; (case hg => exact heap_two wr _ _); (case HS => exact Lib.hid fun w' hb => HC.out w' ((below_two wr _ _).trans (hb.mono (below_two wr _ _).size))); rw [HQ.out]; rintro e w4 ⟨rfl, hb4⟩; have HS4 := Lib.hid (HS.out.below ((below_two wr _ _).trans (hb4.mono (below_two wr _ _).size))); clear hb4)
        | (at_builtin; (refine wpList_append_one (E := Estr) (base := N + 1) (l := L) q ⟨w4.heap.size, 0, none⟩ 1 rfl (.tmp 61) (.tmp 65) 30 rfl 16 elStrS rfl (HS4.out.own.alloc _) rfl (news_new w4 _ _ _ rfl) (by unfold maxLen; omega) (by omega) ?_); intro v5 w5 ho5 hg5 hat5; have HS5 := Lib.hid ((HS4.out.below ((Below.refl _ w4).alloc (Nat.le_refl _) _)).add ho5 hg5); clear ho5 hg5 hat5))
      exact ⟨⟨i + 1, by omega, by simp, by rw [HTi.out]; exact HS5⟩, by simp only [intOf]; omega⟩
    · obtain rfl : i = rb := by omega
      have hii : ¬ (i : Int) < (i : Int) := by omega
      have hT : T.take i = T := List.take_of_length_le (by rw [HTl.out]; exact Nat.le_refl _)
      rw [hT] at HS
      obtain ⟨A', c', rfl, hA1, hA2⟩ := HS.out.own.form
      have hLn : (T.map fun y => str (SynP.wrapT [9] y)).length = i := by rw [List.length_map, HTl.out]
      have hown := HS.out.own.seq
      rw [hLn] at hA1 HS ⊢
      have hi9 : i ≤ 1000001 := by
        have h1 := SynP.bar_count (T.map (SynP.wrapT [9]))
        have h2 := HLen.out
        have h3 := HTl.out
        rw [List.length_map] at h1
        omega
      have HJo : Hid (Calls Tryz.prog 49 #[.slice A' i c', .string ⟨#[124]⟩] wr fun e w' => e = .returned (.string (str (SynP.barT (T.map (SynP.wrapT [9]))))) ∧ Below wr.heap.size wr w') := Lib.hid (by
        have := join_any 124 A' c' i (T.map fun y => str (SynP.wrapT [9] y)) wr hLn hown hA1 (by omega) (by
          have h1 := SynP.bar_lens (T.map (SynP.wrapT [9]))
          have h2 := HLen.out
          rw [show (T.map fun y => str (SynP.wrapT [9] y)) = (T.map (SynP.wrapT [9])).map str by rw [List.map_map]; rfl, sizes_strS]
          omega)
        rw [show (T.map fun y => str (SynP.wrapT [9] y)) = (T.map (SynP.wrapT [9])).map str by rw [List.map_map]; rfl, joinL_bar] at this
        exact this)
      clear hT hLn hown
      go_wp2_with (go_at_call 49; refine HJo.out.mono ?_; rintro e w4 ⟨rfl, hb4⟩)
      go_ret
      exact ⟨rfl, by rw [HNe.out]; exact HS.out.bel.trans (hb4.mono (Nat.le_of_lt HS.out.lt))⟩

set_option maxRecDepth 100000 in
set_option maxHeartbeats 3200000 in
theorem show_cls (c : Int) (hc : SynP.alnum c) (fold : Bool) (least most : Int) (lazy : Bool) (cap : Nat) (name : List UInt8) (kids : List SynP.Nd) : ShowC (.mk 1 (some (SynP.one c)) fold least most lazy cap name kids) := by
  intro r P w hl
  have hk : r.kind = 1 := hl.kind_
  have hf : r.fold = fold := by unfold Lies at hl; exact hl.2.2.1
  have hset : SetV w (.slice r.sA r.sn r.sc) (SynP.one c) := by unfold Lies at hl; exact hl.2.1
  rw [SynP.sh1, SynP.clsTxt_one hc]
  have HCl : Hid (∀ w', Below w.heap.size w w' → Calls Tryz.prog 17 #[.slice r.sA r.sn r.sc] w' fun e w2 => e = .returned (.string (str [UInt8.ofNat c.toNat])) ∧ Below w'.heap.size w' w2) := Lib.hid fun w' hb => class_plain c hc _ w' (hset.on (KeepR.below hb))
  obtain ⟨r0, r1, r2, r3, r4, r5, r6, r7, r8, r9, ra, rb, rc⟩ := r
  simp only at hk hf HCl
  subst hk hf
  have HB := Lib.hid ((Below.refl _ w).alloc (Nat.le_refl _) (.cells #[.int .i64 1, .slice r1 r2 r3, .bool r4, .int .i64 r5, .int .i64 r6, .bool r7, .int .i64 r8, .string r9, .slice ra rb rc] 29))
  have hsz : (str [UInt8.ofNat c.toNat]).size = 1 := str_size_ _
  have HT : Hid (str ([40, 63, 105, 58] ++ [UInt8.ofNat c.toNat] ++ [41]) = ⟨#[40, 63, 105, 58]⟩ ++ str [UInt8.ofNat c.toNat] ++ ⟨#[41]⟩) := Lib.hid (by
    rw [← str_app_, ← str_app_]
    rfl)
  obtain ⟨q, hq⟩ : ∃ q, str [UInt8.ofNat c.toNat] = q := ⟨_, rfl⟩
  have HQ := Lib.hid hq
  rw [hq] at HCl hsz HT
  have z1 : ¬ 4 + q.size > 9223372036854775807 := by omega
  have z2 : ¬ 4 + q.size + 1 > 9223372036854775807 := by omega
  simp only [RawN.cells]
  clear hl hset hq hsz
  cases r4 with
  | false =>
    rw [if_neg (by decide), HQ.out]
    go_enter Tryz.func25, Tryz.ntmps25
    go_wp2_with (go_at_call 17; refine (HCl.out _ HB.out).mono ?_; rintro e w2 ⟨rfl, hb2⟩)
    go_ret
    exact ⟨rfl, HB.out.trans (hb2.mono HB.out.size)⟩
  | true =>
    rw [if_pos rfl, HT.out]
    go_enter Tryz.func25, Tryz.ntmps25
    go_wp2_with (go_at_call 17; refine (HCl.out _ HB.out).mono ?_; rintro e w2 ⟨rfl, hb2⟩)
    go_ret
    exact ⟨rfl, HB.out.trans (hb2.mono HB.out.size)⟩

set_option maxRecDepth 100000 in
set_option maxHeartbeats 3200000 in
theorem show_grp (set : Option (Int → Bool)) (fold : Bool) (least most : Int) (lazy : Bool) (cap : Nat) (kids : List SynP.Nd)
    (IH : ShowC (hd kids)) (hlen : (SynP.shN (.mk 11 set fold least most lazy cap [] kids)).length ≤ 1000000) : ShowC (.mk 11 set fold least most lazy cap [] kids) := by
  intro r P w hl
  have hk : r.kind = 11 := hl.kind_
  have hnm : r.name = ⟨#[]⟩ := by unfold Lies at hl; exact hl.2.2.2.2.2.2.2.1
  have HK : Hid (∀ w', Below w.heap.size w w' → Calls Tryz.prog 50 #[.agg r.cells.toArray] w' fun e w2 => ∃ r2 : RawN, e = .returned (.agg r2.cells.toArray) ∧ Below w'.heap.size w' w2 ∧ Lies w2 P (hd kids) r2) := Lib.hid fun w' hb => kid_any P 11 set fold least most lazy cap [] kids r w' (Lies.on (StandN.below hb) _ _ hl)
  rw [SynP.sh11, if_neg (by simp), headT_hd] at hlen ⊢
  simp only at hlen ⊢
  obtain ⟨q, hq⟩ : ∃ q, str (SynP.shN (hd kids)) = q := ⟨_, rfl⟩
  have hqs : q.size ≤ 1000000 := by rw [← hq, str_size_]; simp at hlen; omega
  have HT : Hid (str (40 :: (SynP.shN (hd kids) ++ [41])) = ⟨#[40]⟩ ++ q ++ ⟨#[41]⟩) := Lib.hid (by
    rw [← hq, show (⟨#[40]⟩ : ByteArray) = str [40] from rfl, show (⟨#[41]⟩ : ByteArray) = str [41] from rfl, str_app_, str_app_]
    rfl)
  have HI : Hid (∀ (r2 : RawN) (w : World), Lies w P (hd kids) r2 → Calls Tryz.prog 25 #[.agg r2.cells.toArray] w fun e w' => e = .returned (.string q) ∧ Below w.heap.size w w') := Lib.hid fun r2 w h => by rw [← hq]; exact IH r2 P w h
  obtain ⟨r0, r1, r2, r3, r4, r5, r6, r7, r8, r9, ra, rb, rc⟩ := r
  simp only at hk hnm
  subst hk hnm
  simp only [RawN.cells] at HK ⊢
  have HB := Lib.hid ((Below.refl _ w).alloc (Nat.le_refl _) (.cells #[.int .i64 11, .slice r1 r2 r3, .bool r4, .int .i64 r5, .int .i64 r6, .bool r7, .int .i64 r8, .string ⟨#[]⟩, .slice ra rb rc] 29))
  have z1 : ¬ 1 + q.size > 9223372036854775807 := by omega
  have z2 : ¬ 1 + q.size + 1 > 9223372036854775807 := by omega
  rw [HT.out]
  clear hl hq hqs hlen IH
  go_enter Tryz.func25, Tryz.ntmps25
  go_wp2_with (first
    | (go_at_call 50; refine (HK.out _ HB.out).mono ?_; rintro e w2 ⟨z, rfl, hb2, hl2⟩; have HB2 := Lib.hid (HB.out.trans (hb2.mono HB.out.size)); have HL2 := Lib.hid hl2; clear hb2 hl2; obtain ⟨a0, a1, a2, a3, a4, a5, a6, a7, a8, a9, aa, ab, ac⟩ := z; simp only)
    | (go_at_call 25; refine (HI.out ⟨a0, a1, a2, a3, a4, a5, a6, a7, a8, a9, aa, ab, ac⟩ _ HL2.out).mono ?_; rintro e w3 ⟨rfl, hb3⟩; have HB3 := Lib.hid (HB2.out.trans (hb3.mono HB2.out.size)); clear hb3))
  go_ret
  exact ⟨rfl, HB3.out⟩

/-- What Show holds at a repeat: the boxed node. -/
structure RepS (w wr : World) (N : Nat) (r : RawN) : Prop where
  hN : w.heap.size = N
  bel : Below N w wr
  box : wr.heap[N]? = some (.cells r.cells.toArray 29)
def At_ (w : World) (g : Nat) (o : Obj) : Prop := w.heap[g]? = some o
section
variable {w wr wx : World} {N g : Nat} {r : RawN} {o : Obj} {n : Nat}
theorem RepS.start (hN : w.heap.size = N) : RepS w (w.alloc (.cells r.cells.toArray 29)) N r := by
  subst hN
  exact ⟨rfl, (Below.refl _ w).alloc (Nat.le_refl _) _, heap_alloc_new w _⟩
theorem RepS.below (h : RepS w wr N r) (k : Below wr.heap.size wr wx) : RepS w wx N r := by
  have h0 := (Array.getElem?_eq_some_iff.1 h.box).1
  exact ⟨h.hN, h.bel.trans (k.mono (by omega)), (k.block N h0).trans h.box⟩
theorem step_refl (k : Below wr.heap.size wr wx) : Below wr.heap.size wr wx := k
theorem step_drew (k : Below (wr.drewN n).heap.size (wr.drewN n) wx) : Below wr.heap.size wr wx := (below_drewN (Below.refl _ wr) n).trans k
theorem step_alloc (k : Below (wr.alloc o).heap.size (wr.alloc o) wx) : Below wr.heap.size wr wx := ((Below.refl _ wr).alloc (Nat.le_refl _) _).trans (k.mono (by simp))
theorem At_.keep (h : At_ w g o) (k : Below w.heap.size w wx) : At_ wx g o := (k.block g (Array.getElem?_eq_some_iff.1 h).1).trans h
theorem At_.new (k : Below (w.alloc o).heap.size (w.alloc o) wx) : At_ wx w.heap.size o := (k.block _ (by simp)).trans (heap_alloc_new w o)
theorem At_.newD (k : Below ((w.alloc o).drewN n).heap.size ((w.alloc o).drewN n) wx) : At_ wx w.heap.size o := At_.new (step_drew k)
theorem trans_ {a b c : World} (h : Below a.heap.size a b) (k : Below b.heap.size b c) : Below a.heap.size a c := h.trans (k.mono h.size)
theorem RepS.lt (h : RepS w wr N r) : N < wr.heap.size := (Array.getElem?_eq_some_iff.1 h.box).1
theorem RepS.bel_alloc (h : RepS w wr N r) : Below N w (wr.alloc o) := h.bel.alloc (Nat.le_of_lt (Array.getElem?_eq_some_iff.1 h.box).1) _
end

set_option maxRecDepth 100000 in
set_option maxHeartbeats 12800000 in
theorem show_rep (set : Option (Int → Bool)) (fold : Bool) (least most : Int) (lazy : Bool) (cap : Nat) (name : List UInt8) (kids : List SynP.Nd) (hr : 0 ≤ least ∧ least < 100 ∧ 0 ≤ most ∧ most < 100)
    (IH : ShowC (hd kids)) (hlen : (SynP.shN (.mk 10 set fold least most lazy cap name kids)).length ≤ 1000000) : ShowC (.mk 10 set fold least most lazy cap name kids) := by
  intro r P w hl
  have hk : r.kind = 10 := hl.kind_
  have hrr : r.mn = least ∧ r.mx = most ∧ r.lazy = lazy := by unfold Lies at hl; exact ⟨hl.2.2.2.1, hl.2.2.2.2.1, hl.2.2.2.2.2.1⟩
  obtain ⟨N, hN⟩ : ∃ N, w.heap.size = N := ⟨_, rfl⟩
  have HK : Hid (∀ w', Below N w w' → Calls Tryz.prog 50 #[.agg r.cells.toArray] w' fun e w2 => ∃ r2 : RawN, e = .returned (.agg r2.cells.toArray) ∧ Below w'.heap.size w' w2 ∧ Lies w2 P (hd kids) r2) := Lib.hid fun w' hb => kid_any P 10 set fold least most lazy cap name kids r w' (Lies.on (StandN.below (by rw [hN]; exact hb)) _ _ hl)
  rw [SynP.sh10, headT_hd] at hlen ⊢
  obtain ⟨A, hA⟩ : ∃ A, str (SynP.wrapT [8, 9, 10] ((hd kids).kind, SynP.shN (hd kids))) = A := ⟨_, rfl⟩
  obtain ⟨B, hB⟩ : ∃ B, str (SynP.timesT_ SynP.decS least most lazy) = B := ⟨_, rfl⟩
  have hsz : A.size + B.size ≤ 1000000 := by rw [← hA, ← hB, str_size_, str_size_]; simpa using hlen
  have HT : Hid (str (SynP.wrapT [8, 9, 10] ((hd kids).kind, SynP.shN (hd kids)) ++ SynP.timesT_ SynP.decS least most lazy) = A ++ B) := Lib.hid (by rw [← hA, ← hB, str_app_])
  have HTm : Hid (∀ w, Calls Tryz.prog 51 #[.agg r.cells.toArray] w fun e w' => e = .returned (.string B) ∧ Below w.heap.size w w') := Lib.hid fun w => by
    have := times_any_ r (by rw [hrr.1, hrr.2.1]; exact hr) w
    rw [hrr.1, hrr.2.1, hrr.2.2, hB] at this
    exact this
  have hx9 : (SynP.shN (hd kids)).length ≤ 1000000000 := by
    have h1 := SynP.wrapT_len [8, 9, 10] ((hd kids).kind, SynP.shN (hd kids))
    rw [List.length_append] at hlen
    simp only at h1
    omega
  have HWi : Hid (∀ (z : RawN) (g : Nat) (w : World), z.kind = (hd kids).kind → At_ w g (.cells #[.int .i64 8, .int .i64 9, .int .i64 10] 3) → Hid (∀ w', Below w.heap.size w w' → Calls Tryz.prog 25 #[.agg z.cells.toArray] w' fun e w2 => e = .returned (.string (str (SynP.shN (hd kids)))) ∧ Below w'.heap.size w' w2) → Calls Tryz.prog 48 #[.agg z.cells.toArray, .slice (some ⟨g, 0, none⟩) 3 3] w fun e w' => e = .returned (.string A) ∧ Below w.heap.size w w') := Lib.hid fun z g w h1 h2 h3 => by
    have := within_any (SynP.shN (hd kids)) (hd kids).kind z h1 [8, 9, 10] 3 g w rfl (by decide) h2 hx9 h3
    rw [hA] at this
    exact this
  have HI : Hid (∀ (z : RawN) (wz w : World), Lies wz P (hd kids) z → Below wz.heap.size wz w → Calls Tryz.prog 25 #[.agg z.cells.toArray] w fun e w' => e = .returned (.string (str (SynP.shN (hd kids)))) ∧ Below w.heap.size w w') := Lib.hid fun z wz w h hb => IH z P w (Lies.on (StandN.below hb) _ _ h)
  have HS := Lib.hid (RepS.start (r := r) hN)
  have HNe := Lib.hid hN
  obtain ⟨r0, r1, r2, r3, r4, r5, r6, r7, r8, r9, ra, rb, rc⟩ := r
  simp only at hk
  subst hk
  simp only [RawN.cells] at HK HTm HS ⊢
  have z1 : ¬ A.size + B.size > 9223372036854775807 := by omega
  rw [HT.out]
  clear hl hA hB hsz hlen IH hrr hx9 hN hr HT
  go_enter Tryz.func25, Tryz.ntmps25
  go_upto_region 37 with fail
  rw [HNe.out]
  generalize w.alloc (.cells #[.int .i64 10, .slice r1 r2 r3, .bool r4, .int .i64 r5, .int .i64 r6, .bool r7, .int .i64 r8, .string r9, .slice ra rb rc] 29) = W at HS ⊢
  have hcW : ∀ o, W.cell? ⟨N, o, none⟩ = #[Value.int .i64 10, .slice r1 r2 r3, .bool r4, .int .i64 r5, .int .i64 r6, .bool r7, .int .i64 r8, .string r9, .slice ra rb rc][o]? := fun o => Lib.cell_of_heap HS.out.box o
  have zN := HS.out.lt
  go_region_with (first
    | (go_at_call 50; refine (HK.out _ ?hb).mono ?_; (case hb => first | exact HS.out.bel | exact HS.out.bel_alloc | exact below_drewN HS.out.bel 1 | exact below_drewN HS.out.bel_alloc 1); rintro e wk ⟨z, rfl, hbk, hlk⟩; (first | have HG := Lib.hid (HG.out.keep hbk) | have HG := Lib.hid (HG.out.keep (step_alloc hbk)) | have HG := Lib.hid (At_.new hbk) | have HG := Lib.hid (At_.newD (n := 1) hbk) | skip); (first | have HZb := Lib.hid (trans_ HZb.out hbk) | have HZb := Lib.hid (trans_ HZb.out (step_alloc hbk)) | skip); (first | have HS := Lib.hid (HS.out.below hbk) | have HS := Lib.hid (HS.out.below (step_alloc hbk)) | have HS := Lib.hid (HS.out.below (step_drew (n := 1) hbk)) | have HS := Lib.hid (HS.out.below (step_alloc (step_drew (n := 1) hbk)))); (have hcW : ∀ o, World.cell? _ ⟨N, o, none⟩ = #[Value.int .i64 10, .slice r1 r2 r3, .bool r4, .int .i64 r5, .int .i64 r6, .bool r7, .int .i64 r8, .string r9, .slice ra rb rc][o]? := fun o => Lib.cell_of_heap HS.out.box o); have zN := HS.out.lt; clear hbk; have HKd := Lib.hid hlk.kind_; have HZ := Lib.hid hlk; have HZb := Lib.hid (Below.refl wk.heap.size wk); clear hlk; obtain ⟨a0, a1, a2, a3, a4, a5, a6, a7, a8, a9, aa, ab, ac⟩ := z; simp only at HKd; simp only)
    | (go_at_call 51; refine (HTm.out _).mono ?_; rintro e wt ⟨rfl, hbt⟩; (first | have HG := Lib.hid (HG.out.keep hbt) | have HG := Lib.hid (HG.out.keep (step_alloc hbt)) | have HG := Lib.hid (At_.new hbt) | have HG := Lib.hid (At_.newD (n := 1) hbt) | skip); (first | have HZb := Lib.hid (trans_ HZb.out hbt) | have HZb := Lib.hid (trans_ HZb.out (step_alloc hbt)) | skip); (first | have HS := Lib.hid (HS.out.below hbt) | have HS := Lib.hid (HS.out.below (step_alloc hbt)) | have HS := Lib.hid (HS.out.below (step_drew (n := 1) hbt)) | have HS := Lib.hid (HS.out.below (step_alloc (step_drew (n := 1) hbt)))); (have hcW : ∀ o, World.cell? _ ⟨N, o, none⟩ = #[Value.int .i64 10, .slice r1 r2 r3, .bool r4, .int .i64 r5, .int .i64 r6, .bool r7, .int .i64 r8, .string r9, .slice ra rb rc][o]? := fun o => Lib.cell_of_heap HS.out.box o); have zN := HS.out.lt; clear hbt)
    | (go_at_call 48; refine (HWi.out ⟨a0, a1, a2, a3, a4, a5, a6, a7, a8, a9, aa, ab, ac⟩ _ _ HKd.out ?hg ?hS).mono ?_; (case hg => first | exact HG.out | exact heap_alloc_new _ _); (case hS => first | exact Lib.hid fun w' h => HI.out _ _ w' HZ.out (trans_ HZb.out h) | exact Lib.hid fun w' h => HI.out _ _ w' HZ.out (trans_ HZb.out (step_alloc h))); rintro e wi ⟨rfl, hbi⟩; (first | have HG := Lib.hid (HG.out.keep hbi) | have HG := Lib.hid (HG.out.keep (step_alloc hbi)) | have HG := Lib.hid (At_.new hbi) | have HG := Lib.hid (At_.newD (n := 1) hbi) | skip); (first | have HZb := Lib.hid (trans_ HZb.out hbi) | have HZb := Lib.hid (trans_ HZb.out (step_alloc hbi)) | skip); (first | have HS := Lib.hid (HS.out.below hbi) | have HS := Lib.hid (HS.out.below (step_alloc hbi)) | have HS := Lib.hid (HS.out.below (step_drew (n := 1) hbi)) | have HS := Lib.hid (HS.out.below (step_alloc (step_drew (n := 1) hbi)))); (have hcW : ∀ o, World.cell? _ ⟨N, o, none⟩ = #[Value.int .i64 10, .slice r1 r2 r3, .bool r4, .int .i64 r5, .int .i64 r6, .bool r7, .int .i64 r8, .string r9, .slice ra rb rc][o]? := fun o => Lib.cell_of_heap HS.out.box o); have zN := HS.out.lt; clear hbi))
  all_goals (go_wp2_with fail; go_ret; exact ⟨rfl, by rw [HNe.out]; exact HS.out.bel⟩)

theorem size_pos (x : SynP.Nd) : 0 < SynP.sizeA x := by
  cases x
  unfold SynP.sizeA
  omega
theorem size_kid : ∀ {kids : List SynP.Nd} {x : SynP.Nd}, x ∈ kids → SynP.sizeA x ≤ SynP.sizeAL kids
  | y :: l, x, h => by
    unfold SynP.sizeAL
    rcases List.mem_cons.1 h with rfl | h
    · omega
    · have := size_kid h
      omega
theorem hd_mem {kids : List SynP.Nd} (h : kids ≠ []) : hd kids ∈ kids := by
  cases kids with
  | nil => exact absurd rfl h
  | cons x l => exact List.mem_cons_self
/-- Show tells the text of every tree of plain signs. -/
theorem show_all : ∀ (n : Nat) (nd : SynP.Nd), SynP.sizeA nd ≤ n → SynP.okN nd → (SynP.shN nd).length ≤ 1000000 → ShowC nd
  | 0, nd, h, _, _ => absurd (size_pos nd) (by omega)
  | n + 1, .mk kind set fold least most lazy cap name kids, h, ho, hlen => by
    unfold SynP.okN at ho
    obtain ⟨h1, h10, h11, hk, hkids⟩ := ho
    have hs : ∀ x ∈ kids, SynP.sizeA x ≤ n := fun x hx => by
      have h2 := size_kid hx
      unfold SynP.sizeA at h
      omega
    have ih : ∀ x ∈ kids, (SynP.shN x).length ≤ 1000000 → ShowC x := fun x hx hl => show_all n x (hs x hx) (SynP.okL_mem hkids x hx) hl
    rcases hk with rfl | rfl | rfl | ⟨rfl | rfl, hne⟩
    · obtain ⟨f, rfl, c, hc, rfl⟩ := h1 rfl
      exact show_cls c hc fold least most lazy cap name kids
    · refine show_cat set fold least most lazy cap name kids (fun x hx => ih x hx ?_) hlen
      rw [SynP.sh8] at hlen
      exact Nat.le_trans (SynP.kid_len8 hx) hlen
    · refine show_alt set fold least most lazy cap name kids (fun x hx => ih x hx ?_) hlen
      rw [SynP.sh9] at hlen
      exact Nat.le_trans (SynP.kid_len9 hx) hlen
    · refine show_rep set fold least most lazy cap name kids (h10 rfl) (ih _ (hd_mem hne) ?_) hlen
      rw [SynP.sh10, headT_hd, List.length_append] at hlen
      have h2 := SynP.wrapT_len [8, 9, 10] ((hd kids).kind, SynP.shN (hd kids))
      simp only at h2
      omega
    · obtain rfl := h11 rfl
      refine show_grp set fold least most lazy cap kids (ih _ (hd_mem hne) ?_) hlen
      rw [SynP.sh11, if_neg (by simp), headT_hd] at hlen
      simp only [List.length_cons, List.length_append] at hlen
      omega

end Go.Proofs.YtblkejnckbeieaaGreatDoor
