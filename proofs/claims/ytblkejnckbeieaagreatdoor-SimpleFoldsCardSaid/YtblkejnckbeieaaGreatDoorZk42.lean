/- Chapter 11: the walk of Show: the text of a tree of plain signs. -/
import Derived.Test.YtblkejnckbeieaaGreatDoorZk40
import Derived.Test.YtblkejnckbeieaaGreatDoorZk41
namespace Go.Proofs.YtblkejnckbeieaaGreatDoor
open Go.RowKit SetPure

theorem StandN.keptB {P : Nat → Prop} {B b : Nat} {l : List UInt8} {w w' : World} (hb : Bld B b l w) (k : Kept B b w w') : StandN P w w' := by
  have hbt : ∃ cs fz, w.heap[b]? = some (.cells cs 88 fz) := by
    rcases hb with h | h
    · obtain ⟨_, v, hbk, _⟩ := h
      exact ⟨_, _, hbk⟩
    · obtain ⟨_, v, hbk, _⟩ := h
      exact ⟨_, _, hbk⟩
  obtain ⟨cs0, fz0, hbt⟩ := hbt
  have hne : ∀ {k : Nat} {cs : Array Value} {t : TypeId} {fz : Nat × Nat}, w.heap[k]? = some (.cells cs t fz) → t ≠ 88 → some k ≠ some b := by
    intro k cs t fz e ht hk
    injection hk with hk
    rw [hk, hbt] at e
    injection e with e
    injection e with _ e
    exact ht e.symm
  have hkp : ∀ {k : Nat} {cs : Array Value} {t : TypeId} {fz : Nat × Nat}, w.heap[k]? = some (.cells cs t fz) → t ≠ 88 → t ≠ 5 → w'.heap[k]? = w.heap[k]? := by
    intro j cs t fz e h1 h2
    rw [e]
    exact k.2 j _ e (hne e h1) (fun c f h => by injection h with _ h; exact h2 h)
  exact ⟨⟨k.1.size, fun j cs fz e => hkp e (by decide) (by decide)⟩, fun j cs fz _ e => hkp e (by decide) (by decide)⟩
/-- What Show holds in the loop of a row: the boxed node, what lies behind it, the builder. -/
structure CatS (w wr : World) (N : Nat) (P : Nat → Prop) (nd : SynP.Nd) (r : RawN) (out : List UInt8) : Prop where
  hN : w.heap.size = N
  bel : Below N w wr
  box : wr.heap[N]? = some (.cells r.cells.toArray 29)
  lies : Lies wr P nd r
  bld : Bld (N + 1) (N + 1) out wr
section
variable {w wr wx : World} {N : Nat} {P : Nat → Prop} {nd : SynP.Nd} {r : RawN} {out out' : List UInt8}
theorem CatS.lt (h : CatS w wr N P nd r out) : N + 1 ≤ wr.heap.size := (Array.getElem?_eq_some_iff.1 h.box).1
theorem CatS.start (hN : w.heap.size = N) (h : Lies w P nd r) : CatS w ((w.alloc (.cells r.cells.toArray 29)).alloc (.cells #[.pointer none, .slice none 0 0] 88)) N P nd r [] := by
  subst hN
  have hb := below_two w (.cells r.cells.toArray 29) (.cells #[.pointer none, .slice none 0 0] 88)
  refine ⟨rfl, hb, (Below.heap_alloc _ _ _ (by simp)).trans (heap_alloc_new w _), Lies.on (StandN.below hb) _ _ h, ?_⟩
  have := Bld.new (w.alloc (.cells r.cells.toArray 29))
  rw [World.size_alloc] at this
  exact this
theorem CatS.below (h : CatS w wr N P nd r out) (k : Below wr.heap.size wr wx) : CatS w wx N P nd r out := by
  have := h.lt
  exact ⟨h.hN, h.bel.trans (k.mono (by omega)), (k.block N (by omega)).trans h.box, Lies.on (StandN.below k) _ _ h.lies, h.bld.below k⟩
theorem CatS.wrote (h : CatS w wr N P nd r out) (k : Kept (N + 1) (N + 1) wr wx) (hb : Bld (N + 1) (N + 1) out' wx) : CatS w wx N P nd r out' :=
  ⟨h.hN, h.bel.trans (k.1.mono (Nat.le_succ _)), (k.1.block N (Nat.lt_succ_self _)).trans h.box, Lies.on (StandN.keptB h.bld k) _ _ h.lies, hb⟩
end
/-- What Show holds in the loop of alternatives: the texts so far. -/
structure AltS (w wr : World) (N : Nat) (P : Nat → Prop) (nd : SynP.Nd) (r : RawN) (v : Value) (L : List ByteArray) : Prop where
  hN : w.heap.size = N
  bel : Below N w wr
  box : wr.heap[N]? = some (.cells r.cells.toArray 29)
  lies : Lies wr P nd r
  own : OwnB Estr 9 (N + 1) wr v L
section
variable {w wr wx : World} {N : Nat} {P : Nat → Prop} {nd : SynP.Nd} {r : RawN} {v v' : Value} {L L' : List ByteArray}
theorem AltS.lt (h : AltS w wr N P nd r v L) : N < wr.heap.size := (Array.getElem?_eq_some_iff.1 h.box).1
theorem AltS.start (hN : w.heap.size = N) (h : Lies w P nd r) : AltS w (w.alloc (.cells r.cells.toArray 29)) N P nd r (.slice none 0 0) [] := by
  subst hN
  have hb : Below w.heap.size w (w.alloc (.cells r.cells.toArray 29)) := (Below.refl _ w).alloc (Nat.le_refl _) _
  exact ⟨rfl, hb, heap_alloc_new w _, Lies.on (StandN.below hb) _ _ h, OwnB.nil_ (by simp)⟩
theorem AltS.below (h : AltS w wr N P nd r v L) (k : Below wr.heap.size wr wx) : AltS w wx N P nd r v L := by
  have := h.lt
  exact ⟨h.hN, h.bel.trans (k.mono (by omega)), (k.block N (by omega)).trans h.box, Lies.on (StandN.below k) _ _ h.lies, h.own.below k⟩
theorem AltS.add (h : AltS w wr N P nd r v L) (ho : OwnB Estr 9 (N + 1) wx v' L') (hg : wr.grownBy wx v.ownBlock) : AltS w wx N P nd r v' L' := by
  have hlt := fun g (e : v.ownBlock = some g) => h.own.lt g e
  have hst : StandN P wr wx := ⟨⟨hg.size, fun k _ _ e => hg.block k (Array.getElem?_eq_some_iff.1 e).1 (fun hk => h.own.ne_ e (by decide) hk.symm)⟩, fun k _ _ _ e => hg.block k (Array.getElem?_eq_some_iff.1 e).1 (fun hk => h.own.ne_ e (by decide) hk.symm)⟩
  refine ⟨h.hN, ⟨hg.os.trans h.bel.os, hg.tape.trans h.bel.tape, hg.output.trans h.bel.output, Nat.le_trans h.bel.size hg.size, fun k hk => (hg.block k (Nat.lt_of_lt_of_le (Nat.lt_trans hk h.lt) (Nat.le_refl _)) (fun e => by have := (hlt k e.symm).1; omega)).trans (h.bel.block k hk)⟩, ?_, Lies.on hst _ _ h.lies, ho⟩
  exact (hg.block N h.lt (fun e => by have := (hlt N e.symm).1; omega)).trans h.box
end
theorem setRow_allocN (w : World) (z c : Array Value) (t : TypeId) : (w.alloc (.cells z t)).setRow w.heap.size c = w.alloc (.cells c t) := by
  unfold World.setRow World.alloc
  congr 1
  refine Array.ext (by simp) (fun i h1 h2 => ?_)
  rw [Array.getElem_modify]
  by_cases hi : w.heap.size = i
  · subst hi; simp
  · rw [if_neg hi, Array.getElem_push_lt (by simp at h1; omega), Array.getElem_push_lt (by simp at h1; omega)]
theorem heap_two (w : World) (x y : Obj) : ((w.alloc x).alloc y).heap[w.heap.size + 1]? = some y := by
  have := heap_alloc_new (w.alloc x) y
  rw [World.size_alloc] at this
  exact this
theorem wpList_store_newN {P : Program} {ops : Array Oper} {rest : List Oper} {o : Oper} {a : Act} {w : World} {Q : Exit → Act → World → Prop} (hgd : o.guard = none) (ty : TypeId) (x y : Operand) (ho : o.op = .store ty x y)
    (z cells : Array Value) (hx : a.eval x = .pointer (some ⟨w.heap.size, 0, none⟩)) (hy : a.eval y = .agg cells)
    (t : TypeId) (hi : (P.info? ty).map (·.size) = some cells.size) (hz : z.size = cells.size) (h1 : cells.all (·.oneCell') = true)
    (h : wpList P ops Q rest (a.put o.dst undef) (w.alloc (.cells cells t))) : wpList P ops Q (o :: rest) a (w.alloc (.cells z t)) :=
  wpList_store_row hgd ty x y ho w.heap.size cells hx hy t z (heap_alloc_new w _) hi hz h1 (by rw [setRow_allocN]; exact h)

/-- Show tells a tree's text. -/
def ShowC (nd : SynP.Nd) : Prop := ∀ (r : RawN) (P : Nat → Prop) (w : World), Lies w P nd r → Calls Tryz.prog 25 #[.agg r.cells.toArray] w fun e w' => e = .returned (.string (str (SynP.shN nd))) ∧ Below w.heap.size w w'
theorem Lies.kind_ {w : World} {P : Nat → Prop} {nd : SynP.Nd} {r : RawN} (h : Lies w P nd r) : r.kind = nd.kind := by
  cases nd
  unfold Lies at h
  exact h.1
/-- A kid of a tree in memory, with its cells. -/
theorem Lies.kid_ {w : World} {P : Nat → Prop} {kind : Nat} {set : Option (Int → Bool)} {fold : Bool} {least most : Int} {lazy : Bool} {cap : Nat} {name : List UInt8} {kids : List SynP.Nd} {r : RawN} (h : Lies w P (.mk kind set fold least most lazy cap name kids) r) (i : Nat) (hi : i < kids.length) :
    ∃ b off z, r.kA = some ⟨b, off, none⟩ ∧ b < w.heap.size ∧ Lies w P kids[i] z ∧ ∀ o, o < 9 → w.cell? ⟨b, off + i * 9 + o, none⟩ = some (z.cells.getD o undef) := by
  obtain ⟨-, rs, hrs, hka, hls⟩ := h.kids
  have hir : i < rs.length := by rw [hrs]; exact hi
  obtain ⟨b, off, e, hb, hc⟩ := hka.nth (by omega)
  exact ⟨b, off, rs[i], e, hb, LiesL.nth kids rs hrs hls i hi hir, fun o ho => by rw [Nat.add_assoc]; exact hc i hir o ho⟩
theorem Lies.room {w : World} {P : Nat → Prop} {kind : Nat} {set : Option (Int → Bool)} {fold : Bool} {least most : Int} {lazy : Bool} {cap : Nat} {name : List UInt8} {kids : List SynP.Nd} {r : RawN} (h : Lies w P (.mk kind set fold least most lazy cap name kids) r) : r.kn ≤ 9223372036854775807 := by
  unfold Lies at h
  obtain ⟨-, -, -, -, -, -, -, -, -, h1, h2, -⟩ := h
  unfold maxLen at h2
  omega

set_option maxRecDepth 100000 in
set_option maxHeartbeats 6400000 in
theorem show_cat (set : Option (Int → Bool)) (fold : Bool) (least most : Int) (lazy : Bool) (cap : Nat) (name : List UInt8) (kids : List SynP.Nd)
    (IH : ∀ x ∈ kids, ShowC x) (hlen : (SynP.shN (.mk 8 set fold least most lazy cap name kids)).length ≤ 1000000) : ShowC (.mk 8 set fold least most lazy cap name kids) := by
  intro r P w hl
  have hk : r.kind = 8 := hl.kind_
  have hn := hl.kids.1
  have hmax := hl.room
  rw [SynP.sh8] at hlen ⊢
  have HIH := Lib.hid IH
  have HLen := Lib.hid hlen
  obtain ⟨N, hN⟩ : ∃ N, w.heap.size = N := ⟨_, rfl⟩
  have HS0 := Lib.hid (CatS.start hN hl)
  have HNe := Lib.hid hN
  obtain ⟨r0, r1, r2, r3, r4, r5, r6, r7, r8, r9, ra, rb, rc⟩ := r
  simp only at hk hn hmax
  subst hk
  have HKn : Hid (kids.length = rb) := Lib.hid hn.symm
  obtain ⟨T, hT⟩ : ∃ T, SynP.kidsT kids = T := ⟨_, rfl⟩
  have HTe := Lib.hid hT
  have HTl : Hid (T.length = rb) := Lib.hid (by rw [← hT, hn]; simp [SynP.kidsT])
  simp only [RawN.cells] at HS0 ⊢
  rw [hT] at HLen ⊢
  clear IH hlen hl hN hn hT
  go_enter Tryz.func25, Tryz.ntmps25
  go_upto_region 22 with fail
  rw [HNe.out]
  generalize (w.alloc (.cells #[.int .i64 8, .slice r1 r2 r3, .bool r4, .int .i64 r5, .int .i64 r6, .bool r7, .int .i64 r8, .string r9, .slice ra rb rc] 29)).alloc (.cells #[.pointer none, .slice none 0 0] 88) = W at HS0 ⊢
  have hcW : ∀ o, W.cell? ⟨N, o, none⟩ = #[Value.int .i64 8, .slice r1 r2 r3, .bool r4, .int .i64 r5, .int .i64 r6, .bool r7, .int .i64 r8, .string r9, .slice ra rb rc][o]? := fun o => Lib.cell_of_heap HS0.out.box o
  go_wp2_with fail
  clear hcW
  go_loopw [42] (fun s42 wr => ∃ i : Nat, i ≤ rb ∧ s42 = .int .i64 i ∧ Hid (CatS w wr N P (.mk 8 set fold least most lazy cap name kids) ⟨8, r1, r2, r3, r4, r5, r6, r7, r8, r9, ra, rb, rc⟩ ((T.take i).flatMap (SynP.wrapT [8, 9])))) (fun s42 _ => rb + 1 - (intOf s42).toNat)
  case atStart => exact ⟨0, Nat.zero_le _, rfl, HS0⟩
  case round =>
    obtain ⟨i, hi, rfl, HS⟩ := hrel
    clear HS0
    have zN := HS.out.lt
    by_cases hlt : i < rb
    · have hii : (i : Int) < (rb : Int) := by omega
      have hi0 : (0 : Int) ≤ (i : Int) := by omega
      have hij : i < kids.length := by rw [HKn.out]; exact hlt
      obtain ⟨b, off, z1, rfl, hb, k1, y1⟩ := HS.out.lies.kid_ i hij
      obtain ⟨x, hx⟩ : ∃ x, kids[i]'hij = x := ⟨_, rfl⟩
      rw [hx] at k1
      have hxm : x ∈ kids := by rw [← hx]; exact List.getElem_mem hij
      have HC : Hid (∀ wx, Below wr.heap.size wr wx → Calls Tryz.prog 25 #[.agg z1.cells.toArray] wx fun e w' => e = .returned (.string (str (SynP.shN x))) ∧ Below wx.heap.size wx w') := Lib.hid fun wx hb => HIH.out x hxm z1 P wx (Lies.on (StandN.below hb) _ _ k1)
      have hkd := k1.kind_
      have hiT : i < T.length := by rw [HTl.out]; exact hlt
      have hTi : T[i] = (x.kind, SynP.shN x) := by
        have := HTe.out
        subst this
        simp [SynP.kidsT, hx]
      have HTi : Hid ((T.take (i + 1)).flatMap (SynP.wrapT [8, 9]) = (T.take i).flatMap (SynP.wrapT [8, 9]) ++ SynP.wrapT [8, 9] (x.kind, SynP.shN x)) := Lib.hid (by
        rw [List.take_succ_eq_append_getElem hiT, List.flatMap_append, hTi]
        simp)
      have hl1 : ((T.take (i + 1)).flatMap (SynP.wrapT [8, 9])).length ≤ 1000000 := Nat.le_trans (SynP.flat_take_len _ _ _) HLen.out
      have hxs : (SynP.shN x).length ≤ 1000000000 := by
        have h1 := SynP.wrapT_len [8, 9] (x.kind, SynP.shN x)
        rw [HTi.out, List.length_append] at hl1
        simp only at h1
        omega
      have HX : Hid (((T.take i).flatMap (SynP.wrapT [8, 9])).length + (str (SynP.wrapT [8, 9] (x.kind, SynP.shN x))).size ≤ 140737488355328) := Lib.hid (by
        rw [HTi.out, List.length_append] at hl1
        rw [str_size_]
        omega)
      have HXs := Lib.hid hxs
      obtain ⟨out, ho⟩ : ∃ out, (T.take i).flatMap (SynP.wrapT [8, 9]) = out := ⟨_, rfl⟩
      rw [ho] at HS HTi HX
      obtain ⟨a0, a1, a2, a3, a4, a5, a6, a7, a8, a9, aa, ab, ac⟩ := z1
      simp only at hkd
      have HKd := Lib.hid hkd
      simp only [RawN.cells] at HC
      have m0 : wr.cell? ⟨b, off + i * 9, none⟩ = some (.int .i64 a0) := y1 0 (by decide)
      have m1 : wr.cell? ⟨b, off + i * 9 + 1, none⟩ = some (.slice a1 a2 a3) := y1 1 (by decide)
      have m2 : wr.cell? ⟨b, off + i * 9 + 2, none⟩ = some (.bool a4) := y1 2 (by decide)
      have m3 : wr.cell? ⟨b, off + i * 9 + 3, none⟩ = some (.int .i64 a5) := y1 3 (by decide)
      have m4 : wr.cell? ⟨b, off + i * 9 + 4, none⟩ = some (.int .i64 a6) := y1 4 (by decide)
      have m5 : wr.cell? ⟨b, off + i * 9 + 5, none⟩ = some (.bool a7) := y1 5 (by decide)
      have m6 : wr.cell? ⟨b, off + i * 9 + 6, none⟩ = some (.int .i64 a8) := y1 6 (by decide)
      have m7 : wr.cell? ⟨b, off + i * 9 + 7, none⟩ = some (.string a9) := y1 7 (by decide)
      have m8 : wr.cell? ⟨b, off + i * 9 + 8, none⟩ = some (.slice aa ab ac) := y1 8 (by decide)
      clear y1 hx k1 hkd hxm hl1 hxs ho hTi hiT
      go_wp2_with (first
        | (refine wpList_store_newN rfl 29 (.tmp 5) (.tmp 45) rfl _ #[.int .i64 a0, .slice a1 a2 a3, .bool a4, .int .i64 a5, .int .i64 a6, .bool a7, .int .i64 a8, .string a9, .slice aa ab ac] rfl rfl 29 sizeN rfl (cellsN_one ⟨a0, a1, a2, a3, a4, a5, a6, a7, a8, a9, aa, ab, ac⟩) ?_)
        | (go_at_call 48; refine (within_any (SynP.shN x) x.kind ⟨a0, a1, a2, a3, a4, a5, a6, a7, a8, a9, aa, ab, ac⟩ HKd.out [8, 9] 2 _ _ rfl (by decide) ?hg HXs.out ?HS).mono ?_; (case hg => exact heap_two wr _ _); (case HS => exact Lib.hid fun w' hb => HC.out w' ((below_two wr _ _).trans (hb.mono (below_two wr _ _).size))); rintro e w4 ⟨rfl, hb4⟩; have HS4 := Lib.hid (HS.out.below ((below_two wr _ _).trans (hb4.mono (below_two wr _ _).size))); clear hb4)
        | (go_at_call 43; refine (writeString_any _ HS4.out.bld HX.out HS4.out.lt).mono ?_; rintro e w5 ⟨rfl, hbl, hkp⟩; have HS5 := Lib.hid (HS4.out.wrote hkp hbl); clear hbl hkp))
      exact ⟨⟨i + 1, by omega, by simp, by rw [HTi.out]; exact HS5⟩, by simp only [intOf]; omega⟩
    · obtain rfl : i = rb := by omega
      have hii : ¬ (i : Int) < (i : Int) := by omega
      have hT : T.take i = T := List.take_of_length_le (by rw [HTl.out]; exact Nat.le_refl _)
      rw [hT] at HS
      clear hT
      go_wp2_with (go_at_call 44; refine (string_any HS.out.bld zN).mono ?_; rintro e w5 ⟨rfl, hbl, hkp⟩; have HB5 := Lib.hid (HS.out.bel.trans (hkp.1.mono (Nat.le_succ _))); clear hbl hkp)
      go_ret
      exact ⟨rfl, by rw [HNe.out]; exact HB5.out⟩

end Go.Proofs.YtblkejnckbeieaaGreatDoor
