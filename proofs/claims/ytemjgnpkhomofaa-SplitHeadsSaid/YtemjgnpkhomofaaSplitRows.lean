/- The walk of utfsplit's rows. -/
import Derived.Test.YtemjgnpkhomofaaSplitMem
import Derived.Test.YtemjgnpkhomofaaSplitCut
import Derived.Deep.CutBlock
namespace Go.Proofs.Ytemjgnpkhomofaa
open Go.RowKit SetPure UtfPure

/-- The end of a call of rows. -/
def RowsEnd (a b : Int) (w0 w : World) (ss : List Sl) (e : Ending) (w' : World) : Prop :=
  ∃ v' ss', e = .returned v' ∧ Own Eslice 40 w0 w' v' (ss ++ ss') ∧ RowsAt w' ss' ((pieces a b).map fun r => rowOf r.1 r.2) ∧ KeepT 39 w w'
def RowsC (a b : Int) : Prop := ∀ (w0 w : World) (v : Value) (ss : List Sl), Own Eslice 40 w0 w v ss → ss.length + (pieces a b).length ≤ 100000000 →
  Calls Try.prog 30 #[v, .agg #[.int .i64 a, .int .i64 b]] w (RowsEnd a b w0 w ss)

theorem rows_join {a b m : Int} {w0 w w1 w2 : World} {ss ss1 ss2 : List Sl} {v2 : Value} (h0 : 0 ≤ a) (hab : a ≤ b) (hc : cutAt a b levels = some m) (hr1 : RowsAt w1 ss1 ((pieces a m).map fun r => rowOf r.1 r.2)) (hk1 : KeepT 39 w w1)
    (ho2 : Own Eslice 40 w0 w2 v2 (ss ++ ss1 ++ ss2)) (hr2 : RowsAt w2 ss2 ((pieces (m + 1) b).map fun r => rowOf r.1 r.2)) (hk2 : KeepT 39 w1 w2) : RowsEnd a b w0 w ss (.returned v2) w2 := by
  refine ⟨v2, ss1 ++ ss2, rfl, by rw [← List.append_assoc]; exact ho2, ?_, hk1.trans hk2⟩
  rw [pieces_some h0 hab hc, List.map_append]
  exact (hr1.keep hk2).append hr2
theorem pieces_len_cut {a b m : Int} (h0 : 0 ≤ a) (hab : a ≤ b) (hc : cutAt a b levels = some m) : (pieces a b).length = (pieces a m).length + (pieces (m + 1) b).length := by
  rw [pieces_some h0 hab hc, List.length_append]

theorem box_cells {w : World} {g : Nat} {a b : Int} {fr : Nat × Nat} (h : w.heap[g]? = some (.cells #[.int .i64 a, .int .i64 b] 39 fr)) : w.cell? ⟨g, 0, none⟩ = some (.int .i64 a) ∧ w.cell? ⟨g, 1, none⟩ = some (.int .i64 b) :=
  ⟨by rw [cell_of_row _ _ _ _ _ fr h]; rfl, by rw [cell_of_row _ _ _ _ _ fr h]; rfl⟩

theorem enc_bd {r : Int} (h0 : 0 ≤ r) (h1 : r ≤ 1114111) : ∀ x ∈ encU r, 0 ≤ x ∧ x ≤ 255 := by
  unfold encU
  repeat' split
  all_goals
    intro x hx
    simp only [List.mem_cons, List.not_mem_nil, or_false] at hx
    omega
theorem enc_at_bd {r : Int} (h0 : 0 ≤ r) (h1 : r ≤ 1114111) (k : Nat) : 0 ≤ (encU r).getD k 0 ∧ (encU r).getD k 0 ≤ 255 := by
  rw [List.getD_eq_getElem?_getD]
  rcases Nat.lt_or_ge k (encU r).length with hk | hk
  · rw [List.getElem?_eq_getElem hk]
    exact enc_bd h0 h1 _ (List.getElem_mem hk)
  · rw [List.getElem?_eq_none hk]
    exact ⟨Int.le_refl _, by decide⟩
theorem enc_len {a b : Int} (h0 : 0 ≤ a) (h1 : 0 ≤ b) (hk : klass a = klass b) (hn : klass a ≠ 0) : (encU a).length = (encU b).length := by
  have := klass_le a
  have h : klass a = 1 ∨ klass a = 2 ∨ (klass a = 3 ∨ klass a = 4) ∨ klass a = 5 := by omega
  rcases h with h | h | h | h
  · rw [(enc1 h h0).1, (enc1 (hk ▸ h) h1).1]; rfl
  · rw [(enc2 h).1, (enc2 (hk ▸ h)).1]; rfl
  · rw [(enc3 h).1, (enc3 (hk ▸ h)).1]; rfl
  · rw [(enc5 h).1, (enc5 (hk ▸ h)).1]; rfl
theorem enc_pos (r : Int) : 0 < (encU r).length ∧ (encU r).length ≤ 4 := by
  unfold encU
  repeat' split
  all_goals simp
theorem strU_size (r : Int) : (strU r).size = (encU r).length := strOfNums_size _
theorem strU_at {r : Int} (h0 : 0 ≤ r) (h1 : r ≤ 1114111) {k : Nat} (hk : k < (strU r).size) : (((strU r)[k]'hk).toNat : Int) = (encU r).getD k 0 := by
  have hk' : k < (encU r).length := by rw [← strU_size]; exact hk
  have hm := enc_bd h0 h1 _ (List.getElem_mem hk')
  have e : (strU r)[k]'hk = UInt8.ofNat ((encU r)[k]).toNat := by
    show (strOfNums (encU r)).data[k]'_ = _
    simp [strOfNums]
  rw [e, List.getD_eq_getElem?_getD, List.getElem?_eq_getElem hk']
  simp only [Option.getD_some, UInt8.toNat_ofNat']
  omega
theorem rowOf_at {a b : Int} (hl : (encU a).length = (encU b).length) {k : Nat} (hk : k < (encU a).length) : (rowOf a b).getD k (0, 0) = ((encU a).getD k 0, (encU b).getD k 0) := by
  unfold rowOf
  have hk2 : k < (encU b).length := by omega
  have hz : k < ((encU a).zip (encU b)).length := by rw [List.length_zip]; omega
  rw [List.getD_eq_getElem?_getD, List.getElem?_eq_getElem hz, List.getElem_zip, List.getD_eq_getElem?_getD, List.getElem?_eq_getElem hk, List.getD_eq_getElem?_getD, List.getElem?_eq_getElem hk2]
  rfl
theorem rowOf_len {a b : Int} (hl : (encU a).length = (encU b).length) : (rowOf a b).length = (encU a).length := by
  unfold rowOf; rw [List.length_zip]; omega
theorem step_append_seqR {P : Program} (w : World) {α : Type} {E : Enc α} {w0 : World} {e : TypeId} {v : Value} {l l' : List α} {B : Nat} {A : Option Addr} {c : Nat}
    {ops : Array Oper} {o : Oper} {a : Act} {K : Act → World → Prop} {Q : Exit → Act → World → Prop} {F : Prop} (hgd : o.guard = none) (s x : Operand) (t : TypeId)
    (ho : o.op = .call { callee := .builtin .append, args := #[s, x], argTypes := #[t, t] }) (bytes : Nat) (he : ElemOf P t e E.k bytes)
    (hs : a.eval s = v) (hown : Own E e w0 w v l) (m : Nat) (hx : a.eval x = .slice A m c) (hr : SeqAt E w B A l') (hm : l'.length = m)
    (h63 : l.length + m ≤ maxLen) (hbytes : (l.length + m) * bytes ≤ 140737488355328)
    (h : ∀ v' w', Own E e w0 w' v' (l ++ l') → w.grownBy w' v.ownBlock → K (a.put o.dst v') w') :
    if Region.wanted o (yielded ops a.tmps) = true then Oper.wp P o a w K Q else F := by
  have hw : Region.wanted o (yielded ops a.tmps) = true := by simp [Region.wanted, hgd]
  rw [if_pos hw]
  exact wp_append_seq w s x t ho bytes he hs hown m hx hr hm h63 hbytes h

set_option maxHeartbeats 4000000 in
set_option maxRecDepth 100000 in
theorem rows_step (a b : Int) (h0 : 128 ≤ a) (hab : a ≤ b) (h1 : b ≤ 1114111) (hsa : isScalar a = true) (hsb : isScalar b = true) (hkl : klass a = klass b) (hkn : klass a ≠ 0)
    (ih : ∀ a' b', a ≤ a' → a' ≤ b' → b' ≤ b → b' - a' < b - a → RowsC a' b') : RowsC a b := by
  intro w0 w v ss hown hlen
  have HIH := Lib.hid ih
  have hbx := heap_alloc_new w (.cells #[.int .i64 a, .int .i64 b] 39)
  have hownb := hown.alloc (.cells #[.int .i64 a, .int .i64 b] 39)
  have hkb : KeepT 39 w (w.alloc (.cells #[.int .i64 a, .int .i64 b] 39)) := KeepT.of_below ((Below.refl _ w).alloc (Nat.le_refl _) _)
  have HB := Lib.hid hbx
  have HOB := Lib.hid hownb
  have HKB := Lib.hid hkb
  clear ih hown hbx hownb hkb
  go_enter Try.func30, Try.ntmps30
  go_upto_block 0 with (fail)
  go_cut [0] (fun s0 wx => v = s0 ∧ Hid (cutAt a b levels = none) ∧ ∃ n, wx = (w.alloc (.cells #[.int .i64 a, .int .i64 b] 39)).drewN n)
  case first =>
    go_wp2
    go_loopw [0, 5, 6] (fun s0 ib _ wx => ∃ n, v = s0 ∧ ((ib = .int .i64 6 ∧ True) ∨ (ib = .int .i64 12 ∧ a % 64 = 0 ∧ b % 64 = 63) ∨ (ib = .int .i64 18 ∧ a % 4096 = 0 ∧ b % 4096 = 4095) ∨ (ib = .int .i64 24 ∧ a % 262144 = 0 ∧ b % 262144 = 262143)) ∧ wx = (w.alloc (.cells #[.int .i64 a, .int .i64 b] 39)).drewN n)
      (fun _ ib _ _ => 30 - (intOf ib).toNat)
    case atStart => exact ⟨0, rfl, .inl ⟨rfl, trivial⟩, rfl⟩
    case round =>
    obtain ⟨n, rfl, hb, rfl⟩ := hrel
    obtain ⟨c0, c1⟩ := box_cells HB.out
    have d0 : ((w.alloc (.cells #[.int .i64 a, .int .i64 b] 39)).drewN n).cell? ⟨w.heap.size, 0, none⟩ = some (.int .i64 a) := c0
    have d1 : ((w.alloc (.cells #[.int .i64 a, .int .i64 b] 39)).drewN n).cell? ⟨w.heap.size, 1, none⟩ = some (.int .i64 b) := c1
    rcases hb with ⟨rfl, hp⟩ | ⟨rfl, hp⟩ | ⟨rfl, hp⟩ | ⟨rfl, hp⟩
    · -- the power 64
      have e1 := and63 a (by omega) (by omega)
      have e2 := or63 a (by omega) (by omega)
      have e3 := and63 b (by omega) (by omega)
      have e4 := andNot63 b (by omega) (by omega)
      by_cases hd : a / 64 = b / 64
      · have hdb : (a / 64 == b / 64) = true := by simpa using hd
        have HNO := Lib.hid (cut_none64 hd)
        clear hd
        go_wp2
        go_quiet (fail)
        go_wp2
        go_meet
        exact ⟨rfl, HNO, n + nq, by simp⟩
      · have hdb : (a / 64 == b / 64) = false := by simpa using hd
        by_cases hm : a % 64 = 0
        · have hmb : (a % 64 != 0) = false := by simpa using hm
          by_cases hn : b % 64 = 63
          · have hnb : (b % 64 != 63) = false := by simpa using hn
            have HPA := Lib.hid hm
            have HPB := Lib.hid hn
            clear hm hn hd
            go_wp2
            go_quiet (fail)
            go_wp2
            go_roundw
            case rel => exact ⟨n + nq, rfl, .inr (.inl ⟨rfl, HPA.out, HPB.out⟩), by simp⟩
            case measure => simp [intOf]
          · have hnb : (b % 64 != 63) = true := by simpa using hn
            have hcut := cs64t hd hm hn
            have HC := Lib.hid hcut
            have hs := cut_lt64 (by omega) hab hcut
            have HL := Lib.hid (pieces_len_cut (by omega) hab hcut)
            have I1 := Lib.hid (HIH.out a (b / 64 * 64 - 1) (by omega) hs.1 (by omega) (by omega))
            have I2 := Lib.hid (HIH.out (b / 64 * 64 - 1 + 1) b (by omega) (by omega) (by omega) (by omega))
            rw [show b / 64 * 64 - 1 + 1 = b / 64 * 64 by omega] at I2
            have HM1 : Hid True := trivial
            clear hm hn hd hcut
            go_wp2
            go_quiet (fail)
            go_wp2_with (first
              | (go_at_call 30; clear HM1; refine (I1.out w0 _ v ss (HOB.out.below (below_drewN (Below.refl _ _) _)) (by have := HL.out; omega)).mono ?_; rintro e w1 ⟨v1, ss1, rfl, ho1, hr1, hk1⟩; have HK1 := Lib.hid ((HKB.out.trans (KeepT.of_below (below_drewN (Below.refl _ _) _))).trans hk1); have hb1 := hk1 _ _ _ HB.out; obtain ⟨d0, d1⟩ := box_cells hb1; have HR1 := Lib.hid hr1; have HS1 := Lib.hid (show (ss ++ ss1).length = ss.length + (pieces a (b / 64 * 64 - 1)).length by rw [List.length_append, hr1.1, List.length_map]); clear hr1 hk1 hb1)
              | (go_at_call 30; refine (I2.out w0 _ v1 (ss ++ ss1) ho1 (by have := HL.out; have := HS1.out; rw [show b / 64 * 64 - 1 + 1 = b / 64 * 64 by omega] at *; omega)).mono ?_; rintro e w2 ⟨v2, ss2, rfl, ho2, hr2, hk2⟩))
            go_ret
            refine rows_join (by omega) hab HC.out HR1.out HK1.out ho2 ?_ hk2
            rw [show b / 64 * 64 - 1 + 1 = b / 64 * 64 by omega]
            exact hr2
        · have hmb : (a % 64 != 0) = true := by simpa using hm
          have hcut := cs64h hd hm
          have HC := Lib.hid hcut
          have hs := cut_lt64 (by omega) hab hcut
          have HL := Lib.hid (pieces_len_cut (by omega) hab hcut)
          have I1 := Lib.hid (HIH.out a (a / 64 * 64 + 63) (by omega) hs.1 (by omega) (by omega))
          have I2 := Lib.hid (HIH.out (a / 64 * 64 + 63 + 1) b (by omega) (by omega) (by omega) (by omega))
          have HM1 : Hid True := trivial
          clear hm hd hcut
          go_wp2
          go_quiet (fail)
          go_wp2_with (first
            | (go_at_call 30; clear HM1; refine (I1.out w0 _ v ss (HOB.out.below (below_drewN (Below.refl _ _) _)) (by have := HL.out; omega)).mono ?_; rintro e w1 ⟨v1, ss1, rfl, ho1, hr1, hk1⟩; have HK1 := Lib.hid ((HKB.out.trans (KeepT.of_below (below_drewN (Below.refl _ _) _))).trans hk1); have hb1 := hk1 _ _ _ HB.out; obtain ⟨d0, d1⟩ := box_cells hb1; have HR1 := Lib.hid hr1; have HS1 := Lib.hid (show (ss ++ ss1).length = ss.length + (pieces a (a / 64 * 64 + 63)).length by rw [List.length_append, hr1.1, List.length_map]); clear hr1 hk1 hb1)
            | (go_at_call 30; refine (I2.out w0 _ v1 (ss ++ ss1) ho1 (by have := HL.out; have := HS1.out; omega)).mono ?_; rintro e w2 ⟨v2, ss2, rfl, ho2, hr2, hk2⟩))
          go_ret
          exact rows_join (by omega) hab HC.out HR1.out HK1.out ho2 hr2 hk2
    · -- the power 4096
      obtain ⟨q1, q2⟩ := hp
      have e1 := and4095 a (by omega) (by omega)
      have e2 := or4095 a (by omega) (by omega)
      have e3 := and4095 b (by omega) (by omega)
      have e4 := andNot4095 b (by omega) (by omega)
      by_cases hd : a / 4096 = b / 4096
      · have hdb : (a / 4096 == b / 4096) = true := by simpa using hd
        have HNO := Lib.hid (cut_none4096 q1 q2 hd)
        clear hd
        go_wp2
        go_quiet (fail)
        go_wp2
        go_meet
        exact ⟨rfl, HNO, n + nq, by simp⟩
      · have hdb : (a / 4096 == b / 4096) = false := by simpa using hd
        by_cases hm : a % 4096 = 0
        · have hmb : (a % 4096 != 0) = false := by simpa using hm
          by_cases hn : b % 4096 = 4095
          · have hnb : (b % 4096 != 4095) = false := by simpa using hn
            have HPA := Lib.hid hm
            have HPB := Lib.hid hn
            clear hm hn hd
            go_wp2
            go_quiet (fail)
            go_wp2
            go_roundw
            case rel => exact ⟨n + nq, rfl, .inr (.inr (.inl ⟨rfl, HPA.out, HPB.out⟩)), by simp⟩
            case measure => simp [intOf]
          · have hnb : (b % 4096 != 4095) = true := by simpa using hn
            have hcut := cs4096t q1 q2 hd hm hn
            have HC := Lib.hid hcut
            have hs := cut_lt64 (by omega) hab hcut
            have HL := Lib.hid (pieces_len_cut (by omega) hab hcut)
            have I1 := Lib.hid (HIH.out a (b / 4096 * 4096 - 1) (by omega) hs.1 (by omega) (by omega))
            have I2 := Lib.hid (HIH.out (b / 4096 * 4096 - 1 + 1) b (by omega) (by omega) (by omega) (by omega))
            rw [show b / 4096 * 4096 - 1 + 1 = b / 4096 * 4096 by omega] at I2
            have HM1 : Hid True := trivial
            clear hm hn hd hcut
            go_wp2
            go_quiet (fail)
            go_wp2_with (first
              | (go_at_call 30; clear HM1; refine (I1.out w0 _ v ss (HOB.out.below (below_drewN (Below.refl _ _) _)) (by have := HL.out; omega)).mono ?_; rintro e w1 ⟨v1, ss1, rfl, ho1, hr1, hk1⟩; have HK1 := Lib.hid ((HKB.out.trans (KeepT.of_below (below_drewN (Below.refl _ _) _))).trans hk1); have hb1 := hk1 _ _ _ HB.out; obtain ⟨d0, d1⟩ := box_cells hb1; have HR1 := Lib.hid hr1; have HS1 := Lib.hid (show (ss ++ ss1).length = ss.length + (pieces a (b / 4096 * 4096 - 1)).length by rw [List.length_append, hr1.1, List.length_map]); clear hr1 hk1 hb1)
              | (go_at_call 30; refine (I2.out w0 _ v1 (ss ++ ss1) ho1 (by have := HL.out; have := HS1.out; rw [show b / 4096 * 4096 - 1 + 1 = b / 4096 * 4096 by omega] at *; omega)).mono ?_; rintro e w2 ⟨v2, ss2, rfl, ho2, hr2, hk2⟩))
            go_ret
            refine rows_join (by omega) hab HC.out HR1.out HK1.out ho2 ?_ hk2
            rw [show b / 4096 * 4096 - 1 + 1 = b / 4096 * 4096 by omega]
            exact hr2
        · have hmb : (a % 4096 != 0) = true := by simpa using hm
          have hcut := cs4096h q1 q2 hd hm
          have HC := Lib.hid hcut
          have hs := cut_lt64 (by omega) hab hcut
          have HL := Lib.hid (pieces_len_cut (by omega) hab hcut)
          have I1 := Lib.hid (HIH.out a (a / 4096 * 4096 + 4095) (by omega) hs.1 (by omega) (by omega))
          have I2 := Lib.hid (HIH.out (a / 4096 * 4096 + 4095 + 1) b (by omega) (by omega) (by omega) (by omega))
          have HM1 : Hid True := trivial
          clear hm hd hcut
          go_wp2
          go_quiet (fail)
          go_wp2_with (first
            | (go_at_call 30; clear HM1; refine (I1.out w0 _ v ss (HOB.out.below (below_drewN (Below.refl _ _) _)) (by have := HL.out; omega)).mono ?_; rintro e w1 ⟨v1, ss1, rfl, ho1, hr1, hk1⟩; have HK1 := Lib.hid ((HKB.out.trans (KeepT.of_below (below_drewN (Below.refl _ _) _))).trans hk1); have hb1 := hk1 _ _ _ HB.out; obtain ⟨d0, d1⟩ := box_cells hb1; have HR1 := Lib.hid hr1; have HS1 := Lib.hid (show (ss ++ ss1).length = ss.length + (pieces a (a / 4096 * 4096 + 4095)).length by rw [List.length_append, hr1.1, List.length_map]); clear hr1 hk1 hb1)
            | (go_at_call 30; refine (I2.out w0 _ v1 (ss ++ ss1) ho1 (by have := HL.out; have := HS1.out; omega)).mono ?_; rintro e w2 ⟨v2, ss2, rfl, ho2, hr2, hk2⟩))
          go_ret
          exact rows_join (by omega) hab HC.out HR1.out HK1.out ho2 hr2 hk2
    · -- the power 262144
      obtain ⟨q1, q2⟩ := hp
      have e1 := and262143 a (by omega) (by omega)
      have e2 := or262143 a (by omega) (by omega)
      have e3 := and262143 b (by omega) (by omega)
      have e4 := andNot262143 b (by omega) (by omega)
      by_cases hd : a / 262144 = b / 262144
      · have hdb : (a / 262144 == b / 262144) = true := by simpa using hd
        have HNO := Lib.hid (cut_none262144 q1 q2 hd)
        clear hd
        go_wp2
        go_quiet (fail)
        go_wp2
        go_meet
        exact ⟨rfl, HNO, n + nq, by simp⟩
      · have hdb : (a / 262144 == b / 262144) = false := by simpa using hd
        by_cases hm : a % 262144 = 0
        · have hmb : (a % 262144 != 0) = false := by simpa using hm
          by_cases hn : b % 262144 = 262143
          · have hnb : (b % 262144 != 262143) = false := by simpa using hn
            have HPA := Lib.hid hm
            have HPB := Lib.hid hn
            clear hm hn hd
            go_wp2
            go_quiet (fail)
            go_wp2
            go_roundw
            case rel => exact ⟨n + nq, rfl, .inr (.inr (.inr ⟨rfl, HPA.out, HPB.out⟩)), by simp⟩
            case measure => simp [intOf]
          · have hnb : (b % 262144 != 262143) = true := by simpa using hn
            have hcut := cs262144t q1 q2 hd hm hn
            have HC := Lib.hid hcut
            have hs := cut_lt64 (by omega) hab hcut
            have HL := Lib.hid (pieces_len_cut (by omega) hab hcut)
            have I1 := Lib.hid (HIH.out a (b / 262144 * 262144 - 1) (by omega) hs.1 (by omega) (by omega))
            have I2 := Lib.hid (HIH.out (b / 262144 * 262144 - 1 + 1) b (by omega) (by omega) (by omega) (by omega))
            rw [show b / 262144 * 262144 - 1 + 1 = b / 262144 * 262144 by omega] at I2
            have HM1 : Hid True := trivial
            clear hm hn hd hcut
            go_wp2
            go_quiet (fail)
            go_wp2_with (first
              | (go_at_call 30; clear HM1; refine (I1.out w0 _ v ss (HOB.out.below (below_drewN (Below.refl _ _) _)) (by have := HL.out; omega)).mono ?_; rintro e w1 ⟨v1, ss1, rfl, ho1, hr1, hk1⟩; have HK1 := Lib.hid ((HKB.out.trans (KeepT.of_below (below_drewN (Below.refl _ _) _))).trans hk1); have hb1 := hk1 _ _ _ HB.out; obtain ⟨d0, d1⟩ := box_cells hb1; have HR1 := Lib.hid hr1; have HS1 := Lib.hid (show (ss ++ ss1).length = ss.length + (pieces a (b / 262144 * 262144 - 1)).length by rw [List.length_append, hr1.1, List.length_map]); clear hr1 hk1 hb1)
              | (go_at_call 30; refine (I2.out w0 _ v1 (ss ++ ss1) ho1 (by have := HL.out; have := HS1.out; rw [show b / 262144 * 262144 - 1 + 1 = b / 262144 * 262144 by omega] at *; omega)).mono ?_; rintro e w2 ⟨v2, ss2, rfl, ho2, hr2, hk2⟩))
            go_ret
            refine rows_join (by omega) hab HC.out HR1.out HK1.out ho2 ?_ hk2
            rw [show b / 262144 * 262144 - 1 + 1 = b / 262144 * 262144 by omega]
            exact hr2
        · have hmb : (a % 262144 != 0) = true := by simpa using hm
          have hcut := cs262144h q1 q2 hd hm
          have HC := Lib.hid hcut
          have hs := cut_lt64 (by omega) hab hcut
          have HL := Lib.hid (pieces_len_cut (by omega) hab hcut)
          have I1 := Lib.hid (HIH.out a (a / 262144 * 262144 + 262143) (by omega) hs.1 (by omega) (by omega))
          have I2 := Lib.hid (HIH.out (a / 262144 * 262144 + 262143 + 1) b (by omega) (by omega) (by omega) (by omega))
          have HM1 : Hid True := trivial
          clear hm hd hcut
          go_wp2
          go_quiet (fail)
          go_wp2_with (first
            | (go_at_call 30; clear HM1; refine (I1.out w0 _ v ss (HOB.out.below (below_drewN (Below.refl _ _) _)) (by have := HL.out; omega)).mono ?_; rintro e w1 ⟨v1, ss1, rfl, ho1, hr1, hk1⟩; have HK1 := Lib.hid ((HKB.out.trans (KeepT.of_below (below_drewN (Below.refl _ _) _))).trans hk1); have hb1 := hk1 _ _ _ HB.out; obtain ⟨d0, d1⟩ := box_cells hb1; have HR1 := Lib.hid hr1; have HS1 := Lib.hid (show (ss ++ ss1).length = ss.length + (pieces a (a / 262144 * 262144 + 262143)).length by rw [List.length_append, hr1.1, List.length_map]); clear hr1 hk1 hb1)
            | (go_at_call 30; refine (I2.out w0 _ v1 (ss ++ ss1) ho1 (by have := HL.out; have := HS1.out; omega)).mono ?_; rintro e w2 ⟨v2, ss2, rfl, ho2, hr2, hk2⟩))
          go_ret
          exact rows_join (by omega) hab HC.out HR1.out HK1.out ho2 hr2 hk2
    · obtain ⟨q1, q2⟩ := hp
      have HNO := Lib.hid (cut_noneEnd q1 q2)
      clear q1 q2
      go_wp2
      go_meet
      exact ⟨rfl, HNO, _, rfl⟩
  case rest =>
    obtain ⟨rfl, hnone, n, rfl⟩ := hcut
    have HPC := Lib.hid (pieces_none hnone.out)
    have HO := Lib.hid (HOB.out.below (below_drewN (Below.refl _ _) n))
    have HK := Lib.hid (HKB.out.trans (KeepT.of_below (below_drewN (Below.refl _ _) n)))
    have hbn : ((w.alloc (.cells #[.int .i64 a, .int .i64 b] 39)).drewN n).heap[w.heap.size]? = some (.cells #[.int .i64 a, .int .i64 b] 39 (0, 0)) := HB.out
    have hl := enc_len (by omega) (by omega) hkl hkn
    have HSA := Lib.hid (fun k (hk : k < (strU a).size) => strU_at (by omega) (by omega) hk)
    have HSB := Lib.hid (fun k (hk : k < (strU b).size) => strU_at (by omega) h1 hk)
    have hsz1 := strU_size a
    have hsz2 := strU_size b
    have HRA := Lib.hid (fun k (hk : k < (encU a).length) => rowOf_at hl hk)
    have HRL := Lib.hid (rowOf_len hl)
    have hpos := enc_pos a
    rw [← hl] at hsz2
    have HPL := Lib.hid (show (pieces a b).length = 1 by rw [HPC.out]; rfl)
    generalize (w.alloc (.cells #[.int .i64 a, .int .i64 b] 39)).drewN n = wn at *
    obtain ⟨c0, c1⟩ := box_cells hbn
    have hwlt : w.heap.size < wn.heap.size := (Array.getElem?_eq_some_iff.1 hbn).1
    have HE1 := Lib.hid (fun (wx : World) (g : Nat) hg hc => encode_any g a wx hg hc hsa)
    have HE2 := Lib.hid (fun (wx : World) (g : Nat) hg hc => encode_any g b wx hg hc hsb)
    have HM1 : Hid True := trivial
    generalize strU a = sa at *
    generalize strU b = sb at *
    clear hbn hnone HB HOB HKB
    have HZ1 := Lib.hid hsz1
    have HZ2 := Lib.hid hsz2
    obtain ⟨L, hL⟩ : ∃ L, (encU a).length = L := ⟨_, rfl⟩
    rw [hL] at hsz1 hsz2 hpos HRA HRL
    clear hL hl
    go_wp2_with (first
      | (go_at_call 36; clear HM1; refine (HE1.out _ _ (by simp) (by go_simp)).mono ?_; rintro e w1 ⟨rfl, hb1⟩; have d1 := (hb1.cell (p := ⟨w.heap.size, 1, none⟩) (by simp; omega)).trans (show _ = some (Value.int .i64 b) by go_simp))
      | (go_at_call 36; refine (HE2.out _ _ (by simp) (by go_simp)).mono ?_; rintro e w2 ⟨rfl, hb2⟩))
    have hb12 : Below wn.heap.size wn w2 := (((Below.refl _ wn).alloc (Nat.le_refl _) _).trans (hb1.mono (by simp))).trans ((((Below.refl _ w1).alloc (Nat.le_refl _) _).trans (hb2.mono (by simp))).mono (by have := hb1.size; simp at this; omega))
    have HO2 := Lib.hid (HO.out.below hb12)
    have HK2 := Lib.hid (HK.out.trans (KeepT.of_below hb12))
    go_loopw [11, 12, 94] (fun vw _ ix wr => ∃ k : Nat, k ≤ L ∧ ix = .int .i64 k ∧ Own Epair 39 w2 wr vw ((rowOf a b).take k)) (fun _ _ ix _ => L + 1 - (intOf ix).toNat)
    case atStart => exact ⟨0, by omega, rfl, Own.nil_ _⟩
    case round =>
      obtain ⟨k, hk, rfl, hown⟩ := hrel
      have hz := hown.size
      by_cases hlt : k < L
      · have hka : k < sa.size := by omega
        have hkb : k < sb.size := by omega
        have xa := HSA.out k hka
        have xb := HSB.out k hkb
        have HS := Lib.hid (take_next' (l := rowOf a b) (by rw [HRL.out]; exact hlt) (HRA.out k hlt))
        have hlk : ((rowOf a b).take k).length = k := by rw [List.length_take, HRL.out]; omega
        have bx := enc_at_bd (r := a) (by omega) (by omega) k
        have bY := enc_at_bd (r := b) (by omega) h1 k
        generalize (encU a).getD k 0 = x at *
        generalize (encU b).getD k 0 = y at *
        have hki : (k : Int) < (sa.size : Int) := by omega
        have hkj : (k : Int) < (sb.size : Int) := by omega
        obtain ⟨bx1, bx2⟩ := bx
        obtain ⟨by1, by2⟩ := bY
        go_upto_region 19 with (fail)
        have t1 : IntKind.i64.wrap x = x := IntWalk.i64_in _ (by omega)
        have t2 : IntKind.i64.wrap y = y := IntWalk.i64_in _ (by omega)
        go_region_held3 (fun _ => True) (exact trivial)
          ((refine step_append_seqR _ (by rfl) (.tmp 97) (.tmp 107) 40 (by rfl) 16 elRow (by rfl) ((hown.alloc _).drew) 1 (by rfl) (SeqAt.new (E := Epair) wr [(x, y)] 39).drew (by rfl) (by simp only [maxLen]; omega) (by omega) ?_; intro v1 w3 hown1 hgrow))
        all_goals
          clear t1 t2
          go_wp2
          exact ⟨⟨k + 1, by omega, by go_num, by rw [HS.out]; exact hown1⟩, by simp [intOf]; omega⟩
      · obtain rfl : k = L := by omega
        have hr : (rowOf a b).take k = rowOf a b := List.take_of_length_le (by rw [HRL.out]; omega)
        rw [hr] at hown
        have hne : rowOf a b ≠ [] := fun h => by have := HRL.out; rw [h] at this; simp at this; omega
        obtain ⟨s, rfl, hs⟩ := RowAt.of_own hown hne
        have hO := HO2.out.below hown.2
        have HK3 := Lib.hid (HK2.out.trans (KeepT.of_below hown.2))
        have HRW := Lib.hid hs
        have hnk : ¬ (k : Int) < (sa.size : Int) := by omega
        have HPL2 := HPL.out
        clear hr hne hs hown
        go_wp2_with (at_builtin; (refine wpList_append_seq _ rfl (.tmp 110) (.tmp 112) 29 rfl 24 elRows rfl (hO.alloc _) 1 rfl (SeqAt.new (E := Eslice) _ [s] 40) rfl (by simp only [maxLen]; omega) (by omega) ?_); intro v4 w4 ho4 hg4; have HK4 := Lib.hid ((KeepT.of_below ((Below.refl _ _).alloc (Nat.le_refl _) _)).trans (KeepT.of_grown (T := 39) (hO.alloc _) (by decide) hg4)))
        go_ret
        refine ⟨v4, [s], rfl, ho4, ?_, HK3.out.trans HK4.out⟩
        rw [HPC.out]
        exact RowsAt.one (HRW.out.keep HK4.out)

/-- Every call of rows, at a range of one class. -/
theorem rows_any (n : Nat) : ∀ (a b : Int), (b - a).toNat ≤ n → 128 ≤ a → a ≤ b → b ≤ 1114111 → klass a = klass b → klass a ≠ 0 → RowsC a b := by
  have hsc : ∀ z : Int, 0 ≤ z → z ≤ 1114111 → klass z ≠ 0 → isScalar z = true := fun z h0 h1 hk => by
    unfold klass at hk
    unfold isScalar
    simp only [Bool.and_eq_true, Bool.or_eq_true, decide_eq_true_eq]
    repeat' split at hk
    all_goals omega
  induction n with
  | zero =>
    intro a b hn h0 hab h1 hk hk0
    refine rows_step a b h0 hab h1 (hsc a (by omega) (by omega) hk0) (hsc b (by omega) h1 (hk ▸ hk0)) hk hk0 fun a' b' h2 h3 h4 h5 => by omega
  | succ n ih =>
    intro a b hn h0 hab h1 hk hk0
    refine rows_step a b h0 hab h1 (hsc a (by omega) (by omega) hk0) (hsc b (by omega) h1 (hk ▸ hk0)) hk hk0 fun a' b' h2 h3 h4 h5 => ?_
    have ka := klass_between h2 (by omega) hk
    have kb := klass_between (show a ≤ b' by omega) h4 hk
    exact ih a' b' (by omega) (by omega) h3 (by omega) (ka.trans kb.symm) (by rw [ka]; exact hk0)

end Go.Proofs.Ytemjgnpkhomofaa
