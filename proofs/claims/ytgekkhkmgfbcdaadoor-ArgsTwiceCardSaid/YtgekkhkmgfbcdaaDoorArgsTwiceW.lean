/- Chapter 25: the walk of the law ArgsTwice. -/
import Derived.Test.YtgekkhkmgfbcdaaDoorArgsTwiceP
import Derived.Test.YtgekkhkmgfbcdaaDoorArgsShowsW
import Derived.Test.YtgekkhkmgfbcdaaDoorStepCall
import Derived.Test.YtgekkhkmgfbcdaaDoorArgsTwReg
import Derived.Deep.RegionLaw
import Derived.Deep.DeepCutAuto
import Derived.Deep.WholeRow
namespace Go.Proofs.YtgekkhkmgfbcdaaDoor
open Go.Shelf Go.RowKit

theorem mask_any (n : Int) : 0 ≤ bits BinOp.and IntKind.i64 n 1023 ∧ bits BinOp.and IntKind.i64 n 1023 ≤ 1023 := by
  have h : (BitVec.ofInt 64 n &&& BitVec.ofInt 64 1023).toNat ≤ 1023 := by
    rw [BitVec.toNat_and]
    exact Nat.le_trans Nat.and_le_right (by decide)
  show 0 ≤ IntKind.i64.wrap ((BitVec.ofInt 64 n &&& BitVec.ofInt 64 1023).toNat : Nat) ∧ IntKind.i64.wrap ((BitVec.ofInt 64 n &&& BitVec.ofInt 64 1023).toNat : Nat) ≤ 1023
  rw [IntKind.wrap_i64]
  omega

theorem neq_same {vs : List Value} (hT : Typed vs) (w : World) : (binOp .neq 39 (.agg (optC vs).toArray) (.agg (optC vs).toArray)).run Tryd.prog w = .ok (.bool false) w := by
  obtain ⟨n0, n1, n2, n3, n4, b0, b1, b2, b3, b4, b5, b6, b7, b8, b9, t0, t1, t2, rfl⟩ := hT.lit
  have h := eq_opt n0 n1 n2 n3 n4 b0 b1 b2 b3 b4 b5 b6 b7 b8 b9 t0 t1 w
  show (binOp .neq 39 (.agg #[.int .i64 n0, .int .i64 n1, .int .i64 n2, .int .i64 n3, .bool b0, .bool b1, .bool b2, .bool b3, .bool b4, .bool b5, .bool b6, .bool b7, .bool b8, .bool b9, .int .i64 n4, .string t0, .string t1]) (.agg #[.int .i64 n0, .int .i64 n1, .int .i64 n2, .int .i64 n3, .bool b0, .bool b1, .bool b2, .bool b3, .bool b4, .bool b5, .bool b6, .bool b7, .bool b8, .bool b9, .int .i64 n4, .string t0, .string t1])).run Tryd.prog w = _
  rw [run_neq_struct, h]
  rfl
/-- Parse of a text whose reading is known. -/
theorem parse_of (T : List UInt8) (P : List Value × Int × Int) (hT : T.length ≤ 1099511627776) (h : parseV T = P) (w : World) (hB : Base w) :
    Calls Tryd.prog 13 #[.string (bytesOf T)] w (RetParse P w) := by
  obtain ⟨vs', code, at_, _, hp, hP, _⟩ := parse_both (bytesOf T) (by rw [bytesOf_size]; exact hT)
  rw [bytesOf_list, h] at hp
  rw [hp]
  exact hP w hB (base_four hB)

theorem store_new1 {P : Program} (w : World) (z c : Array Value) (T : TypeId) (ob : Obj) (hz : z.size = c.size) (h1 : (c.all fun x => x.oneCell') = true) :
    (storeCells ⟨w.heap.size, 0, none⟩ c.toList 0).run P ((w.alloc (.cells z T)).alloc ob) = .ok () ((w.alloc (.cells c T)).alloc ob) := by
  have := run_storeCells_from (P := P) w.heap.size T c.toList 0 z ((w.alloc (.cells z T)).alloc ob) ((Below.heap_alloc _ _ _ (by simp)).trans (heap_alloc_new w _)) (by simp [hz]) (fun v hv => (Array.all_eq_true_iff_forall_mem.1 h1) v (by simpa using hv))
  rw [this]
  simp only [List.take_zero, List.nil_append, Array.toArray_toList, setRow_alloc2]
theorem store_new2 {P : Program} (w : World) (z c : Array Value) (T : TypeId) (ob : Obj) (hz : z.size = c.size) (h1 : (c.all fun x => x.oneCell') = true) :
    (storeCells ⟨w.heap.size + 1, 0, none⟩ c.toList 0).run P ((w.alloc ob).alloc (.cells z T)) = .ok () ((w.alloc ob).alloc (.cells c T)) := by
  have h0 := heap_alloc_new (w.alloc ob) (.cells z T)
  rw [World.size_alloc] at h0
  have := run_storeCells_from (P := P) (w.heap.size + 1) T c.toList 0 z ((w.alloc ob).alloc (.cells z T)) h0 (by simp [hz]) (fun v hv => (Array.all_eq_true_iff_forall_mem.1 h1) v (by simpa using hv))
  rw [this]
  simp only [List.take_zero, List.nil_append, Array.toArray_toList]
  have := World.setRow_alloc_new (w.alloc ob) z c T
  rw [World.size_alloc] at this
  rw [this]
theorem at_bound (a : Int) (k : Nat) (h1 : 1 ≤ k) (h2 : (k : Int) ≤ 18) : ∃ p : Nat, (RowKit.wrap64 (a.tmod k + k)).tmod k = p ∧ p < k := by
  have ha := Int.tmod_lt_of_pos a (show (0 : Int) < (k : Int) by omega)
  have hb := Int.lt_tmod_of_pos a (show (0 : Int) < (k : Int) by omega)
  have hw : RowKit.wrap64 (a.tmod k + k) = a.tmod k + k := by unfold RowKit.wrap64; omega
  rw [hw, Int.tmod_eq_emod_of_nonneg (by omega)]
  have h3 := Int.emod_nonneg (a.tmod k + k) (show (k : Int) ≠ 0 by omega)
  have h4 := Int.emod_lt_of_pos (a.tmod k + k) (show (0 : Int) < (k : Int) by omega)
  exact ⟨((a.tmod k + k) % k).toNat, by omega, by omega⟩
def c00 : Array Value := #[.int .i64 0, .int .i64 0, .int .i64 0, .int .i64 0, .bool false, .bool false, .bool false, .bool false, .bool false, .bool false, .bool false, .bool false, .bool false, .bool false, .int .i64 0, .string ⟨#[]⟩, .string ⟨#[]⟩]
/-- Parse of what was shown with one pair more, whose key came or is none. -/
theorem parse_bad {cur : List Value} (hT : Typed cur) (hs : Small cur) (hl : Short cur) {js : List Nat} (hjs : jsOf cur 18 = js) {n2 : Nat} (hn2 : (prsOf cur js).length = n2) (q : ByteArray) (hq : bytesOf (showT cur) = q) (y0 y1 : ByteArray) (h0 : y0.size ≤ 9999999) (h1 : y1.size ≤ 9999999)
    (hkey : ∀ j, keyOf y0 = some j → j ∈ js) (w : World) (hB : Base w) :
    Calls Tryd.prog 13 #[.string (q ++ bytesOf (ArgsP.packL (txt [y0, y1])))] w fun e w' => e = .returned (.tuple #[.agg c00, .string ⟨#[]⟩, .agg #[.int .i64 29, .int .i64 n2]]) ∧ Below w.heap.size w w' := by
  have hj : ∀ j, j ∈ js ↔ j < 18 ∧ nz cur j = true := fun j => by rw [← hjs]; exact jsOf_mem
  have hn : js.Nodup := by rw [← hjs]; exact jsOf_nodup cur 18
  have hps := prsOf_short hl (js := js) (fun j h => ((hj j).1 h).1)
  have e : q ++ bytesOf (ArgsP.packL (txt [y0, y1])) = bytesOf (ArgsP.packL (txt (prsOf cur js ++ [y0, y1]))) := by
    rw [packL_app _ _ hps, ← hq, bytes_app]
    unfold showT
    rw [hjs]
  have hlen := packL_len (prsOf cur js ++ [y0, y1])
  have hl36 : (prsOf cur js ++ [y0, y1]).length ≤ 38 := by
    rw [List.length_append, prsOf_len, ← hjs]
    have := jsOf_len cur 18
    simp only [List.length_cons, List.length_nil]
    omega
  have hb : (prsOf cur js ++ [y0, y1]).length * 10000008 ≤ 38 * 10000008 := Nat.mul_le_mul_right _ hl36
  have := parse_of (ArgsP.packL (txt (prsOf cur js ++ [y0, y1]))) _ (by omega) (parse_more hT hs hl hn hj y0 y1 h0 h1 hkey) w hB
  rw [← e] at this
  unfold RetParse at this
  rw [show 2 * js.length = n2 by rw [← hn2, prsOf_len]] at this
  exact this

/-- In a region that draws its order: 'out = append(out, l..)'. -/
theorem step_append_seq {P : Program} {ops : Array Oper} {α : Type} {E : Enc α} {w0 : World} {e : TypeId} {v : Value} {l l' : List α} {B : Nat} {A : Option Addr} {c : Nat} {o : Oper} {a : Act} {K : Act → World → Prop} {Q : Exit → Act → World → Prop} {F : Prop} {w : World} (hgd : o.guard = none) (s x : Operand) (t : TypeId)
    (ho : o.op = .call { callee := .builtin .append, args := #[s, x], argTypes := #[t, t] }) (bytes : Nat) (he : ElemOf P t e E.k bytes)
    (hs : a.eval s = v) (hown : Own E e w0 w v l) (m : Nat) (hx : a.eval x = .slice A m c) (hr : SeqAt E w B A l') (hm : l'.length = m)
    (h63 : l.length + m ≤ maxLen) (hbytes : (l.length + m) * bytes ≤ 140737488355328)
    (h : ∀ v' w', Own E e w0 w' v' (l ++ l') → w.grownBy w' v.ownBlock → K (a.put o.dst v') w') : if Region.wanted o (yielded ops a.tmps) = true then Oper.wp P o a w K Q else F := by
  rw [if_pos (by simp [Region.wanted, hgd])]
  exact wp_append_seq w s x t ho bytes he hs hown m hx hr hm h63 hbytes h

/-- The first k numbers are masked. -/
structure Msk (vs : List Value) (k : Nat) (cur : List Value) : Prop where
  typ : Typed cur
  ints : Ints cur
  bnd : Bound cur
  low : ∀ j, j < k → ∀ n, cur[j]? = some (.int .i64 n) → 0 ≤ n ∧ n ≤ 1023
theorem Msk.start {vs : List Value} (hT : Typed vs) (hI : Ints vs) (hb : Bound vs) : Msk vs 0 vs := ⟨hT, hI, hb, fun j hj => absurd hj (Nat.not_lt_zero _)⟩
theorem Msk.step {vs cur : List Value} {k : Nat} (h : Msk vs k cur) (hk : k < 5) {m : Int} (h0 : 0 ≤ m) (h1 : m ≤ 1023) : Msk vs (k + 1) (cur.set k (.int .i64 m)) := by
  have hl := h.typ.1
  refine ⟨⟨by rw [List.length_set]; exact hl, fun j hj => ?_⟩, fun j hj n hn => ?_, fun j h15 h18 s hs => ?_, fun j hj n hn => ?_⟩
  · rw [List.getElem?_set]
    by_cases he : k = j
    · subst he
      rw [if_pos rfl, if_pos (by omega)]
      exact ⟨fun _ => ⟨m, rfl⟩, fun h5 => absurd hk (by omega), fun h5 => absurd hk (by omega)⟩
    · rw [if_neg he]; exact h.typ.2 j hj
  · rw [List.getElem?_set] at hn
    by_cases he : k = j
    · rw [if_pos he, if_pos (by omega)] at hn
      injection hn with hn
      injection hn with _ hn
      subst hn
      omega
    · rw [if_neg he] at hn; exact h.ints j hj n hn
  · rw [List.getElem?_set, if_neg (by omega)] at hs
    exact h.bnd j h15 h18 s hs
  · rw [List.getElem?_set] at hn
    by_cases he : k = j
    · rw [if_pos he, if_pos (by omega)] at hn
      injection hn with hn
      injection hn with _ hn
      subst hn
      exact ⟨h0, h1⟩
    · rw [if_neg he] at hn; exact h.low j (by omega) n hn
theorem Msk.small {vs cur : List Value} (h : Msk vs 5 cur) : Small cur := fun j hj n hn => by have := h.low j hj n hn; omega

set_option maxRecDepth 100000 in
set_option maxHeartbeats 8000000 in
theorem twice_law (vs : List Value) (key : ByteArray) (at_ : Int) (hT : Typed vs) (hI : Ints vs) (hb : Bound vs) (hk : key.size ≤ 140737488355328) (w : World) (hB : Base w) :
    Calls Tryd.prog 7 #[.agg vs.toArray, .string key, .int .i64 at_] w fun e w' => e = .returned (.bool true) ∧ Below w.heap.size w w' := by
  have H := Lib.hid hB
  have HM := Lib.hid (Msk.start hT hI hb)
  obtain ⟨c18, hc18⟩ : ∃ c, vs.toArray = c := ⟨_, rfl⟩
  have HC := Lib.hid hc18
  rw [hc18]
  clear hB hT hI hb hc18
  go_enter Tryd.func7, Tryd.ntmps7
  go_upto_region 3 with (go_at_call 8; refine (speaks_any _ (H.out.below ((Below.refl _ w).alloc (Nat.le_refl _) _))).mono ?_; rintro e w1 ⟨rfl, hb1⟩)
  have k1 : w1.heap[w.heap.size]? = some (.cells c18 50) := (hb1.block _ (by simp)).trans (heap_alloc_new w _)
  have hb01 : Below w.heap.size w w1 := ((Below.refl _ w).alloc (Nat.le_refl _) _).trans (hb1.mono (by simp))
  rw [← HC.out] at k1
  have K1 := Lib.hid k1
  have HB1 := Lib.hid hb01
  clear k1 hb1 hb01
  obtain ⟨N, hN⟩ : ∃ N, w.heap.size = N := ⟨_, rfl⟩
  rw [hN] at K1 ⊢
  have HNe := Lib.hid hN
  clear hN
  go_wp2_with fail
  go_loopw [7] (fun s7 wr => ∃ (k : Nat) (cur : List Value), k ≤ 5 ∧ s7 = .int .i64 k ∧ Hid (Msk vs k cur) ∧ Hid (wr.heap[N]? = some (.cells cur.toArray 50)) ∧ Below w.heap.size w wr) (fun s7 _ => 5 - (intOf s7).toNat)
  case atStart => exact ⟨0, vs, by omega, rfl, HM, K1, HB1.out⟩
  case round =>
    obtain ⟨k, cur, hk5, rfl, HMk, HKw, hbw⟩ := hrel
    by_cases hlt : k < 5
    · obtain ⟨n, hn⟩ := (HMk.out.typ.2 k (by omega)).1 hlt
      have cn : wr.cell? ⟨N, k, none⟩ = some (.int .i64 n) := (Lib.cell_of_heap HKw.out k).trans (by rw [List.getElem?_toArray]; exact hn)
      have fn := Lib.frozen_of_heap HKw.out k
      obtain ⟨m0, m1⟩ := mask_any n
      have hkk : (k : Int) < 5 := by omega
      have hk0 : (0 : Int) ≤ (k : Int) := by omega
      have hwN := Nat.le_of_eq HNe.out
      clear hn
      go_wp2
      go_roundw
      case rel => exact ⟨k + 1, _, by omega, by go_num, Lib.hid (HMk.out.step hlt m0 m1), Lib.hid (heap_set_same HKw.out), hbw.setCell (p := ⟨N, k, none⟩) hwN _⟩
      case measure => simp [intOf]; omega
    · obtain rfl : k = 5 := by omega
      have hsm := HMk.out.small
      obtain ⟨z, hF⟩ := show_facts HMk.out.typ HMk.out.ints HMk.out.bnd
      obtain ⟨q, hq⟩ : ∃ q, bytesOf (showT cur) = q := ⟨_, rfl⟩
      obtain ⟨c17, hc17⟩ : ∃ c, (optC cur).toArray = c := ⟨_, rfl⟩
      obtain ⟨cc, hcc⟩ : ∃ c, cur.toArray = c := ⟨_, rfl⟩
      rw [hq, hc17, hcc] at hF
      rw [hcc] at HKw
      have he := hF.eq
      have HF := Lib.hid hF
      have I17 : Hid ((Tryd.prog.info? 39).map (·.size) = some c17.size) := Lib.hid (by rw [hF.s17]; exact optInfo)
      have I18 : Hid ((Tryd.prog.info? 50).map (·.size) = some cc.size) := Lib.hid (by rw [hF.s18]; exact lawInfo)
      have S17 : Hid (17 = c17.size) := Lib.hid hF.s17.symm
      have O17 := Lib.hid hF.o17
      have HSm := Lib.hid hsm
      have Hq := Lib.hid hq
      have Hcc := Lib.hid hcc
      have Hc17 := Lib.hid hc17
      have hne := fun w => neq_same HMk.out.typ w
      rw [hc17] at hne
      obtain ⟨s0, e0, v0, z0⟩ := hF.tat 0 (by decide)
      obtain ⟨s1, e1, v1, z1⟩ := hF.tat 1 (by decide)
      obtain ⟨s2, e2, v2, z2⟩ := hF.tat 2 (by decide)
      have c0 := (Lib.cell_of_heap HKw.out 15).trans e0
      have c1 := (Lib.cell_of_heap HKw.out 16).trans e1
      have c2 := (Lib.cell_of_heap HKw.out 17).trans e2
      have hz2 : s2 = z := by have := e2.symm.trans hF.zat; injection this with this; injection this
      have HV := Lib.hid (And.intro v0 (And.intro v1 v2))
      clear hsm hq hc17 hcc hF e0 e1 e2 v0 v1 v2
      subst hz2
      by_cases hbig : (65536 : Int) < (s0.size : Int) + (s1.size : Int) + (s2.size : Int)
      · go_wp2
        go_ret
        exact ⟨rfl, hbw⟩
      · have HSh : Hid (ShortT cur) := Lib.hid (fun j hj s hs => by
          have h3 := HV.out
          rcases j with _ | _ | _ | j
          · rw [h3.1] at hs; injection hs with hs; injection hs with hs; subst hs; omega
          · rw [h3.2.1] at hs; injection hs with hs; injection hs with hs; subst hs; omega
          · rw [h3.2.2] at hs; injection hs with hs; injection hs with hs; subst hs; omega
          · omega)
        have hbd : decide ((65536 : Int) < (s0.size : Int) + (s1.size : Int) + (s2.size : Int)) = false := decide_eq_false hbig
        go_upto_region 9 with fail
        have zN : N < wr.heap.size := (Array.getElem?_eq_some_iff.1 HKw.out).1
        have HBs := Lib.hid (fun s : Later wr => H.out.below (hbw.trans (s.below.mono hbw.size)))
        have R1 := Lib.hid (fun w' (hw : ∃ s : Later wr, w' = s.here) => by obtain ⟨s, rfl⟩ := hw; exact (s.below.block _ zN).trans HKw.out : ∀ w', (∃ s : Later wr, w' = s.here) → w'.heap[N]? = some (.cells cc 50))
        have l3 : ∀ (x : Later wr), x.here.cell? ⟨N, 17, none⟩ = some (.string s2) := fun x => (x.below.cell (p := ⟨N, 17, none⟩) zN).trans c2
        go_cut [8] (fun s8 wx => s8 = .string q ∧ Below wr.heap.size wr wx)
        case first =>
          clear c0 c1 c2
          refine wp_region_later (by kernel_rfl) (by kernel_rfl) ?_
          repeat (any_goals (first
            | (refine BigFrame.wpQuiet_want (by kernel_rfl) (fun K hK => ?_); with_reducible refine quiet_load_row 50 (.tmp 3) rfl N rfl 50 cc (0, 0) _ R1.out Tryd.underlying50 rfl I18.out ?_; refine hK _ ?_; clear hK K; go_simp)
            | go_big_quiet_step ((first | (go_at_call 15; exact later_of (HF.out.opt _)) | (go_at_call 16; exact later_of (HF.out.sh _ (HBs.out _)))))
            | quiet_step ((first | (go_at_call 15; exact later_of (HF.out.opt _)) | (go_at_call 16; exact later_of (HF.out.sh _ (HBs.out _)))))))
          all_goals
            refine wpQuiet_nil ?_
            first | rintro _ ⟨⟨wx, hbx⟩, rfl⟩ | (rintro ⟨wx, hbx⟩)
            go_wp2
            go_meet
            exact ⟨rfl, hbx⟩
        case rest =>
          obtain ⟨rfl, hbx⟩ := hcut
          have hb2 := hbw.trans (hbx.mono hbw.size)
          have K2 := Lib.hid ((hbx.block N zN).trans HKw.out)
          have zN2 : N < wc.heap.size := Nat.lt_of_lt_of_le zN hbx.size
          have hsh := HMk.out.typ.short HMk.out.ints HSh.out
          obtain ⟨js, hjs⟩ : ∃ js, jsOf cur 18 = js := ⟨_, rfl⟩
          have hjl : js.length ≤ 18 := by rw [← hjs]; exact jsOf_len cur 18
          obtain ⟨L, hL⟩ : ∃ L, prsOf cur js = L := ⟨_, rfl⟩
          obtain ⟨m, hm⟩ : ∃ m, js.length = m := ⟨_, rfl⟩
          have hLl : L.length = 2 * m := by rw [← hL, prsOf_len, hm]
          obtain ⟨n2, hn2⟩ : ∃ n2, L.length = n2 := ⟨_, rfl⟩
          have hn2m : n2 = 2 * m := by omega
          have hLs : ∀ x ∈ L, x.size ≤ 9999999 := by rw [← hL, ← hjs]; exact prsOf_short hsh (fun j hj => (jsOf_mem.1 hj).1)
          have HU : Hid (ArgsP.unp q.data.toList 0 = .ok (txt L)) := Lib.hid (by
            rw [← Hq.out, bytesOf_list]
            unfold showT
            rw [hjs, hL, ArgsP.unp_packed, fit_le _ hLs])
          have hqs : q.size ≤ 400000000 := by rw [← Hq.out, bytesOf_size]; exact show_len cur
          have hn36 : n2 ≤ 36 := by rw [hm] at hjl; omega
          have HN2m := Lib.hid hn2m
          have HJs := Lib.hid hjs
          have HL := Lib.hid hL
          have HMl := Lib.hid hm
          have HN2 := Lib.hid hn2
          have HLs := Lib.hid hLs
          have HSho := Lib.hid hsh
          rw [hm] at hjl
          clear hjs hL hm hLl hn2 hn2m hLs hsh c0 c1 c2 l3 R1 HBs hbx hbig hbd
          go_upto_region 11 with (go_at_call 11; refine (unpack_good (l := L) _ (by omega) (H.out.below hb2) HU.out).mono ?_; rintro e w2 ⟨A, c, rfl, hA, hc, hmx, hb3⟩; rw [HN2.out])
          obtain ⟨W2, hW2⟩ : ∃ W2, W2 = w2.alloc (.cells #[.int .i64 0, .int .i64 0] 27) := ⟨_, rfl⟩
          have hb4 : Below wc.heap.size wc W2 := by rw [hW2]; exact hb3.alloc hb3.size _
          have hA2 : SeqAt Estr W2 W2.heap.size A L := by rw [hW2]; exact (hA.alloc (Nat.le_refl _) _).more (by simp)
          rw [← hW2]
          have HA := Lib.hid hA2
          have HB2 := Lib.hid (hb2.trans (hb4.mono hb2.size))
          have K4 := Lib.hid ((hb4.block N zN2).trans K2.out)
          have zN4 : N < W2.heap.size := Nat.lt_of_lt_of_le zN2 hb4.size
          clear hA hA2 hW2 hb3 hb4 hb2
          obtain ⟨wo, rfl⟩ : ∃ wo : World, wo = wr := ⟨_, rfl⟩
          rw [HN2.out] at hc
          go_wp2_with fail
          go_loopw [11, 12] (fun s11 s12 wx => ∃ k : Nat, k ≤ m ∧ s12 = .int .i64 (2 * (m : Int) - 2 - 2 * (k : Int)) ∧ Own Estr 9 W2 wx s11 (prsOf cur (js.reverse.take k))) (fun _ s12 _ => (intOf s12 + 2).toNat)
          case atStart => exact ⟨0, by omega, val_int (by have := HN2m.out; omega), Own.nil_ _⟩
          case round =>
            obtain ⟨k, hk, rfl, hO⟩ := hrel
            by_cases hkm : k < m
            · have hn2m := HN2m.out
              obtain ⟨p, hp⟩ : ∃ p : Nat, m - 1 - k = p := ⟨_, rfl⟩
              have hpe : 2 * (m : Int) - 2 - 2 * (k : Int) = ((2 * p : Nat) : Int) := by omega
              obtain ⟨g, o, rfl, hg, hcs⟩ := (HA.out.below hO.2).strs_ (by rw [HN2.out]; omega)
              have x0 := hcs (2 * p) (by rw [HN2.out]; omega)
              have x1 := hcs (2 * p + 1) (by rw [HN2.out]; omega)
              obtain ⟨y0, hy0⟩ : ∃ y, L.getD (2 * p) ⟨#[]⟩ = y := ⟨_, rfl⟩
              obtain ⟨y1, hy1⟩ : ∃ y, L.getD (2 * p + 1) ⟨#[]⟩ = y := ⟨_, rfl⟩
              rw [hy0] at x0
              rw [hy1] at x1
              have HT : Hid (prsOf cur (js.reverse.take (k + 1)) = prsOf cur (js.reverse.take k) ++ [y0, y1]) := Lib.hid (by
                have hr := rev_take cur js k (by rw [HMl.out]; exact hkm)
                have ha := prsOf_at cur js p (by rw [HMl.out]; omega)
                rw [HMl.out, hp] at hr
                rw [HL.out, hy0, hy1] at ha
                rw [hr, ha.1, ha.2])
              have HO := Lib.hid hO
              have hl2 : (prsOf cur (js.reverse.take k)).length ≤ 36 := by rw [prsOf_len, List.length_take, List.length_reverse, HMl.out]; omega
              have HL2 := Lib.hid hl2
              have h20 : (0 : Int) ≤ ((2 * p : Nat) : Int) := by omega
              have h21 : ((2 * p : Nat) : Int) < (n2 : Int) := by omega
              have h22 : ((2 * p : Nat) : Int) + 1 < (n2 : Int) := by omega
              have h23 : (0 : Int) ≤ ((2 * p : Nat) : Int) + 1 := by omega
              have hwr : IntKind.i64.wrap (((2 * p : Nat) : Int) + 1) = ((2 * p : Nat) : Int) + 1 := by rw [IntKind.wrap_i64]; omega
              rw [hpe]
              have HPe := Lib.hid hpe
              generalize 2 * p = p2 at h20 h21 h22 h23 hwr x0 x1 HPe ⊢
              clear hcs hy0 hy1 hp hpe hO hl2 hn2m
              go_upto_region 15 with fail
              go_region_law (refine step_append_seq rfl (.tmp 70) (.tmp 80) 22 rfl 16 elStr rfl (by first | exact (HO.out.alloc _).drew | exact HO.out.alloc _) 2 rfl (by first | exact SeqAt.new (E := Estr) _ [y0, y1] 9 | exact (SeqAt.new (E := Estr) _ [y0, y1] 9).drew) rfl (by have := HL2.out; simp only [maxLen]; omega) (by have := HL2.out; omega) ?_; intro v3 w3 hO3 hg3)
              all_goals
                go_wp2
                go_roundw
              all_goals first
                | exact ⟨k + 1, by omega, val_int (by have := HPe.out; omega), by rw [HT.out]; exact hO3⟩
                | (have := HPe.out; simp [intOf]; omega)
            · obtain rfl : k = m := by omega
              have hO2 := hO
              rw [show js.reverse.take k = js.reverse from List.take_of_length_le (by rw [List.length_reverse, HMl.out]; exact Nat.le_refl _)] at hO2
              obtain ⟨A3, c3, rfl, _, _, hA3⟩ := hO2.isSeq
              have hRl : (prsOf cur js.reverse).length = n2 := by rw [prsOf_len, List.length_reverse, HMl.out, HN2m.out]
              obtain ⟨qr, hqr⟩ : ∃ qr, bytesOf (ArgsP.packL (txt (prsOf cur js.reverse))) = qr := ⟨_, rfl⟩
              have hb5 := HB2.out.trans (hO2.2.mono HB2.out.size)
              have hrl := packL_len (prsOf cur js.reverse)
              rw [hRl] at hrl
              have hrl2 : n2 * 10000008 ≤ 36 * 10000008 := Nat.mul_le_mul_right _ hn36
              have HPk := Lib.hid (pack_any A3 c3 (prsOf cur js.reverse) wr wr.heap.size hA3 (Nat.le_refl _) (by rw [hRl]; omega) (by omega) (H.out.below hb5))
              rw [hRl] at HPk ⊢
              have HPr : Hid (∀ w, Base w → Calls Tryd.prog 13 #[.string qr] w fun e w' => e = .returned (.tuple #[.agg c17, .string s2, .agg #[.int .i64 0, .int .i64 0]]) ∧ Below w.heap.size w w') := Lib.hid fun w hB => by
                have hj : ∀ j, j ∈ js.reverse ↔ j < 18 ∧ nz cur j = true := fun j => by rw [← HJs.out]; exact rev_mem j
                have hn : js.reverse.Nodup := by rw [← HJs.out]; exact rev_nodup cur
                have := parse_of (ArgsP.packL (txt (prsOf cur js.reverse))) _ (by omega) (parse_any_order HMk.out.typ HSm.out HSho.out hn hj) w hB
                unfold RetParse at this
                rw [hqr] at this
                simp only at this
                rw [Hc17.out, show cur.getD 17 undef = .string s2 by rw [List.getD_eq_getElem?_getD, HV.out.2.2]; rfl] at this
                exact this
              unfold RetTxt at HPk
              rw [hqr] at HPk
              have HB5 := Lib.hid hb5
              have K5 := Lib.hid ((hO2.2.block N zN4).trans K4.out)
              have zN5 : N < wr.heap.size := Nat.lt_of_lt_of_le zN4 hO2.2.size
              have HA5 := Lib.hid ((HA.out.below hO2.2).more hO2.2.size)
              clear hO hO2 hA3 hRl hqr hb5 hrl hrl2 hkm
              go_upto_region 17 with (first
                | (go_at_call 9; refine HPk.out.mono ?_; rintro e w5 ⟨rfl, hb6⟩)
                | (go_at_call 13; refine (HPr.out _ (H.out.below (HB5.out.trans (hb6.mono HB5.out.size)))).mono ?_; rintro e w6 ⟨rfl, hb7⟩)
                | (refine wpList_store_new2 rfl 39 (.tmp 13) (.tmp 86) rfl _ c17 rfl rfl 39 I17.out S17.out O17.out ?_))
              obtain ⟨W7, hW7⟩ : ∃ W7, W7 = (w6.alloc (.cells c17 39)).alloc (.cells #[.int .i64 0, .int .i64 0] 27) := ⟨_, rfl⟩
              have hb67 : Below wr.heap.size wr W7 := by rw [hW7]; exact ((hb6.trans (hb7.mono hb6.size)).alloc (Nat.le_trans hb6.size hb7.size) _).alloc (by have := Nat.le_trans hb6.size hb7.size; simp; omega) _
              obtain ⟨F, hF⟩ : ∃ F, w6.heap.size = F := ⟨_, rfl⟩
              have r13 : W7.heap[F]? = some (.cells c17 39) := by rw [hW7, ← hF]; exact (Below.heap_alloc _ _ _ (by simp)).trans (heap_alloc_new w6 _)
              have r15 : W7.heap[F + 1]? = some (.cells #[.int .i64 0, .int .i64 0] 27) := by
                have := heap_alloc_new (w6.alloc (.cells c17 39)) (.cells #[.int .i64 0, .int .i64 0] 27)
                rw [hW7, ← hF]; simpa using this
              rw [← hW7, hF]
              have K7 := Lib.hid ((hb67.block N zN5).trans K5.out)
              have zN7 : N < W7.heap.size := Nat.lt_of_lt_of_le zN5 hb67.size
              have zF : F + 1 < W7.heap.size := (Array.getElem?_eq_some_iff.1 r15).1
              have HA7 := Lib.hid ((HA5.out.below hb67).more hb67.size)
              have HB7 := Lib.hid (HB5.out.trans (hb67.mono HB5.out.size))
              have R13 := Lib.hid (fun w' (hw : ∃ s : Later W7, w' = s.here) => by obtain ⟨s, rfl⟩ := hw; exact (s.below.block _ (by omega)).trans r13 : ∀ w', (∃ s : Later W7, w' = s.here) → w'.heap[F]? = some (.cells c17 39))
              have R3 := Lib.hid (fun w' (hw : ∃ s : Later W7, w' = s.here) => by obtain ⟨s, rfl⟩ := hw; exact (s.below.block _ zN7).trans K7.out : ∀ w', (∃ s : Later W7, w' = s.here) → w'.heap[N]? = some (.cells cc 50))
              have l15 : ∀ (x : Later W7) o, x.here.cell? ⟨F + 1, o, none⟩ = #[Value.int .i64 0, .int .i64 0][o]? := fun x o => (x.below.cell (p := ⟨F + 1, o, none⟩) zF).trans (Lib.cell_of_heap r15 o)
              have cz7 : W7.cell? ⟨N, 17, none⟩ = some (.string s2) := (Lib.cell_of_heap K7.out 17).trans HF.out.zat
              have l17 : ∀ (x : Later W7), x.here.cell? ⟨N, 17, none⟩ = some (.string s2) := fun x => (x.below.cell (p := ⟨N, 17, none⟩) zN7).trans cz7
              have hfe := faultEq_same 0 0
              have hss := str_refl s2
              clear hW7 hb67 hb6 hb7 hF r13 r15 cz7
              go_cut [104] (fun s104 wx => s104 = .bool false ∧ Below W7.heap.size W7 wx)
              case first => as_aux_lemma =>
                refine wp_region_later (by kernel_rfl) (by kernel_rfl) ?_
                repeat (any_goals (first
                  | (refine BigFrame.wpQuiet_want (by kernel_rfl) (fun K hK => ?_); with_reducible refine quiet_load_row 39 (.tmp 13) rfl F rfl 39 c17 (0, 0) _ R13.out Tryd.underlying39 rfl I17.out ?_; refine hK _ ?_; clear hK K; go_simp)
                  | (refine BigFrame.wpQuiet_want (by kernel_rfl) (fun K hK => ?_); with_reducible refine quiet_load_row 50 (.tmp 3) rfl N rfl 50 cc (0, 0) _ R3.out Tryd.underlying50 rfl I18.out ?_; refine hK _ ?_; clear hK K; go_simp)
                  | go_big_quiet_step ((go_at_call 15; exact later_of (HF.out.opt _)))
                  | quiet_step ((go_at_call 15; exact later_of (HF.out.opt _)))))
                all_goals
                  refine wpQuiet_nil ?_
                  first | rintro _ ⟨⟨wx, hbx⟩, rfl⟩ | (rintro ⟨wx, hbx⟩)
                  go_wp2
                  go_meet
                  exact ⟨rfl, hbx⟩
              case rest =>
                obtain ⟨rfl, hbx⟩ := hcut
                obtain ⟨W8, rfl⟩ : ∃ W8 : World, W8 = wc := ⟨_, rfl⟩
                have HA8 := Lib.hid ((HA7.out.below hbx).more hbx.size)
                have HB8 := Lib.hid (HB7.out.trans (hbx.mono HB7.out.size))
                clear hbx l15 l17 R13 R3 HA7 HA5 HA zN7 zF zN5 zN4 zN2 zN
                go_upto_if 107 with fail
                go_cut [2] (fun s2' wx => Below W8.heap.size W8 wx)
                case first => as_aux_lemma =>
                  by_cases hk0 : k = 0
                  · have h0 : ¬ (0 : Int) < (n2 : Int) := by have := HN2m.out; omega
                    clear hk0
                    go_wp2
                    go_meet
                    exact Below.refl _ _
                  · have h0 : (0 : Int) < (n2 : Int) := by have := HN2m.out; omega
                    have hk1 : 1 ≤ k := by omega
                    have hk18 : (k : Int) ≤ 18 := by omega
                    have hkz : (1 : Int) ≤ (k : Int) := by omega
                    have hd : (n2 : Int) / 2 = (k : Int) := by have := HN2m.out; omega
                    clear hk0
                    go_upto_region 21 with fail
                    obtain ⟨p, hp, hpk⟩ := at_bound at_ k hk1 hk18
                    rw [hp]
                    obtain ⟨g, o, rfl, hg, hcs⟩ := HA8.out.strs_ (by rw [HN2.out]; omega)
                    have x0 := hcs (2 * p) (by rw [HN2.out, HN2m.out]; omega)
                    have x1 := hcs (2 * p + 1) (by rw [HN2.out, HN2m.out]; omega)
                    obtain ⟨y0, hy0⟩ : ∃ y, L.getD (2 * p) ⟨#[]⟩ = y := ⟨_, rfl⟩
                    obtain ⟨y1, hy1⟩ : ∃ y, L.getD (2 * p + 1) ⟨#[]⟩ = y := ⟨_, rfl⟩
                    have hm0 : ∀ i, i < n2 → (L.getD i ⟨#[]⟩).size ≤ 9999999 := fun i hi => HLs.out _ (by
                      rw [List.getD_eq_getElem?_getD, List.getElem?_eq_getElem (by rw [HN2.out]; exact hi)]
                      exact List.getElem_mem _)
                    have hs0 := hm0 (2 * p) (by rw [HN2m.out]; omega)
                    have hs1 := hm0 (2 * p + 1) (by rw [HN2m.out]; omega)
                    rw [hy0] at x0 hs0
                    rw [hy1] at x1 hs1
                    have HPb : Hid (∀ w, Base w → Calls Tryd.prog 13 #[.string (q ++ bytesOf (ArgsP.packL (txt [y0, y1])))] w fun e w' => e = .returned (.tuple #[.agg c00, .string ⟨#[]⟩, .agg #[.int .i64 29, .int .i64 n2]]) ∧ Below w.heap.size w w') := Lib.hid fun w hB => by
                      refine parse_bad HMk.out.typ HSm.out HSho.out HJs.out (by rw [HL.out, HN2.out]) q Hq.out y0 y1 hs0 hs1 (fun j hj => ?_) w hB
                      have ha := (prsOf_at cur js p (by rw [HMl.out]; exact hpk)).1
                      rw [HL.out, hy0] at ha
                      have hpl : p < js.length := by rw [HMl.out]; exact hpk
                      have hmem : js.getD p 0 ∈ js := by rw [List.getD_eq_getElem?_getD, List.getElem?_eq_getElem hpl]; exact List.getElem_mem hpl
                      have h18 : js.getD p 0 < 18 := by
                        have := hmem
                        rw [← HJs.out] at this ⊢
                        exact (jsOf_mem.1 this).1
                      rw [ha, (keyOf_some (k := keyN (js.getD p 0)) (j := js.getD p 0)).2 ⟨h18, rfl⟩] at hj
                      injection hj with hj
                      rw [← hj]
                      exact hmem
                    obtain ⟨X, hX⟩ : ∃ X, bytesOf (ArgsP.packL (txt [y0, y1])) = X := ⟨_, rfl⟩
                    have hpl := packL_len [y0, y1]
                    have HPk2 : Hid (∀ w g', SeqAt Estr w w.heap.size (some ⟨g', 0, none⟩) [y0, y1] → Base w → Calls Tryd.prog 9 #[.slice (some ⟨g', 0, none⟩) 2 2] w fun e w' => e = .returned (.string X) ∧ Below w.heap.size w w') := Lib.hid fun w g' hS hB => by
                      have := pack_any (some ⟨g', 0, none⟩) 2 [y0, y1] w w.heap.size hS (Nat.le_refl _) (by simp) (by simp only [List.length_cons, List.length_nil] at hpl; omega) hB
                      unfold RetTxt at this
                      rw [hX] at this
                      exact this
                    have hXs : X.size ≤ 40000000 := by
                      rw [← hX, bytesOf_size]
                      simp only [List.length_cons, List.length_nil] at hpl
                      omega
                    rw [hX] at HPb
                    have h20 : (0 : Int) ≤ 2 * (p : Int) := by omega
                    have h21 : 2 * (p : Int) < (n2 : Int) := by have := HN2m.out; omega
                    have h22 : 2 * (p : Int) + 1 < (n2 : Int) := by have := HN2m.out; omega
                    have h23 : (0 : Int) ≤ 2 * (p : Int) + 1 := by omega
                    have hw1 : IntKind.i64.wrap (2 * (p : Int)) = 2 * (p : Int) := by rw [IntKind.wrap_i64]; omega
                    have hw2 : IntKind.i64.wrap (2 * (p : Int) + 1) = 2 * (p : Int) + 1 := by rw [IntKind.wrap_i64]; omega
                    have HBz := Lib.hid (fun w' (hb : Below W8.heap.size W8 w') => H.out.below (HB8.out.trans (hb.mono HB8.out.size)))
                    have t0 : 2 * p = (2 * (p : Int)).toNat := by omega
                    have t1 : 2 * p + 1 = (2 * (p : Int) + 1).toNat := by omega
                    rw [t0] at x0
                    rw [t1] at x1
                    clear hcs hy0 hy1 hm0 hs0 hs1 hX hpl hp hd t0 t1
                    go_cut [18] (fun s18 wx => ∃ f : Nat, s18 = .pointer (some ⟨f, 0, none⟩) ∧ wx.cell? ⟨f, 0, none⟩ = some (.int .i64 29) ∧ wx.cell? ⟨f, 1, none⟩ = some (.int .i64 n2) ∧ Below W8.heap.size W8 wx)
                    case first => as_aux_lemma =>
                      obtain ⟨cz, hcz⟩ : ∃ c, c00 = c := ⟨_, rfl⟩
                      have hS0 : cz.size = 17 := by rw [← hcz]; rfl
                      have O00 : (cz.all fun x => x.oneCell') = true := by rw [← hcz]; kernel_rfl
                      rw [hcz] at HPb
                      clear hcz
                      refine wp_region_any (by kernel_rfl) ?_
                      refine tw_region rfl (by kernel_rfl) (by kernel_rfl) (by kernel_rfl) (by kernel_rfl) (by kernel_rfl) (by kernel_rfl) rfl rfl rfl
                        ⟨_, rfl, rfl, rfl, rfl, rfl⟩ ⟨_, rfl, rfl, rfl, rfl, rfl⟩ ⟨_, rfl, rfl, rfl, rfl, rfl⟩ ⟨_, rfl, rfl, rfl, rfl, rfl⟩ ⟨_, rfl, rfl, rfl, rfl, rfl⟩ ⟨_, rfl, rfl, rfl, rfl, rfl⟩ ⟨_, rfl, rfl, rfl, rfl, rfl⟩ ⟨_, rfl, rfl, rfl, rfl, rfl⟩ ⟨_, rfl, rfl, rfl, rfl, rfl⟩ ⟨_, rfl, rfl, rfl, rfl, rfl⟩ ⟨_, rfl, rfl, rfl, rfl, rfl⟩ ⟨_, rfl, rfl, rfl, rfl, rfl⟩ ⟨_, rfl, rfl, rfl, rfl, rfl⟩ ⟨_, rfl, rfl, rfl, rfl, rfl⟩ ⟨_, rfl, rfl, rfl, rfl, rfl⟩ ⟨_, rfl, rfl, rfl, rfl, rfl⟩ ⟨_, rfl, rfl, rfl, rfl, rfl⟩ ⟨_, rfl, rfl, rfl, rfl, rfl⟩ ⟨_, rfl, rfl, rfl, rfl, rfl⟩ ⟨_, rfl, rfl, rfl, rfl, rfl⟩ ⟨_, rfl, rfl, rfl, rfl, rfl⟩ ⟨_, rfl, rfl, rfl, rfl, rfl⟩ ⟨_, rfl, rfl, rfl, rfl, rfl⟩ ⟨_, rfl, rfl, rfl, rfl, rfl⟩ ⟨_, rfl, rfl, rfl, rfl, rfl⟩
                        h22 (by have := HN2m.out; omega) hg x0 x1 hS0 O00 (by omega)
                        (fun w' b hb hS => HPk2.out w' b hS (HBz.out _ ((Below.refl _ W8).drew.trans hb)))
                        (fun w' hb => HPb.out w' (HBz.out _ ((Below.refl _ W8).drew.trans hb))) ?_
                      rintro a' w' h1 h2 h3 ⟨f, h18, hf0, hf1, hbx⟩
                      have hfr := AnyInv.frame_pick [16, 17, 18, 121, 122, 123, 124, 125, 126, 127, 128, 129, 130, 131, 132, 133, 134, 135, 136, 137, 138, 139, 140] h1 h2 (by decide) (fun k hk => h3 k (AnyInv.covers_of (by kernel_rfl) hk))
                      clear h1 h2 h3
                      go_step
                      go_step
                      refine Met.intro ?_
                      go_step
                      (repeat apply Exists.intro)
                      refine ⟨?rel, hfr.trans rfl⟩
                      exact ⟨f, h18, hf0, hf1, (Below.refl _ W8).drew.trans hbx⟩
                    case rest => as_aux_lemma =>
                      obtain ⟨f, rfl, hf0, hf1, hbx⟩ := hcut
                      have hfe2 := faultEq_same 29 (n2 : Int)
                      go_wp2
                      go_meet
                      exact hbx
                case rest => as_aux_lemma =>
                  have hbx := hcut
                  have HB9 := Lib.hid (HB8.out.trans (hbx.mono HB8.out.size))
                  clear hcut hbx
                  go_wp2_with (go_at_call 18; refine (keys_any _).mono ?_; rintro e w9 ⟨rfl, rfl⟩)
                  have HKC := Lib.hid (fun j hj => (Lib.cell_of_heap (heap_alloc_new wc (.cells keyC.toArray 9)) j).trans (by rw [List.getElem?_toArray]; exact keyC_at hj) : ∀ j, j < 18 → (wc.alloc (.cells keyC.toArray 9)).cell? ⟨wc.heap.size, j, none⟩ = some (.string (keyN j)))
                  have HB10 := Lib.hid (HB9.out.alloc HB9.out.size (.cells keyC.toArray 9))
                  obtain ⟨K, hK⟩ : ∃ K, wc.heap.size = K := ⟨_, rfl⟩
                  rw [hK] at HKC ⊢
                  generalize wc.alloc (.cells keyC.toArray 9) = W10 at HKC HB10 ⊢
                  go_loop [20] (fun s20 => ∃ j : Nat, j ≤ 18 ∧ s20 = .int .i64 j ∧ Hid (∀ t, t < j → keyN t ≠ key)) (fun s20 => 18 - (intOf s20).toNat)
                  case atStart => exact ⟨0, by omega, rfl, Lib.hid fun t ht => absurd ht (Nat.not_lt_zero _)⟩
                  case round =>
                    obtain ⟨j, hj, rfl, HN⟩ := hrel
                    by_cases hj18 : j < 18
                    · have kc := HKC.out j hj18
                      obtain ⟨kk, hkk⟩ : ∃ kk, keyN j = kk := ⟨_, rfl⟩
                      rw [hkk] at kc
                      have HKK := Lib.hid hkk
                      have hjj : (j : Int) < 18 := by omega
                      have hj0 : (0 : Int) ≤ (j : Int) := by omega
                      clear hkk
                      cases hq2 : (kk.toList == key.toList)
                      · have HQ : Hid (keyN j ≠ key) := Lib.hid fun e => by rw [← HKK.out, e] at hq2; simp at hq2
                        go_wp2
                        go_round
                        case rel => exact ⟨j + 1, by omega, by go_num, Lib.hid fun t ht => by
                          rcases Nat.lt_or_ge t j with h | h
                          · exact HN.out t h
                          · obtain rfl : t = j := by omega
                            exact HQ.out⟩
                        case measure => simp [intOf]; omega
                      · go_wp2
                        go_ret
                        exact ⟨rfl, HB10.out⟩
                    · obtain rfl : j = 18 := by omega
                      by_cases hbg : (1000 : Int) < (key.size : Int)
                      · go_wp2
                        go_ret
                        exact ⟨rfl, HB10.out⟩
                      · have HNo : Hid (∀ j, keyOf key = some j → j ∈ js) := Lib.hid fun j hj => absurd (keyOf_some.1 hj).2 (HN.out j (keyOf_some.1 hj).1)
                        have HPb2 : Hid (∀ w, Base w → Calls Tryd.prog 13 #[.string (q ++ bytesOf (ArgsP.packL (txt [key, ⟨#[]⟩])))] w fun e w' => e = .returned (.tuple #[.agg c00, .string ⟨#[]⟩, .agg #[.int .i64 29, .int .i64 n2]]) ∧ Below w.heap.size w w') := Lib.hid fun w hB =>
                          parse_bad HMk.out.typ HSm.out HSho.out HJs.out (by rw [HL.out, HN2.out]) q Hq.out key ⟨#[]⟩ (by omega) (by decide) HNo.out w hB
                        obtain ⟨X, hX⟩ : ∃ X, bytesOf (ArgsP.packL (txt [key, ⟨#[]⟩])) = X := ⟨_, rfl⟩
                        have hpl := packL_len [key, ⟨#[]⟩]
                        have HPk2 : Hid (∀ w g', SeqAt Estr w w.heap.size (some ⟨g', 0, none⟩) [key, ⟨#[]⟩] → Base w → Calls Tryd.prog 9 #[.slice (some ⟨g', 0, none⟩) 2 2] w fun e w' => e = .returned (.string X) ∧ Below w.heap.size w w') := Lib.hid fun w g' hS hB => by
                          have := pack_any (some ⟨g', 0, none⟩) 2 [key, ⟨#[]⟩] w w.heap.size hS (Nat.le_refl _) (by simp) (by simp only [List.length_cons, List.length_nil] at hpl; omega) hB
                          unfold RetTxt at this
                          rw [hX] at this
                          exact this
                        have hXs : X.size ≤ 40000000 := by
                          rw [← hX, bytesOf_size]
                          simp only [List.length_cons, List.length_nil] at hpl
                          omega
                        rw [hX] at HPb2
                        have HBz := Lib.hid (fun w' (hb : Below W10.heap.size W10 w') => H.out.below (HB10.out.trans (hb.mono HB10.out.size)))
                        have hfe3 := faultEq_same 29 (n2 : Int)
                        obtain ⟨cz, hcz⟩ : ∃ c, c00 = c := ⟨_, rfl⟩
                        have I00 : Hid ((Tryd.prog.info? 39).map (·.size) = some cz.size) := Lib.hid (by rw [← hcz]; exact optInfo)
                        have S00 : Hid (17 = cz.size) := Lib.hid (by rw [← hcz]; rfl)
                        have O00 : Hid ((cz.all fun x => x.oneCell') = true) := Lib.hid (by rw [← hcz]; kernel_rfl)
                        rw [hcz] at HPb2
                        clear hX hpl HN hcz
                        go_upto_region 33 with (first
                          | (refine wpList_store_new2 rfl 39 (.tmp 21) (.tmp 169) rfl _ cz rfl rfl 39 I00.out S00.out O00.out ?_)
                          | (go_at_call 13; refine (HPb2.out _ (HBz.out _ (((Below.refl _ W10).alloc (Nat.le_refl _) _).trans (hb11.mono (by simp))))).mono ?_; rintro e w12 ⟨rfl, hb12⟩)
                          | (go_at_call 9; refine (HPk2.out _ _ ((SeqAt.new (E := Estr) W10 [key, ⟨#[]⟩] 9).more (by simp)) (HBz.out _ ((Below.refl _ W10).alloc (Nat.le_refl _) _))).mono ?_; rintro e w11 ⟨rfl, hb11⟩))
                        have hz11 := hb11.size
                        have hz12 := hb12.size
                        simp only [World.size_alloc] at hz11
                        have HBf := Lib.hid (((Below.refl _ W10).alloc (Nat.le_refl _) (.cells #[.string key, .string ⟨#[]⟩] 9)).trans ((hb11.mono (by simp)).trans (hb12.mono (by omega))))
                        clear hb11 hb12
                        go_wp2
                        go_ret
                        exact ⟨rfl, HB10.out.trans (((HBf.out.alloc HBf.out.size _).alloc (by have := HBf.out.size; simp; omega) _).mono HB10.out.size)⟩

end Go.Proofs.YtgekkhkmgfbcdaaDoor
