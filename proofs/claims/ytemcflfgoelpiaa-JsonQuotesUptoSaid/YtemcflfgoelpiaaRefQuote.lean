/- The document's Quote of any text. -/
import Derived.Test.YtemcflfgoelpiaaRefDec
import Derived.Test.YtemcflfgoelpiaaBRow
import Derived.Test.YtemcflfgoelpiaaJsonQ
import Derived.Test.YtemcflfgoelpiaaJsonT
import Derived.Test.YtemcflfgoelpiaaJsonV
import Derived.Deep.RegionLaw
import Derived.IntWalk
namespace Go.Proofs.Ytemcflfgoelpiaa
open Go.RowKit

structure RqS (w wr : World) (N : Nat) (C : Array Value) (g o : Nat) (L : List Int) (v : Value) (out : List UInt8) : Prop where
  bel : Below w.heap.size w wr
  le : w.heap.size ≤ N
  blk : wr.heap[N]? = some (.cells C 59)
  lt : g < N
  seq : SeqAt Eint wr N (some ⟨g, o, none⟩) L
  row : BRow (N + 1) wr v out
section
variable {w wr wx : World} {N g o : Nat} {C : Array Value} {L : List Int} {v v' : Value} {out out' : List UInt8}
theorem RqS.here (h : RqS w wr N C g o L v out) : N < wr.heap.size := (Array.getElem?_eq_some_iff.1 h.blk).1
theorem RqS.below (h : RqS w wr N C g o L v out) (k : Below wr.heap.size wr wx) : RqS w wx N C g o L v out :=
  ⟨h.bel.trans (k.mono h.bel.size), h.le, (k.block _ h.here).trans h.blk, h.lt, h.seq.below (k.mono (Nat.le_of_lt h.here)), h.row.below k⟩
theorem RqS.put (h : RqS w wr N C g o L v out) (hr : BRow (N + 1) wx v' out') (hg : wr.grownBy wx v.ownBlock) : RqS w wx N C g o L v' out' := by
  have hlt := fun k (e : v.ownBlock = some k) => h.row.lt k e
  have hh := h.here
  have hb : Below N wr wx := ⟨hg.os, hg.tape, hg.output, hg.size, fun k hk => hg.block k (by omega) (fun e => by have := (hlt k e.symm).1; omega)⟩
  exact ⟨h.bel.trans (hb.mono h.le), h.le, (hg.block N hh (fun e => by have := (hlt N e.symm).1; omega)).trans h.blk, h.lt, h.seq.below hb, hr⟩
end
theorem below_drew_alloc (w : World) (o : Obj) : Below w.heap.size w (w.drew.alloc o) := by
  have h := (Below.refl w.drew.heap.size w.drew).alloc (Nat.le_refl _) o
  exact ⟨h.os, h.tape, h.output, h.size, h.block⟩
theorem cells_toArray (l : List UInt8) : (Lib.byteCells l).toArray = (l.map fun c => Value.int .u8 c.toNat).toArray := by
  congr 1

theorem qOne_special (r : Nat) (h : r = 34 ∨ r = 92 ∨ r = 8 ∨ r = 9 ∨ r = 10 ∨ r = 12 ∨ r = 13) : JsonP.qOne r = [92, if r = 8 then 98 else if r = 9 then 116 else if r = 10 then 110 else if r = 12 then 102 else if r = 13 then 114 else UInt8.ofNat r] := by
  rcases h with rfl | rfl | rfl | rfl | rfl | rfl | rfl <;> decide +kernel
def hexS : ByteArray := ⟨#[48, 49, 50, 51, 52, 53, 54, 55, 56, 57, 97, 98, 99, 100, 101, 102]⟩
theorem hexS_at : ∀ k : Fin 16, hexS[k.val]'(Nat.lt_of_lt_of_le k.isLt (by decide)) = JsonP.hexB k.val := by decide +kernel
theorem qOne_hex : ∀ k : Fin 32, (k.val ≠ 8 ∧ k.val ≠ 9 ∧ k.val ≠ 10 ∧ k.val ≠ 12 ∧ k.val ≠ 13) → JsonP.qOne k.val = [92, 117, 48, 48, JsonP.hexB (k.val / 16), JsonP.hexB (k.val % 16)] := by decide +kernel

theorem hex_parts (r : Int) (h0 : 0 ≤ r) (h1 : r < 32) (hq : ¬ (r = 34 ∨ r = 92 ∨ r = 8 ∨ r = 9 ∨ r = 10 ∨ r = 12 ∨ r = 13)) : ∃ (x y : Int) (c1 c2 : UInt8), r.tdiv 16 = x ∧ r.tmod 16 = y ∧ 0 ≤ x ∧ x < 16 ∧ 0 ≤ y ∧ y < 16 ∧
    (∀ h, (ByteArray.mk #[48, 49, 50, 51, 52, 53, 54, 55, 56, 57, 97, 98, 99, 100, 101, 102])[x.toNat]'h = c1) ∧ (∀ h, (ByteArray.mk #[48, 49, 50, 51, 52, 53, 54, 55, 56, 57, 97, 98, 99, 100, 101, 102])[y.toNat]'h = c2) ∧ JsonP.qOne r.toNat = [92, 117, 48, 48, c1, c2] := by
  obtain ⟨n, rfl⟩ : ∃ n : Nat, r = n := ⟨r.toNat, by omega⟩
  have hd : ((n : Int)).tdiv 16 = ((n / 16 : Nat) : Int) := by rw [Int.tdiv_eq_ediv_of_nonneg h0]; rfl
  have hm : ((n : Int)).tmod 16 = ((n % 16 : Nat) : Int) := by rw [Int.tmod_eq_emod_of_nonneg h0]; rfl
  refine ⟨_, _, JsonP.hexB (n / 16), JsonP.hexB (n % 16), hd, hm, by omega, by omega, by omega, by omega, fun h => ?_, fun h => ?_, ?_⟩
  · exact hexS_at ⟨n / 16, by omega⟩
  · exact hexS_at ⟨n % 16, by omega⟩
  · exact qOne_hex ⟨n, by omega⟩ (by simp only; omega)

set_option maxRecDepth 100000 in
set_option maxHeartbeats 12800000 in
theorem refQuote_any (s : ByteArray) (w : World) (hs : s.size ≤ 10000000) :
    Calls Try.prog 9 #[.string s] w fun e w' => e = .returned (.string (str (JsonP.quote (DecP.runes s.data.toList)))) ∧ Below w.heap.size w w' := by
  obtain ⟨rs, hrs⟩ : ∃ rs, DecP.runes s.data.toList = rs := ⟨_, rfl⟩
  have HSc : Hid (∀ r ∈ rs, DecP.Scalar r) := Lib.hid (by rw [← hrs]; exact DecP.runes_scalar _)
  have hlen : rs.length ≤ s.size := by
    have := DecP.runes_len s.data.toList
    rw [Array.length_toList, hrs] at this
    exact this
  have HD : Hid (∀ W, Calls Try.prog 21 #[.string (⟨#[120]⟩ ++ s), .int .i64 1, .bool false] W fun e w' => Below W.heap.size W w' ∧ ∃ Ar cr Ap np cp bad, e = .returned (.tuple #[.agg #[.int .i64 1, .int .i64 bad, .slice Ar (rs.length + 1) cr, .slice Ap np cp], .int .i64 0, .int .i64 0]) ∧ rs.length + 1 ≤ cr ∧ SeqAt Eint w' w'.heap.size Ar (120 :: rs)) := Lib.hid fun W => by
    refine (refDecode_any (xs s) false W (by rw [xs_size]; omega) (xs_mark s)).mono fun e w' h => ?_
    obtain ⟨h1, h2⟩ := h
    simp only [if_neg (show ¬ (false = true) by decide), xs_list, DecP.runes_ascii _ (show (120 : UInt8).toNat < 128 by decide), hrs] at h2
    obtain ⟨a1, a2, a3, a4, a5, a6, a7, a8, a9⟩ := h2
    exact ⟨h1, a1, a2, a3, a4, a5, a6, a7, a8, a9⟩
  rw [hrs]
  have HL := Lib.hid hlen
  clear hrs
  go_enter Try.func9, Try.ntmps9
  go_upto_region 3 with (go_at_call 21; refine (HD.out _).mono ?_; rintro e w3 ⟨hb3, Ar, cr, Ap, np, cp, bad, rfl, hcr, hsq⟩)
  obtain ⟨N, hN⟩ : ∃ N, w3.heap.size = N := ⟨_, rfl⟩
  obtain ⟨g, o, rfl, hgN, -⟩ := hsq (by simp)
  have hz3 := hb3.size
  have hb4 : Below w.heap.size w (w3.alloc (.cells #[.int .i64 1, .int .i64 bad, .slice (some ⟨g, o, none⟩) (rs.length + 1) cr, .slice Ap np cp] 59)) := hb3.alloc hz3 _
  have hs4 : SeqAt Eint (w3.alloc (.cells #[.int .i64 1, .int .i64 bad, .slice (some ⟨g, o, none⟩) (rs.length + 1) cr, .slice Ap np cp] 59)) w3.heap.size (some ⟨g, o, none⟩) (120 :: rs) := hsq.alloc (Nat.le_refl _) _
  have hk4 := heap_alloc_new w3 (.cells #[.int .i64 1, .int .i64 bad, .slice (some ⟨g, o, none⟩) (rs.length + 1) cr, .slice Ap np cp] 59)
  have hN4 : (w3.alloc (.cells #[.int .i64 1, .int .i64 bad, .slice (some ⟨g, o, none⟩) (rs.length + 1) cr, .slice Ap np cp] 59)).heap.size = N + 1 := by simp [hN]
  rw [hN] at hs4 hk4 hz3 hgN ⊢
  generalize w3.alloc (.cells #[.int .i64 1, .int .i64 bad, .slice (some ⟨g, o, none⟩) (rs.length + 1) cr, .slice Ap np cp] 59) = W at hb4 hs4 hk4 hN4 ⊢
  have HR0 : Hid (RqS w (W.alloc (.cells #[.int .u8 34] 5)) N #[.int .i64 1, .int .i64 bad, .slice (some ⟨g, o, none⟩) (rs.length + 1) cr, .slice Ap np cp] g o (120 :: rs) (.slice (some ⟨N + 1, 0, none⟩) 1 1) [34]) := Lib.hid
    ⟨hb4.alloc (by omega) _, hz3, (Lib.alloc_old W _ N (by omega)).trans hk4, hgN, hs4.alloc (by omega) _, BRow.lit W [34] (N + 1) hN4 (Nat.le_refl _) (by decide)⟩
  have HN4 := Lib.hid hN4
  clear hb3 hsq hz3 hb4 hs4 hk4 hN4 hN
  obtain ⟨n, hn⟩ : ∃ n, rs.length = n := ⟨_, rfl⟩
  have HNn := Lib.hid hn
  rw [hn] at hlen HR0 hcr ⊢
  clear hn
  go_upto_region 4 with fail
  rw [HN4.out]
  generalize W.alloc (.cells #[.int .u8 34] 5) = W2 at HR0 ⊢
  go_wp2_with fail
  go_loopw [7, 8] (fun s7 s8 wr => ∃ k : Nat, k ≤ n ∧ s8 = .int .i64 ((k : Int) + 1) ∧ Hid (RqS w wr N #[.int .i64 1, .int .i64 bad, .slice (some ⟨g, o, none⟩) (n + 1) cr, .slice Ap np cp] g o (120 :: rs) s7 (34 :: JsonP.qAll (rs.take k)))) (fun _ s8 _ => n + 2 - (intOf s8).toNat)
  case atStart => exact ⟨0, by omega, rfl, HR0⟩
  case round =>
    obtain ⟨k, hk, rfl, HS⟩ := hrel
    clear HR0
    have hcT : ∀ j, wr.cell? ⟨N, j, none⟩ = #[Value.int .i64 1, .int .i64 bad, .slice (some ⟨g, o, none⟩) (n + 1) cr, .slice Ap np cp][j]? := fun j => Lib.cell_of_heap HS.out.blk j
    obtain ⟨out, hout⟩ : ∃ out, 34 :: JsonP.qAll (rs.take k) = out := ⟨_, rfl⟩
    have hol : out.length ≤ 60000002 := by
      have := JsonP.qAll_len (rs.take k)
      rw [List.length_take] at this
      rw [← hout, List.length_cons]
      have := HNn.out
      omega
    by_cases hlt : k < n
    · have hkr : k < rs.length := by rw [HNn.out]; exact hlt
      have hk1 : (k : Int) + 1 < (n : Int) + 1 := by omega
      have hk0 : (0 : Int) ≤ (k : Int) + 1 := by omega
      have hkt : ((k : Int) + 1).toNat = k + 1 := by omega
      obtain ⟨r, hr⟩ : ∃ r, rs[k] = r := ⟨_, rfl⟩
      have hsc := HSc.out _ (List.getElem_mem hkr)
      have hcr' : wr.cell? ⟨g, o + (k + 1), none⟩ = some (.int .i64 r) := by
        obtain ⟨b', o', e, _, hc⟩ := HS.out.seq.int_ (i := k + 1) (by simp; exact hkr)
        injection e with e
        injection e with e1 e2
        subst e1; subst e2
        rw [hc, List.getElem_cons_succ, hr]
      have HTk : Hid (34 :: JsonP.qAll (rs.take (k + 1)) = out ++ JsonP.qOne r.toNat) := Lib.hid (by
        rw [← hout, List.take_succ_eq_append_getElem hkr, hr, JsonP.qAll_snoc]; rfl)
      rw [hr] at hsc
      rw [hout] at HS
      obtain ⟨hr0, hr1, hr2⟩ := hsc
      clear hr hout hr2
      by_cases hq : r = 34 ∨ r = 92 ∨ r = 8 ∨ r = 9 ∨ r = 10 ∨ r = 12 ∨ r = 13
      · rcases hq with rfl | rfl | rfl | rfl | rfl | rfl | rfl
        · rw [show JsonP.qOne (Int.toNat 34) = [92, 34] from by decide +kernel] at HTk
          go_upto_region 15 with (at_builtin; (refine wpList_append_bytes (base := N + 1) (l := out) [92] wr rfl rfl (.tmp 51) (.tmp 52) rfl rfl HS.out.row 1 rfl rfl (by omega) ?_); intro v5 w5 hr5 hg5; have HS5 := Lib.hid ((HS.out.below ((Below.refl _ wr).alloc (Nat.le_refl _) (.cells #[.int .u8 92] 5))).put hr5 hg5); clear hr5 hg5)
          go_wp2_with (at_builtin; (refine wpList_append_bytes (base := N + 1) (l := out ++ [92]) [34] w5 rfl rfl (.tmp 54) (.tmp 57) rfl rfl HS5.out.row 1 rfl rfl (by rw [List.length_append, List.length_singleton]; omega) ?_); intro v7 w7 hr7 hg7; have HS7 := Lib.hid ((HS5.out.below ((Below.refl _ w5).alloc (Nat.le_refl _) (.cells #[.int .u8 34] 5))).put hr7 hg7); clear hr7 hg7)
          rw [List.append_assoc] at HS7
          exact ⟨⟨k + 1, by omega, by go_num, by rw [HTk.out]; exact HS7⟩, by simp only [intOf]; omega⟩
        · rw [show JsonP.qOne (Int.toNat 92) = [92, 92] from by decide +kernel] at HTk
          go_upto_region 15 with (at_builtin; (refine wpList_append_bytes (base := N + 1) (l := out) [92] wr rfl rfl (.tmp 51) (.tmp 52) rfl rfl HS.out.row 1 rfl rfl (by omega) ?_); intro v5 w5 hr5 hg5; have HS5 := Lib.hid ((HS.out.below ((Below.refl _ wr).alloc (Nat.le_refl _) (.cells #[.int .u8 92] 5))).put hr5 hg5); clear hr5 hg5)
          go_wp2_with (at_builtin; (refine wpList_append_bytes (base := N + 1) (l := out ++ [92]) [92] w5 rfl rfl (.tmp 54) (.tmp 57) rfl rfl HS5.out.row 1 rfl rfl (by rw [List.length_append, List.length_singleton]; omega) ?_); intro v7 w7 hr7 hg7; have HS7 := Lib.hid ((HS5.out.below ((Below.refl _ w5).alloc (Nat.le_refl _) (.cells #[.int .u8 92] 5))).put hr7 hg7); clear hr7 hg7)
          rw [List.append_assoc] at HS7
          exact ⟨⟨k + 1, by omega, by go_num, by rw [HTk.out]; exact HS7⟩, by simp only [intOf]; omega⟩
        · rw [show JsonP.qOne (Int.toNat 8) = [92, 98] from by decide +kernel] at HTk
          go_wp2_with (at_builtin; (refine wpList_append_bytes (base := N + 1) (l := out) [92, 98] wr rfl rfl (.tmp 61) (.tmp 62) rfl rfl HS.out.row 2 rfl rfl (by omega) ?_); intro v7 w7 hr7 hg7; have HS7 := Lib.hid ((HS.out.below ((Below.refl _ wr).alloc (Nat.le_refl _) (.cells #[.int .u8 92, .int .u8 98] 5))).put hr7 hg7); clear hr7 hg7)
          exact ⟨⟨k + 1, by omega, by go_num, by rw [HTk.out]; exact HS7⟩, by simp only [intOf]; omega⟩
        · rw [show JsonP.qOne (Int.toNat 9) = [92, 116] from by decide +kernel] at HTk
          go_wp2_with (at_builtin; (refine wpList_append_bytes (base := N + 1) (l := out) [92, 116] wr rfl rfl (.tmp 66) (.tmp 67) rfl rfl HS.out.row 2 rfl rfl (by omega) ?_); intro v7 w7 hr7 hg7; have HS7 := Lib.hid ((HS.out.below ((Below.refl _ wr).alloc (Nat.le_refl _) (.cells #[.int .u8 92, .int .u8 116] 5))).put hr7 hg7); clear hr7 hg7)
          exact ⟨⟨k + 1, by omega, by go_num, by rw [HTk.out]; exact HS7⟩, by simp only [intOf]; omega⟩
        · rw [show JsonP.qOne (Int.toNat 10) = [92, 110] from by decide +kernel] at HTk
          go_wp2_with (at_builtin; (refine wpList_append_bytes (base := N + 1) (l := out) [92, 110] wr rfl rfl (.tmp 71) (.tmp 72) rfl rfl HS.out.row 2 rfl rfl (by omega) ?_); intro v7 w7 hr7 hg7; have HS7 := Lib.hid ((HS.out.below ((Below.refl _ wr).alloc (Nat.le_refl _) (.cells #[.int .u8 92, .int .u8 110] 5))).put hr7 hg7); clear hr7 hg7)
          exact ⟨⟨k + 1, by omega, by go_num, by rw [HTk.out]; exact HS7⟩, by simp only [intOf]; omega⟩
        · rw [show JsonP.qOne (Int.toNat 12) = [92, 102] from by decide +kernel] at HTk
          go_wp2_with (at_builtin; (refine wpList_append_bytes (base := N + 1) (l := out) [92, 102] wr rfl rfl (.tmp 76) (.tmp 77) rfl rfl HS.out.row 2 rfl rfl (by omega) ?_); intro v7 w7 hr7 hg7; have HS7 := Lib.hid ((HS.out.below ((Below.refl _ wr).alloc (Nat.le_refl _) (.cells #[.int .u8 92, .int .u8 102] 5))).put hr7 hg7); clear hr7 hg7)
          exact ⟨⟨k + 1, by omega, by go_num, by rw [HTk.out]; exact HS7⟩, by simp only [intOf]; omega⟩
        · rw [show JsonP.qOne (Int.toNat 13) = [92, 114] from by decide +kernel] at HTk
          go_wp2_with (at_builtin; (refine wpList_append_bytes (base := N + 1) (l := out) [92, 114] wr rfl rfl (.tmp 81) (.tmp 82) rfl rfl HS.out.row 2 rfl rfl (by omega) ?_); intro v7 w7 hr7 hg7; have HS7 := Lib.hid ((HS.out.below ((Below.refl _ wr).alloc (Nat.le_refl _) (.cells #[.int .u8 92, .int .u8 114] 5))).put hr7 hg7); clear hr7 hg7)
          exact ⟨⟨k + 1, by omega, by go_num, by rw [HTk.out]; exact HS7⟩, by simp only [intOf]; omega⟩
      · by_cases h32 : r < 32
        · obtain ⟨x, y, c1, c2, e1, e2, x0, x1, y0, y1, d1, d2, hm⟩ := hex_parts r hr0 h32 hq
          have hw : IntKind.i64.wrap x = x := IntWalk.i64_in x ⟨by omega, by omega⟩
          rw [hm] at HTk
          have m1 : ¬ r = 34 := by omega
          have m2 : ¬ r = 92 := by omega
          have m3 : ¬ r = 8 := by omega
          have m4 : ¬ r = 9 := by omega
          have m5 : ¬ r = 10 := by omega
          have m6 : ¬ r = 12 := by omega
          have m7 : ¬ r = 13 := by omega
          clear hq
          go_upto_region 10 with fail
          clear m1 m2 m3 m4 m5 m6 m7
          go_region_law (refine step_append_bytes (base := N + 1) (l := out) [92, 117, 48, 48, c1, c2] wr.drew (by rfl) rfl (.tmp 33) (.tmp 42) (by rfl) (by rfl) (by exact HS.out.row) 6 rfl (by rfl) (by omega) ?_; intro v7 w7 hr7 hg7; have HS7 := Lib.hid ((HS.out.below (below_drew_alloc wr (.cells #[.int .u8 92, .int .u8 117, .int .u8 48, .int .u8 48, .int .u8 c1.toNat, .int .u8 c2.toNat] 5))).put hr7 hg7); clear hr7 hg7)
          all_goals
            go_wp2
            exact ⟨⟨k + 1, by omega, by go_num, by rw [HTk.out]; exact HS7⟩, by simp only [intOf]; omega⟩
        · have hbs : JsonP.qOne r.toNat = (strOfNums (encU r)).data.toList := by
            rw [JsonP.qOne_plain (by omega) (by omega) (by omega)]
            have := encB_encU r.toNat
            rw [Int.toNat_of_nonneg hr0] at this
            rw [this]
          have hbl : (strOfNums (encU r)).size ≤ 4 := by
            have := encU_len r
            unfold strOfNums
            simp [ByteArray.size]
            exact this
          have HBy := Lib.hid fun W => refBytes_any r W hr0 hr1
          obtain ⟨q, hq9⟩ : ∃ q, strOfNums (encU r) = q := ⟨_, rfl⟩
          rw [hq9] at hbs hbl HBy
          rw [hbs] at HTk
          have m1 : ¬ r = 34 := by omega
          have m2 : ¬ r = 92 := by omega
          have m3 : ¬ r = 8 := by omega
          have m4 : ¬ r = 9 := by omega
          have m5 : ¬ r = 10 := by omega
          have m6 : ¬ r = 12 := by omega
          have m7 : ¬ r = 13 := by omega
          clear hbs hq9 hq
          go_wp2_with (first
            | (go_at_call 22; (with_reducible refine (HBy.out _).mono ?_); rintro e w5 ⟨rfl, hb5⟩; have HS5 := Lib.hid (HS.out.below hb5); clear hb5)
            | (at_builtin; (refine wpList_append_brow (base := N + 1) (l := out) rfl (.tmp 44) (.tmp 46) rfl rfl HS5.out.row q rfl (by omega) ?_); intro v7 w7 hr7 hg7; have HS7 := Lib.hid (HS5.out.put hr7 hg7); clear hr7 hg7))
          exact ⟨⟨k + 1, by omega, by go_num, by rw [HTk.out]; exact HS7⟩, by simp only [intOf]; omega⟩
    · obtain rfl : k = n := by omega
      have hk1 : ¬ (k : Int) + 1 < (k : Int) + 1 := by omega
      have HT : Hid (out = 34 :: JsonP.qAll rs) := Lib.hid (by rw [← hout, List.take_of_length_le (by rw [HNn.out]; exact Nat.le_refl _)])
      rw [hout] at HS
      clear hout
      go_upto_region 26 with fail
      clear hcT
      go_wp2_with (at_builtin; (refine wpList_append_bytes (base := N + 1) (l := out) [34] wr rfl rfl (.tmp 84) (.tmp 85) rfl rfl HS.out.row 1 rfl rfl (by omega) ?_); intro v7 w7 hr7 hg7; have HS7 := Lib.hid ((HS.out.below ((Below.refl _ wr).alloc (Nat.le_refl _) (.cells #[.int .u8 34] 5))).put hr7 hg7); have hcv := conv_brow HS7.out.row; clear hr7 hg7)
      go_ret
      refine ⟨?_, HS7.out.bel⟩
      rw [HT.out]
      rfl

end Go.Proofs.Ytemcflfgoelpiaa
