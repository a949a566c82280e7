/- The walk of the program's Quote. -/
import Derived.Test.YtemcflfgoelpiaaJsonV
import Derived.Test.YtemcflfgoelpiaaJsonQ
import Derived.Test.YtemcflfgoelpiaaDecX
namespace Go.Proofs.Ytemcflfgoelpiaa
open Go.RowKit

theorem writeByte_num {B b : Nat} {l : List UInt8} {w : World} (x : Int) (h0 : 0 ≤ x) (h1 : x < 256) (h : Bld B b l w) (hlen : l.length + 1 ≤ 140737488355328) (hBw : B ≤ w.heap.size) :
    Calls Try.prog 16 #[.pointer (some ⟨b, 0, none⟩), .int .u8 x] w fun e w' => e = .returned .nilIface ∧ Bld B b (l ++ [UInt8.ofNat x.toNat]) w' ∧ Kept B b w w' :=
  writeByte_any (UInt8.ofNat x.toNat) x (by rw [DecP.u8 (by omega)]; omega) h hlen hBw

/-- What Quote holds in its loop. -/
structure QS (w wr : World) (N g : Nat) (cur : Array Value) (out : List UInt8) : Prop where
  bel : Below N w wr
  bld : Bld N N out wr
  blk : wr.heap[g]? = some (.cells cur 3)
theorem QS.size {w wr : World} {N g : Nat} {cur : Array Value} {out : List UInt8} (h : QS w wr N g cur out) (hN : w.heap.size = N) : N ≤ wr.heap.size := by rw [← hN]; exact h.bel.size
theorem QS.wrote {w wr wx : World} {N g : Nat} {cur : Array Value} {out out' : List UInt8} (h : QS w wr N g cur out) (hg : g ≠ N) (k : Kept N N wr wx) (hb : Bld N N out' wx) : QS w wx N g cur out' :=
  ⟨h.bel.trans k.1, hb, k.2 g _ h.blk (fun e => hg (by injection e)) (fun c fz e => by injection e with _ e; exact absurd e (by decide))⟩
theorem QS.below {w wr wx : World} {N g : Nat} {cur : Array Value} {out : List UInt8} (h : QS w wr N g cur out) (k : Below wr.heap.size wr wx) (hN : w.heap.size = N) : QS w wx N g cur out :=
  ⟨h.bel.trans (k.mono (h.size hN)), h.bld.below k, (k.block g (Array.getElem?_eq_some_iff.1 h.blk).1).trans h.blk⟩

theorem index_short (x : Int) (d : Int) (hd : Lib.indexByte [8, 9, 10, 12, 13] x.toNat.toUInt8 = d) (w : World) : Calls Try.prog 17 #[.string ⟨#[8, 9, 10, 12, 13]⟩, .int .u8 x] w fun e w' => e = .returned (.int .i64 d) ∧ w' = w := by
  have := Try.strings_IndexByte ⟨#[8, 9, 10, 12, 13]⟩ x w
  rw [show Lib.indexByte (ByteArray.mk #[8, 9, 10, 12, 13]).data.toList x.toNat.toUInt8 = d from hd] at this
  exact this

set_option maxRecDepth 100000 in
set_option maxHeartbeats 12800000 in
theorem quote_any (s : ByteArray) (w : World) (hs : s.size ≤ 1000000000) :
    Calls Try.prog 8 #[.string s] w fun e w' => e = .returned (.string (str (JsonP.quote (DecP.runes s.data.toList)))) ∧ Below w.heap.size w w' := by
  obtain ⟨rs, hrs⟩ : ∃ rs, DecP.runes s.data.toList = rs := ⟨_, rfl⟩
  have HSc : Hid (∀ r ∈ rs, DecP.Scalar r) := Lib.hid (by rw [← hrs]; exact DecP.runes_scalar _)
  have hlen : rs.length ≤ s.size := by
    have := DecP.runes_len s.data.toList
    rw [Array.length_toList, hrs] at this
    exact this
  have HD : Hid (∀ W, Calls Try.prog 10 #[.string (⟨#[120]⟩ ++ s), .int .i64 1, .bool false] W fun e w' => Below W.heap.size W w' ∧ ∃ Ar nr cr Ap np cp bad, e = .returned (.tuple #[.agg #[.int .i64 1, .slice Ar nr cr, .slice Ap np cp, .int .i64 bad], .agg #[.int .i64 0, .int .i64 0]]) ∧ Own Eint 3 W w' (.slice Ar nr cr) (120 :: rs)) := Lib.hid fun W => by
    refine (decode_any (xs s) false W (by rw [xs_size]; omega) (xs_mark s)).mono fun e w' h => ?_
    unfold DecEnd badS at h
    rw [xs_list] at h
    obtain ⟨h1, a1, a2, a3, a4, a5, a6, a7, h2, h3, _⟩ := h
    rw [DecP.runes_ascii _ (by decide), hrs] at h3
    exact ⟨h1, a1, a2, a3, a4, a5, a6, a7, h2, h3⟩
  rw [hrs]
  have HB0 := Lib.hid (Bld.new w)
  have HL := Lib.hid hlen
  clear hrs
  go_enter Try.func8, Try.ntmps8
  go_upto_region 4 with (first
    | (go_at_call 16; refine (writeByte_num (B := w.heap.size) (b := w.heap.size) (l := []) _ (by decide) (by decide) HB0.out (by simp) (by simp)).mono ?_; rintro e w1 ⟨rfl, hb1, hk1⟩)
    | (go_at_call 10; refine (HD.out _).mono ?_; rintro e w3 ⟨hb3, Ar, nr, cr, Ap, np, cp, bad, rfl, ho3⟩))
  obtain ⟨N, hN⟩ : ∃ N, w.heap.size = N := ⟨_, rfl⟩
  have HNe := Lib.hid hN
  have hs1 := hk1.1.size
  have hs3 := hb3.size
  rw [hN] at hb1 hk1
  simp only [World.size_alloc] at hs1
  have hbel0 : Below N w (w.alloc (.cells #[.pointer none, .slice none 0 0] 48)) := by rw [← hN]; exact (Below.refl _ w).alloc (Nat.le_refl _) _
  have hbel1 : Below N w w1 := hbel0.trans hk1.1
  obtain ⟨hrl, hform⟩ := ho3.1
  rcases hform with ⟨_, hbad⟩ | ⟨g, cap, cur, hv, hg1, hg2, hg3, hg4, hg5, hg6⟩
  · simp at hbad
  injection hv with h1 h2 h3
  subst h1; subst h2; subst h3
  rw [List.length_cons]
  have hgN : g ≠ N := by omega
  have hcur : ∀ k (hk : k < rs.length), cur[1 + k]? = some (.int .i64 rs[k]) := fun k hk => by
    have h1 : (cur.toList.take ((120 :: rs).length * Eint.k))[1 + k]? = some (.int .i64 rs[k]) := by
      rw [hg6, show (120 :: rs).flatMap Eint.enc = (120 :: rs).map (fun a => Value.int .i64 a) by
        induction (120 :: rs) with
        | nil => rfl
        | cons a l ih => rw [List.flatMap_cons, List.map_cons, ih]; rfl]
      rw [List.getElem?_map, Nat.add_comm, List.getElem?_cons_succ, List.getElem?_eq_getElem hk]
      rfl
    rw [List.getElem?_take] at h1
    split at h1
    · rwa [Array.getElem?_toList] at h1
    · cases h1
  have hq3 : QS w w3 N g cur [34] := ⟨hbel1.trans (hb3.mono (by omega)), hb1.below hb3, hg2⟩
  have hT := heap_alloc_new w3 (.cells #[.int .i64 1, .slice (some ⟨g, 0, none⟩) (rs.length + 1) cr, .slice Ap np cp, .int .i64 bad] 26)
  have hqW := (hq3.below ((Below.refl _ w3).alloc (Nat.le_refl _) (.cells #[.int .i64 1, .slice (some ⟨g, 0, none⟩) (rs.length + 1) cr, .slice Ap np cp, .int .i64 bad] 26)) hN).below ((Below.refl _ _).alloc (Nat.le_refl _) (.cells #[.int .i64 0, .int .i64 0] 29)) hN
  have hTW : ((w3.alloc (.cells #[.int .i64 1, .slice (some ⟨g, 0, none⟩) (rs.length + 1) cr, .slice Ap np cp, .int .i64 bad] 26)).alloc (.cells #[.int .i64 0, .int .i64 0] 29)).heap[w3.heap.size]? = some (.cells #[.int .i64 1, .slice (some ⟨g, 0, none⟩) (rs.length + 1) cr, .slice Ap np cp, .int .i64 bad] 26) := (Below.heap_alloc _ _ _ (by simp)).trans hT
  simp only [List.length_cons] at hg3
  generalize (w3.alloc (.cells #[.int .i64 1, .slice (some ⟨g, 0, none⟩) (rs.length + 1) cr, .slice Ap np cp, .int .i64 bad] 26)).alloc (.cells #[.int .i64 0, .int .i64 0] 29) = W at hqW hTW ⊢
  rw [hN]
  have hcT := fun o => Lib.cell_of_heap hTW o
  have HQ := Lib.hid hqW
  have HCu := Lib.hid hcur
  obtain ⟨n, hn⟩ : ∃ n, rs.length = n := ⟨_, rfl⟩
  have HNn := Lib.hid hn
  rw [hn] at hg3 hlen hcT ⊢
  clear hN hs1 hs3 hb1 hk1 hbel0 hbel1 ho3 hrl hg1 hg2 hg5 hg6 hcur hq3 hT hqW hTW hb3 HB0 hn
  go_cut [17, 18, 19] (fun s17 s18 s19 wx => ∃ (o c' : Nat), s17 = .slice (some ⟨g, o, none⟩) n c' ∧ s18 = .int .i64 n ∧ s19 = .int .i64 0 ∧ (0 < n → o = 1) ∧ wx = W)
  case first =>
    by_cases hc1 : cr = 1
    · subst hc1
      obtain rfl : n = 0 := by omega
      go_wp2
      go_meet
      exact ⟨0, 0, rfl, rfl, rfl, fun h => absurd h (by omega), rfl⟩
    · have hc2 : ¬ (cr : Int) = 1 := by omega
      have hc3 : (1 : Int) ≤ (cr : Int) := by omega
      go_wp2
      go_meet
      exact ⟨1, cr - 1, rfl, rfl, rfl, fun _ => rfl, rfl⟩
  case rest =>
    obtain ⟨o, c', rfl, rfl, rfl, ho, rfl⟩ := hcut
    clear hcT
    go_wp2_with fail
    go_loopw [19] (fun s19 wr => ∃ k : Nat, k ≤ n ∧ s19 = .int .i64 k ∧ Hid (QS w wr N g cur (34 :: JsonP.qAll (rs.take k)))) (fun s19 _ => n + 1 - (intOf s19).toNat)
    case atStart => exact ⟨0, by omega, rfl, HQ⟩
    case round =>
      obtain ⟨k, hk, rfl, HS⟩ := hrel
      by_cases hlt : k < n
      · obtain rfl : o = 1 := ho (by omega)
        have hkr : k < rs.length := by rw [HNn.out]; exact hlt
        obtain ⟨r, hr⟩ : ∃ r, rs[k] = r := ⟨_, rfl⟩
        have hsc := HSc.out _ (List.getElem_mem hkr)
        have hcell : wr.cell? ⟨g, 1 + k, none⟩ = some (.int .i64 r) := (Lib.cell_of_heap HS.out.blk (1 + k)).trans (by rw [← hr]; exact HCu.out k hkr)
        have HTk : Hid (34 :: JsonP.qAll (rs.take (k + 1)) = (34 :: JsonP.qAll (rs.take k)) ++ JsonP.qOne r.toNat) := Lib.hid (by
          rw [List.take_succ_eq_append_getElem hkr, hr, JsonP.qAll_snoc]; rfl)
        have hol := JsonP.qAll_len (rs.take k)
        rw [List.length_take] at hol
        rw [hr] at hsc
        obtain ⟨out, hout⟩ : ∃ out, 34 :: JsonP.qAll (rs.take k) = out := ⟨_, rfl⟩
        have HOl : Hid (out.length ≤ 6000000002) := Lib.hid (by rw [← hout, List.length_cons]; omega)
        rw [hout] at HS HTk
        have hkk : (k : Int) < (n : Int) := by omega
        have hk0 : (0 : Int) ≤ (k : Int) := by omega
        obtain ⟨hr0, hr1, hr2⟩ := hsc
        have HSr : Hid (DecP.Scalar r) := Lib.hid ⟨hr0, hr1, hr2⟩
        have tk1 : True := trivial
        have tk2 : True := trivial
        clear hr hol hout hr2
        have hsplit : (r = 34 ∨ r = 92) ∨ (0 ≤ r ∧ r < 32) ∨ (32 ≤ r ∧ r ≠ 34 ∧ r ≠ 92) := by omega
        rcases hsplit with hq | hq | hq
        · rcases hq with rfl | rfl
          · have HRk : Hid (out ++ JsonP.qOne (Int.toNat 34) = out ++ [UInt8.ofNat (Int.toNat 92)] ++ [UInt8.ofNat (Int.toNat 34)]) := Lib.hid (by rw [List.append_assoc]; rfl)
            go_wp2_with (first
              | (go_at_call 16; clear tk1; refine (writeByte_num (B := N) (b := N) (l := out) _ (by first | decide | omega) (by first | decide | omega) HS.out.bld (by have := HOl.out; (try simp only [List.length_append, List.length_cons, List.length_nil, List.toList_toArray]); omega) (HS.out.size HNe.out)).mono ?_; rintro e w4 ⟨rfl, hb5, hk5⟩; have HS1 := Lib.hid (HS.out.wrote hgN hk5 hb5); clear hb5 hk5)
              | (go_at_call 16; refine (writeByte_num (B := N) (b := N) (l := out ++ [UInt8.ofNat (Int.toNat 92)]) _ (by first | decide | omega) (by first | decide | omega) HS1.out.bld (by have := HOl.out; (try simp only [List.length_append, List.length_cons, List.length_nil]); omega) (HS1.out.size HNe.out)).mono ?_; rintro e w6 ⟨rfl, hb5, hk5⟩; have HS2 := Lib.hid (HS1.out.wrote hgN hk5 hb5); clear hb5 hk5))
            go_roundw
            case rel => exact ⟨k + 1, by omega, by go_num, Lib.hid (by rw [HTk.out, HRk.out]; exact HS2.out)⟩
            case measure => simp [intOf]; omega
          · have HRk : Hid (out ++ JsonP.qOne (Int.toNat 92) = out ++ [UInt8.ofNat (Int.toNat 92)] ++ [UInt8.ofNat (Int.toNat 92)]) := Lib.hid (by rw [List.append_assoc]; rfl)
            go_wp2_with (first
              | (go_at_call 16; clear tk1; refine (writeByte_num (B := N) (b := N) (l := out) _ (by first | decide | omega) (by first | decide | omega) HS.out.bld (by have := HOl.out; (try simp only [List.length_append, List.length_cons, List.length_nil, List.toList_toArray]); omega) (HS.out.size HNe.out)).mono ?_; rintro e w4 ⟨rfl, hb5, hk5⟩; have HS1 := Lib.hid (HS.out.wrote hgN hk5 hb5); clear hb5 hk5)
              | (go_at_call 16; refine (writeByte_num (B := N) (b := N) (l := out ++ [UInt8.ofNat (Int.toNat 92)]) _ (by first | decide | omega) (by first | decide | omega) HS1.out.bld (by have := HOl.out; (try simp only [List.length_append, List.length_cons, List.length_nil]); omega) (HS1.out.size HNe.out)).mono ?_; rintro e w6 ⟨rfl, hb5, hk5⟩; have HS2 := Lib.hid (HS1.out.wrote hgN hk5 hb5); clear hb5 hk5))
            go_roundw
            case rel => exact ⟨k + 1, by omega, by go_num, Lib.hid (by rw [HTk.out, HRk.out]; exact HS2.out)⟩
            case measure => simp [intOf]; omega
        · have hall : r = 0 ∨ r = 1 ∨ r = 2 ∨ r = 3 ∨ r = 4 ∨ r = 5 ∨ r = 6 ∨ r = 7 ∨ r = 8 ∨ r = 9 ∨ r = 10 ∨ r = 11 ∨ r = 12 ∨ r = 13 ∨ r = 14 ∨ r = 15 ∨ r = 16 ∨ r = 17 ∨ r = 18 ∨ r = 19 ∨ r = 20 ∨ r = 21 ∨ r = 22 ∨ r = 23 ∨ r = 24 ∨ r = 25 ∨ r = 26 ∨ r = 27 ∨ r = 28 ∨ r = 29 ∨ r = 30 ∨ r = 31 := by omega
          clear hq hr0 hr1
          rcases hall with rfl | rfl | rfl | rfl | rfl | rfl | rfl | rfl | rfl | rfl | rfl | rfl | rfl | rfl | rfl | rfl | rfl | rfl | rfl | rfl | rfl | rfl | rfl | rfl | rfl | rfl | rfl | rfl | rfl | rfl | rfl | rfl
          · have HRk : Hid (out ++ JsonP.qOne (Int.toNat 0) = out ++ (ByteArray.mk #[92, 117, 48, 48]).data.toList ++ [UInt8.ofNat (Int.toNat 48)] ++ [UInt8.ofNat (Int.toNat 48)]) := Lib.hid (by rw [List.append_assoc, List.append_assoc]; rfl)
            have h15 : bits BinOp.and IntKind.i64 0 15 = 0 := by decide +kernel
            go_wp2_with (first
              | (go_at_call 17; refine (index_short 0 (-1) rfl _).mono ?_; rintro e w5 ⟨rfl, rfl⟩)
              | (go_at_call 18; refine (writeString_any (B := N) (b := N) (l := out) ⟨#[92, 117, 48, 48]⟩ HS.out.bld (by have := HOl.out; show out.length + 4 ≤ _; omega) (HS.out.size HNe.out)).mono ?_; rintro e w4 ⟨rfl, hb5, hk5⟩; have HS1 := Lib.hid (HS.out.wrote hgN hk5 hb5); clear hb5 hk5)
              | (go_at_call 16; clear tk1; refine (writeByte_num (B := N) (b := N) (l := out ++ (ByteArray.mk #[92, 117, 48, 48]).data.toList) _ (by first | decide | omega) (by first | decide | omega) HS1.out.bld (by have := HOl.out; (try simp only [List.length_append, List.length_cons, List.length_nil]); omega) (HS1.out.size HNe.out)).mono ?_; rintro e w6 ⟨rfl, hb5, hk5⟩; have HS2 := Lib.hid (HS1.out.wrote hgN hk5 hb5); clear hb5 hk5)
              | (go_at_call 16; refine (writeByte_num (B := N) (b := N) (l := out ++ (ByteArray.mk #[92, 117, 48, 48]).data.toList ++ [UInt8.ofNat (Int.toNat 48)]) _ (by first | decide | omega) (by first | decide | omega) HS2.out.bld (by have := HOl.out; (try simp only [List.length_append, List.length_cons, List.length_nil]); omega) (HS2.out.size HNe.out)).mono ?_; rintro e w7 ⟨rfl, hb5, hk5⟩; have HS3 := Lib.hid (HS2.out.wrote hgN hk5 hb5); clear hb5 hk5))
            go_roundw
            case rel => exact ⟨k + 1, by omega, by go_num, Lib.hid (by rw [HTk.out, HRk.out]; exact HS3.out)⟩
            case measure => simp [intOf]; omega
          · have HRk : Hid (out ++ JsonP.qOne (Int.toNat 1) = out ++ (ByteArray.mk #[92, 117, 48, 48]).data.toList ++ [UInt8.ofNat (Int.toNat 48)] ++ [UInt8.ofNat (Int.toNat 49)]) := Lib.hid (by rw [List.append_assoc, List.append_assoc]; rfl)
            have h15 : bits BinOp.and IntKind.i64 1 15 = 1 := by decide +kernel
            go_wp2_with (first
              | (go_at_call 17; refine (index_short 1 (-1) rfl _).mono ?_; rintro e w5 ⟨rfl, rfl⟩)
              | (go_at_call 18; refine (writeString_any (B := N) (b := N) (l := out) ⟨#[92, 117, 48, 48]⟩ HS.out.bld (by have := HOl.out; show out.length + 4 ≤ _; omega) (HS.out.size HNe.out)).mono ?_; rintro e w4 ⟨rfl, hb5, hk5⟩; have HS1 := Lib.hid (HS.out.wrote hgN hk5 hb5); clear hb5 hk5)
              | (go_at_call 16; clear tk1; refine (writeByte_num (B := N) (b := N) (l := out ++ (ByteArray.mk #[92, 117, 48, 48]).data.toList) _ (by first | decide | omega) (by first | decide | omega) HS1.out.bld (by have := HOl.out; (try simp only [List.length_append, List.length_cons, List.length_nil]); omega) (HS1.out.size HNe.out)).mono ?_; rintro e w6 ⟨rfl, hb5, hk5⟩; have HS2 := Lib.hid (HS1.out.wrote hgN hk5 hb5); clear hb5 hk5)
              | (go_at_call 16; refine (writeByte_num (B := N) (b := N) (l := out ++ (ByteArray.mk #[92, 117, 48, 48]).data.toList ++ [UInt8.ofNat (Int.toNat 48)]) _ (by first | decide | omega) (by first | decide | omega) HS2.out.bld (by have := HOl.out; (try simp only [List.length_append, List.length_cons, List.length_nil]); omega) (HS2.out.size HNe.out)).mono ?_; rintro e w7 ⟨rfl, hb5, hk5⟩; have HS3 := Lib.hid (HS2.out.wrote hgN hk5 hb5); clear hb5 hk5))
            go_roundw
            case rel => exact ⟨k + 1, by omega, by go_num, Lib.hid (by rw [HTk.out, HRk.out]; exact HS3.out)⟩
            case measure => simp [intOf]; omega
          · have HRk : Hid (out ++ JsonP.qOne (Int.toNat 2) = out ++ (ByteArray.mk #[92, 117, 48, 48]).data.toList ++ [UInt8.ofNat (Int.toNat 48)] ++ [UInt8.ofNat (Int.toNat 50)]) := Lib.hid (by rw [List.append_assoc, List.append_assoc]; rfl)
            have h15 : bits BinOp.and IntKind.i64 2 15 = 2 := by decide +kernel
            go_wp2_with (first
              | (go_at_call 17; refine (index_short 2 (-1) rfl _).mono ?_; rintro e w5 ⟨rfl, rfl⟩)
              | (go_at_call 18; refine (writeString_any (B := N) (b := N) (l := out) ⟨#[92, 117, 48, 48]⟩ HS.out.bld (by have := HOl.out; show out.length + 4 ≤ _; omega) (HS.out.size HNe.out)).mono ?_; rintro e w4 ⟨rfl, hb5, hk5⟩; have HS1 := Lib.hid (HS.out.wrote hgN hk5 hb5); clear hb5 hk5)
              | (go_at_call 16; clear tk1; refine (writeByte_num (B := N) (b := N) (l := out ++ (ByteArray.mk #[92, 117, 48, 48]).data.toList) _ (by first | decide | omega) (by first | decide | omega) HS1.out.bld (by have := HOl.out; (try simp only [List.length_append, List.length_cons, List.length_nil]); omega) (HS1.out.size HNe.out)).mono ?_; rintro e w6 ⟨rfl, hb5, hk5⟩; have HS2 := Lib.hid (HS1.out.wrote hgN hk5 hb5); clear hb5 hk5)
              | (go_at_call 16; refine (writeByte_num (B := N) (b := N) (l := out ++ (ByteArray.mk #[92, 117, 48, 48]).data.toList ++ [UInt8.ofNat (Int.toNat 48)]) _ (by first | decide | omega) (by first | decide | omega) HS2.out.bld (by have := HOl.out; (try simp only [List.length_append, List.length_cons, List.length_nil]); omega) (HS2.out.size HNe.out)).mono ?_; rintro e w7 ⟨rfl, hb5, hk5⟩; have HS3 := Lib.hid (HS2.out.wrote hgN hk5 hb5); clear hb5 hk5))
            go_roundw
            case rel => exact ⟨k + 1, by omega, by go_num, Lib.hid (by rw [HTk.out, HRk.out]; exact HS3.out)⟩
            case measure => simp [intOf]; omega
          · have HRk : Hid (out ++ JsonP.qOne (Int.toNat 3) = out ++ (ByteArray.mk #[92, 117, 48, 48]).data.toList ++ [UInt8.ofNat (Int.toNat 48)] ++ [UInt8.ofNat (Int.toNat 51)]) := Lib.hid (by rw [List.append_assoc, List.append_assoc]; rfl)
            have h15 : bits BinOp.and IntKind.i64 3 15 = 3 := by decide +kernel
            go_wp2_with (first
              | (go_at_call 17; refine (index_short 3 (-1) rfl _).mono ?_; rintro e w5 ⟨rfl, rfl⟩)
              | (go_at_call 18; refine (writeString_any (B := N) (b := N) (l := out) ⟨#[92, 117, 48, 48]⟩ HS.out.bld (by have := HOl.out; show out.length + 4 ≤ _; omega) (HS.out.size HNe.out)).mono ?_; rintro e w4 ⟨rfl, hb5, hk5⟩; have HS1 := Lib.hid (HS.out.wrote hgN hk5 hb5); clear hb5 hk5)
              | (go_at_call 16; clear tk1; refine (writeByte_num (B := N) (b := N) (l := out ++ (ByteArray.mk #[92, 117, 48, 48]).data.toList) _ (by first | decide | omega) (by first | decide | omega) HS1.out.bld (by have := HOl.out; (try simp only [List.length_append, List.length_cons, List.length_nil]); omega) (HS1.out.size HNe.out)).mono ?_; rintro e w6 ⟨rfl, hb5, hk5⟩; have HS2 := Lib.hid (HS1.out.wrote hgN hk5 hb5); clear hb5 hk5)
              | (go_at_call 16; refine (writeByte_num (B := N) (b := N) (l := out ++ (ByteArray.mk #[92, 117, 48, 48]).data.toList ++ [UInt8.ofNat (Int.toNat 48)]) _ (by first | decide | omega) (by first | decide | omega) HS2.out.bld (by have := HOl.out; (try simp only [List.length_append, List.length_cons, List.length_nil]); omega) (HS2.out.size HNe.out)).mono ?_; rintro e w7 ⟨rfl, hb5, hk5⟩; have HS3 := Lib.hid (HS2.out.wrote hgN hk5 hb5); clear hb5 hk5))
            go_roundw
            case rel => exact ⟨k + 1, by omega, by go_num, Lib.hid (by rw [HTk.out, HRk.out]; exact HS3.out)⟩
            case measure => simp [intOf]; omega
          · have HRk : Hid (out ++ JsonP.qOne (Int.toNat 4) = out ++ (ByteArray.mk #[92, 117, 48, 48]).data.toList ++ [UInt8.ofNat (Int.toNat 48)] ++ [UInt8.ofNat (Int.toNat 52)]) := Lib.hid (by rw [List.append_assoc, List.append_assoc]; rfl)
            have h15 : bits BinOp.and IntKind.i64 4 15 = 4 := by decide +kernel
            go_wp2_with (first
              | (go_at_call 17; refine (index_short 4 (-1) rfl _).mono ?_; rintro e w5 ⟨rfl, rfl⟩)
              | (go_at_call 18; refine (writeString_any (B := N) (b := N) (l := out) ⟨#[92, 117, 48, 48]⟩ HS.out.bld (by have := HOl.out; show out.length + 4 ≤ _; omega) (HS.out.size HNe.out)).mono ?_; rintro e w4 ⟨rfl, hb5, hk5⟩; have HS1 := Lib.hid (HS.out.wrote hgN hk5 hb5); clear hb5 hk5)
              | (go_at_call 16; clear tk1; refine (writeByte_num (B := N) (b := N) (l := out ++ (ByteArray.mk #[92, 117, 48, 48]).data.toList) _ (by first | decide | omega) (by first | decide | omega) HS1.out.bld (by have := HOl.out; (try simp only [List.length_append, List.length_cons, List.length_nil]); omega) (HS1.out.size HNe.out)).mono ?_; rintro e w6 ⟨rfl, hb5, hk5⟩; have HS2 := Lib.hid (HS1.out.wrote hgN hk5 hb5); clear hb5 hk5)
              | (go_at_call 16; refine (writeByte_num (B := N) (b := N) (l := out ++ (ByteArray.mk #[92, 117, 48, 48]).data.toList ++ [UInt8.ofNat (Int.toNat 48)]) _ (by first | decide | omega) (by first | decide | omega) HS2.out.bld (by have := HOl.out; (try simp only [List.length_append, List.length_cons, List.length_nil]); omega) (HS2.out.size HNe.out)).mono ?_; rintro e w7 ⟨rfl, hb5, hk5⟩; have HS3 := Lib.hid (HS2.out.wrote hgN hk5 hb5); clear hb5 hk5))
            go_roundw
            case rel => exact ⟨k + 1, by omega, by go_num, Lib.hid (by rw [HTk.out, HRk.out]; exact HS3.out)⟩
            case measure => simp [intOf]; omega
          · have HRk : Hid (out ++ JsonP.qOne (Int.toNat 5) = out ++ (ByteArray.mk #[92, 117, 48, 48]).data.toList ++ [UInt8.ofNat (Int.toNat 48)] ++ [UInt8.ofNat (Int.toNat 53)]) := Lib.hid (by rw [List.append_assoc, List.append_assoc]; rfl)
            have h15 : bits BinOp.and IntKind.i64 5 15 = 5 := by decide +kernel
            go_wp2_with (first
              | (go_at_call 17; refine (index_short 5 (-1) rfl _).mono ?_; rintro e w5 ⟨rfl, rfl⟩)
              | (go_at_call 18; refine (writeString_any (B := N) (b := N) (l := out) ⟨#[92, 117, 48, 48]⟩ HS.out.bld (by have := HOl.out; show out.length + 4 ≤ _; omega) (HS.out.size HNe.out)).mono ?_; rintro e w4 ⟨rfl, hb5, hk5⟩; have HS1 := Lib.hid (HS.out.wrote hgN hk5 hb5); clear hb5 hk5)
              | (go_at_call 16; clear tk1; refine (writeByte_num (B := N) (b := N) (l := out ++ (ByteArray.mk #[92, 117, 48, 48]).data.toList) _ (by first | decide | omega) (by first | decide | omega) HS1.out.bld (by have := HOl.out; (try simp only [List.length_append, List.length_cons, List.length_nil]); omega) (HS1.out.size HNe.out)).mono ?_; rintro e w6 ⟨rfl, hb5, hk5⟩; have HS2 := Lib.hid (HS1.out.wrote hgN hk5 hb5); clear hb5 hk5)
              | (go_at_call 16; refine (writeByte_num (B := N) (b := N) (l := out ++ (ByteArray.mk #[92, 117, 48, 48]).data.toList ++ [UInt8.ofNat (Int.toNat 48)]) _ (by first | decide | omega) (by first | decide | omega) HS2.out.bld (by have := HOl.out; (try simp only [List.length_append, List.length_cons, List.length_nil]); omega) (HS2.out.size HNe.out)).mono ?_; rintro e w7 ⟨rfl, hb5, hk5⟩; have HS3 := Lib.hid (HS2.out.wrote hgN hk5 hb5); clear hb5 hk5))
            go_roundw
            case rel => exact ⟨k + 1, by omega, by go_num, Lib.hid (by rw [HTk.out, HRk.out]; exact HS3.out)⟩
            case measure => simp [intOf]; omega
          · have HRk : Hid (out ++ JsonP.qOne (Int.toNat 6) = out ++ (ByteArray.mk #[92, 117, 48, 48]).data.toList ++ [UInt8.ofNat (Int.toNat 48)] ++ [UInt8.ofNat (Int.toNat 54)]) := Lib.hid (by rw [List.append_assoc, List.append_assoc]; rfl)
            have h15 : bits BinOp.and IntKind.i64 6 15 = 6 := by decide +kernel
            go_wp2_with (first
              | (go_at_call 17; refine (index_short 6 (-1) rfl _).mono ?_; rintro e w5 ⟨rfl, rfl⟩)
              | (go_at_call 18; refine (writeString_any (B := N) (b := N) (l := out) ⟨#[92, 117, 48, 48]⟩ HS.out.bld (by have := HOl.out; show out.length + 4 ≤ _; omega) (HS.out.size HNe.out)).mono ?_; rintro e w4 ⟨rfl, hb5, hk5⟩; have HS1 := Lib.hid (HS.out.wrote hgN hk5 hb5); clear hb5 hk5)
              | (go_at_call 16; clear tk1; refine (writeByte_num (B := N) (b := N) (l := out ++ (ByteArray.mk #[92, 117, 48, 48]).data.toList) _ (by first | decide | omega) (by first | decide | omega) HS1.out.bld (by have := HOl.out; (try simp only [List.length_append, List.length_cons, List.length_nil]); omega) (HS1.out.size HNe.out)).mono ?_; rintro e w6 ⟨rfl, hb5, hk5⟩; have HS2 := Lib.hid (HS1.out.wrote hgN hk5 hb5); clear hb5 hk5)
              | (go_at_call 16; refine (writeByte_num (B := N) (b := N) (l := out ++ (ByteArray.mk #[92, 117, 48, 48]).data.toList ++ [UInt8.ofNat (Int.toNat 48)]) _ (by first | decide | omega) (by first | decide | omega) HS2.out.bld (by have := HOl.out; (try simp only [List.length_append, List.length_cons, List.length_nil]); omega) (HS2.out.size HNe.out)).mono ?_; rintro e w7 ⟨rfl, hb5, hk5⟩; have HS3 := Lib.hid (HS2.out.wrote hgN hk5 hb5); clear hb5 hk5))
            go_roundw
            case rel => exact ⟨k + 1, by omega, by go_num, Lib.hid (by rw [HTk.out, HRk.out]; exact HS3.out)⟩
            case measure => simp [intOf]; omega
          · have HRk : Hid (out ++ JsonP.qOne (Int.toNat 7) = out ++ (ByteArray.mk #[92, 117, 48, 48]).data.toList ++ [UInt8.ofNat (Int.toNat 48)] ++ [UInt8.ofNat (Int.toNat 55)]) := Lib.hid (by rw [List.append_assoc, List.append_assoc]; rfl)
            have h15 : bits BinOp.and IntKind.i64 7 15 = 7 := by decide +kernel
            go_wp2_with (first
              | (go_at_call 17; refine (index_short 7 (-1) rfl _).mono ?_; rintro e w5 ⟨rfl, rfl⟩)
              | (go_at_call 18; refine (writeString_any (B := N) (b := N) (l := out) ⟨#[92, 117, 48, 48]⟩ HS.out.bld (by have := HOl.out; show out.length + 4 ≤ _; omega) (HS.out.size HNe.out)).mono ?_; rintro e w4 ⟨rfl, hb5, hk5⟩; have HS1 := Lib.hid (HS.out.wrote hgN hk5 hb5); clear hb5 hk5)
              | (go_at_call 16; clear tk1; refine (writeByte_num (B := N) (b := N) (l := out ++ (ByteArray.mk #[92, 117, 48, 48]).data.toList) _ (by first | decide | omega) (by first | decide | omega) HS1.out.bld (by have := HOl.out; (try simp only [List.length_append, List.length_cons, List.length_nil]); omega) (HS1.out.size HNe.out)).mono ?_; rintro e w6 ⟨rfl, hb5, hk5⟩; have HS2 := Lib.hid (HS1.out.wrote hgN hk5 hb5); clear hb5 hk5)
              | (go_at_call 16; refine (writeByte_num (B := N) (b := N) (l := out ++ (ByteArray.mk #[92, 117, 48, 48]).data.toList ++ [UInt8.ofNat (Int.toNat 48)]) _ (by first | decide | omega) (by first | decide | omega) HS2.out.bld (by have := HOl.out; (try simp only [List.length_append, List.length_cons, List.length_nil]); omega) (HS2.out.size HNe.out)).mono ?_; rintro e w7 ⟨rfl, hb5, hk5⟩; have HS3 := Lib.hid (HS2.out.wrote hgN hk5 hb5); clear hb5 hk5))
            go_roundw
            case rel => exact ⟨k + 1, by omega, by go_num, Lib.hid (by rw [HTk.out, HRk.out]; exact HS3.out)⟩
            case measure => simp [intOf]; omega
          · have HRk : Hid (out ++ JsonP.qOne (Int.toNat 8) = out ++ [UInt8.ofNat (Int.toNat 92)] ++ [UInt8.ofNat (Int.toNat 98)]) := Lib.hid (by rw [List.append_assoc]; rfl)
            go_wp2_with (first
              | (go_at_call 17; refine (index_short 8 0 rfl _).mono ?_; rintro e w5 ⟨rfl, rfl⟩)
              | (go_at_call 16; clear tk1; refine (writeByte_num (B := N) (b := N) (l := out) _ (by first | decide | omega) (by first | decide | omega) HS.out.bld (by have := HOl.out; (try simp only [List.length_append, List.length_cons, List.length_nil, List.toList_toArray]); omega) (HS.out.size HNe.out)).mono ?_; rintro e w4 ⟨rfl, hb5, hk5⟩; have HS1 := Lib.hid (HS.out.wrote hgN hk5 hb5); clear hb5 hk5)
              | (go_at_call 16; refine (writeByte_num (B := N) (b := N) (l := out ++ [UInt8.ofNat (Int.toNat 92)]) _ (by first | decide | omega) (by first | decide | omega) HS1.out.bld (by have := HOl.out; (try simp only [List.length_append, List.length_cons, List.length_nil]); omega) (HS1.out.size HNe.out)).mono ?_; rintro e w6 ⟨rfl, hb5, hk5⟩; have HS2 := Lib.hid (HS1.out.wrote hgN hk5 hb5); clear hb5 hk5))
            go_roundw
            case rel => exact ⟨k + 1, by omega, by go_num, Lib.hid (by rw [HTk.out, HRk.out]; exact HS2.out)⟩
            case measure => simp [intOf]; omega
          · have HRk : Hid (out ++ JsonP.qOne (Int.toNat 9) = out ++ [UInt8.ofNat (Int.toNat 92)] ++ [UInt8.ofNat (Int.toNat 116)]) := Lib.hid (by rw [List.append_assoc]; rfl)
            go_wp2_with (first
              | (go_at_call 17; refine (index_short 9 1 rfl _).mono ?_; rintro e w5 ⟨rfl, rfl⟩)
              | (go_at_call 16; clear tk1; refine (writeByte_num (B := N) (b := N) (l := out) _ (by first | decide | omega) (by first | decide | omega) HS.out.bld (by have := HOl.out; (try simp only [List.length_append, List.length_cons, List.length_nil, List.toList_toArray]); omega) (HS.out.size HNe.out)).mono ?_; rintro e w4 ⟨rfl, hb5, hk5⟩; have HS1 := Lib.hid (HS.out.wrote hgN hk5 hb5); clear hb5 hk5)
              | (go_at_call 16; refine (writeByte_num (B := N) (b := N) (l := out ++ [UInt8.ofNat (Int.toNat 92)]) _ (by first | decide | omega) (by first | decide | omega) HS1.out.bld (by have := HOl.out; (try simp only [List.length_append, List.length_cons, List.length_nil]); omega) (HS1.out.size HNe.out)).mono ?_; rintro e w6 ⟨rfl, hb5, hk5⟩; have HS2 := Lib.hid (HS1.out.wrote hgN hk5 hb5); clear hb5 hk5))
            go_roundw
            case rel => exact ⟨k + 1, by omega, by go_num, Lib.hid (by rw [HTk.out, HRk.out]; exact HS2.out)⟩
            case measure => simp [intOf]; omega
          · have HRk : Hid (out ++ JsonP.qOne (Int.toNat 10) = out ++ [UInt8.ofNat (Int.toNat 92)] ++ [UInt8.ofNat (Int.toNat 110)]) := Lib.hid (by rw [List.append_assoc]; rfl)
            go_wp2_with (first
              | (go_at_call 17; refine (index_short 10 2 rfl _).mono ?_; rintro e w5 ⟨rfl, rfl⟩)
              | (go_at_call 16; clear tk1; refine (writeByte_num (B := N) (b := N) (l := out) _ (by first | decide | omega) (by first | decide | omega) HS.out.bld (by have := HOl.out; (try simp only [List.length_append, List.length_cons, List.length_nil, List.toList_toArray]); omega) (HS.out.size HNe.out)).mono ?_; rintro e w4 ⟨rfl, hb5, hk5⟩; have HS1 := Lib.hid (HS.out.wrote hgN hk5 hb5); clear hb5 hk5)
              | (go_at_call 16; refine (writeByte_num (B := N) (b := N) (l := out ++ [UInt8.ofNat (Int.toNat 92)]) _ (by first | decide | omega) (by first | decide | omega) HS1.out.bld (by have := HOl.out; (try simp only [List.length_append, List.length_cons, List.length_nil]); omega) (HS1.out.size HNe.out)).mono ?_; rintro e w6 ⟨rfl, hb5, hk5⟩; have HS2 := Lib.hid (HS1.out.wrote hgN hk5 hb5); clear hb5 hk5))
            go_roundw
            case rel => exact ⟨k + 1, by omega, by go_num, Lib.hid (by rw [HTk.out, HRk.out]; exact HS2.out)⟩
            case measure => simp [intOf]; omega
          · have HRk : Hid (out ++ JsonP.qOne (Int.toNat 11) = out ++ (ByteArray.mk #[92, 117, 48, 48]).data.toList ++ [UInt8.ofNat (Int.toNat 48)] ++ [UInt8.ofNat (Int.toNat 98)]) := Lib.hid (by rw [List.append_assoc, List.append_assoc]; rfl)
            have h15 : bits BinOp.and IntKind.i64 11 15 = 11 := by decide +kernel
            go_wp2_with (first
              | (go_at_call 17; refine (index_short 11 (-1) rfl _).mono ?_; rintro e w5 ⟨rfl, rfl⟩)
              | (go_at_call 18; refine (writeString_any (B := N) (b := N) (l := out) ⟨#[92, 117, 48, 48]⟩ HS.out.bld (by have := HOl.out; show out.length + 4 ≤ _; omega) (HS.out.size HNe.out)).mono ?_; rintro e w4 ⟨rfl, hb5, hk5⟩; have HS1 := Lib.hid (HS.out.wrote hgN hk5 hb5); clear hb5 hk5)
              | (go_at_call 16; clear tk1; refine (writeByte_num (B := N) (b := N) (l := out ++ (ByteArray.mk #[92, 117, 48, 48]).data.toList) _ (by first | decide | omega) (by first | decide | omega) HS1.out.bld (by have := HOl.out; (try simp only [List.length_append, List.length_cons, List.length_nil]); omega) (HS1.out.size HNe.out)).mono ?_; rintro e w6 ⟨rfl, hb5, hk5⟩; have HS2 := Lib.hid (HS1.out.wrote hgN hk5 hb5); clear hb5 hk5)
              | (go_at_call 16; refine (writeByte_num (B := N) (b := N) (l := out ++ (ByteArray.mk #[92, 117, 48, 48]).data.toList ++ [UInt8.ofNat (Int.toNat 48)]) _ (by first | decide | omega) (by first | decide | omega) HS2.out.bld (by have := HOl.out; (try simp only [List.length_append, List.length_cons, List.length_nil]); omega) (HS2.out.size HNe.out)).mono ?_; rintro e w7 ⟨rfl, hb5, hk5⟩; have HS3 := Lib.hid (HS2.out.wrote hgN hk5 hb5); clear hb5 hk5))
            go_roundw
            case rel => exact ⟨k + 1, by omega, by go_num, Lib.hid (by rw [HTk.out, HRk.out]; exact HS3.out)⟩
            case measure => simp [intOf]; omega
          · have HRk : Hid (out ++ JsonP.qOne (Int.toNat 12) = out ++ [UInt8.ofNat (Int.toNat 92)] ++ [UInt8.ofNat (Int.toNat 102)]) := Lib.hid (by rw [List.append_assoc]; rfl)
            go_wp2_with (first
              | (go_at_call 17; refine (index_short 12 3 rfl _).mono ?_; rintro e w5 ⟨rfl, rfl⟩)
              | (go_at_call 16; clear tk1; refine (writeByte_num (B := N) (b := N) (l := out) _ (by first | decide | omega) (by first | decide | omega) HS.out.bld (by have := HOl.out; (try simp only [List.length_append, List.length_cons, List.length_nil, List.toList_toArray]); omega) (HS.out.size HNe.out)).mono ?_; rintro e w4 ⟨rfl, hb5, hk5⟩; have HS1 := Lib.hid (HS.out.wrote hgN hk5 hb5); clear hb5 hk5)
              | (go_at_call 16; refine (writeByte_num (B := N) (b := N) (l := out ++ [UInt8.ofNat (Int.toNat 92)]) _ (by first | decide | omega) (by first | decide | omega) HS1.out.bld (by have := HOl.out; (try simp only [List.length_append, List.length_cons, List.length_nil]); omega) (HS1.out.size HNe.out)).mono ?_; rintro e w6 ⟨rfl, hb5, hk5⟩; have HS2 := Lib.hid (HS1.out.wrote hgN hk5 hb5); clear hb5 hk5))
            go_roundw
            case rel => exact ⟨k + 1, by omega, by go_num, Lib.hid (by rw [HTk.out, HRk.out]; exact HS2.out)⟩
            case measure => simp [intOf]; omega
          · have HRk : Hid (out ++ JsonP.qOne (Int.toNat 13) = out ++ [UInt8.ofNat (Int.toNat 92)] ++ [UInt8.ofNat (Int.toNat 114)]) := Lib.hid (by rw [List.append_assoc]; rfl)
            go_wp2_with (first
              | (go_at_call 17; refine (index_short 13 4 rfl _).mono ?_; rintro e w5 ⟨rfl, rfl⟩)
              | (go_at_call 16; clear tk1; refine (writeByte_num (B := N) (b := N) (l := out) _ (by first | decide | omega) (by first | decide | omega) HS.out.bld (by have := HOl.out; (try simp only [List.length_append, List.length_cons, List.length_nil, List.toList_toArray]); omega) (HS.out.size HNe.out)).mono ?_; rintro e w4 ⟨rfl, hb5, hk5⟩; have HS1 := Lib.hid (HS.out.wrote hgN hk5 hb5); clear hb5 hk5)
              | (go_at_call 16; refine (writeByte_num (B := N) (b := N) (l := out ++ [UInt8.ofNat (Int.toNat 92)]) _ (by first | decide | omega) (by first | decide | omega) HS1.out.bld (by have := HOl.out; (try simp only [List.length_append, List.length_cons, List.length_nil]); omega) (HS1.out.size HNe.out)).mono ?_; rintro e w6 ⟨rfl, hb5, hk5⟩; have HS2 := Lib.hid (HS1.out.wrote hgN hk5 hb5); clear hb5 hk5))
            go_roundw
            case rel => exact ⟨k + 1, by omega, by go_num, Lib.hid (by rw [HTk.out, HRk.out]; exact HS2.out)⟩
            case measure => simp [intOf]; omega
          · have HRk : Hid (out ++ JsonP.qOne (Int.toNat 14) = out ++ (ByteArray.mk #[92, 117, 48, 48]).data.toList ++ [UInt8.ofNat (Int.toNat 48)] ++ [UInt8.ofNat (Int.toNat 101)]) := Lib.hid (by rw [List.append_assoc, List.append_assoc]; rfl)
            have h15 : bits BinOp.and IntKind.i64 14 15 = 14 := by decide +kernel
            go_wp2_with (first
              | (go_at_call 17; refine (index_short 14 (-1) rfl _).mono ?_; rintro e w5 ⟨rfl, rfl⟩)
              | (go_at_call 18; refine (writeString_any (B := N) (b := N) (l := out) ⟨#[92, 117, 48, 48]⟩ HS.out.bld (by have := HOl.out; show out.length + 4 ≤ _; omega) (HS.out.size HNe.out)).mono ?_; rintro e w4 ⟨rfl, hb5, hk5⟩; have HS1 := Lib.hid (HS.out.wrote hgN hk5 hb5); clear hb5 hk5)
              | (go_at_call 16; clear tk1; refine (writeByte_num (B := N) (b := N) (l := out ++ (ByteArray.mk #[92, 117, 48, 48]).data.toList) _ (by first | decide | omega) (by first | decide | omega) HS1.out.bld (by have := HOl.out; (try simp only [List.length_append, List.length_cons, List.length_nil]); omega) (HS1.out.size HNe.out)).mono ?_; rintro e w6 ⟨rfl, hb5, hk5⟩; have HS2 := Lib.hid (HS1.out.wrote hgN hk5 hb5); clear hb5 hk5)
              | (go_at_call 16; refine (writeByte_num (B := N) (b := N) (l := out ++ (ByteArray.mk #[92, 117, 48, 48]).data.toList ++ [UInt8.ofNat (Int.toNat 48)]) _ (by first | decide | omega) (by first | decide | omega) HS2.out.bld (by have := HOl.out; (try simp only [List.length_append, List.length_cons, List.length_nil]); omega) (HS2.out.size HNe.out)).mono ?_; rintro e w7 ⟨rfl, hb5, hk5⟩; have HS3 := Lib.hid (HS2.out.wrote hgN hk5 hb5); clear hb5 hk5))
            go_roundw
            case rel => exact ⟨k + 1, by omega, by go_num, Lib.hid (by rw [HTk.out, HRk.out]; exact HS3.out)⟩
            case measure => simp [intOf]; omega
          · have HRk : Hid (out ++ JsonP.qOne (Int.toNat 15) = out ++ (ByteArray.mk #[92, 117, 48, 48]).data.toList ++ [UInt8.ofNat (Int.toNat 48)] ++ [UInt8.ofNat (Int.toNat 102)]) := Lib.hid (by rw [List.append_assoc, List.append_assoc]; rfl)
            have h15 : bits BinOp.and IntKind.i64 15 15 = 15 := by decide +kernel
            go_wp2_with (first
              | (go_at_call 17; refine (index_short 15 (-1) rfl _).mono ?_; rintro e w5 ⟨rfl, rfl⟩)
              | (go_at_call 18; refine (writeString_any (B := N) (b := N) (l := out) ⟨#[92, 117, 48, 48]⟩ HS.out.bld (by have := HOl.out; show out.length + 4 ≤ _; omega) (HS.out.size HNe.out)).mono ?_; rintro e w4 ⟨rfl, hb5, hk5⟩; have HS1 := Lib.hid (HS.out.wrote hgN hk5 hb5); clear hb5 hk5)
              | (go_at_call 16; clear tk1; refine (writeByte_num (B := N) (b := N) (l := out ++ (ByteArray.mk #[92, 117, 48, 48]).data.toList) _ (by first | decide | omega) (by first | decide | omega) HS1.out.bld (by have := HOl.out; (try simp only [List.length_append, List.length_cons, List.length_nil]); omega) (HS1.out.size HNe.out)).mono ?_; rintro e w6 ⟨rfl, hb5, hk5⟩; have HS2 := Lib.hid (HS1.out.wrote hgN hk5 hb5); clear hb5 hk5)
              | (go_at_call 16; refine (writeByte_num (B := N) (b := N) (l := out ++ (ByteArray.mk #[92, 117, 48, 48]).data.toList ++ [UInt8.ofNat (Int.toNat 48)]) _ (by first | decide | omega) (by first | decide | omega) HS2.out.bld (by have := HOl.out; (try simp only [List.length_append, List.length_cons, List.length_nil]); omega) (HS2.out.size HNe.out)).mono ?_; rintro e w7 ⟨rfl, hb5, hk5⟩; have HS3 := Lib.hid (HS2.out.wrote hgN hk5 hb5); clear hb5 hk5))
            go_roundw
            case rel => exact ⟨k + 1, by omega, by go_num, Lib.hid (by rw [HTk.out, HRk.out]; exact HS3.out)⟩
            case measure => simp [intOf]; omega
          · have HRk : Hid (out ++ JsonP.qOne (Int.toNat 16) = out ++ (ByteArray.mk #[92, 117, 48, 48]).data.toList ++ [UInt8.ofNat (Int.toNat 49)] ++ [UInt8.ofNat (Int.toNat 48)]) := Lib.hid (by rw [List.append_assoc, List.append_assoc]; rfl)
            have h15 : bits BinOp.and IntKind.i64 16 15 = 0 := by decide +kernel
            go_wp2_with (first
              | (go_at_call 17; refine (index_short 16 (-1) rfl _).mono ?_; rintro e w5 ⟨rfl, rfl⟩)
              | (go_at_call 18; refine (writeString_any (B := N) (b := N) (l := out) ⟨#[92, 117, 48, 48]⟩ HS.out.bld (by have := HOl.out; show out.length + 4 ≤ _; omega) (HS.out.size HNe.out)).mono ?_; rintro e w4 ⟨rfl, hb5, hk5⟩; have HS1 := Lib.hid (HS.out.wrote hgN hk5 hb5); clear hb5 hk5)
              | (go_at_call 16; clear tk1; refine (writeByte_num (B := N) (b := N) (l := out ++ (ByteArray.mk #[92, 117, 48, 48]).data.toList) _ (by first | decide | omega) (by first | decide | omega) HS1.out.bld (by have := HOl.out; (try simp only [List.length_append, List.length_cons, List.length_nil]); omega) (HS1.out.size HNe.out)).mono ?_; rintro e w6 ⟨rfl, hb5, hk5⟩; have HS2 := Lib.hid (HS1.out.wrote hgN hk5 hb5); clear hb5 hk5)
              | (go_at_call 16; refine (writeByte_num (B := N) (b := N) (l := out ++ (ByteArray.mk #[92, 117, 48, 48]).data.toList ++ [UInt8.ofNat (Int.toNat 49)]) _ (by first | decide | omega) (by first | decide | omega) HS2.out.bld (by have := HOl.out; (try simp only [List.length_append, List.length_cons, List.length_nil]); omega) (HS2.out.size HNe.out)).mono ?_; rintro e w7 ⟨rfl, hb5, hk5⟩; have HS3 := Lib.hid (HS2.out.wrote hgN hk5 hb5); clear hb5 hk5))
            go_roundw
            case rel => exact ⟨k + 1, by omega, by go_num, Lib.hid (by rw [HTk.out, HRk.out]; exact HS3.out)⟩
            case measure => simp [intOf]; omega
          · have HRk : Hid (out ++ JsonP.qOne (Int.toNat 17) = out ++ (ByteArray.mk #[92, 117, 48, 48]).data.toList ++ [UInt8.ofNat (Int.toNat 49)] ++ [UInt8.ofNat (Int.toNat 49)]) := Lib.hid (by rw [List.append_assoc, List.append_assoc]; rfl)
            have h15 : bits BinOp.and IntKind.i64 17 15 = 1 := by decide +kernel
            go_wp2_with (first
              | (go_at_call 17; refine (index_short 17 (-1) rfl _).mono ?_; rintro e w5 ⟨rfl, rfl⟩)
              | (go_at_call 18; refine (writeString_any (B := N) (b := N) (l := out) ⟨#[92, 117, 48, 48]⟩ HS.out.bld (by have := HOl.out; show out.length + 4 ≤ _; omega) (HS.out.size HNe.out)).mono ?_; rintro e w4 ⟨rfl, hb5, hk5⟩; have HS1 := Lib.hid (HS.out.wrote hgN hk5 hb5); clear hb5 hk5)
              | (go_at_call 16; clear tk1; refine (writeByte_num (B := N) (b := N) (l := out ++ (ByteArray.mk #[92, 117, 48, 48]).data.toList) _ (by first | decide | omega) (by first | decide | omega) HS1.out.bld (by have := HOl.out; (try simp only [List.length_append, List.length_cons, List.length_nil]); omega) (HS1.out.size HNe.out)).mono ?_; rintro e w6 ⟨rfl, hb5, hk5⟩; have HS2 := Lib.hid (HS1.out.wrote hgN hk5 hb5); clear hb5 hk5)
              | (go_at_call 16; refine (writeByte_num (B := N) (b := N) (l := out ++ (ByteArray.mk #[92, 117, 48, 48]).data.toList ++ [UInt8.ofNat (Int.toNat 49)]) _ (by first | decide | omega) (by first | decide | omega) HS2.out.bld (by have := HOl.out; (try simp only [List.length_append, List.length_cons, List.length_nil]); omega) (HS2.out.size HNe.out)).mono ?_; rintro e w7 ⟨rfl, hb5, hk5⟩; have HS3 := Lib.hid (HS2.out.wrote hgN hk5 hb5); clear hb5 hk5))
            go_roundw
            case rel => exact ⟨k + 1, by omega, by go_num, Lib.hid (by rw [HTk.out, HRk.out]; exact HS3.out)⟩
            case measure => simp [intOf]; omega
          · have HRk : Hid (out ++ JsonP.qOne (Int.toNat 18) = out ++ (ByteArray.mk #[92, 117, 48, 48]).data.toList ++ [UInt8.ofNat (Int.toNat 49)] ++ [UInt8.ofNat (Int.toNat 50)]) := Lib.hid (by rw [List.append_assoc, List.append_assoc]; rfl)
            have h15 : bits BinOp.and IntKind.i64 18 15 = 2 := by decide +kernel
            go_wp2_with (first
              | (go_at_call 17; refine (index_short 18 (-1) rfl _).mono ?_; rintro e w5 ⟨rfl, rfl⟩)
              | (go_at_call 18; refine (writeString_any (B := N) (b := N) (l := out) ⟨#[92, 117, 48, 48]⟩ HS.out.bld (by have := HOl.out; show out.length + 4 ≤ _; omega) (HS.out.size HNe.out)).mono ?_; rintro e w4 ⟨rfl, hb5, hk5⟩; have HS1 := Lib.hid (HS.out.wrote hgN hk5 hb5); clear hb5 hk5)
              | (go_at_call 16; clear tk1; refine (writeByte_num (B := N) (b := N) (l := out ++ (ByteArray.mk #[92, 117, 48, 48]).data.toList) _ (by first | decide | omega) (by first | decide | omega) HS1.out.bld (by have := HOl.out; (try simp only [List.length_append, List.length_cons, List.length_nil]); omega) (HS1.out.size HNe.out)).mono ?_; rintro e w6 ⟨rfl, hb5, hk5⟩; have HS2 := Lib.hid (HS1.out.wrote hgN hk5 hb5); clear hb5 hk5)
              | (go_at_call 16; refine (writeByte_num (B := N) (b := N) (l := out ++ (ByteArray.mk #[92, 117, 48, 48]).data.toList ++ [UInt8.ofNat (Int.toNat 49)]) _ (by first | decide | omega) (by first | decide | omega) HS2.out.bld (by have := HOl.out; (try simp only [List.length_append, List.length_cons, List.length_nil]); omega) (HS2.out.size HNe.out)).mono ?_; rintro e w7 ⟨rfl, hb5, hk5⟩; have HS3 := Lib.hid (HS2.out.wrote hgN hk5 hb5); clear hb5 hk5))
            go_roundw
            case rel => exact ⟨k + 1, by omega, by go_num, Lib.hid (by rw [HTk.out, HRk.out]; exact HS3.out)⟩
            case measure => simp [intOf]; omega
          · have HRk : Hid (out ++ JsonP.qOne (Int.toNat 19) = out ++ (ByteArray.mk #[92, 117, 48, 48]).data.toList ++ [UInt8.ofNat (Int.toNat 49)] ++ [UInt8.ofNat (Int.toNat 51)]) := Lib.hid (by rw [List.append_assoc, List.append_assoc]; rfl)
            have h15 : bits BinOp.and IntKind.i64 19 15 = 3 := by decide +kernel
            go_wp2_with (first
              | (go_at_call 17; refine (index_short 19 (-1) rfl _).mono ?_; rintro e w5 ⟨rfl, rfl⟩)
              | (go_at_call 18; refine (writeString_any (B := N) (b := N) (l := out) ⟨#[92, 117, 48, 48]⟩ HS.out.bld (by have := HOl.out; show out.length + 4 ≤ _; omega) (HS.out.size HNe.out)).mono ?_; rintro e w4 ⟨rfl, hb5, hk5⟩; have HS1 := Lib.hid (HS.out.wrote hgN hk5 hb5); clear hb5 hk5)
              | (go_at_call 16; clear tk1; refine (writeByte_num (B := N) (b := N) (l := out ++ (ByteArray.mk #[92, 117, 48, 48]).data.toList) _ (by first | decide | omega) (by first | decide | omega) HS1.out.bld (by have := HOl.out; (try simp only [List.length_append, List.length_cons, List.length_nil]); omega) (HS1.out.size HNe.out)).mono ?_; rintro e w6 ⟨rfl, hb5, hk5⟩; have HS2 := Lib.hid (HS1.out.wrote hgN hk5 hb5); clear hb5 hk5)
              | (go_at_call 16; refine (writeByte_num (B := N) (b := N) (l := out ++ (ByteArray.mk #[92, 117, 48, 48]).data.toList ++ [UInt8.ofNat (Int.toNat 49)]) _ (by first | decide | omega) (by first | decide | omega) HS2.out.bld (by have := HOl.out; (try simp only [List.length_append, List.length_cons, List.length_nil]); omega) (HS2.out.size HNe.out)).mono ?_; rintro e w7 ⟨rfl, hb5, hk5⟩; have HS3 := Lib.hid (HS2.out.wrote hgN hk5 hb5); clear hb5 hk5))
            go_roundw
            case rel => exact ⟨k + 1, by omega, by go_num, Lib.hid (by rw [HTk.out, HRk.out]; exact HS3.out)⟩
            case measure => simp [intOf]; omega
          · have HRk : Hid (out ++ JsonP.qOne (Int.toNat 20) = out ++ (ByteArray.mk #[92, 117, 48, 48]).data.toList ++ [UInt8.ofNat (Int.toNat 49)] ++ [UInt8.ofNat (Int.toNat 52)]) := Lib.hid (by rw [List.append_assoc, List.append_assoc]; rfl)
            have h15 : bits BinOp.and IntKind.i64 20 15 = 4 := by decide +kernel
            go_wp2_with (first
              | (go_at_call 17; refine (index_short 20 (-1) rfl _).mono ?_; rintro e w5 ⟨rfl, rfl⟩)
              | (go_at_call 18; refine (writeString_any (B := N) (b := N) (l := out) ⟨#[92, 117, 48, 48]⟩ HS.out.bld (by have := HOl.out; show out.length + 4 ≤ _; omega) (HS.out.size HNe.out)).mono ?_; rintro e w4 ⟨rfl, hb5, hk5⟩; have HS1 := Lib.hid (HS.out.wrote hgN hk5 hb5); clear hb5 hk5)
              | (go_at_call 16; clear tk1; refine (writeByte_num (B := N) (b := N) (l := out ++ (ByteArray.mk #[92, 117, 48, 48]).data.toList) _ (by first | decide | omega) (by first | decide | omega) HS1.out.bld (by have := HOl.out; (try simp only [List.length_append, List.length_cons, List.length_nil]); omega) (HS1.out.size HNe.out)).mono ?_; rintro e w6 ⟨rfl, hb5, hk5⟩; have HS2 := Lib.hid (HS1.out.wrote hgN hk5 hb5); clear hb5 hk5)
              | (go_at_call 16; refine (writeByte_num (B := N) (b := N) (l := out ++ (ByteArray.mk #[92, 117, 48, 48]).data.toList ++ [UInt8.ofNat (Int.toNat 49)]) _ (by first | decide | omega) (by first | decide | omega) HS2.out.bld (by have := HOl.out; (try simp only [List.length_append, List.length_cons, List.length_nil]); omega) (HS2.out.size HNe.out)).mono ?_; rintro e w7 ⟨rfl, hb5, hk5⟩; have HS3 := Lib.hid (HS2.out.wrote hgN hk5 hb5); clear hb5 hk5))
            go_roundw
            case rel => exact ⟨k + 1, by omega, by go_num, Lib.hid (by rw [HTk.out, HRk.out]; exact HS3.out)⟩
            case measure => simp [intOf]; omega
          · have HRk : Hid (out ++ JsonP.qOne (Int.toNat 21) = out ++ (ByteArray.mk #[92, 117, 48, 48]).data.toList ++ [UInt8.ofNat (Int.toNat 49)] ++ [UInt8.ofNat (Int.toNat 53)]) := Lib.hid (by rw [List.append_assoc, List.append_assoc]; rfl)
            have h15 : bits BinOp.and IntKind.i64 21 15 = 5 := by decide +kernel
            go_wp2_with (first
              | (go_at_call 17; refine (index_short 21 (-1) rfl _).mono ?_; rintro e w5 ⟨rfl, rfl⟩)
              | (go_at_call 18; refine (writeString_any (B := N) (b := N) (l := out) ⟨#[92, 117, 48, 48]⟩ HS.out.bld (by have := HOl.out; show out.length + 4 ≤ _; omega) (HS.out.size HNe.out)).mono ?_; rintro e w4 ⟨rfl, hb5, hk5⟩; have HS1 := Lib.hid (HS.out.wrote hgN hk5 hb5); clear hb5 hk5)
              | (go_at_call 16; clear tk1; refine (writeByte_num (B := N) (b := N) (l := out ++ (ByteArray.mk #[92, 117, 48, 48]).data.toList) _ (by first | decide | omega) (by first | decide | omega) HS1.out.bld (by have := HOl.out; (try simp only [List.length_append, List.length_cons, List.length_nil]); omega) (HS1.out.size HNe.out)).mono ?_; rintro e w6 ⟨rfl, hb5, hk5⟩; have HS2 := Lib.hid (HS1.out.wrote hgN hk5 hb5); clear hb5 hk5)
              | (go_at_call 16; refine (writeByte_num (B := N) (b := N) (l := out ++ (ByteArray.mk #[92, 117, 48, 48]).data.toList ++ [UInt8.ofNat (Int.toNat 49)]) _ (by first | decide | omega) (by first | decide | omega) HS2.out.bld (by have := HOl.out; (try simp only [List.length_append, List.length_cons, List.length_nil]); omega) (HS2.out.size HNe.out)).mono ?_; rintro e w7 ⟨rfl, hb5, hk5⟩; have HS3 := Lib.hid (HS2.out.wrote hgN hk5 hb5); clear hb5 hk5))
            go_roundw
            case rel => exact ⟨k + 1, by omega, by go_num, Lib.hid (by rw [HTk.out, HRk.out]; exact HS3.out)⟩
            case measure => simp [intOf]; omega
          · have HRk : Hid (out ++ JsonP.qOne (Int.toNat 22) = out ++ (ByteArray.mk #[92, 117, 48, 48]).data.toList ++ [UInt8.ofNat (Int.toNat 49)] ++ [UInt8.ofNat (Int.toNat 54)]) := Lib.hid (by rw [List.append_assoc, List.append_assoc]; rfl)
            have h15 : bits BinOp.and IntKind.i64 22 15 = 6 := by decide +kernel
            go_wp2_with (first
              | (go_at_call 17; refine (index_short 22 (-1) rfl _).mono ?_; rintro e w5 ⟨rfl, rfl⟩)
              | (go_at_call 18; refine (writeString_any (B := N) (b := N) (l := out) ⟨#[92, 117, 48, 48]⟩ HS.out.bld (by have := HOl.out; show out.length + 4 ≤ _; omega) (HS.out.size HNe.out)).mono ?_; rintro e w4 ⟨rfl, hb5, hk5⟩; have HS1 := Lib.hid (HS.out.wrote hgN hk5 hb5); clear hb5 hk5)
              | (go_at_call 16; clear tk1; refine (writeByte_num (B := N) (b := N) (l := out ++ (ByteArray.mk #[92, 117, 48, 48]).data.toList) _ (by first | decide | omega) (by first | decide | omega) HS1.out.bld (by have := HOl.out; (try simp only [List.length_append, List.length_cons, List.length_nil]); omega) (HS1.out.size HNe.out)).mono ?_; rintro e w6 ⟨rfl, hb5, hk5⟩; have HS2 := Lib.hid (HS1.out.wrote hgN hk5 hb5); clear hb5 hk5)
              | (go_at_call 16; refine (writeByte_num (B := N) (b := N) (l := out ++ (ByteArray.mk #[92, 117, 48, 48]).data.toList ++ [UInt8.ofNat (Int.toNat 49)]) _ (by first | decide | omega) (by first | decide | omega) HS2.out.bld (by have := HOl.out; (try simp only [List.length_append, List.length_cons, List.length_nil]); omega) (HS2.out.size HNe.out)).mono ?_; rintro e w7 ⟨rfl, hb5, hk5⟩; have HS3 := Lib.hid (HS2.out.wrote hgN hk5 hb5); clear hb5 hk5))
            go_roundw
            case rel => exact ⟨k + 1, by omega, by go_num, Lib.hid (by rw [HTk.out, HRk.out]; exact HS3.out)⟩
            case measure => simp [intOf]; omega
          · have HRk : Hid (out ++ JsonP.qOne (Int.toNat 23) = out ++ (ByteArray.mk #[92, 117, 48, 48]).data.toList ++ [UInt8.ofNat (Int.toNat 49)] ++ [UInt8.ofNat (Int.toNat 55)]) := Lib.hid (by rw [List.append_assoc, List.append_assoc]; rfl)
            have h15 : bits BinOp.and IntKind.i64 23 15 = 7 := by decide +kernel
            go_wp2_with (first
              | (go_at_call 17; refine (index_short 23 (-1) rfl _).mono ?_; rintro e w5 ⟨rfl, rfl⟩)
              | (go_at_call 18; refine (writeString_any (B := N) (b := N) (l := out) ⟨#[92, 117, 48, 48]⟩ HS.out.bld (by have := HOl.out; show out.length + 4 ≤ _; omega) (HS.out.size HNe.out)).mono ?_; rintro e w4 ⟨rfl, hb5, hk5⟩; have HS1 := Lib.hid (HS.out.wrote hgN hk5 hb5); clear hb5 hk5)
              | (go_at_call 16; clear tk1; refine (writeByte_num (B := N) (b := N) (l := out ++ (ByteArray.mk #[92, 117, 48, 48]).data.toList) _ (by first | decide | omega) (by first | decide | omega) HS1.out.bld (by have := HOl.out; (try simp only [List.length_append, List.length_cons, List.length_nil]); omega) (HS1.out.size HNe.out)).mono ?_; rintro e w6 ⟨rfl, hb5, hk5⟩; have HS2 := Lib.hid (HS1.out.wrote hgN hk5 hb5); clear hb5 hk5)
              | (go_at_call 16; refine (writeByte_num (B := N) (b := N) (l := out ++ (ByteArray.mk #[92, 117, 48, 48]).data.toList ++ [UInt8.ofNat (Int.toNat 49)]) _ (by first | decide | omega) (by first | decide | omega) HS2.out.bld (by have := HOl.out; (try simp only [List.length_append, List.length_cons, List.length_nil]); omega) (HS2.out.size HNe.out)).mono ?_; rintro e w7 ⟨rfl, hb5, hk5⟩; have HS3 := Lib.hid (HS2.out.wrote hgN hk5 hb5); clear hb5 hk5))
            go_roundw
            case rel => exact ⟨k + 1, by omega, by go_num, Lib.hid (by rw [HTk.out, HRk.out]; exact HS3.out)⟩
            case measure => simp [intOf]; omega
          · have HRk : Hid (out ++ JsonP.qOne (Int.toNat 24) = out ++ (ByteArray.mk #[92, 117, 48, 48]).data.toList ++ [UInt8.ofNat (Int.toNat 49)] ++ [UInt8.ofNat (Int.toNat 56)]) := Lib.hid (by rw [List.append_assoc, List.append_assoc]; rfl)
            have h15 : bits BinOp.and IntKind.i64 24 15 = 8 := by decide +kernel
            go_wp2_with (first
              | (go_at_call 17; refine (index_short 24 (-1) rfl _).mono ?_; rintro e w5 ⟨rfl, rfl⟩)
              | (go_at_call 18; refine (writeString_any (B := N) (b := N) (l := out) ⟨#[92, 117, 48, 48]⟩ HS.out.bld (by have := HOl.out; show out.length + 4 ≤ _; omega) (HS.out.size HNe.out)).mono ?_; rintro e w4 ⟨rfl, hb5, hk5⟩; have HS1 := Lib.hid (HS.out.wrote hgN hk5 hb5); clear hb5 hk5)
              | (go_at_call 16; clear tk1; refine (writeByte_num (B := N) (b := N) (l := out ++ (ByteArray.mk #[92, 117, 48, 48]).data.toList) _ (by first | decide | omega) (by first | decide | omega) HS1.out.bld (by have := HOl.out; (try simp only [List.length_append, List.length_cons, List.length_nil]); omega) (HS1.out.size HNe.out)).mono ?_; rintro e w6 ⟨rfl, hb5, hk5⟩; have HS2 := Lib.hid (HS1.out.wrote hgN hk5 hb5); clear hb5 hk5)
              | (go_at_call 16; refine (writeByte_num (B := N) (b := N) (l := out ++ (ByteArray.mk #[92, 117, 48, 48]).data.toList ++ [UInt8.ofNat (Int.toNat 49)]) _ (by first | decide | omega) (by first | decide | omega) HS2.out.bld (by have := HOl.out; (try simp only [List.length_append, List.length_cons, List.length_nil]); omega) (HS2.out.size HNe.out)).mono ?_; rintro e w7 ⟨rfl, hb5, hk5⟩; have HS3 := Lib.hid (HS2.out.wrote hgN hk5 hb5); clear hb5 hk5))
            go_roundw
            case rel => exact ⟨k + 1, by omega, by go_num, Lib.hid (by rw [HTk.out, HRk.out]; exact HS3.out)⟩
            case measure => simp [intOf]; omega
          · have HRk : Hid (out ++ JsonP.qOne (Int.toNat 25) = out ++ (ByteArray.mk #[92, 117, 48, 48]).data.toList ++ [UInt8.ofNat (Int.toNat 49)] ++ [UInt8.ofNat (Int.toNat 57)]) := Lib.hid (by rw [List.append_assoc, List.append_assoc]; rfl)
            have h15 : bits BinOp.and IntKind.i64 25 15 = 9 := by decide +kernel
            go_wp2_with (first
              | (go_at_call 17; refine (index_short 25 (-1) rfl _).mono ?_; rintro e w5 ⟨rfl, rfl⟩)
              | (go_at_call 18; refine (writeString_any (B := N) (b := N) (l := out) ⟨#[92, 117, 48, 48]⟩ HS.out.bld (by have := HOl.out; show out.length + 4 ≤ _; omega) (HS.out.size HNe.out)).mono ?_; rintro e w4 ⟨rfl, hb5, hk5⟩; have HS1 := Lib.hid (HS.out.wrote hgN hk5 hb5); clear hb5 hk5)
              | (go_at_call 16; clear tk1; refine (writeByte_num (B := N) (b := N) (l := out ++ (ByteArray.mk #[92, 117, 48, 48]).data.toList) _ (by first | decide | omega) (by first | decide | omega) HS1.out.bld (by have := HOl.out; (try simp only [List.length_append, List.length_cons, List.length_nil]); omega) (HS1.out.size HNe.out)).mono ?_; rintro e w6 ⟨rfl, hb5, hk5⟩; have HS2 := Lib.hid (HS1.out.wrote hgN hk5 hb5); clear hb5 hk5)
              | (go_at_call 16; refine (writeByte_num (B := N) (b := N) (l := out ++ (ByteArray.mk #[92, 117, 48, 48]).data.toList ++ [UInt8.ofNat (Int.toNat 49)]) _ (by first | decide | omega) (by first | decide | omega) HS2.out.bld (by have := HOl.out; (try simp only [List.length_append, List.length_cons, List.length_nil]); omega) (HS2.out.size HNe.out)).mono ?_; rintro e w7 ⟨rfl, hb5, hk5⟩; have HS3 := Lib.hid (HS2.out.wrote hgN hk5 hb5); clear hb5 hk5))
            go_roundw
            case rel => exact ⟨k + 1, by omega, by go_num, Lib.hid (by rw [HTk.out, HRk.out]; exact HS3.out)⟩
            case measure => simp [intOf]; omega
          · have HRk : Hid (out ++ JsonP.qOne (Int.toNat 26) = out ++ (ByteArray.mk #[92, 117, 48, 48]).data.toList ++ [UInt8.ofNat (Int.toNat 49)] ++ [UInt8.ofNat (Int.toNat 97)]) := Lib.hid (by rw [List.append_assoc, List.append_assoc]; rfl)
            have h15 : bits BinOp.and IntKind.i64 26 15 = 10 := by decide +kernel
            go_wp2_with (first
              | (go_at_call 17; refine (index_short 26 (-1) rfl _).mono ?_; rintro e w5 ⟨rfl, rfl⟩)
              | (go_at_call 18; refine (writeString_any (B := N) (b := N) (l := out) ⟨#[92, 117, 48, 48]⟩ HS.out.bld (by have := HOl.out; show out.length + 4 ≤ _; omega) (HS.out.size HNe.out)).mono ?_; rintro e w4 ⟨rfl, hb5, hk5⟩; have HS1 := Lib.hid (HS.out.wrote hgN hk5 hb5); clear hb5 hk5)
              | (go_at_call 16; clear tk1; refine (writeByte_num (B := N) (b := N) (l := out ++ (ByteArray.mk #[92, 117, 48, 48]).data.toList) _ (by first | decide | omega) (by first | decide | omega) HS1.out.bld (by have := HOl.out; (try simp only [List.length_append, List.length_cons, List.length_nil]); omega) (HS1.out.size HNe.out)).mono ?_; rintro e w6 ⟨rfl, hb5, hk5⟩; have HS2 := Lib.hid (HS1.out.wrote hgN hk5 hb5); clear hb5 hk5)
              | (go_at_call 16; refine (writeByte_num (B := N) (b := N) (l := out ++ (ByteArray.mk #[92, 117, 48, 48]).data.toList ++ [UInt8.ofNat (Int.toNat 49)]) _ (by first | decide | omega) (by first | decide | omega) HS2.out.bld (by have := HOl.out; (try simp only [List.length_append, List.length_cons, List.length_nil]); omega) (HS2.out.size HNe.out)).mono ?_; rintro e w7 ⟨rfl, hb5, hk5⟩; have HS3 := Lib.hid (HS2.out.wrote hgN hk5 hb5); clear hb5 hk5))
            go_roundw
            case rel => exact ⟨k + 1, by omega, by go_num, Lib.hid (by rw [HTk.out, HRk.out]; exact HS3.out)⟩
            case measure => simp [intOf]; omega
          · have HRk : Hid (out ++ JsonP.qOne (Int.toNat 27) = out ++ (ByteArray.mk #[92, 117, 48, 48]).data.toList ++ [UInt8.ofNat (Int.toNat 49)] ++ [UInt8.ofNat (Int.toNat 98)]) := Lib.hid (by rw [List.append_assoc, List.append_assoc]; rfl)
            have h15 : bits BinOp.and IntKind.i64 27 15 = 11 := by decide +kernel
            go_wp2_with (first
              | (go_at_call 17; refine (index_short 27 (-1) rfl _).mono ?_; rintro e w5 ⟨rfl, rfl⟩)
              | (go_at_call 18; refine (writeString_any (B := N) (b := N) (l := out) ⟨#[92, 117, 48, 48]⟩ HS.out.bld (by have := HOl.out; show out.length + 4 ≤ _; omega) (HS.out.size HNe.out)).mono ?_; rintro e w4 ⟨rfl, hb5, hk5⟩; have HS1 := Lib.hid (HS.out.wrote hgN hk5 hb5); clear hb5 hk5)
              | (go_at_call 16; clear tk1; refine (writeByte_num (B := N) (b := N) (l := out ++ (ByteArray.mk #[92, 117, 48, 48]).data.toList) _ (by first | decide | omega) (by first | decide | omega) HS1.out.bld (by have := HOl.out; (try simp only [List.length_append, List.length_cons, List.length_nil]); omega) (HS1.out.size HNe.out)).mono ?_; rintro e w6 ⟨rfl, hb5, hk5⟩; have HS2 := Lib.hid (HS1.out.wrote hgN hk5 hb5); clear hb5 hk5)
              | (go_at_call 16; refine (writeByte_num (B := N) (b := N) (l := out ++ (ByteArray.mk #[92, 117, 48, 48]).data.toList ++ [UInt8.ofNat (Int.toNat 49)]) _ (by first | decide | omega) (by first | decide | omega) HS2.out.bld (by have := HOl.out; (try simp only [List.length_append, List.length_cons, List.length_nil]); omega) (HS2.out.size HNe.out)).mono ?_; rintro e w7 ⟨rfl, hb5, hk5⟩; have HS3 := Lib.hid (HS2.out.wrote hgN hk5 hb5); clear hb5 hk5))
            go_roundw
            case rel => exact ⟨k + 1, by omega, by go_num, Lib.hid (by rw [HTk.out, HRk.out]; exact HS3.out)⟩
            case measure => simp [intOf]; omega
          · have HRk : Hid (out ++ JsonP.qOne (Int.toNat 28) = out ++ (ByteArray.mk #[92, 117, 48, 48]).data.toList ++ [UInt8.ofNat (Int.toNat 49)] ++ [UInt8.ofNat (Int.toNat 99)]) := Lib.hid (by rw [List.append_assoc, List.append_assoc]; rfl)
            have h15 : bits BinOp.and IntKind.i64 28 15 = 12 := by decide +kernel
            go_wp2_with (first
              | (go_at_call 17; refine (index_short 28 (-1) rfl _).mono ?_; rintro e w5 ⟨rfl, rfl⟩)
              | (go_at_call 18; refine (writeString_any (B := N) (b := N) (l := out) ⟨#[92, 117, 48, 48]⟩ HS.out.bld (by have := HOl.out; show out.length + 4 ≤ _; omega) (HS.out.size HNe.out)).mono ?_; rintro e w4 ⟨rfl, hb5, hk5⟩; have HS1 := Lib.hid (HS.out.wrote hgN hk5 hb5); clear hb5 hk5)
              | (go_at_call 16; clear tk1; refine (writeByte_num (B := N) (b := N) (l := out ++ (ByteArray.mk #[92, 117, 48, 48]).data.toList) _ (by first | decide | omega) (by first | decide | omega) HS1.out.bld (by have := HOl.out; (try simp only [List.length_append, List.length_cons, List.length_nil]); omega) (HS1.out.size HNe.out)).mono ?_; rintro e w6 ⟨rfl, hb5, hk5⟩; have HS2 := Lib.hid (HS1.out.wrote hgN hk5 hb5); clear hb5 hk5)
              | (go_at_call 16; refine (writeByte_num (B := N) (b := N) (l := out ++ (ByteArray.mk #[92, 117, 48, 48]).data.toList ++ [UInt8.ofNat (Int.toNat 49)]) _ (by first | decide | omega) (by first | decide | omega) HS2.out.bld (by have := HOl.out; (try simp only [List.length_append, List.length_cons, List.length_nil]); omega) (HS2.out.size HNe.out)).mono ?_; rintro e w7 ⟨rfl, hb5, hk5⟩; have HS3 := Lib.hid (HS2.out.wrote hgN hk5 hb5); clear hb5 hk5))
            go_roundw
            case rel => exact ⟨k + 1, by omega, by go_num, Lib.hid (by rw [HTk.out, HRk.out]; exact HS3.out)⟩
            case measure => simp [intOf]; omega
          · have HRk : Hid (out ++ JsonP.qOne (Int.toNat 29) = out ++ (ByteArray.mk #[92, 117, 48, 48]).data.toList ++ [UInt8.ofNat (Int.toNat 49)] ++ [UInt8.ofNat (Int.toNat 100)]) := Lib.hid (by rw [List.append_assoc, List.append_assoc]; rfl)
            have h15 : bits BinOp.and IntKind.i64 29 15 = 13 := by decide +kernel
            go_wp2_with (first
              | (go_at_call 17; refine (index_short 29 (-1) rfl _).mono ?_; rintro e w5 ⟨rfl, rfl⟩)
              | (go_at_call 18; refine (writeString_any (B := N) (b := N) (l := out) ⟨#[92, 117, 48, 48]⟩ HS.out.bld (by have := HOl.out; show out.length + 4 ≤ _; omega) (HS.out.size HNe.out)).mono ?_; rintro e w4 ⟨rfl, hb5, hk5⟩; have HS1 := Lib.hid (HS.out.wrote hgN hk5 hb5); clear hb5 hk5)
              | (go_at_call 16; clear tk1; refine (writeByte_num (B := N) (b := N) (l := out ++ (ByteArray.mk #[92, 117, 48, 48]).data.toList) _ (by first | decide | omega) (by first | decide | omega) HS1.out.bld (by have := HOl.out; (try simp only [List.length_append, List.length_cons, List.length_nil]); omega) (HS1.out.size HNe.out)).mono ?_; rintro e w6 ⟨rfl, hb5, hk5⟩; have HS2 := Lib.hid (HS1.out.wrote hgN hk5 hb5); clear hb5 hk5)
              | (go_at_call 16; refine (writeByte_num (B := N) (b := N) (l := out ++ (ByteArray.mk #[92, 117, 48, 48]).data.toList ++ [UInt8.ofNat (Int.toNat 49)]) _ (by first | decide | omega) (by first | decide | omega) HS2.out.bld (by have := HOl.out; (try simp only [List.length_append, List.length_cons, List.length_nil]); omega) (HS2.out.size HNe.out)).mono ?_; rintro e w7 ⟨rfl, hb5, hk5⟩; have HS3 := Lib.hid (HS2.out.wrote hgN hk5 hb5); clear hb5 hk5))
            go_roundw
            case rel => exact ⟨k + 1, by omega, by go_num, Lib.hid (by rw [HTk.out, HRk.out]; exact HS3.out)⟩
            case measure => simp [intOf]; omega
          · have HRk : Hid (out ++ JsonP.qOne (Int.toNat 30) = out ++ (ByteArray.mk #[92, 117, 48, 48]).data.toList ++ [UInt8.ofNat (Int.toNat 49)] ++ [UInt8.ofNat (Int.toNat 101)]) := Lib.hid (by rw [List.append_assoc, List.append_assoc]; rfl)
            have h15 : bits BinOp.and IntKind.i64 30 15 = 14 := by decide +kernel
            go_wp2_with (first
              | (go_at_call 17; refine (index_short 30 (-1) rfl _).mono ?_; rintro e w5 ⟨rfl, rfl⟩)
              | (go_at_call 18; refine (writeString_any (B := N) (b := N) (l := out) ⟨#[92, 117, 48, 48]⟩ HS.out.bld (by have := HOl.out; show out.length + 4 ≤ _; omega) (HS.out.size HNe.out)).mono ?_; rintro e w4 ⟨rfl, hb5, hk5⟩; have HS1 := Lib.hid (HS.out.wrote hgN hk5 hb5); clear hb5 hk5)
              | (go_at_call 16; clear tk1; refine (writeByte_num (B := N) (b := N) (l := out ++ (ByteArray.mk #[92, 117, 48, 48]).data.toList) _ (by first | decide | omega) (by first | decide | omega) HS1.out.bld (by have := HOl.out; (try simp only [List.length_append, List.length_cons, List.length_nil]); omega) (HS1.out.size HNe.out)).mono ?_; rintro e w6 ⟨rfl, hb5, hk5⟩; have HS2 := Lib.hid (HS1.out.wrote hgN hk5 hb5); clear hb5 hk5)
              | (go_at_call 16; refine (writeByte_num (B := N) (b := N) (l := out ++ (ByteArray.mk #[92, 117, 48, 48]).data.toList ++ [UInt8.ofNat (Int.toNat 49)]) _ (by first | decide | omega) (by first | decide | omega) HS2.out.bld (by have := HOl.out; (try simp only [List.length_append, List.length_cons, List.length_nil]); omega) (HS2.out.size HNe.out)).mono ?_; rintro e w7 ⟨rfl, hb5, hk5⟩; have HS3 := Lib.hid (HS2.out.wrote hgN hk5 hb5); clear hb5 hk5))
            go_roundw
            case rel => exact ⟨k + 1, by omega, by go_num, Lib.hid (by rw [HTk.out, HRk.out]; exact HS3.out)⟩
            case measure => simp [intOf]; omega
          · have HRk : Hid (out ++ JsonP.qOne (Int.toNat 31) = out ++ (ByteArray.mk #[92, 117, 48, 48]).data.toList ++ [UInt8.ofNat (Int.toNat 49)] ++ [UInt8.ofNat (Int.toNat 102)]) := Lib.hid (by rw [List.append_assoc, List.append_assoc]; rfl)
            have h15 : bits BinOp.and IntKind.i64 31 15 = 15 := by decide +kernel
            go_wp2_with (first
              | (go_at_call 17; refine (index_short 31 (-1) rfl _).mono ?_; rintro e w5 ⟨rfl, rfl⟩)
              | (go_at_call 18; refine (writeString_any (B := N) (b := N) (l := out) ⟨#[92, 117, 48, 48]⟩ HS.out.bld (by have := HOl.out; show out.length + 4 ≤ _; omega) (HS.out.size HNe.out)).mono ?_; rintro e w4 ⟨rfl, hb5, hk5⟩; have HS1 := Lib.hid (HS.out.wrote hgN hk5 hb5); clear hb5 hk5)
              | (go_at_call 16; clear tk1; refine (writeByte_num (B := N) (b := N) (l := out ++ (ByteArray.mk #[92, 117, 48, 48]).data.toList) _ (by first | decide | omega) (by first | decide | omega) HS1.out.bld (by have := HOl.out; (try simp only [List.length_append, List.length_cons, List.length_nil]); omega) (HS1.out.size HNe.out)).mono ?_; rintro e w6 ⟨rfl, hb5, hk5⟩; have HS2 := Lib.hid (HS1.out.wrote hgN hk5 hb5); clear hb5 hk5)
              | (go_at_call 16; refine (writeByte_num (B := N) (b := N) (l := out ++ (ByteArray.mk #[92, 117, 48, 48]).data.toList ++ [UInt8.ofNat (Int.toNat 49)]) _ (by first | decide | omega) (by first | decide | omega) HS2.out.bld (by have := HOl.out; (try simp only [List.length_append, List.length_cons, List.length_nil]); omega) (HS2.out.size HNe.out)).mono ?_; rintro e w7 ⟨rfl, hb5, hk5⟩; have HS3 := Lib.hid (HS2.out.wrote hgN hk5 hb5); clear hb5 hk5))
            go_roundw
            case rel => exact ⟨k + 1, by omega, by go_num, Lib.hid (by rw [HTk.out, HRk.out]; exact HS3.out)⟩
            case measure => simp [intOf]; omega
        · obtain ⟨hq1, hq2, hq3⟩ := hq
          have q1 : (r == 34) = false := by rw [beq_eq_false_iff_ne]; exact hq2
          have q2 : (r == 92) = false := by rw [beq_eq_false_iff_ne]; exact hq3
          have q3 : decide (r < 32) = false := decide_eq_false (by omega)
          obtain ⟨m, hm⟩ : ∃ m : Nat, r = m := ⟨r.toNat, by omega⟩
          subst hm
          have HRk : Hid (out ++ JsonP.qOne (Int.toNat (m : Int)) = out ++ JsonP.encB m) := Lib.hid (by rw [Int.toNat_natCast, JsonP.qOne_plain (by omega) (by omega) (by omega)])
          have hel := encB_len m
          obtain ⟨eb, heb⟩ : ∃ eb, JsonP.encB m = eb := ⟨_, rfl⟩
          rw [heb] at hel HRk
          have HEb := Lib.hid heb
          have hsz : (ByteArray.mk eb.toArray).size = eb.length := by simp [ByteArray.size]
          have HSz := Lib.hid hsz
          clear hsz heb hq2 hq3
          go_wp2_with (first
            | (go_at_call 19; refine (jbytes_any m _ HSr.out).mono ?_; rintro e w5 ⟨rfl, hb5⟩; rw [HEb.out]; have HS1 := Lib.hid (HS.out.below hb5 HNe.out); clear hb5)
            | (go_at_call 18; refine (writeString_any (B := N) (b := N) (l := out) _ HS1.out.bld (by have := HOl.out; rw [HSz.out]; omega) (HS1.out.size HNe.out)).mono ?_; rintro e w6 ⟨rfl, hb5, hk5⟩; have HS2 := Lib.hid (HS1.out.wrote hgN hk5 hb5); clear hb5 hk5))
          go_roundw
          case rel => exact ⟨k + 1, by omega, by go_num, Lib.hid (by rw [HTk.out, HRk.out]; exact HS2.out)⟩
          case measure => simp [intOf]; omega
      · have hkn : ¬ (k : Int) < (n : Int) := by omega
        have ht : rs.take k = rs := List.take_of_length_le (by rw [HNn.out]; omega)
        rw [ht] at HS
        have hol := JsonP.qAll_len rs
        obtain ⟨out, hout⟩ : ∃ out, 34 :: JsonP.qAll rs = out := ⟨_, rfl⟩
        have HOl : Hid (out.length ≤ 6000000002) := Lib.hid (by have := HL.out; rw [← hout, List.length_cons]; omega)
        rw [hout] at HS
        have HV : Hid (str (JsonP.quote rs) = ⟨(out ++ [UInt8.ofNat (Int.toNat 34)]).toArray⟩) := Lib.hid (by rw [← hout]; rfl)
        clear ht hol hout
        go_wp2_with (first
          | (go_at_call 16; refine (writeByte_num (B := N) (b := N) (l := out) _ (by first | decide | omega) (by first | decide | omega) HS.out.bld (by have := HOl.out; (try simp only [List.length_append, List.length_cons, List.length_nil, List.toList_toArray]); omega) (HS.out.size HNe.out)).mono ?_; rintro e w4 ⟨rfl, hb5, hk5⟩; have HS1 := Lib.hid (HS.out.wrote hgN hk5 hb5); clear hb5 hk5)
          | (go_at_call 20; refine (string_any (B := N) (b := N) (l := out ++ [UInt8.ofNat (Int.toNat 34)]) HS1.out.bld (HS1.out.size HNe.out)).mono ?_; rintro e w7 ⟨rfl, hb5, hk5⟩; have HS2 := Lib.hid (HS1.out.wrote hgN hk5 hb5); clear hb5 hk5))
        go_ret
        exact ⟨by rw [HV.out]; rfl, by rw [HNe.out]; exact HS2.out.bel⟩

end Go.Proofs.Ytemcflfgoelpiaa
