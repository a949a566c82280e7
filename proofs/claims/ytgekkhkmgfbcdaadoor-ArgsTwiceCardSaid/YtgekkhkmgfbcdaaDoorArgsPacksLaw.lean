/- Chapter 25: the walk of the law ArgsPacks. -/
import Derived.Test.YtgekkhkmgfbcdaaDoorArgsCutLaw
import Derived.Test.YtgekkhkmgfbcdaaDoorArgsRefPack
import Derived.Test.YtgekkhkmgfbcdaaDoorArgsRefUnp
import Derived.Test.YtgekkhkmgfbcdaaDoorOpenStrs
namespace Go.Proofs.YtgekkhkmgfbcdaaDoor
open Go.Shelf Go.RowKit

theorem own_empty (w : World) : Own Estr 9 w (w.alloc (.cells #[] 9)) (.slice (some ⟨w.heap.size, 0, none⟩) 0 0) [] :=
  ⟨⟨rfl, .inr ⟨w.heap.size, 0, #[], rfl, Nat.le_refl _, heap_alloc_new w _, Nat.le_refl _, by simp [maxLen], rfl, rfl⟩⟩, (Below.refl _ w).alloc (Nat.le_refl _) _⟩

theorem pack_len (l : List ByteArray) : (ArgsP.packL (txt l)).length ≤ total l + 9 * l.length := by
  induction l with
  | nil => simp [txt, ArgsP.packL]
  | cons x l ih =>
    show (if x.data.toList.length ≤ 9999999 then ArgsP.packOne x.data.toList ++ ArgsP.packL (txt l) else []).length ≤ _
    rw [len_bytes]
    unfold total at ih ⊢
    split
    · rename_i h
      have := digits_few h
      unfold ArgsP.packOne
      simp only [List.length_append, List.length_cons, List.length_nil, len_bytes, List.map_cons, List.sum_cons]
      omega
    · simp
theorem fit_all (l : List ByteArray) (h : total l ≤ 1048576) : ArgsP.fit (txt l) = txt l := by
  induction l with
  | nil => rfl
  | cons x l ih =>
    have hx : x.size + total l ≤ 1048576 := by simpa [total] using h
    show ArgsP.fit (x.data.toList :: txt l) = x.data.toList :: txt l
    unfold ArgsP.fit
    rw [List.takeWhile_cons_of_pos (by rw [len_bytes]; simp; omega)]
    congr 1
    exact ih (by omega)

theorem refUnpack_err {s : ByteArray} {i : Nat} (w : World) (hs : s.size ≤ 1099511627776) (h : ArgsP.unp s.data.toList 0 = .error i) :
    Calls Tryd.prog 12 #[.string s] w fun e w' => e = .returned (.tuple #[.slice none 0 0, .int .i64 4, .int .i64 i]) ∧ Below w.heap.size w w' := by
  refine (refUnpack_any s w hs).mono ?_
  rintro e w' ⟨hb, hr⟩
  rw [h] at hr
  exact ⟨hr, hb⟩
theorem refUnpack_good {s : ByteArray} {l : List ByteArray} (w : World) (hs : s.size ≤ 1099511627776) (h : ArgsP.unp s.data.toList 0 = .ok (txt l)) :
    Calls Tryd.prog 12 #[.string s] w fun e w' => ∃ A c, e = .returned (.tuple #[.slice A l.length c, .int .i64 0, .int .i64 0]) ∧ SeqAt Estr w' w'.heap.size A l ∧ l.length ≤ c ∧ c ≤ maxLen ∧ Below w.heap.size w w' := by
  refine (refUnpack_any s w hs).mono ?_
  rintro e w' ⟨hb, hr⟩
  rw [h] at hr
  obtain ⟨v, rfl, hv, _⟩ := hr
  rw [show (txt l).map bytesOf = l from map_bytes l] at hv
  obtain ⟨A, c, rfl, h1, h2, h3⟩ := hv
  exact ⟨A, c, rfl, h3, h1, h2, hb⟩
/-- Both ways of unpacking a text, at once: its texts (none, if something is wrong), the error's number and its place. -/
theorem unpack_both (s : ByteArray) (hs : s.size ≤ 1099511627776) : ∃ (L : List ByteArray) (code i : Int),
    (∀ w, Base w → Calls Tryd.prog 11 #[.string s] w fun e w' => ∃ A c, e = .returned (.tuple #[.slice A L.length c, .agg #[.int .i64 code, .int .i64 i]]) ∧ SeqAt Estr w' w'.heap.size A L ∧ L.length ≤ c ∧ c ≤ maxLen ∧ Below w.heap.size w w') ∧
    (∀ w, Calls Tryd.prog 12 #[.string s] w fun e w' => ∃ A c, e = .returned (.tuple #[.slice A L.length c, .int .i64 code, .int .i64 i]) ∧ SeqAt Estr w' w'.heap.size A L ∧ L.length ≤ c ∧ c ≤ maxLen ∧ Below w.heap.size w w') := by
  cases hu : ArgsP.unp s.data.toList 0 with
  | error i =>
    refine ⟨[], 4, i, fun w hB => (unpack_err w hs hB hu).mono ?_, fun w => (refUnpack_err w hs hu).mono ?_⟩
    · rintro e w' ⟨rfl, hb⟩
      exact ⟨none, 0, rfl, SeqAt.nil_, by simp, by simp [maxLen], hb⟩
    · rintro e w' ⟨rfl, hb⟩
      exact ⟨none, 0, rfl, SeqAt.nil_, by simp, by simp [maxLen], hb⟩
  | ok L0 =>
    have h : ArgsP.unp s.data.toList 0 = .ok (txt (L0.map bytesOf)) := by
      rw [hu]
      unfold txt
      rw [List.map_map]
      have : ((fun x : ByteArray => x.data.toList) ∘ bytesOf) = id := by funext x; exact bytesOf_list x
      rw [this, List.map_id]
    exact ⟨L0.map bytesOf, 0, 0, fun w hB => unpack_good w hs hB h, fun w => refUnpack_good w hs h⟩

set_option maxRecDepth 100000 in
set_option maxHeartbeats 4000000 in
theorem packs_law (A : Option Addr) (c : Nat) (l : List ByteArray) (s : ByteArray) (w : World) (hS : SeqAt Estr w w.heap.size A l) (hb : l.length + total l ≤ 1048576) (hs : s.size ≤ 1048576) (hB : Base w) :
    Calls Tryd.prog 3 #[.slice A l.length c, .string s] w fun e w' => e = .returned (.bool true) ∧ Below w.heap.size w w' := by
  have H := Lib.hid hB
  have HS := Lib.hid hS
  obtain ⟨P, hP⟩ : ∃ P, ArgsP.packL (txt l) = P := ⟨_, rfl⟩
  have hPl : P.length ≤ 10000000 := by have := pack_len l; rw [hP] at this; omega
  have HP := Lib.hid hP
  obtain ⟨p, hp⟩ : ∃ p, bytesOf P = p := ⟨_, rfl⟩
  have HU := Lib.hid (show ArgsP.unp p.data.toList 0 = .ok (txt l) by rw [← hp, bytesOf_list, ← hP, ArgsP.unp_packed, fit_all l (by omega)])
  have hps : p.size ≤ 10000000 := by rw [← hp, bytesOf_size]; exact hPl
  have Hp := Lib.hid hp
  obtain ⟨n, hn⟩ : ∃ n, l.length = n := ⟨_, rfl⟩
  have HL := Lib.hid hn
  have hn2 : n ≤ 1048576 := by omega
  rw [hn]
  clear hB hS hP hp hn hb
  go_enter Tryd.func3, Tryd.ntmps3
  go_upto_region 3 with (go_at_call 8; refine (speaks_any _ H.out).mono ?_; rintro e w1 ⟨rfl, hb1⟩)
  have HS1 := Lib.hid ((HS.out.below hb1).more hb1.size)
  go_upto_region 4 with (at_builtin; (refine wpList_append_seq _ rfl (.tmp 17) (.tmp 18) 22 rfl 16 elStr rfl (own_empty w1) n rfl (HS1.out.alloc (Nat.le_refl _) _) HL.out ?c3 ?c4 ?_))
  case c3 => simp [maxLen]; omega
  case c4 => simp; omega
  intro v2 w2 hO2 hg2
  obtain ⟨A2, c2, rfl, _, _, hA2⟩ := hO2.isSeq
  have hb2 := hb1.trans (hO2.2.mono hb1.size)
  rw [HL.out]
  have HK := Lib.hid (pack_any A2 c2 l w2 w2.heap.size hA2 (Nat.le_refl _) (by rw [HL.out]; omega) (by rw [HP.out]; omega) (H.out.below hb2))
  rw [HL.out, HP.out] at HK
  go_upto_region 4 with (go_at_call 9; refine HK.out.mono ?_; rintro e w3 ⟨rfl, hb3⟩; rw [Hp.out])
  have hb13 := hb2.trans (hb3.mono hb2.size)
  clear HK
  have HR := Lib.hid (refPack_any A c l w3 w3.heap.size ((HS.out.below hb13).more hb13.size) (Nat.le_refl _) (by rw [HL.out]; omega) (by rw [HP.out]; omega))
  rw [HL.out, HP.out] at HR
  go_upto_region 6 with (go_at_call 10; refine HR.out.mono ?_; rintro e w4 ⟨rfl, hb4⟩; rw [Hp.out])
  have hb14 := hb13.trans (hb4.mono hb13.size)
  clear HR
  go_upto_region 7 with (go_at_call 11; refine (unpack_good (l := l) _ (by omega) (H.out.below hb14) HU.out).mono ?_; rintro e w5 ⟨A5, c5, rfl, hA5, hc5, hm5, hb5⟩; rw [HL.out])
  have hb15 := hb14.trans (hb5.mono hb14.size)
  obtain ⟨L, code, at_, hU1, hU2⟩ := unpack_both s (by omega)
  have HU1 := Lib.hid hU1
  have HU2 := Lib.hid hU2
  obtain ⟨m, hm⟩ : ∃ m, L.length = m := ⟨_, rfl⟩
  have HM := Lib.hid hm
  clear hU1 hU2
  rw [hm] at HU1 HU2
  clear hm
  go_upto_region 9 with (first
    | (go_at_call 11; refine (HU1.out _ (H.out.later (hb15.alloc hb15.size _))).mono ?_; rintro e w6 ⟨A6, c6, rfl, hA6, hc6, hm6, hb6⟩; obtain ⟨hf0, hf1, hb6', hz6⟩ := fault_kept hb6)
    | (go_at_call 12; refine (HU2.out _).mono ?_; rintro e w7 ⟨A7, c7, rfl, hA7, hc7, hm7, hb7⟩; obtain ⟨hf2, hf3, hb7', hz7⟩ := fault_kept hb7))
  have hg0 := (hb7'.cell (p := ⟨w5.heap.size, 0, none⟩) hz6).trans hf0
  have hg1 := (hb7'.cell (p := ⟨w5.heap.size, 1, none⟩) hz6).trans hf1
  have he1 := faultEq_same 0 0
  have he2 := faultEq_same code at_
  have hb57 := hb6'.trans (hb7'.mono (Nat.le_of_lt hz6))
  have hb17 := hb15.trans (hb57.mono hb15.size)
  have h5 := Lib.hid ((hA5.below hb57).more hb57.size)
  have h6 := Lib.hid ((hA6.below hb7').more hb7'.size)
  have h7 := Lib.hid hA7
  have hS := Lib.hid ((HS.out.below hb17).more hb17.size)
  clear hA5 hA6 hA7 hf0 hf1 HS HS1
  unfold maxLen at hm6
  go_wp2
  go_loopw [13] (fun i wr => ∃ k : Nat, k ≤ m ∧ i = .int .i64 k ∧ Below w7.heap.size w7 wr) (fun i _ => m + 1 - (intOf i).toNat)
  case atStart => exact ⟨0, by omega, rfl, Below.refl _ _⟩
  case round =>
    obtain ⟨k, hk, rfl, hbw⟩ := hrel
    by_cases hlt : k < m
    · obtain ⟨b6, o6, rfl, hb6, hc6'⟩ := (h6.out.below hbw).strs_ (by rw [HM.out]; omega)
      obtain ⟨b7, o7, rfl, hb7, hc7'⟩ := (h7.out.below hbw).strs_ (by rw [HM.out]; omega)
      have x6 := hc6' k (by rw [HM.out]; exact hlt)
      have x7 := hc7' k (by rw [HM.out]; exact hlt)
      clear hc6' hc7'
      generalize L.getD k ⟨#[]⟩ = t at x6 x7
      have hkm : (k : Int) < (m : Int) := by omega
      have hk0 : (0 : Int) ≤ (k : Int) := by omega
      go_wp2
      go_quiet (fail)
      go_wp2
      go_roundw
      case rel => exact ⟨k + 1, by omega, by go_num, below_drewN hbw _⟩
      case measure => simp [intOf]; omega
    · have hkm : m ≤ k := by omega
      clear h6 h7
      go_wp2
      go_loopw [14] (fun i wx => ∃ k : Nat, k ≤ n ∧ i = .int .i64 k ∧ Below w7.heap.size w7 wx) (fun i _ => n + 1 - (intOf i).toNat)
      case atStart => exact ⟨0, by omega, rfl, hbw⟩
      case round =>
        obtain ⟨k, hk, rfl, hbx⟩ := hrel
        by_cases hlt : k < n
        · obtain ⟨b5, o5, rfl, hb5, hc5'⟩ := (h5.out.below hbx).strs_ (by rw [HL.out]; omega)
          obtain ⟨b0, o0, rfl, hb0, hc0'⟩ := (hS.out.below hbx).strs_ (by rw [HL.out]; omega)
          have x5 := hc5' k (by rw [HL.out]; exact hlt)
          have x0 := hc0' k (by rw [HL.out]; exact hlt)
          clear hc5' hc0'
          generalize l.getD k ⟨#[]⟩ = t at x5 x0
          have hkm : (k : Int) < (n : Int) := by omega
          have hk0 : (0 : Int) ≤ (k : Int) := by omega
          go_wp2
          go_quiet (fail)
          go_wp2
          go_roundw
          case rel => exact ⟨k + 1, by omega, by go_num, below_drewN hbx _⟩
          case measure => simp [intOf]; omega
        · have hkn : n ≤ k := by omega
          go_wp2
          go_ret
          exact ⟨rfl, hb17.trans (hbx.mono hb17.size)⟩

end Go.Proofs.YtgekkhkmgfbcdaaDoor
