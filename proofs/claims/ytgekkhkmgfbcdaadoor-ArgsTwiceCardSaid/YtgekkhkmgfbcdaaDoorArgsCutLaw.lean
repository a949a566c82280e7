/- Chapter 25: the walk of the law ArgsCut. -/
import Derived.Test.YtgekkhkmgfbcdaaDoorArgsPack
import Derived.Test.YtgekkhkmgfbcdaaDoorFaultEq
import Derived.Test.YtgekkhkmgfbcdaaDoorBytes
import Derived.Deep.DeepCutAuto
namespace Go.Proofs.YtgekkhkmgfbcdaaDoor
open Go.Shelf Go.RowKit

theorem speaks_txt : ArgsP.packL (txt [⟨#[97, 98]⟩, ⟨#[]⟩]) = [50, 58, 97, 98, 44, 48, 58, 44] := by
  have h2 : Lib.decDigits 2 = [50] := by rw [Lib.decDigits]; rfl
  have h0 : Lib.decDigits 0 = [48] := by rw [Lib.decDigits]; rfl
  show (if ([97, 98] : List UInt8).length ≤ 9999999 then ArgsP.packOne [97, 98] ++ (if ([] : List UInt8).length ≤ 9999999 then ArgsP.packOne [] ++ [] else []) else []) = _
  rw [if_pos (by decide), if_pos (by decide)]
  unfold ArgsP.packOne
  rw [show ([97, 98] : List UInt8).length = 2 from rfl, show ([] : List UInt8).length = 0 from rfl, h2, h0]
  rfl

set_option maxRecDepth 100000 in
theorem speaks_any (w : World) (hB : Base w) : Calls Tryd.prog 8 #[] w fun e w' => e = .returned (.bool true) ∧ Below w.heap.size w w' := by
  have HP := Lib.hid (pack_any (some ⟨w.heap.size, 0, none⟩) 2 [⟨#[97, 98]⟩, ⟨#[]⟩] (w.alloc (.cells #[.string ⟨#[97, 98]⟩, .string ⟨#[]⟩] 9)) (w.heap.size + 1) (SeqAt.new (E := Estr) w [⟨#[97, 98]⟩, ⟨#[]⟩] 9) (by simp) (by decide) (by rw [speaks_txt]; decide) (hB.below ((Below.refl _ w).alloc (Nat.le_refl _) _)))
  rw [speaks_txt] at HP
  have HS := Lib.hid (show bytesOf [50, 58, 97, 98, 44, 48, 58, 44] = ⟨#[50, 58, 97, 98, 44, 48, 58, 44]⟩ from rfl)
  go_enter Tryd.func8, Tryd.ntmps8
  go_wp2_with (go_at_call 9; refine HP.out.mono ?_; rintro e w1 ⟨rfl, hb1⟩; rw [HS.out])
  go_ret
  exact ⟨rfl, ((Below.refl _ w).alloc (Nat.le_refl _) _).trans (hb1.mono (by simp))⟩

/-- Pack of one text. -/
theorem pack_one (s : ByteArray) (w : World) (g : Nat) (hg : w.heap.size = g) (hs : s.size ≤ 9999999) (hB : Base w) :
    Calls Tryd.prog 9 #[.slice (some ⟨g, 0, none⟩) 1 1] (w.alloc (.cells #[.string s] 9)) fun e w' => e = .returned (.string (bytesOf (ArgsP.packOne s.data.toList))) ∧ Below w.heap.size w w' := by
  subst hg
  have hp : ArgsP.packL (txt [s]) = ArgsP.packOne s.data.toList := by
    show (if s.data.toList.length ≤ 9999999 then ArgsP.packOne s.data.toList ++ [] else []) = _
    rw [if_pos (by rw [len_bytes]; exact hs), List.append_nil]
  have hl : (ArgsP.packOne s.data.toList).length ≤ 140737488355328 := by
    unfold ArgsP.packOne
    have := digits_few hs
    simp [len_bytes]; omega
  refine (pack_any (some ⟨w.heap.size, 0, none⟩) 1 [s] (w.alloc (.cells #[.string s] 9)) (w.heap.size + 1) (SeqAt.new (E := Estr) w [s] 9) (by simp) (by simp) (by rw [hp]; exact hl) (hB.below ((Below.refl _ w).alloc (Nat.le_refl _) _))).mono ?_
  rintro e w' ⟨rfl, hb⟩
  exact ⟨by rw [hp], ((Below.refl _ w).alloc (Nat.le_refl _) _).trans (hb.mono (by simp))⟩

theorem unpack_err {s : ByteArray} {i : Nat} (w : World) (hs : s.size ≤ 1099511627776) (hB : Base w) (h : ArgsP.unp s.data.toList 0 = .error i) :
    Calls Tryd.prog 11 #[.string s] w fun e w' => e = .returned (.tuple #[.slice none 0 0, .agg #[.int .i64 4, .int .i64 i]]) ∧ Below w.heap.size w w' := by
  refine (unpack_any s w hs hB).mono ?_
  rintro e w' ⟨hb, hr⟩
  rw [h] at hr
  exact ⟨hr, hb⟩
theorem unpack_good {s : ByteArray} {l : List ByteArray} (w : World) (hs : s.size ≤ 1099511627776) (hB : Base w) (h : ArgsP.unp s.data.toList 0 = .ok (txt l)) :
    Calls Tryd.prog 11 #[.string s] w fun e w' => ∃ A c, e = .returned (.tuple #[.slice A l.length c, .agg #[.int .i64 0, .int .i64 0]]) ∧ SeqAt Estr w' w'.heap.size A l ∧ l.length ≤ c ∧ c ≤ maxLen ∧ Below w.heap.size w w' := by
  refine (unpack_any s w hs hB).mono ?_
  rintro e w' ⟨hb, hr⟩
  rw [h] at hr
  obtain ⟨v, rfl, hv, _⟩ := hr
  rw [show (txt l).map bytesOf = l from map_bytes l] at hv
  obtain ⟨A, c, rfl, h1, h2, h3⟩ := hv
  exact ⟨A, c, rfl, h3, h1, h2, hb⟩

/-- A packed text that is cut off is none. -/
theorem one_cut (b : List UInt8) (m : Nat) (hb : b.length ≤ 9999999) (hm : m < (ArgsP.packOne b).length) : ArgsP.oneL ((ArgsP.packOne b).take m) = none := by
  cases ho : ArgsP.oneL ((ArgsP.packOne b).take m) with
  | none => rfl
  | some q =>
    obtain ⟨k, n⟩ := q
    obtain ⟨⟨h1, h2, h3, h4, h5, h6⟩, hk⟩ := ArgsP.ahead_of_oneL ho
    rw [hk] at h2 h3 h4 h5 h6
    rw [List.length_take] at h5
    have hkm : k + 2 + n ≤ m := by omega
    have e1 : ((ArgsP.packOne b).take m).take k = (ArgsP.packOne b).take k := by rw [List.take_take]; congr 1; omega
    rw [e1] at h1 hk
    have hw : ArgsP.oneL (ArgsP.packOne b) = some (((ArgsP.packOne b).take k).length, n) := by
      refine ArgsP.oneL_of_ahead ⟨h1, by omega, by rw [hk], ?_, by rw [hk]; omega, ?_⟩
      · rw [hk]; rw [List.getElem?_take, if_pos (by omega)] at h4; exact h4
      · rw [hk]; rw [List.getElem?_take, if_pos (by omega)] at h6; exact h6
    have h7 := ArgsP.one_packed [] b [] hb
    rw [List.append_nil] at h7
    have h8 : ArgsP.oneL (ArgsP.packOne b) = some ((Lib.decDigits b.length).length, b.length) := h7
    rw [h8] at hw
    have h9 := Prod.mk.inj (Option.some.inj hw)
    have hlen : (ArgsP.packOne b).length = (Lib.decDigits b.length).length + 2 + b.length := by unfold ArgsP.packOne; simp; omega
    omega
theorem unp_cut (a b : List UInt8) (m : Nat) (ha : a.length ≤ 9999999) (hb : b.length ≤ 9999999) (h0 : 0 < m) (hm : m < (ArgsP.packOne b).length) :
    ArgsP.unp (ArgsP.packOne a ++ (ArgsP.packOne b).take m) 0 = .error (ArgsP.packOne a).length := by
  have h1 := ArgsP.one_packed [] a ((ArgsP.packOne b).take m) ha
  have h2 : ArgsP.oneL ((ArgsP.packOne a ++ (ArgsP.packOne b).take m).drop 0) = some ((Lib.decDigits a.length).length, a.length) := h1
  have hlen : (ArgsP.packOne a).length = (Lib.decDigits a.length).length + 2 + a.length := by unfold ArgsP.packOne; simp; omega
  rw [ArgsP.unp_good (by rw [List.length_append]; omega) h2]
  rw [show 0 + (Lib.decDigits a.length).length + 2 + a.length = (ArgsP.packOne a).length by omega]
  rw [ArgsP.unp_bad (by rw [List.length_append, List.length_take]; omega) (by rw [List.drop_left]; exact one_cut b m hb hm)]
  rfl
theorem unp_two (a b : List UInt8) (ha : a.length ≤ 9999999) (hb : b.length ≤ 9999999) : ArgsP.unp (ArgsP.packOne a ++ ArgsP.packOne b) 0 = .ok [a, b] := by
  have h := ArgsP.unp_packed [a, b]
  have e : ArgsP.packL [a, b] = ArgsP.packOne a ++ ArgsP.packOne b := by
    show (if a.length ≤ 9999999 then ArgsP.packOne a ++ (if b.length ≤ 9999999 then ArgsP.packOne b ++ [] else []) else []) = _
    rw [if_pos ha, if_pos hb, List.append_nil]
  have f : ArgsP.fit [a, b] = [a, b] := by unfold ArgsP.fit; rw [List.takeWhile_cons_of_pos (by simpa using ha), List.takeWhile_cons_of_pos (by simpa using hb)]; rfl
  rw [e, f] at h
  exact h

/-- The cells of a fault that was stored behind a call stand behind the next one. -/
theorem fault_kept {w w1 : World} {a b : Value} {T : TypeId} (hb : Below (w.alloc (.cells #[a, b] T)).heap.size (w.alloc (.cells #[a, b] T)) w1) :
    w1.cell? ⟨w.heap.size, 0, none⟩ = some a ∧ w1.cell? ⟨w.heap.size, 1, none⟩ = some b ∧ Below w.heap.size w w1 ∧ w.heap.size < w1.heap.size :=
  ⟨(hb.cell (p := ⟨_, 0, none⟩) (by simp)).trans (World.cell?_alloc_new w _ _ 0), (hb.cell (p := ⟨_, 1, none⟩) (by simp)).trans (World.cell?_alloc_new w _ _ 1),
    ((Below.refl _ w).alloc (Nat.le_refl _) _).trans (hb.mono (by simp)), by have := hb.size; simp at this; omega⟩

set_option maxRecDepth 100000 in
set_option maxHeartbeats 4000000 in
theorem cut_law (a b : ByteArray) (cut : Int) (w : World) (ha : a.size ≤ 140737488355328) (hb : b.size ≤ 140737488355328) (hB : Base w) :
    Calls Tryd.prog 4 #[.string a, .string b, .int .i64 cut] w fun e w' => e = .returned (.bool true) ∧ Below w.heap.size w w' := by
  have H := Lib.hid hB
  clear hB
  by_cases hab : (a.size : Int) + b.size ≤ 9999
  · obtain ⟨x, hx⟩ : ∃ x, bytesOf (ArgsP.packOne a.data.toList) = x := ⟨_, rfl⟩
    obtain ⟨y, hy⟩ : ∃ y, bytesOf (ArgsP.packOne b.data.toList) = y := ⟨_, rfl⟩
    have HX := Lib.hid hx
    have HY := Lib.hid hy
    have da := digits_few (n := a.size) (by omega)
    have db := digits_few (n := b.size) (by omega)
    have hxs : x.size ≤ 20000 := by rw [← hx, bytesOf_size]; unfold ArgsP.packOne; simp [len_bytes]; omega
    have hys : y.size ≤ 20000 := by rw [← hy, bytesOf_size]; unfold ArgsP.packOne; simp [len_bytes]; omega
    have hy2 : 2 ≤ y.size := by rw [← hy, bytesOf_size]; unfold ArgsP.packOne; simp only [List.length_append, List.length_cons, List.length_singleton]; omega
    have HC := Lib.hid (show ∀ m, 0 < m → m < y.size → ArgsP.unp (x ++ y.extract 0 m).data.toList 0 = .error x.size by
      intro m h0 h1
      rw [cat_list, mid_list, ← hx, ← hy, bytesOf_list, bytesOf_list, List.drop_zero, Nat.sub_zero, bytesOf_size]
      exact unp_cut _ _ m (by rw [len_bytes]; omega) (by rw [len_bytes]; omega) h0 (by rw [← hy, bytesOf_size] at h1; exact h1))
    have HT := Lib.hid (show ArgsP.unp (x ++ y).data.toList 0 = .ok (txt [a, b]) by
      rw [cat_list, ← hx, ← hy, bytesOf_list, bytesOf_list]
      exact unp_two _ _ (by rw [len_bytes]; omega) (by rw [len_bytes]; omega))
    clear hx hy da db
    have hcase : cut < 1 ∨ (1 ≤ cut ∧ (y.size : Int) ≤ cut) ∨ (1 ≤ cut ∧ cut < (y.size : Int) ∧ 0 ≤ (y.size : Int) - cut ∧ (y.size : Int) - cut ≤ (y.size : Int)) := by omega
    have hcat : ∀ m, x.size + (y.extract 0 m).size ≤ 9223372036854775807 := fun m => by rw [ByteArray.size_extract]; omega
    have hcat2 : x.size + y.size ≤ 9223372036854775807 := by omega
    rcases hcase with hc | ⟨hc, hc'⟩ | ⟨hc, hc', hz0, hz1⟩
    all_goals
      go_enter Tryd.func4, Tryd.ntmps4
      go_upto_region 8 with (first
        | (go_at_call 8; refine (speaks_any _ H.out).mono ?_; rintro e w1 ⟨rfl, hb1⟩; have hT : True := trivial)
        | (go_at_call 9; clear hT; refine (pack_one a _ _ rfl (by omega) (H.out.later hb1)).mono ?_; rintro e w2 ⟨rfl, hb2⟩; rw [HX.out]; have hb12 := hb1.trans (hb2.mono hb1.size))
        | (go_at_call 9; refine (pack_one b _ _ rfl (by omega) (H.out.later hb12)).mono ?_; rintro e w3 ⟨rfl, hb3⟩; rw [HY.out]; have hb123 := hb12.trans (hb3.mono hb12.size)))
      go_upto_region 9 with ((go_at_call 11; refine (unpack_err (i := x.size) _ (by rw [ByteArray.size_append, ByteArray.size_extract]; omega) (H.out.later hb123) (HC.out _ (by omega) (by omega))).mono ?_; rintro e w4 ⟨rfl, hb4⟩; have hb1234 := hb123.trans (hb4.mono hb123.size)))
      go_upto_region 10 with ((go_at_call 11; refine (unpack_good (l := [a, b]) _ (by rw [ByteArray.size_append]; omega) (H.out.later (hb1234.alloc hb1234.size _)) HT.out).mono ?_; rintro e w5 ⟨A, c, rfl, hA, hc1, hc2, hb5⟩; obtain ⟨hf0, hf1, hb5', hz5⟩ := fault_kept hb5))
      obtain ⟨b5, off, rfl, hbl, hcs⟩ := hA.strs_ (by simp)
      have hs0 : w5.cell? ⟨b5, off, none⟩ = some (.string a) := hcs 0 (by simp)
      have hs1 : w5.cell? ⟨b5, off + 1, none⟩ = some (.string b) := hcs 1 (by simp)
      have he1 := faultEq_same 4 x.size
      have he2 := faultEq_same 0 0
      clear hcs hA
      go_wp2
      go_ret
      exact ⟨rfl, (hb1234.trans (hb5'.mono hb1234.size)).alloc (by have := hb1234.size; omega) _⟩
  · go_enter Tryd.func4, Tryd.ntmps4
    go_wp2_with (go_at_call 8; refine (speaks_any _ H.out).mono ?_; rintro e w1 ⟨rfl, hb1⟩)
    go_ret
    exact ⟨rfl, hb1⟩

end Go.Proofs.YtgekkhkmgfbcdaaDoor
