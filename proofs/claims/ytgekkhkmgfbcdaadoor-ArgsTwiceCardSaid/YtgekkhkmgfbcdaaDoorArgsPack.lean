/- Chapter 25: the walk of args' Pack. -/
import Derived.Test.YtgekkhkmgfbcdaaDoorArgsUnpack
namespace Go.Proofs.YtgekkhkmgfbcdaaDoor
open Go.Shelf Go.RowKit

/-- The texts behind a slice, one by one. -/
theorem SeqAt.strs_ {w : World} {B : Nat} {A : Option Addr} {l : List ByteArray} (h : SeqAt Estr w B A l) (hn : 0 < l.length) :
    ∃ b off, A = some ⟨b, off, none⟩ ∧ b < B ∧ ∀ i, i < l.length → w.cell? ⟨b, off + i, none⟩ = some (.string (l.getD i ⟨#[]⟩)) := by
  obtain ⟨b, off, e, hb, hc⟩ := h.at_ hn
  refine ⟨b, off, e, hb, fun i hi => ?_⟩
  obtain ⟨b', off', e', _, hc'⟩ := h.at_ hi
  rw [e] at e'
  injection e' with e'
  injection e' with e1 e2
  subst e1; subst e2
  have := hc' 0 (by decide)
  rw [List.getD_eq_getElem?_getD, List.getElem?_eq_getElem hi]
  simpa [Estr] using this

def txt (l : List ByteArray) : List (List UInt8) := l.map (·.data.toList)
theorem drop_getD {l : List ByteArray} {k : Nat} {x : ByteArray} (hk : k < l.length) (hx : l.getD k ⟨#[]⟩ = x) : l.drop k = x :: l.drop (k + 1) := by
  rw [← hx, List.getD_eq_getElem?_getD, List.getElem?_eq_getElem hk, List.drop_eq_getElem_cons hk]; rfl
theorem pack_step {l : List ByteArray} {k : Nat} {x : ByteArray} {acc : List UInt8} (h : ArgsP.packL (txt l) = acc ++ ArgsP.packL (txt (l.drop k))) (hk : k < l.length) (hx : l.getD k ⟨#[]⟩ = x) (hs : x.size ≤ 9999999) :
    ArgsP.packL (txt l) = (acc ++ Lib.decDigits x.size ++ [58] ++ x.data.toList ++ [44]) ++ ArgsP.packL (txt (l.drop (k + 1))) := by
  rw [h, drop_getD hk hx]
  show _ ++ (if x.data.toList.length ≤ 9999999 then ArgsP.packOne x.data.toList ++ ArgsP.packL (txt (l.drop (k + 1))) else []) = _
  rw [len_bytes, if_pos hs]
  unfold ArgsP.packOne
  simp [len_bytes]
theorem pack_stop {l : List ByteArray} {k : Nat} {x : ByteArray} {acc : List UInt8} (h : ArgsP.packL (txt l) = acc ++ ArgsP.packL (txt (l.drop k))) (hk : k < l.length) (hx : l.getD k ⟨#[]⟩ = x) (hs : 9999999 < x.size) :
    ArgsP.packL (txt l) = acc := by
  rw [h, drop_getD hk hx]
  show _ ++ (if x.data.toList.length ≤ 9999999 then ArgsP.packOne x.data.toList ++ ArgsP.packL (txt (l.drop (k + 1))) else []) = _
  rw [len_bytes, if_neg (by omega), List.append_nil]
theorem pack_end {l : List ByteArray} {k : Nat} {acc : List UInt8} (h : ArgsP.packL (txt l) = acc ++ ArgsP.packL (txt (l.drop k))) (hk : l.length ≤ k) : ArgsP.packL (txt l) = acc := by
  rw [h, List.drop_of_length_le hk]; exact List.append_nil _
theorem digits_few {n : Nat} (h : n ≤ 9999999) : (Lib.decDigits n).length ≤ 7 := ArgsP.dec_len_le (by omega) (by omega)

/-- A call that hands back a text. -/
def RetTxt (l : List UInt8) (w : World) (e : Ending) (w' : World) : Prop := e = .returned (.string (bytesOf l)) ∧ Below w.heap.size w w'

set_option maxRecDepth 100000 in
set_option maxHeartbeats 1000000 in
theorem pack_any (A : Option Addr) (c : Nat) (l : List ByteArray) (w : World) (B : Nat) (hA : SeqAt Estr w B A l) (hB : B ≤ w.heap.size) (hl : l.length ≤ 8796093022208) (hbig : (ArgsP.packL (txt l)).length ≤ 140737488355328) (hBase : Base w) :
    Calls Tryd.prog 9 #[.slice A l.length c] w (RetTxt (ArgsP.packL (txt l)) w) := by
  have H := Lib.hid hBase
  have HA := Lib.hid hA
  have HB := Lib.hid hbig
  obtain ⟨n, hn⟩ : ∃ n, l.length = n := ⟨_, rfl⟩
  have HL := Lib.hid hn
  rw [hn] at hl ⊢
  clear hA hn hbig hBase
  go_enter Tryd.func9, Tryd.ntmps9
  go_wp2
  go_loopw [8] (fun i wr => ∃ (k : Nat) (acc : List UInt8), i = .int .i64 k ∧ k ≤ n ∧ Bld w.heap.size w.heap.size acc wr ∧ Below w.heap.size w wr ∧ Hid (ArgsP.packL (txt l) = acc ++ ArgsP.packL (txt (l.drop k)))) (fun i _ => n - (intOf i).toNat)
  case atStart => exact ⟨0, [], rfl, by omega, Bld.new w, (Below.refl _ w).alloc (Nat.le_refl _) _, Lib.hid rfl⟩
  case round =>
    obtain ⟨k, acc, rfl, hk, hO, hb, HU⟩ := hrel
    by_cases hlt : k < n
    · obtain ⟨b, off, rfl, hbB, hcs⟩ := (HA.out.below (hb.mono hB)).strs_ (by rw [HL.out]; omega)
      have hc0 := hcs k (by rw [HL.out]; exact hlt)
      clear hcs
      obtain ⟨x, hx⟩ : ∃ x, l.getD k ⟨#[]⟩ = x := ⟨_, rfl⟩
      rw [hx] at hc0
      by_cases hs : x.size ≤ 9999999
      · have HS := Lib.hid (pack_step HU.out (by rw [HL.out]; exact hlt) hx hs)
        have hfit : (acc ++ Lib.decDigits x.size ++ [58] ++ x.data.toList ++ [44]).length ≤ 140737488355328 := by
          have := HB.out; rw [HS.out, List.length_append] at this; omega
        simp only [List.length_append, List.length_singleton, len_bytes] at hfit
        clear hx
        have hd := digits_few hs
        have hI : Lib.itoa (x.size : Int) = (bytesOf (Lib.decDigits x.size)).data.toList := by rw [bytesOf_list]; exact Lib.itoa_nonneg _
        have HI := Lib.hid hI
        clear hI
        go_wp2_with (go_at_call 20; refine (itoa_w _ _ _ HI.out (by omega) (by omega) (H.out.later hb)).mono ?_; rintro e w1 ⟨rfl, hb1⟩)
        refine (writeString_any (bytesOf (Lib.decDigits x.size)) (hO.below hb1) (by rw [bytesOf_size]; omega) (Nat.le_trans hb.size hb1.size)).mono ?_
        rintro e w2 ⟨rfl, hO2, hk2⟩
        rw [bytesOf_list] at hO2
        go_wp2_with fail
        have hz2 := Nat.le_trans (Nat.le_trans hb.size hb1.size) hk2.1.size
        refine (writeByte_any 58 58 rfl hO2 (by simp only [List.length_append]; omega) hz2).mono ?_
        rintro e w3 ⟨rfl, hO3, hk3⟩
        go_wp2_with fail
        have hz3 := Nat.le_trans hz2 hk3.1.size
        refine (writeString_any x hO3 (by simp only [List.length_append, List.length_singleton]; omega) hz3).mono ?_
        rintro e w4 ⟨rfl, hO4, hk4⟩
        go_wp2_with fail
        have hz4 := Nat.le_trans hz3 hk4.1.size
        refine (writeByte_any 44 44 rfl hO4 (by simp only [List.length_append, List.length_singleton, len_bytes]; omega) hz4).mono ?_
        rintro e w5 ⟨rfl, hO5, hk5⟩
        go_wp2
        go_roundw
        case rel => exact ⟨k + 1, _, by go_num, by omega, hO5, (((hb.trans (hb1.mono hb.size)).trans hk2.1).trans hk3.1).trans (hk4.1.trans hk5.1), Lib.hid HS.out⟩
        case measure => simp [intOf]; omega
      · have HE := Lib.hid (pack_stop HU.out (by rw [HL.out]; exact hlt) hx (by omega))
        clear hx
        go_wp2_with (go_at_call 22; refine (string_any hO hb.size).mono ?_; rintro e w1 ⟨rfl, hO1, hk1⟩)
        go_ret
        exact ⟨by rw [HE.out]; rfl, hb.trans hk1.1⟩
    · have HE := Lib.hid (pack_end HU.out (by rw [HL.out]; omega))
      go_wp2_with (go_at_call 22; refine (string_any hO hb.size).mono ?_; rintro e w1 ⟨rfl, hO1, hk1⟩)
      go_ret
      exact ⟨by rw [HE.out]; rfl, hb.trans hk1.1⟩

end Go.Proofs.YtgekkhkmgfbcdaaDoor
