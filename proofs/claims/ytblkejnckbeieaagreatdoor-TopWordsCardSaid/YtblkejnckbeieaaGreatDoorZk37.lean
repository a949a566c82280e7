/- Chapter 18: the walks of found and of Next at a word; of the law's speaks. -/
import Derived.Test.YtblkejnckbeieaaGreatDoorZk28
import Derived.Test.YtblkejnckbeieaaGreatDoorZk36
import Derived.Test.YtblkejnckbeieaaGreatDoorZk25
import Derived.Test.YtblkejnckbeieaaGreatDoorShelf
namespace Go.Proofs.YtblkejnckbeieaaGreatDoor
open Go.RowKit SetPure WaveP

/-- What the walks ask of the world: wave's tables, and bytealg's MaxLen. -/
structure BaseP (W : World) : Prop where
  tabs : ∀ w', Below W.heap.size W w' → TabsW w'
  most : ∃ m, ∀ w', Below W.heap.size W w' → w'.cell? ⟨1, 0, none⟩ = some (.int .i64 m)
theorem BaseP.later {W w : World} (h : BaseP W) (k : Below W.heap.size W w) : BaseP w := by
  obtain ⟨h1, m, h2⟩ := h
  exact ⟨fun w' hb => h1 w' (k.trans (hb.mono k.size)), m, fun w' hb => h2 w' (k.trans (hb.mono k.size))⟩

set_option maxRecDepth 100000 in
set_option maxHeartbeats 3200000 in
theorem found_any (t s : ByteArray) (w : World) (hB : BaseP w) (h0 : 0 < s.size) (hs : s.size ≤ 9223372036854775807) (ht : t.size ≤ 1000000000) :
    Calls Tryz.prog 36 #[.string t, .string s] w fun e w' => e = .returned (.int .i64 (Lib.index t.data.toList s.data.toList)) ∧ Below w.heap.size w w' := by
  obtain ⟨hT, m, hm⟩ := hB
  have HI := Lib.hid (Tryz.strings_Index t s m w (by omega) (hm w (Below.refl _ _)))
  have HP : Hid (s.size ≤ 1024 → Calls Tryz.prog 9 #[.string t, .string s] w (RetSeq Eint w (plL t s))) := Lib.hid fun _h => places_any t s w (fun _ => by omega) (by unfold maxLen; omega) (by unfold maxLen; omega) hT
  have HF := Lib.hid (plL_first t s h0)
  obtain ⟨r, hr⟩ : ∃ r, Lib.index t.data.toList s.data.toList = r := ⟨_, rfl⟩
  rw [hr] at HI HF ⊢
  clear hT hm hr
  have hs9 : (s.size : Int) ≤ 9223372036854775807 := by omega
  have ht9 : (t.size : Int) ≤ 1000000000 := by omega
  by_cases h1 : s.size < 16
  · have z1 : (s.size : Int) < 16 := by omega
    clear HP HF h1
    go_enter Tryz.func36, Tryz.ntmps36
    go_wp2_with (go_at_call 75; refine HI.out.mono ?_; rintro e w2 ⟨rfl, rfl⟩)
    go_ret
    exact ⟨rfl, Below.refl _ _⟩
  · have z1 : ¬ (s.size : Int) < 16 := by omega
    by_cases h2 : 1024 < s.size
    · have z2 : (1024 : Int) < (s.size : Int) := by omega
      clear HP HF h1 h2
      go_enter Tryz.func36, Tryz.ntmps36
      go_wp2_with (go_at_call 75; refine HI.out.mono ?_; rintro e w2 ⟨rfl, rfl⟩)
      go_ret
      exact ⟨rfl, Below.refl _ _⟩
    · have z2 : ¬ (1024 : Int) < (s.size : Int) := by omega
      by_cases h3 : 4096 < t.size
      · have z3 : (4096 : Int) < (t.size : Int) := by omega
        clear HP HF h1 h2 h3
        go_enter Tryz.func36, Tryz.ntmps36
        go_wp2_with (go_at_call 75; refine HI.out.mono ?_; rintro e w2 ⟨rfl, rfl⟩)
        go_ret
        exact ⟨rfl, Below.refl _ _⟩
      · have z3 : ¬ (4096 : Int) < (t.size : Int) := by omega
        have HP2 := Lib.hid (HP.out (by omega))
        rcases HF.out (by omega) with ⟨e1, rfl⟩ | ⟨p, rest, e1, rfl⟩
        · rw [e1] at HP2
          clear HP HF HI h1 h2 h3 e1
          go_enter Tryz.func36, Tryz.ntmps36
          go_wp2_with (go_at_call 9; refine HP2.out.mono ?_; rintro e w2 ⟨v2, rfl, ⟨A2, c2, rfl, hc2, hm2, _⟩, hb2⟩; have HB2 := Lib.hid hb2; clear hb2 hc2 hm2)
          go_loopw [27] (fun s27 wr => s27 = .int .i64 0 ∧ Hid (Below w.heap.size w wr)) (fun _ _ => 0)
          case atStart => exact ⟨rfl, HB2⟩
          case round =>
            obtain ⟨rfl, HS⟩ := hrel
            go_wp2_with fail
            go_ret
            exact ⟨rfl, HS.out⟩
        · rw [e1] at HP2
          clear HP HF HI h1 h2 h3 e1
          go_enter Tryz.func36, Tryz.ntmps36
          go_wp2_with (go_at_call 9; refine HP2.out.mono ?_; rintro e w2 ⟨v2, rfl, ⟨A2, c2, rfl, hc2, hm2, hq2⟩, hb2⟩; have HB2 := Lib.hid hb2; obtain ⟨b, off, rfl, hbl, hcell⟩ := hq2.int_ (i := 0) (by simp); have hn0 : (0 : Int) < (((p : Int) :: rest).length : Int) := (by first | omega | (simp only [List.length_cons]; omega) | simp); have hcc : w2.cell? ⟨b, off, none⟩ = some (.int .i64 (p : Int)) := hcell; generalize ((p : Int) :: rest).length = n at hn0 ⊢; clear hb2 hc2 hm2 hq2 hcell hbl)
          go_loopw [27] (fun s27 wr => s27 = .int .i64 0 ∧ wr = w2) (fun _ _ => 0)
          case atStart => exact ⟨rfl, rfl⟩
          case round =>
            obtain ⟨rfl, rfl⟩ := hrel
            go_wp2_with fail
            go_ret
            exact ⟨rfl, HB2.out⟩

theorem drop_extract (t : ByteArray) (p : Nat) : (t.extract p t.size).data.toList = t.data.toList.drop p := by
  rw [ByteArray.data_extract, Array.toList_extract]
  show List.take (t.size - p) (List.drop p t.data.toList) = _
  rw [List.take_of_length_le (by rw [List.length_drop, len_size]; exact Nat.le_refl _)]

set_option maxRecDepth 100000 in
set_option maxHeartbeats 3200000 in
theorem next_word (t s : ByteArray) (v : Value) (emp : Bool) (p : Nat) (w : World) (hB : BaseP w) (h0 : 0 < s.size) (hs : s.size ≤ 9223372036854775807) (ht : t.size ≤ 1000000000) (hp : p ≤ 1000000000) :
    Calls Tryz.prog 14 #[.string t, .string s, v, .bool emp, .int .i64 (p : Int)] w fun e w' => e = .returned (.int .i64 (nextW t.data.toList s.data.toList p)) ∧ Below w.heap.size w w' := by
  have hp0 : (0 : Int) ≤ (p : Int) := by omega
  have hmx : max (p : Int) 0 = (p : Int) := by omega
  have hts : t.data.toList.length = t.size := len_size t
  have hne : s.toList.isEmpty = false := by
    rw [ByteArray.toList_eq]
    cases hl : s.data.toList with
    | nil => have h1 : s.size = s.data.toList.length := (len_size s).symm
             rw [hl] at h1; have h2 : s.size = 0 := h1; omega
    | cons c l => rfl
  have hne2 : ¬ s.toList = [] := fun e => by rw [e] at hne; cases hne
  have hpi : (p : Int) ≤ 1000000000 := by omega
  have hti : (t.size : Int) ≤ 1000000000 := by omega
  by_cases h1 : t.size < p
  · have z1 : (t.size : Int) < (p : Int) := by omega
    have HE : Hid (nextW t.data.toList s.data.toList p = -1) := Lib.hid (by unfold nextW; rw [if_pos (by omega)])
    rw [HE.out]
    clear HE hts h1
    go_enter Tryz.func14, Tryz.ntmps14
    go_wp2_with fail
    go_ret
    exact ⟨rfl, Below.refl _ _⟩
  · have z1 : ¬ (t.size : Int) < (p : Int) := by omega
    have zp : p ≤ t.size := by omega
    have hsz : (t.extract p t.size).size = t.size - p := by rw [ByteArray.size_extract]; omega
    have HF := Lib.hid (found_any (t.extract p t.size) s w hB h0 hs (by omega))
    have hix := Lib.index_ge (t.data.toList.drop p) s.data.toList
    have hil : Lib.index (t.data.toList.drop p) s.data.toList ≤ 1000000000 := by
      by_cases hh : 0 ≤ Lib.index (t.data.toList.drop p) s.data.toList
      · exact Int.le_trans (index_le _ _) (by rw [List.length_drop]; omega)
      · omega
    rw [drop_extract] at HF
    have HE : Hid (nextW t.data.toList s.data.toList p = if 0 ≤ Lib.index (t.data.toList.drop p) s.data.toList then (p : Int) + Lib.index (t.data.toList.drop p) s.data.toList else -1) := Lib.hid (by unfold nextW; rw [if_neg (by omega)])
    rw [HE.out]
    generalize Lib.index (t.data.toList.drop p) s.data.toList = i at HF hix hil ⊢
    clear HE hts h1 hsz
    by_cases h2 : 0 ≤ i
    · rw [if_pos h2]
      go_enter Tryz.func14, Tryz.ntmps14
      go_wp2_with (go_at_call 36; refine HF.out.mono ?_; rintro e w2 ⟨rfl, hb2⟩; have HB2 := Lib.hid hb2; clear hb2)
      go_ret
      exact ⟨rfl, HB2.out⟩
    · rw [if_neg h2]
      go_enter Tryz.func14, Tryz.ntmps14
      go_wp2_with (go_at_call 36; refine HF.out.mono ?_; rintro e w2 ⟨rfl, hb2⟩; have HB2 := Lib.hid hb2; clear hb2)
      go_ret
      exact ⟨rfl, HB2.out⟩

end Go.Proofs.YtblkejnckbeieaaGreatDoor
