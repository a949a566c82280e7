/- Chapter 06: the walk of tape's Number. -/
import Derived.Test.YtcpddggbigopjaaDoorLib
import Derived.Test.YtcpddggbigopjaaDoorTapePure
import Derived.Test.YtcpddggbigopjaaDoorShelf
namespace Go.Proofs.YtcpddggbigopjaaDoor
open Go.RowKit Go.Shelf TapePure

theorem size_list (s : ByteArray) : s.size = s.data.toList.length := by rw [Array.length_toList]; rfl
theorem at_list {s : ByteArray} {l : List UInt8} (h : s.data.toList = l) {k : Nat} (hk : k < s.size) : s[k]'hk = l.getD k 0 := by
  subst h
  have hk' : k < s.data.toList.length := by rw [← size_list]; exact hk
  rw [List.getD_eq_getElem?_getD, List.getElem?_eq_getElem hk']
  simp
  rfl

theorem getD_pred {α : Type} {c d : α} {t : List α} {k : Nat} (hk : 1 ≤ k) : (c :: t).getD k d = t.getD (k - 1) d := by
  obtain ⟨j, rfl⟩ : ∃ j, k = j + 1 := ⟨k - 1, by omega⟩
  simp
theorem tail_list {s : ByteArray} {b : UInt8} {u : List UInt8} (h : s.data.toList = b :: u) : (s.extract 1 s.size).data.toList = u := by
  rw [ByteArray.data_extract, Array.toList_extract, h]
  simp [size_list, h]
theorem tail_list2 {s : ByteArray} {b : UInt8} {u : List UInt8} (h : s.data.toList = b :: u) : (s.extract 1 (u.length + 1)).data.toList = u := by
  have := tail_list h
  rwa [show s.size = u.length + 1 by rw [size_list, h]; rfl] at this
theorem list_mk (l : List UInt8) : (⟨l.toArray⟩ : ByteArray).data.toList = l := by simp
theorem mk_list (s : ByteArray) : (⟨s.data.toList.toArray⟩ : ByteArray) = s := by cases s; simp

theorem tl_len (l : List UInt8) : (Lib.trimLeftS l [32]).length ≤ l.length := by
  unfold Lib.trimLeftS
  exact (List.dropWhile_suffix _).length_le

set_option maxHeartbeats 2000000 in
theorem number_any (s : ByteArray) (w : World) (hs : s.size ≤ maxLen) : Calls Tryd.prog 9 #[.string s] w fun e w' => e = .returned (.tuple #[.int .i64 (numL s.data.toList).1, .bool (numL s.data.toList).2]) ∧ Below w.heap.size w w' := by
  unfold maxLen at hs
  have hsl := size_list s
  cases hl : s.data.toList with
  | nil =>
    have he : (s.toList == []) = true := by rw [ByteArray.toList_eq, hl]; rfl
    go_enter Tryd.func9, Tryd.ntmps9
    go_wp2
    go_ret2
    exact ⟨rfl, Below.refl _ _⟩
  | cons c t =>
    have he : (s.toList == []) = false := by rw [ByteArray.toList_eq, hl]; rfl
    rw [hl, List.length_cons] at hsl
    have hpos : 0 < s.size := by omega
    have ha0 : s[0]'hpos = c := at_list hl hpos
    by_cases hc : 128 ≤ (c.toNat : Int)
    · have hand := andU7 ⟨c.toNat, UInt8.toNat_lt c⟩
      simp only at hand
      have hclt : (c.toNat : Int) ≤ 255 := by have := UInt8.toNat_lt c; omega
      have HAT := Lib.hid (fun k (hk : k < s.size) => at_list hl hk)
      have HNL := Lib.hid (show numL (c :: t) = binF ((c.toNat : Int) - 128) t by show (if _ then _ else _) = _; rw [if_pos hc])
      obtain ⟨ci, hci⟩ : ∃ ci : Int, (c.toNat : Int) = ci := ⟨_, rfl⟩
      rw [hci] at hand hclt hc HNL
      have h127 : ci % 128 = ci - 128 := by omega
      rw [h127] at hand
      have h256 : IntKind.i64.wrap (ci - 128) = ci - 128 := IntWalk.i64_in _ (by omega)
      have hge : decide ((128 : Int) ≤ ci) = true := decide_eq_true hc
      go_enter Tryd.func9, Tryd.ntmps9
      go_wp2
      go_loopw [4, 5] (fun nx ix wr => ∃ (k : Nat) (v : Int), 1 ≤ k ∧ k ≤ s.size ∧ ix = .int .i64 k ∧ nx = .int .i64 v ∧ 0 ≤ v ∧ v ≤ 1099511627776 ∧ Hid (binF (ci - 128) t = binF v (t.drop (k - 1))) ∧ Below w.heap.size w wr) (fun _ ix _ => s.size + 1 - (intOf ix).toNat)
      case atStart => exact ⟨1, _, by omega, by omega, rfl, rfl, by omega, by omega, rfl, Below.refl _ _⟩
      case round =>
        obtain ⟨k, v, hk1, hk, rfl, rfl, hv0, hv1, hv, hbw⟩ := hrel
        by_cases hlt : k < s.size
        · obtain ⟨b, hb⟩ : ∃ b, t.getD (k - 1) 0 = b := ⟨_, rfl⟩
          have hkt : k - 1 < t.length := by omega
          have hat : s[k]'hlt = b := by
            rw [HAT.out k hlt, getD_pred hk1, hb]
          have hdr : t.drop (k - 1) = b :: t.drop k := by
            rw [List.drop_eq_getElem_cons hkt, show k - 1 + 1 = k by omega]
            congr 1
            rw [← hb, List.getD_eq_getElem?_getD, List.getElem?_eq_getElem hkt]; rfl
          have hblt : (b.toNat : Int) ≤ 255 := by have := UInt8.toNat_lt b; omega
          have hki : (k : Int) < (s.size : Int) := by omega
          have HS := Lib.hid (show binF v (t.drop (k - 1)) = if most < 256 * v + b.toNat then (0, false) else binF (256 * v + b.toNat) (t.drop k) by rw [hdr]; rfl)
          have hb0 : (0 : Int) ≤ (b.toNat : Int) := by omega
          obtain ⟨bi, hbi⟩ : ∃ bi : Int, (b.toNat : Int) = bi := ⟨_, rfl⟩
          rw [hbi] at hblt HS hb0
          have hor : bits BinOp.or IntKind.i64 (v * 256) bi = 256 * v + bi := by
            have := or_shift v bi 8 (by decide) hv0 hb0 (by omega) (by omega)
            rw [show (2 : Int) ^ 8 = 256 from rfl] at this
            rw [show v * 256 = 256 * v by omega, this]
          have hw8 : IntKind.i64.wrap (v * 256) = v * 256 := IntWalk.i64_in _ (by omega)
          clear hdr hb
          by_cases hm : most < 256 * v + bi
          · have HR := Lib.hid (show binF (ci - 128) t = (0, false) by rw [hv.out, HS.out, if_pos hm])
            have hm2 : decide ((1099511627776 : Int) < 256 * v + bi) = true := decide_eq_true hm
            unfold most at hm
            go_wp2
            go_ret2
            exact ⟨by rw [HNL.out, HR.out]; rfl, hbw⟩
          · have HR := Lib.hid (show binF (ci - 128) t = binF (256 * v + bi) (t.drop (k + 1 - 1)) by rw [hv.out, HS.out, if_neg hm, Nat.add_sub_cancel])
            have hm2 : decide ((1099511627776 : Int) < 256 * v + bi) = false := decide_eq_false hm
            unfold most at hm
            go_wp2
            go_roundw
            case rel => exact ⟨k + 1, 256 * v + bi, by omega, by omega, by go_num, rfl, by omega, by omega, HR, hbw⟩
            case measure => simp [intOf]; omega
        · obtain rfl : k = s.size := by omega
          have HR := Lib.hid (show binF (ci - 128) t = (v, true) by rw [hv.out, List.drop_of_length_le (by omega)]; rfl)
          go_wp2
          go_ret2
          exact ⟨by rw [HNL.out, HR.out]; rfl, hbw⟩
    · have hge : decide ((128 : Int) ≤ (c.toNat : Int)) = false := decide_eq_false hc
      have HNL := Lib.hid (show numL (c :: t) = octF 0 (Lib.trimLeftS (c :: t) [32]) by show (if _ then _ else _) = _; rw [if_neg hc])
      have HTL := Lib.hid (Any.strings_TrimLeft_laid Tryd.lays161 (by kernel_rfl) s ⟨#[32]⟩ w (by decide) (ascii_of_all (by decide)))
      rw [hl] at HTL
      have hcl := tl_len (c :: t)
      rw [List.length_cons] at hcl
      obtain ⟨f0, hf0⟩ : ∃ f0, Lib.trimLeftS (c :: t) [32] = f0 := ⟨_, rfl⟩
      have HTL2 : Hid (Calls Tryd.prog 17 #[.string s, .string ⟨#[32]⟩] w fun e w' => e = .returned (.string ⟨f0.toArray⟩) ∧ Below w.heap.size w w') := by rw [← hf0]; exact HTL
      rw [hf0] at HNL hcl
      clear hf0 HTL
      go_enter Tryd.func9, Tryd.ntmps9
      go_wp2_with (go_at_call 17; refine HTL2.out.mono ?_; rintro e w1 ⟨rfl, hb1⟩)
      go_loopw [0, 4] (fun fx nx wr => ∃ (fs : ByteArray) (f : List UInt8) (v : Int), fx = .string fs ∧ nx = .int .i64 v ∧ Hid (fs.data.toList = f) ∧ f.length ≤ t.length + 1 ∧ 0 ≤ v ∧ v ≤ 1099511627776 ∧ Hid (octF 0 f0 = octF v f) ∧ Below w.heap.size w wr) (fun fx _ _ => match fx with | .string fs => fs.size | _ => 0)
      case atStart => exact ⟨_, f0, 0, rfl, rfl, Lib.hid (list_mk f0), hcl, by omega, by omega, rfl, hb1⟩
      case round =>
        obtain ⟨fs, f, v, rfl, rfl, hfl, hfn, hv0, hv1, hv, hbw⟩ := hrel
        have hsf := size_list fs
        rw [hfl.out] at hsf
        have hfs : fs.size ≤ 9223372036854775807 := by omega
        have HTR := Lib.hid (fun wx => Any.strings_Trim_laid Tryd.lays160 (by kernel_rfl) fs ⟨#[32, 0]⟩ wx hfs (by decide) (ascii_of_all (by decide)))
        rw [hfl.out] at HTR
        obtain ⟨g, hg⟩ : ∃ g, Lib.trimS f [32, 0] = g := ⟨_, rfl⟩
        have HTR2 : Hid (∀ wx, Calls Tryd.prog 18 #[.string fs, .string ⟨#[32, 0]⟩] wx fun e w' => e = .returned (.string ⟨g.toArray⟩) ∧ Below wx.heap.size wx w') := by rw [← hg]; exact HTR
        have HG := Lib.hid hg
        clear HTR hg
        have hstop : ∀ (hno : f = [] ∨ ∃ b u, f = b :: u ∧ ¬ (48 ≤ (b.toNat : Int) ∧ (b.toNat : Int) ≤ 55)), octF v f = if g = [] then (v, true) else (0, false) := by
          rintro (rfl | ⟨b, u, rfl, hn⟩)
          · have : g = [] := by rw [← HG.out]; rfl
            rw [if_pos this]; rfl
          · show (if _ then _ else _) = _
            rw [if_neg hn, HG.out]
        have HST := Lib.hid hstop
        clear hstop
        cases f with
        | nil =>
          have he2 : (fs.toList == []) = true := by rw [ByteArray.toList_eq, hfl.out]; rfl
          have hg0 : g = [] := by rw [← HG.out]; rfl
          have HR := Lib.hid (show octF 0 f0 = (v, true) by rw [hv.out, HST.out (.inl rfl), if_pos hg0])
          subst hg0
          have hge2 : ((⟨([] : List UInt8).toArray⟩ : ByteArray).toList == []) = true := by simp
          go_wp2_with (go_at_call 18; refine (HTR2.out _).mono ?_; rintro e w2 ⟨rfl, hb2⟩)
          go_ret2
          exact ⟨by rw [HNL.out, HR.out]; rfl, hbw.trans (hb2.mono hbw.size)⟩
        | cons b u =>
          have he2 : (fs.toList == []) = false := by rw [ByteArray.toList_eq, hfl.out]; rfl
          rw [List.length_cons] at hsf hfn
          have hp2 : 0 < fs.size := by omega
          have hb0 : fs[0]'hp2 = b := at_list hfl.out hp2
          have hblt : (b.toNat : Int) ≤ 255 := by have := UInt8.toNat_lt b; omega
          have hbn : (0 : Int) ≤ (b.toNat : Int) := by omega
          by_cases hd : 48 ≤ (b.toNat : Int) ∧ (b.toNat : Int) ≤ 55
          · have HS := Lib.hid (show octF v (b :: u) = if most < 8 * v + ((b.toNat : Int) - 48) then (0, false) else octF (8 * v + ((b.toNat : Int) - 48)) u by
              show (if _ then _ else _) = _
              rw [if_pos hd])
            obtain ⟨bi, hbi⟩ : ∃ bi : Int, (b.toNat : Int) = bi := ⟨_, rfl⟩
            rw [hbi] at hblt HS hbn hd
            obtain ⟨d1, d2⟩ := hd
            have hor : bits BinOp.or IntKind.i64 (v * 8) (bi - 48) = 8 * v + (bi - 48) := by
              have := or_shift v (bi - 48) 3 (by decide) hv0 (by omega) (by omega) (by omega)
              rw [show (2 : Int) ^ 3 = 8 from rfl] at this
              rw [show v * 8 = 8 * v by omega, this]
            have hw8 : IntKind.i64.wrap (v * 8) = v * 8 := IntWalk.i64_in _ (by omega)
            have hs48 : IntKind.u8.wrap (bi - 48) = bi - 48 := subU48 d1 hblt
            have hi48 : IntKind.i64.wrap (bi - 48) = bi - 48 := IntWalk.i64_in _ (by omega)
            have e1 : decide ((48 : Int) ≤ bi) = true := decide_eq_true d1
            have e2 : decide (bi ≤ 55) = true := decide_eq_true d2
            by_cases hm : most < 8 * v + (bi - 48)
            · have HR := Lib.hid (show octF 0 f0 = (0, false) by rw [hv.out, HS.out, if_pos hm])
              have hm2 : decide ((1099511627776 : Int) < 8 * v + (bi - 48)) = true := decide_eq_true hm
              unfold most at hm
              go_wp2
              go_ret2
              exact ⟨by rw [HNL.out, HR.out]; rfl, hbw⟩
            · have HR := Lib.hid (show octF 0 f0 = octF (8 * v + (bi - 48)) u by rw [hv.out, HS.out, if_neg hm])
              have hm2 : decide ((1099511627776 : Int) < 8 * v + (bi - 48)) = false := decide_eq_false hm
              unfold most at hm
              go_wp2
              go_roundw
              case rel => exact ⟨_, u, 8 * v + (bi - 48), rfl, rfl, Lib.hid (tail_list2 hfl.out), by omega, by omega, by omega, HR, hbw⟩
              case measure =>
                have hex : (fs.extract 1 (u.length + 1)).size = u.length := by rw [size_list, tail_list2 hfl.out]
                show (fs.extract 1 (u.length + 1)).size < fs.size
                omega
          · have HR := Lib.hid (show octF 0 f0 = if g = [] then (v, true) else (0, false) by rw [hv.out, HST.out (.inr ⟨b, u, rfl, hd⟩)])
            obtain ⟨bi, hbi⟩ : ∃ bi : Int, (b.toNat : Int) = bi := ⟨_, rfl⟩
            rw [hbi] at hblt hbn hd
            have hcs : (decide ((48 : Int) ≤ bi) = true ∧ decide (bi ≤ 55) = false) ∨ decide ((48 : Int) ≤ bi) = false := by
              by_cases d1 : 48 ≤ bi
              · exact .inl ⟨decide_eq_true d1, decide_eq_false fun h => hd ⟨d1, h⟩⟩
              · exact .inr (decide_eq_false d1)
            clear hd HST HG
            rcases hcs with ⟨e1, e2⟩ | e1 <;> by_cases hg0 : g = []
            all_goals first
              | (rw [if_pos hg0] at HR
                 have hgg : (g == []) = true := by rw [hg0]; rfl
                 have hgh : ((⟨g.toArray⟩ : ByteArray).toList == []) = true := by rw [hg0]; simp
                 clear hg0
                 go_wp2_with (go_at_call 18; refine (HTR2.out _).mono ?_; rintro e w2 ⟨rfl, hb2⟩)
                 go_ret2
                 exact ⟨by rw [HNL.out, HR.out]; rfl, hbw.trans (hb2.mono hbw.size)⟩)
              | (rw [if_neg hg0] at HR
                 have hgg : (g == []) = false := beq_eq_false_iff_ne.2 hg0
                 have hgh : ((⟨g.toArray⟩ : ByteArray).toList == []) = false := by rw [ByteArray.toList_mk]; exact hgg
                 clear hg0
                 go_wp2_with (go_at_call 18; refine (HTR2.out _).mono ?_; rintro e w2 ⟨rfl, hb2⟩)
                 go_ret2
                 exact ⟨by rw [HNL.out, HR.out]; rfl, hbw.trans (hb2.mono hbw.size)⟩)

end Go.Proofs.YtcpddggbigopjaaDoor
