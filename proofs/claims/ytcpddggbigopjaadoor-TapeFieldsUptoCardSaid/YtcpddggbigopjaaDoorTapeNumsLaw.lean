/- Chapter 06, the walk of TapeNumbers. -/
import Derived.Test.YtcpddggbigopjaaDoorTapeNum
import Derived.Test.YtcpddggbigopjaaDoorTapeNumsP
import Derived.Test.YtcpddggbigopjaaDoorBytes
namespace Go.Proofs.YtcpddggbigopjaaDoor
open Go.RowKit TapePure

theorem speaks_any (w : World) : Calls Tryd.prog 8 #[] w fun e w' => e = .returned (.bool true) ∧ Below w.heap.size w w' := by
  have hn : numL ([48, 48, 48, 48, 54, 52, 52, 0] : List UInt8) = (420, true) := by decide +kernel
  have HN := Lib.hid (number_any ⟨#[48, 48, 48, 48, 54, 52, 52, 0]⟩ w (by decide))
  go_enter Tryd.func8, Tryd.ntmps8
  go_wp2_with (go_at_call 9; refine HN.out.mono ?_; rintro e w1 ⟨rfl, hb1⟩; (have e1 : numL (ByteArray.mk #[48, 48, 48, 48, 54, 52, 52, 0]).data.toList = (420, true) := hn); rw [e1])
  go_ret
  exact ⟨rfl, hb1⟩

theorem and7 (a : Int) : 0 ≤ bits BinOp.and IntKind.i64 a 7 ∧ bits BinOp.and IntKind.i64 a 7 ≤ 7 := by
  have h : (BitVec.ofInt 64 a &&& BitVec.ofInt 64 7).toNat ≤ 7 := by
    rw [BitVec.toNat_and]
    exact Nat.le_trans Nat.and_le_right (by decide)
  show 0 ≤ IntKind.i64.wrap ((BitVec.ofInt 64 a &&& BitVec.ofInt 64 7).toNat : Nat) ∧ IntKind.i64.wrap ((BitVec.ofInt 64 a &&& BitVec.ofInt 64 7).toNat : Nat) ≤ 7
  rw [IntKind.wrap_i64]
  omega
/-- n without its last bytes. -/
def shN (i n : Int) : Int := if i = 5 then 0 else if i = 4 then n / 1099511627776 else if i = 3 then n / 4294967296 else if i = 2 then n / 16777216 else if i = 1 then n / 65536 else if i = 0 then n / 256 else n

theorem bytes_snoc {l : List Int} {x : Int} (h : ∀ y ∈ l, 0 ≤ y ∧ y ≤ 255) (h0 : 0 ≤ x) (h1 : x ≤ 255) : ∀ y ∈ l ++ [x], 0 ≤ y ∧ y ≤ 255 := fun y hy => by
  rcases List.mem_append.1 hy with hy | hy
  · exact h y hy
  · rw [List.mem_singleton.1 hy]; exact ⟨h0, h1⟩
theorem bin_snoc {l : List Int} {x v v' : Int} (h : ∀ rest, binF 0 (b8 l ++ rest) = binF v rest) (h0 : 0 ≤ x) (h1 : x ≤ 255) (he : 256 * v + x = v') (hm : v' ≤ most) : ∀ rest, binF 0 (b8 (l ++ [x]) ++ rest) = binF v' rest := fun rest => by
  have e : b8 (l ++ [x]) ++ rest = b8 l ++ (UInt8.ofNat x.toNat :: rest) := by simp [b8]
  rw [e, h, binF_step h0 h1 (by rw [he]; exact hm), he]

set_option maxHeartbeats 8000000 in
set_option maxRecDepth 100000 in
theorem numbers_any (n0 blanks : Int) (w : World) : Calls Tryd.prog 3 #[.int .i64 n0, .int .i64 blanks] w fun e w' => e = .returned (.bool true) ∧ Below w.heap.size w w' := by
  have hcase : decide (n0 < 0) = true ∨ (decide (n0 < 0) = false ∧ decide ((1099511627776 : Int) < n0) = true) ∨ (decide (n0 < 0) = false ∧ decide ((1099511627776 : Int) < n0) = false ∧ 0 ≤ n0 ∧ n0 ≤ 1099511627776) := by
    by_cases h1 : n0 < 0
    · exact .inl (decide_eq_true h1)
    · by_cases h2 : 1099511627776 < n0
      · exact .inr (.inl ⟨decide_eq_false h1, decide_eq_true h2⟩)
      · exact .inr (.inr ⟨decide_eq_false h1, decide_eq_false h2, by omega, by omega⟩)
  obtain ⟨q, hq⟩ : ∃ q, bits BinOp.and IntKind.i64 blanks 7 = q := ⟨_, rfl⟩
  have hqb := and7 blanks
  rw [hq] at hqb
  obtain ⟨hq0, hq1⟩ := hqb
  rcases hcase with h1 | ⟨h1, h2⟩ | ⟨h1, h2, h3, h4⟩
  all_goals
    go_enter Tryd.func3, Tryd.ntmps3
    go_upto_region 5 with (go_at_call 8; refine (speaks_any _).mono ?_; rintro e w1 ⟨rfl, hb1⟩)
    first
      | (obtain ⟨n, hn⟩ : ∃ n : Int, n = 12345 := ⟨_, rfl⟩
         rw [← hn]
         have hn0 : 0 ≤ n := by omega
         have hn1 : n ≤ 1099511627776 := by omega
         clear hn)
      | (obtain ⟨n, rfl⟩ : ∃ n : Int, n = n0 := ⟨_, rfl⟩
         have hn0 := h3
         have hn1 := h4
         clear h3 h4)
    have HB1 := Lib.hid hb1
    clear h1 hb1
    go_wp2
    go_loopw [5, 6] (fun sx mx wr => ∃ (s : ByteArray) (m : Int) (ds : List UInt8), sx = .string s ∧ mx = .int .i64 m ∧ Hid (s.data.toList = ds) ∧ 0 ≤ m ∧ m ≤ n ∧ (s.size : Int) + m ≤ n ∧ Hid (∀ x ∈ ds, 48 ≤ (x.toNat : Int) ∧ (x.toNat : Int) ≤ 55) ∧ Hid (∀ rest, octF m (ds ++ rest) = octF n rest) ∧ Below w1.heap.size w1 wr) (fun _ mx _ => (intOf mx).toNat)
    case atStart => exact ⟨_, n, [], rfl, rfl, rfl, hn0, Int.le_refl _, (by show ((0 : Nat) : Int) + n ≤ n; omega), Lib.hid (fun x hx => by cases hx), Lib.hid (fun rest => rfl), Below.refl _ _⟩
    case round =>
      obtain ⟨s, m, ds, rfl, rfl, hs, hm0, hm1, hsz, hds, hoc, hbw⟩ := hrel
      have hz := hbw.size
      by_cases hlt : 0 < m
      · have htm : Int.tmod m 8 = m % 8 := Int.tmod_eq_emod_of_nonneg hm0
        have htd : Int.tdiv m 8 = m / 8 := Int.tdiv_eq_ediv_of_nonneg hm0
        obtain ⟨x, hx⟩ : ∃ x : Int, 48 + m % 8 = x := ⟨_, rfl⟩
        have hx0 : 48 ≤ x ∧ x ≤ 55 := by omega
        obtain ⟨hx1, hx2⟩ := hx0
        have hu : IntKind.u8.wrap x = x := by rw [IntKind.wrap_u8]; omega
        have hcv := conv_one wr x
        have hz1 : (strOfNums [x]).size = 1 := nums_size [x]
        have hxd : ((UInt8.ofNat x.toNat).toNat : Int) = x := b8_nat (by omega) (by omega)
        have HN := Lib.hid (fun rest => (octF_step (l := ds ++ rest) (d := UInt8.ofNat x.toNat) hm0 (by unfold most; omega) (by rw [hxd, hx])).trans (hoc.out rest))
        have hsn : (s.size : Int) ≤ 1099511627776 := by omega
        go_wp2
        go_roundw
        case rel => exact ⟨_, m / 8, UInt8.ofNat x.toNat :: ds, rfl, rfl, Lib.hid (by rw [cat_list, nums_list, hs.out]; rfl), by omega, by omega, by rw [ByteArray.size_append, hz1]; omega, Lib.hid (fun y hy => by
          rcases List.mem_cons.1 hy with rfl | hy
          · rw [hxd]; exact ⟨hx1, hx2⟩
          · exact hds.out y hy), HN, hbw.alloc hz _⟩
        case measure => simp [intOf]; omega
      · obtain rfl : m = 0 := by omega
        clear hm0 hm1
        go_wp2
        obtain ⟨wo, rfl⟩ : ∃ wo : World, wo = wr := ⟨_, rfl⟩
        have hs0 : (s.size : Int) ≤ 1099511627776 := by omega
        go_loopw [5, 7] (fun sx ix wx => ∃ (s' : ByteArray) (i : Nat) (b1 b2 : List UInt8), sx = .string s' ∧ ix = .int .i64 i ∧ (i : Int) ≤ 7 ∧ Hid (s'.data.toList = b1 ++ ds ++ b2) ∧ Hid (∀ x ∈ b1, x = 32) ∧ Hid (∀ x ∈ b2, x = 32 ∨ x = 0) ∧ s'.size ≤ s.size + 2 * i ∧ Below wo.heap.size wo wx) (fun _ ix _ => 8 - (intOf ix).toNat)
        case atStart => exact ⟨s, 0, [], [], rfl, rfl, by omega, Lib.hid (by rw [hs.out]; simp), Lib.hid (fun x hx => by cases hx), Lib.hid (fun x hx => by cases hx), by omega, Below.refl _ _⟩
        case round =>
          obtain ⟨s', i, b1, b2, rfl, rfl, hi, hs', hb1, hb2, hsz', hbx⟩ := hrel
          have hzx := hbx.size
          have hk1 : (⟨#[32]⟩ : ByteArray).size = 1 := rfl
          have hk2 : (⟨#[0]⟩ : ByteArray).size = 1 := rfl
          have hk3 : ((⟨#[32]⟩ : ByteArray) ++ s').size = 1 + s'.size := by rw [ByteArray.size_append]; rfl
          by_cases hlt2 : (i : Int) < q
          · go_wp2
            go_roundw
            case rel => exact ⟨_, i + 1, 32 :: b1, b2 ++ [0], rfl, by go_num, by omega, Lib.hid (by rw [cat_list, cat_list, hs'.out]; simp), Lib.hid (fun y hy => by
              rcases List.mem_cons.1 hy with rfl | hy
              · rfl
              · exact hb1.out y hy), Lib.hid (fun y hy => by
              rcases List.mem_append.1 hy with hy | hy
              · exact hb2.out y hy
              · exact .inr (List.mem_singleton.1 hy)), by rw [ByteArray.size_append, hk3, hk2]; omega, hbx⟩
            case measure => simp [intOf]; omega
          · go_wp2
            obtain ⟨wv, rfl⟩ : ∃ wv : World, wv = wr := ⟨_, rfl⟩
            go_loopw [8, 9] (fun bx ix wy => ∃ (i : Int) (l : List Int), ix = .int .i64 i ∧ -1 ≤ i ∧ i ≤ 5 ∧ Hid (Own Ebyte 5 wv wy bx (128 :: l)) ∧ (l.length : Int) = 5 - i ∧ Hid (∀ x ∈ l, 0 ≤ x ∧ x ≤ 255) ∧ Hid (∀ rest, binF 0 (b8 l ++ rest) = binF (shN i n) rest)) (fun _ ix _ => (intOf ix + 1).toNat)
            case atStart => exact ⟨5, [], rfl, by omega, by omega, Lib.hid (own_byte wv 128), rfl, Lib.hid (fun x hx => by cases hx), Lib.hid (fun rest => rfl)⟩
            case round =>
              obtain ⟨j, l, rfl, hj0, hj1, hown, hll, hlb, hbin⟩ := hrel
              have hzy := hown.out.size
              by_cases hlt3 : 0 ≤ j
              · have h6 : j = 5 ∨ j = 4 ∨ j = 3 ∨ j = 2 ∨ j = 1 ∨ j = 0 := by omega
                rcases h6 with rfl | rfl | rfl | rfl | rfl | rfl
                · obtain ⟨x, hx⟩ : ∃ x : Int, n / 1099511627776 = x := ⟨_, rfl⟩
                  have hxm : x = n / 1099511627776 % 256 := by omega
                  have hx0 : 0 ≤ x := by omega
                  have hx1 : x ≤ 255 := by omega
                  have HSH := Lib.hid (show 256 * shN 5 n + x = shN 4 n by unfold shN; simp; omega)
                  have HMX := Lib.hid (show shN 4 n ≤ most by unfold shN most; simp; omega)
                  have HLL := Lib.hid (show (128 :: l).length = 1 by rw [List.length_cons]; omega)
                  have hw := hown.out
                  clear hxm
                  go_wp2_with (at_builtin; (refine wpList_append_seq _ rfl (.tmp 49) (.tmp 55) 23 rfl 1 elByte rfl (hw.alloc _) 1 rfl (SeqAt.new (E := Ebyte) wr [x] 5) rfl (by rw [HLL.out]; simp [maxLen]) (by rw [HLL.out]; decide) ?_); intro v1 w2 ho1 hg1)
                  go_roundw
                  case rel => exact ⟨4, l ++ [x], by go_num, by omega, by omega, Lib.hid ho1, by rw [List.length_append, List.length_singleton]; omega, Lib.hid (bytes_snoc hlb.out hx0 hx1), Lib.hid (bin_snoc hbin.out hx0 hx1 HSH.out HMX.out)⟩
                  case measure => simp [intOf]
                · obtain ⟨x, hx⟩ : ∃ x : Int, n / 4294967296 % 256 = x := ⟨_, rfl⟩
                  have hxm : x = n / 4294967296 % 256 := hx.symm
                  have hx0 : 0 ≤ x := by omega
                  have hx1 : x ≤ 255 := by omega
                  have HSH := Lib.hid (show 256 * shN 4 n + x = shN 3 n by unfold shN; simp; omega)
                  have HMX := Lib.hid (show shN 3 n ≤ most by unfold shN most; simp; omega)
                  have HLL := Lib.hid (show (128 :: l).length = 2 by rw [List.length_cons]; omega)
                  have hw := hown.out
                  clear hxm
                  go_wp2_with (at_builtin; (refine wpList_append_seq _ rfl (.tmp 49) (.tmp 55) 23 rfl 1 elByte rfl (hw.alloc _) 1 rfl (SeqAt.new (E := Ebyte) wr [x] 5) rfl (by rw [HLL.out]; simp [maxLen]) (by rw [HLL.out]; decide) ?_); intro v1 w2 ho1 hg1)
                  go_roundw
                  case rel => exact ⟨3, l ++ [x], by go_num, by omega, by omega, Lib.hid ho1, by rw [List.length_append, List.length_singleton]; omega, Lib.hid (bytes_snoc hlb.out hx0 hx1), Lib.hid (bin_snoc hbin.out hx0 hx1 HSH.out HMX.out)⟩
                  case measure => simp [intOf]
                · obtain ⟨x, hx⟩ : ∃ x : Int, n / 16777216 % 256 = x := ⟨_, rfl⟩
                  have hxm : x = n / 16777216 % 256 := hx.symm
                  have hx0 : 0 ≤ x := by omega
                  have hx1 : x ≤ 255 := by omega
                  have HSH := Lib.hid (show 256 * shN 3 n + x = shN 2 n by unfold shN; simp; omega)
                  have HMX := Lib.hid (show shN 2 n ≤ most by unfold shN most; simp; omega)
                  have HLL := Lib.hid (show (128 :: l).length = 3 by rw [List.length_cons]; omega)
                  have hw := hown.out
                  clear hxm
                  go_wp2_with (at_builtin; (refine wpList_append_seq _ rfl (.tmp 49) (.tmp 55) 23 rfl 1 elByte rfl (hw.alloc _) 1 rfl (SeqAt.new (E := Ebyte) wr [x] 5) rfl (by rw [HLL.out]; simp [maxLen]) (by rw [HLL.out]; decide) ?_); intro v1 w2 ho1 hg1)
                  go_roundw
                  case rel => exact ⟨2, l ++ [x], by go_num, by omega, by omega, Lib.hid ho1, by rw [List.length_append, List.length_singleton]; omega, Lib.hid (bytes_snoc hlb.out hx0 hx1), Lib.hid (bin_snoc hbin.out hx0 hx1 HSH.out HMX.out)⟩
                  case measure => simp [intOf]
                · obtain ⟨x, hx⟩ : ∃ x : Int, n / 65536 % 256 = x := ⟨_, rfl⟩
                  have hxm : x = n / 65536 % 256 := hx.symm
                  have hx0 : 0 ≤ x := by omega
                  have hx1 : x ≤ 255 := by omega
                  have HSH := Lib.hid (show 256 * shN 2 n + x = shN 1 n by unfold shN; simp; omega)
                  have HMX := Lib.hid (show shN 1 n ≤ most by unfold shN most; simp; omega)
                  have HLL := Lib.hid (show (128 :: l).length = 4 by rw [List.length_cons]; omega)
                  have hw := hown.out
                  clear hxm
                  go_wp2_with (at_builtin; (refine wpList_append_seq _ rfl (.tmp 49) (.tmp 55) 23 rfl 1 elByte rfl (hw.alloc _) 1 rfl (SeqAt.new (E := Ebyte) wr [x] 5) rfl (by rw [HLL.out]; simp [maxLen]) (by rw [HLL.out]; decide) ?_); intro v1 w2 ho1 hg1)
                  go_roundw
                  case rel => exact ⟨1, l ++ [x], by go_num, by omega, by omega, Lib.hid ho1, by rw [List.length_append, List.length_singleton]; omega, Lib.hid (bytes_snoc hlb.out hx0 hx1), Lib.hid (bin_snoc hbin.out hx0 hx1 HSH.out HMX.out)⟩
                  case measure => simp [intOf]
                · obtain ⟨x, hx⟩ : ∃ x : Int, n / 256 % 256 = x := ⟨_, rfl⟩
                  have hxm : x = n / 256 % 256 := hx.symm
                  have hx0 : 0 ≤ x := by omega
                  have hx1 : x ≤ 255 := by omega
                  have HSH := Lib.hid (show 256 * shN 1 n + x = shN 0 n by unfold shN; simp; omega)
                  have HMX := Lib.hid (show shN 0 n ≤ most by unfold shN most; simp; omega)
                  have HLL := Lib.hid (show (128 :: l).length = 5 by rw [List.length_cons]; omega)
                  have hw := hown.out
                  clear hxm
                  go_wp2_with (at_builtin; (refine wpList_append_seq _ rfl (.tmp 49) (.tmp 55) 23 rfl 1 elByte rfl (hw.alloc _) 1 rfl (SeqAt.new (E := Ebyte) wr [x] 5) rfl (by rw [HLL.out]; simp [maxLen]) (by rw [HLL.out]; decide) ?_); intro v1 w2 ho1 hg1)
                  go_roundw
                  case rel => exact ⟨0, l ++ [x], by go_num, by omega, by omega, Lib.hid ho1, by rw [List.length_append, List.length_singleton]; omega, Lib.hid (bytes_snoc hlb.out hx0 hx1), Lib.hid (bin_snoc hbin.out hx0 hx1 HSH.out HMX.out)⟩
                  case measure => simp [intOf]
                · obtain ⟨x, hx⟩ : ∃ x : Int, n % 256 = x := ⟨_, rfl⟩
                  have hxm : x = n % 256 := hx.symm
                  have hn1' : n / 1 = n := Int.ediv_one n
                  have hx0 : 0 ≤ x := by omega
                  have hx1 : x ≤ 255 := by omega
                  have HSH := Lib.hid (show 256 * shN 0 n + x = shN (-1) n by unfold shN; simp; omega)
                  have HMX := Lib.hid (show shN (-1) n ≤ most by unfold shN most; simp; omega)
                  have HLL := Lib.hid (show (128 :: l).length = 6 by rw [List.length_cons]; omega)
                  have hw := hown.out
                  clear hxm
                  go_wp2_with (at_builtin; (refine wpList_append_seq _ rfl (.tmp 49) (.tmp 55) 23 rfl 1 elByte rfl (hw.alloc _) 1 rfl (SeqAt.new (E := Ebyte) wr [x] 5) rfl (by rw [HLL.out]; simp [maxLen]) (by rw [HLL.out]; decide) ?_); intro v1 w2 ho1 hg1)
                  go_roundw
                  case rel => exact ⟨-1, l ++ [x], by go_num, by omega, by omega, Lib.hid ho1, by rw [List.length_append, List.length_singleton]; omega, Lib.hid (bytes_snoc hlb.out hx0 hx1), Lib.hid (bin_snoc hbin.out hx0 hx1 HSH.out HMX.out)⟩
                  case measure => simp [intOf]
              · obtain rfl : j = -1 := by omega
                have hsd : (s' ++ (⟨#[32]⟩ : ByteArray)).data.toList = b1 ++ ds ++ b2 ++ [32] := by rw [cat_list, hs'.out]
                have HN1 := Lib.hid (show numL (s' ++ (⟨#[32]⟩ : ByteArray)).data.toList = (n, true) by rw [hsd]; exact num_blank hb1.out hds.out hb2.out hoc.out)
                have HN2 := Lib.hid (show numL (strOfNums (128 :: l)).data.toList = (n, true) by
                  have e : (strOfNums (128 :: l)).data.toList = 128 :: b8 l := rfl
                  rw [e]
                  refine num_bin ?_
                  have := hbin.out []
                  rw [List.append_nil] at this
                  rw [this]; rfl)
                have hz2 : (strOfNums (128 :: l)).size ≤ maxLen := by rw [nums_size, List.length_cons]; unfold maxLen; omega
                have hz1 : (s' ++ (⟨#[32]⟩ : ByteArray)).size ≤ maxLen := by rw [ByteArray.size_append, hk1]; unfold maxLen; omega
                have HZ1 := Lib.hid hz1
                have HZ2 := Lib.hid hz2
                have HOW := Lib.hid hown.out
                have HM1 : Hid True := trivial
                clear hz1 hz2 hsd
                go_upto_region 20 with (go_at_call 9; clear HM1; refine (number_any _ _ HZ1.out).mono ?_; rintro e w3 ⟨rfl, hb3⟩; rw [HN1.out])
                have hcv := conv_own (HOW.out.below hb3)
                go_wp2_with (go_at_call 9; refine (number_any _ _ HZ2.out).mono ?_; rintro e w4 ⟨rfl, hb4⟩; rw [HN2.out])
                go_ret
                have y1 := HB1.out.trans (hbw.mono HB1.out.size)
                have y2 := y1.trans (hbx.mono y1.size)
                have y3 := y2.trans (HOW.out.2.mono y2.size)
                have y4 := y3.trans (hb3.mono y3.size)
                exact ⟨rfl, y4.trans (hb4.mono y4.size)⟩

end Go.Proofs.YtcpddggbigopjaaDoor
