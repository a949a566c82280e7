/- Chapter 13: rows in memory, read; the law's own 'count'. -/
import Derived.Test.YtemjgnpkhomofaaSplitMade
namespace Go.Proofs.Ytemjgnpkhomofaa
open Go.RowKit SetPure UtfPure

theorem rowOf_le (a b : Int) : (rowOf a b).length ≤ 4 := by
  have := (enc_pos a).2
  unfold rowOf
  rw [List.length_zip]
  omega

/-- The value is a slice of rows that tell the list. -/
def RowsV (w : World) (v : Value) (L : List Rg) : Prop := ∃ ss, IsSeq Eslice w v ss ∧ RowsAt w ss (rowsOf L)
section
variable {w w' : World} {v : Value} {L : List Rg}
theorem RowsV.below (h : RowsV w v L) (hb : Below w.heap.size w w') : RowsV w' v L := by
  obtain ⟨ss, h1, h2⟩ := h
  exact ⟨ss, h1.below hb, h2.keep (KeepT.of_below hb)⟩
theorem RowsV.shape (h : RowsV w v L) : ∃ A c, v = .slice A L.length c ∧ L.length ≤ c ∧ c ≤ maxLen := by
  obtain ⟨ss, ⟨A, c, rfl, h1, h2, _⟩, h3⟩ := h
  have : ss.length = L.length := by rw [h3.1]; unfold rowsOf; rw [List.length_map]
  exact ⟨A, c, by rw [this], by omega, h2⟩
theorem RowsV.row {A : Option Addr} {n c : Nat} (h : RowsV w (.slice A n c) L) {k : Nat} (hk : k < L.length) {a b : Int} (hab : L.getD k (0, 0) = (a, b)) :
    ∃ bb off g sc, A = some ⟨bb, off, none⟩ ∧ bb < w.heap.size ∧ w.cell? ⟨bb, off + k, none⟩ = some (.slice (some ⟨g, 0, none⟩) (rowOf a b).length sc) ∧ IsSeq Epair w (.slice (some ⟨g, 0, none⟩) (rowOf a b).length sc) (rowOf a b) := by
  obtain ⟨ss, ⟨A', c', hv, _, _, h3⟩, h4⟩ := h
  injection hv with e1 e2 e3
  subst e1
  have hl : ss.length = L.length := by rw [h4.1]; unfold rowsOf; rw [List.length_map]
  have hks : k < ss.length := by omega
  obtain ⟨bb, off, rfl, hb, hc⟩ := h3.at_ hks
  have hc0 := hc 0 (by decide)
  have hrw : (rowsOf L)[k]? = some (rowOf a b) := by
    unfold rowsOf
    rw [List.getElem?_map, List.getElem?_eq_getElem hk]
    have : L[k] = (a, b) := by rw [← hab, List.getD_eq_getElem?_getD, List.getElem?_eq_getElem hk]; rfl
    rw [this]; rfl
  have hra := h4.2 k ss[k] (rowOf a b) (List.getElem?_eq_getElem hks) hrw
  have hseq := hra.isSeq
  obtain ⟨g, cur, fr, g1, g2, _⟩ := hra
  rw [g1, g2] at hseq
  refine ⟨bb, off, g, ss[k].2.2, rfl, hb, ?_, hseq⟩
  have e : w.cell? ⟨bb, off + (k * 1 + 0), none⟩ = some (.slice ss[k].1 ss[k].2.1 ss[k].2.2) := hc0
  rw [Nat.mul_one, Nat.add_zero, g1, g2] at e
  exact e
/-- The cells of a row's range at j. -/
theorem row_cells {g n sc : Nat} {row : List Rg} (h : IsSeq Epair w (.slice (some ⟨g, 0, none⟩) n sc) row) {j : Nat} (hj : j < row.length) {x y : Int} (hxy : row.getD j (0, 0) = (x, y)) :
    g < w.heap.size ∧ w.cell? ⟨g, j * 2, none⟩ = some (.int .i64 x) ∧ w.cell? ⟨g, j * 2 + 1, none⟩ = some (.int .i64 y) := by
  obtain ⟨A, c', hA, _, _, hAt⟩ := h
  injection hA with hA1 hA2 hA3
  subst hA1
  obtain ⟨b', off', hbo, hb', hc⟩ := hAt.pairs_ (by omega)
  injection hbo with hbo
  injection hbo with hbo1 hbo2 hbo3
  subst hbo1; subst hbo2
  obtain ⟨c0, c1⟩ := hc j hj
  rw [hxy] at c0 c1
  simp only [Nat.zero_add] at c0 c1
  exact ⟨hb', c0, c1⟩
end

theorem split_rows {v : Value} {s : List Rg} {w : World} (hs : IsSet w v s) : Calls Try.prog 9 #[v] w fun e w' => ∃ x, e = .returned x ∧ RowsV w' x (splitL s) ∧ Below w.heap.size w w' := by
  refine (split_any v s w hs).mono ?_
  rintro e w' ⟨v', ss, rfl, hown, hrows, _⟩
  exact ⟨v', rfl, ⟨ss, hown.isSeq, hrows⟩, hown.2⟩

theorem count_take {L : List Rg} {s : List Int} {k : Nat} {r : Rg} (hk : k < L.length) (hr : L.getD k (0, 0) = r) : countL (L.take (k + 1)) s = countL (L.take k) s + (if fits (rowOf r.1 r.2) s then 1 else 0) := by
  unfold countL
  rw [take_next' hk hr, List.filter_append, List.length_append]
  congr 1
  by_cases h : fits (rowOf r.1 r.2) s = true <;> simp [h]
theorem count_le (L : List Rg) (s : List Int) : countL L s ≤ L.length := by
  unfold countL; exact List.length_filter_le _ _

set_option maxHeartbeats 6000000 in
theorem count_any (v : Value) (L : List Rg) (s : ByteArray) (w : World) (hv : RowsV w v L) (hs : s.size ≤ maxLen) :
    Calls Try.prog 11 #[v, .string s] w fun e w' => e = .returned (.int .i64 (countL L (intsOf s) : Nat)) ∧ Below w.heap.size w w' := by
  obtain ⟨A, c, rfl, hlc, hcm⟩ := hv.shape
  have HV := Lib.hid hv
  have HS := Lib.hid (intsOf_len s)
  have HSZ := Lib.hid hs
  unfold maxLen at hs hcm
  clear hv
  go_enter Try.func11, Try.ntmps11
  go_wp2
  go_loopw [5, 6, 7, 8] (fun n i _ _ wr => ∃ k : Nat, k ≤ L.length ∧ i = .int .i64 k ∧ n = .int .i64 (countL (L.take k) (intsOf s) : Nat) ∧ Below w.heap.size w wr) (fun _ i _ _ _ => L.length + 1 - (intOf i).toNat)
  case atStart => exact ⟨0, by omega, rfl, rfl, Below.refl _ _⟩
  case round =>
    obtain ⟨k, hk, rfl, rfl, hbw⟩ := hrel
    have hz := hbw.size
    have hcl := count_le (L.take k) (intsOf s)
    rw [List.length_take] at hcl
    by_cases hlt : k < L.length
    · obtain ⟨⟨x, y⟩, hr⟩ : ∃ r, L.getD k (0, 0) = r := ⟨_, rfl⟩
      obtain ⟨bb, off, g, sc, rfl, hbb, hcell, hrow⟩ := (HV.out.below hbw).row hlt hr
      have HC := Lib.hid (count_take (s := intsOf s) hlt hr)
      have hrl := rowOf_le x y
      obtain ⟨row, hrow'⟩ : ∃ row, rowOf x y = row := ⟨_, rfl⟩
      simp only [hrow'] at HC
      rw [hrow'] at hcell hrow hrl
      clear hr hrow'
      obtain ⟨n, hn⟩ : ∃ n : Nat, countL (L.take k) (intsOf s) = n := ⟨_, rfl⟩
      rw [hn] at hcl HC ⊢
      clear hn
      have HR := Lib.hid hrow
      clear hrow
      have hki : (k : Int) < (L.length : Int) := by omega
      go_wp2
      obtain ⟨wo, rfl⟩ : ∃ wo : World, wo = wr := ⟨_, rfl⟩
      have HCL := Lib.hid hcell
      go_loopw [7, 8] (fun ok jx wx => ∃ (j : Nat) (b : Bool), j ≤ s.size ∧ jx = .int .i64 j ∧ ok = .bool b ∧ Below wo.heap.size wo wx ∧ (b = true → row.length = s.size) ∧ Hid (fits row (intsOf s) = (b && fits (row.drop j) ((intsOf s).drop j)))) (fun _ jx _ => s.size + 1 - (intOf jx).toNat)
      case atStart =>
        refine ⟨0, _, by omega, rfl, rfl, Below.refl _ _, fun h => ?_, Lib.hid ?_⟩
        · simp at h; omega
        · by_cases h : (row.length : Int) = (s.size : Int)
          · simp [h]
          · simp [h]
            rw [← Bool.not_eq_true]
            intro hf
            have := fits_length hf
            rw [HS.out] at this
            omega
      case round =>
        obtain ⟨j, b, hj, rfl, rfl, hbx, hlen, hfit⟩ := hrel
        have hzx := hbx.size
        have hc2 := (hbx.cell (p := ⟨bb, off + k, none⟩) hbb).trans HCL.out
        cases b with
        | false =>
          have HF := Lib.hid (show fits row (intsOf s) = false by rw [hfit.out]; rfl)
          go_wp2_with (go_at_call 16; refine (has_row _ row s _ (HR.out.below hbx) (by omega) HSZ.out).mono ?_; rintro e w5 ⟨rfl, hb5⟩; rw [HF.out])
          go_roundw
          case rel => exact ⟨k + 1, by omega, by go_num, val_int (by rw [HC.out, HF.out]; simp), hbw.trans ((hbx.trans (hb5.mono hzx)).mono hz)⟩
          case measure => simp [intOf]; omega
        | true =>
          have HLN := Lib.hid (hlen rfl)
          clear hlen
          by_cases hjl : j < s.size
          · obtain ⟨⟨x', y'⟩, hr2⟩ : ∃ r, row.getD j (0, 0) = r := ⟨_, rfl⟩
            have hjr : j < row.length := by rw [HLN.out]; exact hjl
            obtain ⟨hg, c0, c1⟩ := row_cells (HR.out.below hbx) hjr hr2
            obtain ⟨c', hc'⟩ : ∃ c' : Int, ((s[j]'hjl).toNat : Int) = c' := ⟨_, rfl⟩
            have hbd := intsOf_bd s hjl
            have HD := Lib.hid (fits_drop (s := intsOf s) hjr (by rw [HS.out]; exact hjl) hr2 ((intsOf_at s hjl).trans hc'))
            rw [hc'] at hbd
            obtain ⟨bd1, bd2⟩ := hbd
            have hkj : (j : Int) < (s.size : Int) := by omega
            have hkr : (j : Int) < (row.length : Int) := by omega
            clear hr2
            by_cases d1 : x' ≤ c'
            · have e1 : decide (x' ≤ c') = true := decide_eq_true d1
              by_cases d2 : c' ≤ y'
              · have e2 : decide (c' ≤ y') = true := decide_eq_true d2
                have HF := Lib.hid (show fits row (intsOf s) = (true && fits (row.drop (j + 1)) ((intsOf s).drop (j + 1))) by rw [hfit.out, HD.out, decide_eq_true d1, decide_eq_true d2]; rfl)
                go_wp2
                go_quiet (fail)
                go_wp2
                go_roundw
                case rel => exact ⟨j + 1, true, by omega, by go_num, (by first | rfl | simp [d1, d2]), below_drewN hbx _, fun _ => HLN.out, HF⟩
                case measure => simp [intOf]; omega
              · have e2 : decide (c' ≤ y') = false := decide_eq_false d2
                have HF := Lib.hid (show fits row (intsOf s) = (false && fits (row.drop (j + 1)) ((intsOf s).drop (j + 1))) by rw [hfit.out, HD.out, decide_eq_true d1, decide_eq_false d2]; rfl)
                go_wp2
                go_quiet (fail)
                go_wp2
                go_roundw
                case rel => exact ⟨j + 1, false, by omega, by go_num, (by first | rfl | simp [d1, d2]), below_drewN hbx _, (fun h => by cases h), HF⟩
                case measure => simp [intOf]; omega
            · have e1 : decide (x' ≤ c') = false := decide_eq_false d1
              have HF := Lib.hid (show fits row (intsOf s) = (false && fits (row.drop (j + 1)) ((intsOf s).drop (j + 1))) by rw [hfit.out, HD.out, decide_eq_false d1]; rfl)
              go_wp2
              go_quiet (fail)
              go_wp2
              go_roundw
              case rel => exact ⟨j + 1, false, by omega, by go_num, (by first | rfl | simp [d1]), below_drewN hbx _, (fun h => by cases h), HF⟩
              case measure => simp [intOf]; omega
          · obtain rfl : j = s.size := by omega
            have HF := Lib.hid (show fits row (intsOf s) = true by
              rw [hfit.out, List.drop_of_length_le (by rw [HLN.out]; exact Nat.le_refl _), List.drop_of_length_le (by rw [HS.out]; exact Nat.le_refl _)]; rfl)
            go_wp2_with (go_at_call 16; refine (has_row _ row s _ (HR.out.below hbx) (by omega) HSZ.out).mono ?_; rintro e w5 ⟨rfl, hb5⟩; rw [HF.out])
            go_roundw
            case rel => exact ⟨k + 1, by omega, by go_num, val_int (by rw [HC.out, HF.out]; simp), hbw.trans ((hbx.trans (hb5.mono hzx)).mono hz)⟩
            case measure => simp [intOf]; omega
    · obtain rfl : k = L.length := by omega
      go_wp2
      go_ret
      exact ⟨ret_int (by rw [List.take_length]), hbw⟩

end Go.Proofs.Ytemjgnpkhomofaa
