/- Chapter 13: the walk of utfsplit's Heads. -/
import Derived.Test.YtemjgnpkhomofaaSplitRead
namespace Go.Proofs.Ytemjgnpkhomofaa
open Go.RowKit SetPure UtfPure

/-- The value is a slice of rows. -/
def RowsG (w : World) (v : Value) (rows : List (List Rg)) : Prop := ∃ ss, IsSeq Eslice w v ss ∧ RowsAt w ss rows
section
variable {w w' : World} {v : Value} {rows : List (List Rg)}
theorem RowsG.below (h : RowsG w v rows) (hb : Below w.heap.size w w') : RowsG w' v rows := by
  obtain ⟨ss, h1, h2⟩ := h
  exact ⟨ss, h1.below hb, h2.keep (KeepT.of_below hb)⟩
theorem RowsG.shape (h : RowsG w v rows) : ∃ A c, v = .slice A rows.length c := by
  obtain ⟨ss, ⟨A, c, rfl, _⟩, h3⟩ := h
  exact ⟨A, c, by rw [h3.1]⟩
theorem RowsG.row {A : Option Addr} {n c : Nat} (h : RowsG w (.slice A n c) rows) {k : Nat} (hk : k < rows.length) {row : List Rg} (hr : rows.getD k [] = row) :
    ∃ bb off g sc, A = some ⟨bb, off, none⟩ ∧ bb < w.heap.size ∧ w.cell? ⟨bb, off + k, none⟩ = some (.slice (some ⟨g, 0, none⟩) row.length sc) ∧ IsSeq Epair w (.slice (some ⟨g, 0, none⟩) row.length sc) row := by
  obtain ⟨ss, ⟨A', c', hv, _, _, h3⟩, h4⟩ := h
  injection hv with e1 e2 e3
  subst e1
  have hks : k < ss.length := by rw [h4.1]; exact hk
  obtain ⟨bb, off, rfl, hb, hc⟩ := h3.at_ hks
  have hc0 := hc 0 (by decide)
  have hrw : rows[k]? = some row := by rw [List.getElem?_eq_getElem hk, ← hr, List.getD_eq_getElem?_getD, List.getElem?_eq_getElem hk]; rfl
  have hra := h4.2 k ss[k] row (List.getElem?_eq_getElem hks) hrw
  have hseq := hra.isSeq
  obtain ⟨g, cur, fr, g1, g2, _⟩ := hra
  rw [g1, g2] at hseq
  refine ⟨bb, off, g, ss[k].2.2, rfl, hb, ?_, hseq⟩
  have e : w.cell? ⟨bb, off + (k * 1 + 0), none⟩ = some (.slice ss[k].1 ss[k].2.1 ss[k].2.2) := hc0
  rw [Nat.mul_one, Nat.add_zero, g1, g2] at e
  exact e
end

def headsG (rows : List (List Rg)) : List Rg := rows.flatMap (·.take 1)
theorem heads_take {rows : List (List Rg)} {k : Nat} {row : List Rg} (hk : k < rows.length) (hr : rows.getD k [] = row) : headsG (rows.take (k + 1)) = headsG (rows.take k) ++ row.take 1 := by
  have e : rows.take (k + 1) = rows.take k ++ [row] := by
    rw [List.take_add_one, List.getElem?_eq_getElem hk]
    rw [List.getD_eq_getElem?_getD, List.getElem?_eq_getElem hk] at hr
    have hr' : rows[k] = row := by simpa using hr
    rw [hr']; rfl
  rw [e, headsG, List.flatMap_append]
  simp [headsG]
theorem heads_len (rows : List (List Rg)) : (headsG rows).length ≤ rows.length := by
  induction rows with
  | nil => exact Nat.le_refl _
  | cons r rows ih =>
    have : headsG (r :: rows) = r.take 1 ++ headsG rows := rfl
    rw [this, List.length_append, List.length_take, List.length_cons]
    omega

set_option maxHeartbeats 1600000 in
theorem heads_any (v : Value) (rows : List (List Rg)) (w : World) (hv : RowsG w v rows) (hn : rows.length ≤ 8796093022208) :
    Calls Try.prog 17 #[v] w fun e w' => ∃ x o, e = .returned x ∧ IsSet w' x o ∧ (∀ z, InS o z ↔ InS (headsG rows) z ∧ 0 ≤ z ∧ z ≤ 1114111) ∧ Below w.heap.size w w' := by
  obtain ⟨A, c, rfl⟩ := hv.shape
  have HV := Lib.hid hv
  clear hv
  go_enter Try.func17, Try.ntmps17
  go_wp2
  go_loopw [3, 5, 8] (fun va _ i wr => ∃ k : Nat, k ≤ rows.length ∧ i = .int .i64 k ∧ Own Epair 39 w wr va (headsG (rows.take k))) (fun _ _ i _ => rows.length + 1 - (intOf i).toNat)
  case atStart => exact ⟨0, by omega, rfl, Own.nil_ _⟩
  case round =>
    obtain ⟨k, hk, rfl, hown⟩ := hrel
    have hz := hown.size
    have hhl := heads_len (rows.take k)
    rw [List.length_take] at hhl
    by_cases hlt : k < rows.length
    · obtain ⟨row, hr⟩ : ∃ row, rows.getD k [] = row := ⟨_, rfl⟩
      obtain ⟨bb, off, g, sc, rfl, hbb, hcell, hrow⟩ := (HV.out.below hown.2).row hlt hr
      have HS := Lib.hid (heads_take hlt hr)
      have hki : (k : Int) < (rows.length : Int) := by omega
      clear hr
      cases row with
      | nil =>
        simp only [List.length_nil] at hcell
        go_wp2
        go_roundw
        case rel => exact ⟨k + 1, by omega, by go_num, by rw [HS.out]; simpa using hown⟩
        case measure => simp [intOf]; omega
      | cons r t =>
        obtain ⟨x, y⟩ := r
        obtain ⟨hg, c0, c1⟩ := row_cells hrow (j := 0) (x := x) (y := y) (by simp) rfl
        simp only [Nat.zero_mul, Nat.zero_add] at c0 c1
        have hpos : (0 : Int) < (((x, y) :: t).length : Int) := by rw [List.length_cons]; omega
        have hpos2 : 0 < ((x, y) :: t).length := by simp
        generalize ((x, y) :: t).length = m at *
        go_wp2_with (at_builtin; (refine wpList_append_seq _ rfl (.tmp 15) (.tmp 19) 24 rfl 16 elRanges rfl (hown.alloc _) 1 rfl (SeqAt.new (E := Epair) wr [(x, y)] 39) rfl (by simp only [maxLen]; omega) (by omega) ?_); intro v1 w1 ho1 hg1)
        go_roundw
        case rel => exact ⟨k + 1, by omega, by go_num, by rw [HS.out]; exact ho1⟩
        case measure => simp [intOf]; omega
    · obtain rfl : k = rows.length := by omega
      rw [List.take_length] at hown
      have hb := hown.2
      have HO := Lib.hid (set_of hown.isSeq (Nat.le_trans (heads_len rows) hn))
      go_wp2_with (go_at_call 15; refine HO.out.mono ?_; rintro e w1 ⟨x, o, rfl, ho, hp, hb1⟩)
      go_ret
      exact ⟨x, o, rfl, ho, hp, hb.trans (hb1.mono hz)⟩

end Go.Proofs.Ytemjgnpkhomofaa
