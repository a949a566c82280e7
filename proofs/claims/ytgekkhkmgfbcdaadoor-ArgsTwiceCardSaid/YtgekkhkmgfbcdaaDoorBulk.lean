/- What the bound of an '..UptoSaid' gives: a list's length. -/
import Derived.Test.YtgekkhkmgfbcdaaDoorRows
namespace Go.Proofs.YtgekkhkmgfbcdaaDoor

theorem bulk_one {H : Type} (d : DataW H) : 1 ≤ Rows.uptoBulk d := by
  cases d with
  | lit l => cases l <;> simp [Rows.uptoBulk]
  | nil => simp [Rows.uptoBulk]
  | ptr d => simp [Rows.uptoBulk]
  | slice elems spare => simp [Rows.uptoBulk]
  | agg parts => simp [Rows.uptoBulk]
  | iface t d => simp [Rows.uptoBulk]
  | map entries => simp [Rows.uptoBulk]
  | held h => simp [Rows.uptoBulk]
theorem bulk_len {H : Type} (l : List (DataW H)) : l.length ≤ Rows.uptoBulkAll l := by
  induction l with
  | nil => simp [Rows.uptoBulkAll]
  | cons x r ih => have := bulk_one x; simp only [Rows.uptoBulkAll, List.length_cons]; omega
theorem bulk_part {H : Type} {d : DataW H} {l : List (DataW H)} (h : d ∈ l) : Rows.uptoBulk d ≤ Rows.uptoBulkAll l := by
  induction l with
  | nil => cases h
  | cons x r ih =>
    simp only [Rows.uptoBulkAll]
    rcases List.mem_cons.1 h with rfl | h
    · omega
    · have := ih h; omega
/-- A list among what came in is no longer than the bound. -/
theorem bulk_list {H : Type} {d : DataW H} {ds : List (DataW H)} {n : Nat} (hk : Rows.uptoSmall H ds = true) (hd : d ∈ ds) (h : d = .nil ∨ ∃ elems spare, d = .slice elems spare ∧ elems.length = n) (h0 : d = .nil → n = 0) : n ≤ 1048576 := by
  have hb : Rows.uptoBulkAll ds ≤ 1048576 := of_decide_eq_true hk
  have hp := bulk_part hd
  rcases h with rfl | ⟨elems, spare, rfl, rfl⟩
  · rw [h0 rfl]; omega
  · have := bulk_len elems
    simp only [Rows.uptoBulk] at hp
    omega

end Go.Proofs.YtgekkhkmgfbcdaaDoor
