/- The walk of sets.Set's Has, by the library's sort.Search. -/
import Derived.Test.YtpidgcjioocmhaaSetsB
namespace Go.Proofs.Ytpidgcjioocmhaa
open Go.RowKit SetPure

set_option maxHeartbeats 400000 in
theorem hasLess_any (b off c Bs Br n : Nat) (l : List Rg) (r : Int) (W : World) (hs : W.cell? ⟨Bs, 0, none⟩ = some (.slice (some ⟨b, off, none⟩) n c)) (hr : W.cell? ⟨Br, 0, none⟩ = some (.int .i64 r))
    (i : Nat) (hi : i < n) (hc : W.cell? ⟨b, off + i * 2 + 1, none⟩ = some (.int .i64 (l.getD i (0, 0)).2)) :
    Calls Try.prog 36 #[.int .i64 i, .pointer (some ⟨Bs, 0, none⟩), .pointer (some ⟨Br, 0, none⟩)] W fun e w' => e = .returned (.bool (decide (r ≤ (l.getD i (0, 0)).2))) ∧ ∃ q, w' = W.drewN q := by
  generalize (l.getD i (0, 0)).2 = y at *
  go_enter Try.func36, Try.ntmps36
  go_wp2
  go_quiet (fail)
  go_wp2
  go_ret
  exact ⟨rfl, nq, rfl⟩

/-- The end of the search: the first place at which a range ends at r or behind. -/
def SearchEnd (l : List Rg) (r : Int) (w : World) (e : Ending) (w' : World) : Prop :=
  ∃ i : Nat, e = .returned (.int .i64 i) ∧ i ≤ l.length ∧ (∀ t, t < i → (l.getD t (0, 0)).2 < r) ∧ (∀ t, i ≤ t → t < l.length → r ≤ (l.getD t (0, 0)).2) ∧ ∃ q, w' = w.drewN q

theorem Canon.ge {lo : Int} {s : List Rg} (h : CanonFrom lo s) : ∀ r ∈ s, lo ≤ r.1 ∧ r.1 ≤ r.2 := by
  induction s generalizing lo with
  | nil => intro r hr; cases hr
  | cons q s ih =>
    intro r hr
    rcases List.mem_cons.1 hr with rfl | hr
    · exact ⟨h.1, h.2.1⟩
    · have := ih h.2.2.2 r hr
      have := h.1
      have := h.2.1
      omega
theorem mono_to {lo : Int} {l : List Rg} (h : CanonFrom lo l) (i j : Nat) (hij : i ≤ j) (hj : j < l.length) : (l.getD i (0, 0)).2 ≤ (l.getD j (0, 0)).2 := by
  induction l generalizing lo i j with
  | nil => simp at hj
  | cons q l ih =>
    cases j with
    | zero =>
      obtain rfl : i = 0 := by omega
      exact Int.le_refl _
    | succ j =>
      have hj' : j < l.length := by simpa using hj
      cases i with
      | zero =>
        have hm : l.getD j (0, 0) ∈ l := by rw [List.getD_eq_getElem?_getD, List.getElem?_eq_getElem hj']; exact List.getElem_mem hj'
        have h1 := Canon.ge h.2.2.2 _ hm
        have h0 : ((q :: l).getD (j + 1) (0, 0)) = l.getD j (0, 0) := by simp
        rw [h0]
        show q.2 ≤ _
        omega
      | succ i => simpa using ih h.2.2.2 i j (by omega) hj'

theorem half_cast (i j : Nat) : ((i : Int) + (j : Int)) / 2 = (((i + j) / 2 : Nat) : Int) := by omega

set_option maxHeartbeats 800000 in
theorem search_any (b off c Bs Br : Nat) (l : List Rg) (r : Int) (w : World) (hn : 0 < l.length) (hcan : Canon l) (hs : w.cell? ⟨Bs, 0, none⟩ = some (.slice (some ⟨b, off, none⟩) l.length c)) (hr : w.cell? ⟨Br, 0, none⟩ = some (.int .i64 r))
    (hc : ∀ i, i < l.length → w.cell? ⟨b, off + i * 2 + 1, none⟩ = some (.int .i64 (l.getD i (0, 0)).2)) :
    Calls Try.prog 35 #[.int .i64 l.length, .func (.func 36) #[] #[.pointer (some ⟨Bs, 0, none⟩), .pointer (some ⟨Br, 0, none⟩)]] w (SearchEnd l r w) := by
  have hlen := hcan.len
  have HM := Lib.hid (fun i j hij hj => mono_to hcan i j hij hj)
  have HC := Lib.hid hc
  have HL := Lib.hid (fun (w' : World) (i : Nat) (hi : i < l.length) hs hr hc => hasLess_any b off c Bs Br l.length l r w' hs hr i hi hc)
  clear hc hcan
  go_enter Try.func35, Try.ntmps35
  go_wp2
  go_loopw [5, 6] (fun si sj wr => ∃ i j q : Nat, i ≤ j ∧ j ≤ l.length ∧ si = .int .i64 i ∧ sj = .int .i64 j ∧ wr = w.drewN q ∧ Hid (∀ t, t < i → (l.getD t (0, 0)).2 < r) ∧ Hid (∀ t, j ≤ t → t < l.length → r ≤ (l.getD t (0, 0)).2))
    (fun si sj _ => (intOf sj).toNat - (intOf si).toNat)
  case atStart => exact ⟨0, l.length, 0, by omega, by omega, rfl, rfl, rfl, fun t ht => by omega, fun t h1 h2 => by omega⟩
  case round =>
    obtain ⟨i, j, q, hij, hj, rfl, rfl, rfl, hlo, hhi⟩ := hrel
    by_cases hlt : i < j
    · go_wp2_with fail
      rw [half_cast]
      have hk : (i + j) / 2 < l.length := by omega
      refine (HL.out (w.drewN q) ((i + j) / 2) hk (by simpa using hs) (by simpa using hr) (by simpa using HC.out _ hk)).mono ?_
      rintro e w' ⟨rfl, q', rfl⟩
      by_cases hb : r ≤ (l.getD ((i + j) / 2) (0, 0)).2
      · simp only [hb, decide_true]
        go_wp2
        refine ⟨⟨i, (i + j) / 2, q + q', by omega, by omega, rfl, rfl, by simp, fun t ht => hlo.out t ht, fun t h1 h2 => ?_⟩, ?_⟩
        · exact Int.le_trans hb (HM.out _ _ h1 h2)
        · simp [intOf]; omega
      · simp only [hb, decide_false]
        go_wp2
        refine ⟨⟨(i + j) / 2 + 1, j, q + q', by omega, by omega, by simp, rfl, by simp, fun t ht => ?_, fun t h1 h2 => hhi.out t h1 h2⟩, ?_⟩
        · have := HM.out t ((i + j) / 2) (by omega) hk
          omega
        · simp [intOf]; omega
    · go_wp2
      go_ret
      exact ⟨i, rfl, by omega, hlo.out, fun t h1 h2 => hhi.out t (by omega) h2, q, rfl⟩

end Go.Proofs.Ytpidgcjioocmhaa
