/- The walks of sets.Set's Has, Or, Less, Same, and of slices.Clone. -/
import Derived.Test.YtpidgcjioocmhaaSetsOf
import Derived.Test.YtpidgcjioocmhaaSetsAnd
import Derived.Test.YtpidgcjioocmhaaSetsHas
namespace Go.Proofs.Ytpidgcjioocmhaa
open Go.RowKit SetPure

theorem gap_at {lo : Int} {l : List Rg} (h : CanonFrom lo l) (i j : Nat) (hij : i < j) (hj : j < l.length) : (l.getD i (0, 0)).2 + 2 ≤ (l.getD j (0, 0)).1 := by
  induction l generalizing lo i j with
  | nil => simp at hj
  | cons q l ih =>
    cases j with
    | zero => omega
    | succ j =>
      have hj' : j < l.length := by simpa using hj
      cases i with
      | zero =>
        have hm : l.getD j (0, 0) ∈ l := by rw [List.getD_eq_getElem?_getD, List.getElem?_eq_getElem hj']; exact List.getElem_mem hj'
        have h1 := Canon.ge h.2.2.2 _ hm
        have h0 : ((q :: l).getD (j + 1) (0, 0)) = l.getD j (0, 0) := by simp
        rw [h0]
        exact h1.1
      | succ i => simpa using ih h.2.2.2 i j (by omega) hj'

theorem inB_at {l : List Rg} {r : Int} {i : Nat} (hcan : Canon l) (hlo : ∀ t, t < i → (l.getD t (0, 0)).2 < r) (hhi : ∀ t, i ≤ t → t < l.length → r ≤ (l.getD t (0, 0)).2) :
    inB l r = (decide (i < l.length) && decide ((l.getD i (0, 0)).1 ≤ r)) := by
  rw [Bool.eq_iff_iff, inB_iff]
  simp only [Bool.and_eq_true, decide_eq_true_eq]
  constructor
  · rintro ⟨q, hq, h1, h2⟩
    obtain ⟨t, ht, rfl⟩ := List.getElem_of_mem hq
    have e : ∀ t, (ht : t < l.length) → l.getD t (0, 0) = l[t] := fun t ht => by rw [List.getD_eq_getElem?_getD, List.getElem?_eq_getElem ht]; rfl
    have hti : i ≤ t := by
      rcases Nat.lt_or_ge t i with h | h
      · have := hlo t h; rw [e t ht] at this; omega
      · exact h
    refine ⟨by omega, ?_⟩
    rcases Nat.eq_or_lt_of_le hti with rfl | hlt
    · rw [e _ ht]; exact h1
    · have h3 := hhi i (Nat.le_refl _) (by omega)
      have h6 := gap_at hcan i t hlt ht
      rw [e t ht] at h6
      omega
  · rintro ⟨h1, h2⟩
    have e : l.getD i (0, 0) = l[i] := by rw [List.getD_eq_getElem?_getD, List.getElem?_eq_getElem h1]; rfl
    have h3 := hhi i (Nat.le_refl _) h1
    rw [e] at h2 h3
    exact ⟨l[i], List.getElem_mem h1, h2, h3⟩

theorem search_nil (Bs Br : Nat) (r : Int) (w : World) :
    Calls Try.prog 35 #[.int .i64 (([] : List Rg).length : Nat), .func (.func 36) #[] #[.pointer (some ⟨Bs, 0, none⟩), .pointer (some ⟨Br, 0, none⟩)]] w (SearchEnd [] r w) := by
  go_enter Try.func35, Try.ntmps35
  go_wp2
  go_loopw [5, 6] (fun si sj wr => si = .int .i64 0 ∧ sj = .int .i64 0 ∧ wr = w) (fun si sj _ => 0)
  case atStart => exact ⟨rfl, rfl, rfl⟩
  case round =>
    obtain ⟨rfl, rfl, rfl⟩ := hrel
    go_wp2
    go_ret
    exact ⟨0, rfl, by simp, fun t ht => by omega, fun t h1 h2 => by simp at h2, 0, rfl⟩

theorem search_end (A : Option Addr) (c B Bs Br : Nat) (l : List Rg) (r : Int) (w : World) (hcan : Canon l) (hA : SeqAt Epair w B A l) (hs : w.cell? ⟨Bs, 0, none⟩ = some (.slice A l.length c)) (hr : w.cell? ⟨Br, 0, none⟩ = some (.int .i64 r)) :
    Calls Try.prog 35 #[.int .i64 l.length, .func (.func 36) #[] #[.pointer (some ⟨Bs, 0, none⟩), .pointer (some ⟨Br, 0, none⟩)]] w (SearchEnd l r w) := by
  rcases Nat.eq_zero_or_pos l.length with h0 | h0
  · obtain rfl := List.eq_nil_of_length_eq_zero h0
    exact search_nil Bs Br r w
  · obtain ⟨b, off, rfl, hb, hc⟩ := hA.pairs_ h0
    exact search_any b off c Bs Br l r w h0 hcan hs hr (fun i hi => (hc i hi).2)

set_option maxHeartbeats 800000 in
theorem has_any (A : Option Addr) (c B : Nat) (l : List Rg) (r : Int) (w : World) (hcan : Canon l) (hA : SeqAt Epair w B A l) (hB : B ≤ w.heap.size) :
    Calls Try.prog 15 #[.slice A l.length c, .int .i64 r] w fun e w' => e = .returned (.bool (inB l r)) ∧ Below w.heap.size w w' := by
  have hlen := hcan.len
  have HC := Lib.hid hcan
  have HA := Lib.hid hA
  have HS := Lib.hid (fun wx hs hr hA' => search_end A c B w.heap.size (w.heap.size + 1) l r wx hcan hA' hs hr)
  clear hcan hA
  go_enter Try.func15, Try.ntmps15
  go_wp2_with (go_at_call 35; refine (HS.out _ (by go_simp) (by go_simp) ((HA.out.alloc hB _).alloc (by simp; omega) _)).mono ?_; rintro e w1 ⟨i, rfl, hi, hlo, hhi, q, rfl⟩; have HI := Lib.hid (inB_at HC.out hlo hhi); clear hlo hhi)
  by_cases hlt : i < l.length
  · obtain ⟨b, off, rfl, hb, hc⟩ := HA.out.pairs_ (by omega)
    have h0 := (hc i hlt).1
    clear hc
    have hki : (i : Int) < (l.length : Int) := by omega
    have hbw : b < w.heap.size := by omega
    go_quiet (fail)
    go_wp2
    go_ret
    refine ⟨ret_bool ?_, ?_⟩
    · rw [HI.out]; simp [hlt]
    · exact below_drewN (below_drewN (((Below.refl _ w).alloc (Nat.le_refl _) _).alloc (by simp) _) _) _
  · obtain rfl : i = l.length := by omega
    go_quiet (fail)
    go_wp2
    go_ret
    refine ⟨ret_bool ?_, ?_⟩
    · rw [HI.out]; simp
    · exact below_drewN (below_drewN (((Below.refl _ w).alloc (Nat.le_refl _) _).alloc (by simp) _) _) _

end Go.Proofs.Ytpidgcjioocmhaa
