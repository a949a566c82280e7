/- Chapter 09: the walks of the document's in, ranges and In. -/
import Derived.Test.YtpidgcjioocmhaaUcdPerl
import Derived.Test.YtpidgcjioocmhaaBytes
namespace Go.Proofs.Ytpidgcjioocmhaa
open Go.RowKit SetPure

theorem inB_drop {l : List Rg} {k : Nat} {x y : Int} (hk : k < l.length) (hr : l.getD k (0, 0) = (x, y)) (z : Int) : inB (l.drop k) z = ((decide (x ≤ z) && decide (z ≤ y)) || inB (l.drop (k + 1)) z) := by
  rw [drop_next' hk hr]; rfl

set_option maxHeartbeats 400000 in
theorem in9_any (A : Option Addr) (c B : Nat) (rs : List Rg) (r : Int) (w : World) (hl : rs.length ≤ 1000) (hA : SeqAt Epair w B A rs) (hB : B ≤ w.heap.size) :
    Calls Try.prog 43 #[.slice A (2 * rs.length) c, .int .i64 r] w fun e w' => e = .returned (.bool (inB rs r)) ∧ Below w.heap.size w w' := by
  have HA := Lib.hid hA
  obtain ⟨n, hn⟩ : ∃ n, 2 * rs.length = n := ⟨_, rfl⟩
  have HN := Lib.hid hn
  rw [hn]
  have hn1 : n ≤ 2000 := by omega
  clear hA hn
  go_enter Try.func43, Try.ntmps43
  go_wp2
  go_loopw [5] (fun ix wr => ∃ i k : Nat, i = 2 * k ∧ i ≤ n ∧ ix = .int .i64 i ∧ Below w.heap.size w wr ∧ Hid (inB rs r = inB (rs.drop k) r)) (fun ix _ => n + 2 - (intOf ix).toNat)
  case atStart => exact ⟨0, 0, rfl, by omega, rfl, Below.refl _ _, rfl⟩
  case round =>
    obtain ⟨i, k, hik, hi, rfl, hbw, hrest⟩ := hrel
    by_cases hlt : k < rs.length
    · obtain ⟨b, off, rfl, hb, hc⟩ := (HA.out.below (hbw.mono hB)).pairs_ (by omega)
      obtain ⟨h0, h1⟩ := hc k hlt
      clear hc
      obtain ⟨⟨x, y⟩, hr⟩ : ∃ r, rs.getD k (0, 0) = r := ⟨_, rfl⟩
      rw [hr] at h0 h1
      simp only at h0 h1
      have HS := Lib.hid (inB_drop hlt hr r)
      have c0 : wr.cell? ⟨b, off + i, none⟩ = some (.int .i64 x) := by rw [hik, Nat.mul_comm 2 k]; exact h0
      have c1 : wr.cell? ⟨b, off + (i + 1), none⟩ = some (.int .i64 y) := by rw [hik, Nat.mul_comm 2 k, ← Nat.add_assoc]; exact h1
      have hki : (i : Int) + 1 < (n : Int) := by have := HN.out; omega
      have HIK := Lib.hid hik
      have hin : i + 2 ≤ n := by have := HN.out; omega
      clear hr h0 h1 hik
      by_cases d1 : x ≤ r
      · by_cases d2 : r ≤ y
        · go_wp2
          go_ret
          exact ⟨ret_bool (by rw [hrest.out, HS.out]; simp [d1, d2]), hbw⟩
        · go_wp2
          go_roundw
          case rel => exact ⟨i + 2, k + 1, by rw [HIK.out]; omega, by omega, by go_num, hbw, Lib.hid (by rw [hrest.out, HS.out]; simp [d2])⟩
          case measure => simp [intOf]; omega
      · go_wp2
        go_roundw
        case rel => exact ⟨i + 2, k + 1, by rw [HIK.out]; omega, by omega, by go_num, hbw, Lib.hid (by rw [hrest.out, HS.out]; simp [d1])⟩
        case measure => simp [intOf]; omega
    · obtain rfl : i = n := by have := HN.out; omega
      have HE := Lib.hid (show inB (rs.drop k) r = false by rw [List.drop_of_length_le (by omega)]; rfl)
      clear hik
      go_wp2
      go_ret
      exact ⟨ret_bool (by rw [hrest.out, HE.out]), hbw⟩

/-- A call that hands back ranges as a flat list of numbers. -/
def RetFlat (rs : List Rg) (w : World) (e : Ending) (w' : World) : Prop := ∃ g c, e = .returned (.slice (some ⟨g, 0, none⟩) (2 * rs.length) c) ∧ SeqAt Epair w' w'.heap.size (some ⟨g, 0, none⟩) rs ∧ Below w.heap.size w w'
theorem ret_flat (w : World) (rs : List Rg) (t : TypeId) (c : Nat) : RetFlat rs w (.returned (.slice (some ⟨w.heap.size, 0, none⟩) (2 * rs.length) c)) (w.alloc (.cells (rs.flatMap Epair.enc).toArray t)) :=
  ⟨w.heap.size, c, rfl, (SeqAt.new w rs t).more (by simp), (Below.refl _ w).alloc (Nat.le_refl _) _⟩

set_option maxRecDepth 100000 in
theorem ranges9_0 (w : World) : Calls Try.prog 44 #[.string ⟨#[76, 117]⟩] w (RetFlat (rangesC 0) w) := by
  go_enter Try.func44, Try.ntmps44
  go_wp2
  go_ret
  exact ret_flat w (rangesC 0) 3 _

set_option maxRecDepth 100000 in
theorem ranges9_1 (w : World) : Calls Try.prog 44 #[.string ⟨#[76, 108]⟩] w (RetFlat (rangesC 1) w) := by
  go_enter Try.func44, Try.ntmps44
  go_wp2
  go_ret
  exact ret_flat w (rangesC 1) 3 _

set_option maxRecDepth 100000 in
theorem ranges9_2 (w : World) : Calls Try.prog 44 #[.string ⟨#[76, 111]⟩] w (RetFlat (rangesC 2) w) := by
  go_enter Try.func44, Try.ntmps44
  go_wp2
  go_ret
  exact ret_flat w (rangesC 2) 3 _

set_option maxRecDepth 100000 in
theorem ranges9_3 (w : World) : Calls Try.prog 44 #[.string ⟨#[78, 100]⟩] w (RetFlat (rangesC 3) w) := by
  go_enter Try.func44, Try.ntmps44
  go_wp2
  go_ret
  exact ret_flat w (rangesC 3) 3 _

set_option maxRecDepth 100000 in
theorem ranges9_4 (w : World) : Calls Try.prog 44 #[.string ⟨#[80, 99]⟩] w (RetFlat (rangesC 4) w) := by
  go_enter Try.func44, Try.ntmps44
  go_wp2
  go_ret
  exact ret_flat w (rangesC 4) 3 _

set_option maxRecDepth 100000 in
theorem ranges9_5 (w : World) : Calls Try.prog 44 #[.string ⟨#[90, 115]⟩] w (RetFlat (rangesC 5) w) := by
  go_enter Try.func44, Try.ntmps44
  go_wp2
  go_ret
  exact ret_flat w (rangesC 5) 3 _

set_option maxRecDepth 100000 in
theorem ranges9_6 (w : World) : Calls Try.prog 44 #[.string ⟨#[80]⟩] w (RetFlat (rangesC 6) w) := by
  go_enter Try.func44, Try.ntmps44
  go_wp2
  go_ret
  exact ret_flat w (rangesC 6) 3 _

set_option maxRecDepth 100000 in
theorem ranges9_7 (w : World) : Calls Try.prog 44 #[.string ⟨#[76, 97, 116, 105, 110]⟩] w (RetFlat (rangesC 7) w) := by
  go_enter Try.func44, Try.ntmps44
  go_wp2
  go_ret
  exact ret_flat w (rangesC 7) 3 _

set_option maxRecDepth 100000 in
theorem ranges9_8 (w : World) : Calls Try.prog 44 #[.string ⟨#[71, 114, 101, 101, 107]⟩] w (RetFlat (rangesC 8) w) := by
  go_enter Try.func44, Try.ntmps44
  go_wp2
  go_ret
  exact ret_flat w (rangesC 8) 3 _

set_option maxRecDepth 100000 in
theorem ranges9_9 (w : World) : Calls Try.prog 44 #[.string ⟨#[67, 121, 114, 105, 108, 108, 105, 99]⟩] w (RetFlat (rangesC 9) w) := by
  go_enter Try.func44, Try.ntmps44
  go_wp2
  go_ret
  exact ret_flat w (rangesC 9) 3 _

set_option maxRecDepth 100000 in
theorem ranges9_10 (w : World) : Calls Try.prog 44 #[.string ⟨#[72, 101, 98, 114, 101, 119]⟩] w (RetFlat (rangesC 10) w) := by
  go_enter Try.func44, Try.ntmps44
  go_wp2
  go_ret
  exact ret_flat w (rangesC 10) 3 _

set_option maxRecDepth 100000 in
theorem ranges9_11 (w : World) : Calls Try.prog 44 #[.string ⟨#[72, 105, 114, 97, 103, 97, 110, 97]⟩] w (RetFlat (rangesC 11) w) := by
  go_enter Try.func44, Try.ntmps44
  go_wp2
  go_ret
  exact ret_flat w (rangesC 11) 3 _

set_option maxRecDepth 100000 in
theorem ranges9_12 (w : World) : Calls Try.prog 44 #[.string ⟨#[75, 97, 116, 97, 107, 97, 110, 97]⟩] w (RetFlat (rangesC 12) w) := by
  go_enter Try.func44, Try.ntmps44
  go_wp2
  go_ret
  exact ret_flat w (rangesC 12) 3 _

set_option maxRecDepth 100000 in
theorem ranges9_13 (w : World) : Calls Try.prog 44 #[.string ⟨#[72, 97, 110]⟩] w (RetFlat (rangesC 13) w) := by
  go_enter Try.func44, Try.ntmps44
  go_wp2
  go_ret
  exact ret_flat w (rangesC 13) 3 _

set_option maxRecDepth 100000 in
theorem ranges9_14 (w : World) : Calls Try.prog 44 #[.string ⟨#[68, 101, 115, 101, 114, 101, 116]⟩] w (RetFlat (rangesC 14) w) := by
  go_enter Try.func44, Try.ntmps44
  go_wp2
  go_ret
  exact ret_flat w (rangesC 14) 3 _

theorem in9_range (name : ByteArray) (rs : List Rg) (hrs : rs.length ≤ 1000) (hR : ∀ w, Calls Try.prog 44 #[.string name] w (RetFlat rs w)) (r : Int) (w : World)
    (n1 : (name.toList == [65, 110, 121]) = false) (n2 : (name.toList == [76]) = false) (n3 : (name.toList == [78]) = false) (n4 : (name.toList == [100]) = false) (n5 : (name.toList == [119]) = false) (n6 : (name.toList == [115]) = false)
    (n7 : (name.toList == [68]) = false) (n8 : (name.toList == [87]) = false) (n9 : (name.toList == [83]) = false) :
    Calls Try.prog 24 #[.string name, .int .i64 r] w fun e w' => e = .returned (.bool (inB rs r && inR r)) ∧ Below w.heap.size w w' := by
  have HR := Lib.hid hR
  clear hR
  by_cases h0 : r < 0
  · have HF := Lib.hid (show (inB rs r && inR r) = false by rw [show inR r = false by simp [inR]; omega, Bool.and_false])
    go_enter Try.func24, Try.ntmps24
    go_wp2
    go_ret
    exact ⟨ret_bool HF.out.symm, Below.refl _ _⟩
  · by_cases h1 : 1114111 < r
    · have HF := Lib.hid (show (inB rs r && inR r) = false by rw [show inR r = false by simp [inR]; omega, Bool.and_false])
      go_enter Try.func24, Try.ntmps24
      go_wp2
      go_ret
      exact ⟨ret_bool HF.out.symm, Below.refl _ _⟩
    · have HF := Lib.hid (show (inB rs r && inR r) = inB rs r by rw [show inR r = true by simp [inR]; omega, Bool.and_true])
      go_enter Try.func24, Try.ntmps24
      go_wp2_with (first
        | (go_at_call 44; refine (HR.out _).mono ?_; rintro e w1 ⟨g, c, rfl, hA, hb1⟩; have HA := Lib.hid hA; clear hA)
        | (go_at_call 43; refine (in9_any _ _ _ rs r _ hrs HA.out (Nat.le_refl _)).mono ?_; rintro e w2 ⟨rfl, hb2⟩))
      go_ret
      exact ⟨ret_bool HF.out.symm, hb1.trans (hb2.mono hb1.size)⟩

theorem in9_base (i : Nat) (hi : i < 15) (r : Int) (w : World) : Calls Try.prog 24 #[.string (nameC i), .int .i64 r] w fun e w' => e = .returned (.bool (inB (rangesC i) r && inR r)) ∧ Below w.heap.size w w' := by
  have h : i = 0 ∨ i = 1 ∨ i = 2 ∨ i = 3 ∨ i = 4 ∨ i = 5 ∨ i = 6 ∨ i = 7 ∨ i = 8 ∨ i = 9 ∨ i = 10 ∨ i = 11 ∨ i = 12 ∨ i = 13 ∨ i = 14 := by omega
  rcases h with rfl | rfl | rfl | rfl | rfl | rfl | rfl | rfl | rfl | rfl | rfl | rfl | rfl | rfl | rfl
  · exact in9_range ⟨#[76, 117]⟩ (rangesC 0) (by decide +kernel) ranges9_0 r w (by decide +kernel) (by decide +kernel) (by decide +kernel) (by decide +kernel) (by decide +kernel) (by decide +kernel) (by decide +kernel) (by decide +kernel) (by decide +kernel)
  · exact in9_range ⟨#[76, 108]⟩ (rangesC 1) (by decide +kernel) ranges9_1 r w (by decide +kernel) (by decide +kernel) (by decide +kernel) (by decide +kernel) (by decide +kernel) (by decide +kernel) (by decide +kernel) (by decide +kernel) (by decide +kernel)
  · exact in9_range ⟨#[76, 111]⟩ (rangesC 2) (by decide +kernel) ranges9_2 r w (by decide +kernel) (by decide +kernel) (by decide +kernel) (by decide +kernel) (by decide +kernel) (by decide +kernel) (by decide +kernel) (by decide +kernel) (by decide +kernel)
  · exact in9_range ⟨#[78, 100]⟩ (rangesC 3) (by decide +kernel) ranges9_3 r w (by decide +kernel) (by decide +kernel) (by decide +kernel) (by decide +kernel) (by decide +kernel) (by decide +kernel) (by decide +kernel) (by decide +kernel) (by decide +kernel)
  · exact in9_range ⟨#[80, 99]⟩ (rangesC 4) (by decide +kernel) ranges9_4 r w (by decide +kernel) (by decide +kernel) (by decide +kernel) (by decide +kernel) (by decide +kernel) (by decide +kernel) (by decide +kernel) (by decide +kernel) (by decide +kernel)
  · exact in9_range ⟨#[90, 115]⟩ (rangesC 5) (by decide +kernel) ranges9_5 r w (by decide +kernel) (by decide +kernel) (by decide +kernel) (by decide +kernel) (by decide +kernel) (by decide +kernel) (by decide +kernel) (by decide +kernel) (by decide +kernel)
  · exact in9_range ⟨#[80]⟩ (rangesC 6) (by decide +kernel) ranges9_6 r w (by decide +kernel) (by decide +kernel) (by decide +kernel) (by decide +kernel) (by decide +kernel) (by decide +kernel) (by decide +kernel) (by decide +kernel) (by decide +kernel)
  · exact in9_range ⟨#[76, 97, 116, 105, 110]⟩ (rangesC 7) (by decide +kernel) ranges9_7 r w (by decide +kernel) (by decide +kernel) (by decide +kernel) (by decide +kernel) (by decide +kernel) (by decide +kernel) (by decide +kernel) (by decide +kernel) (by decide +kernel)
  · exact in9_range ⟨#[71, 114, 101, 101, 107]⟩ (rangesC 8) (by decide +kernel) ranges9_8 r w (by decide +kernel) (by decide +kernel) (by decide +kernel) (by decide +kernel) (by decide +kernel) (by decide +kernel) (by decide +kernel) (by decide +kernel) (by decide +kernel)
  · exact in9_range ⟨#[67, 121, 114, 105, 108, 108, 105, 99]⟩ (rangesC 9) (by decide +kernel) ranges9_9 r w (by decide +kernel) (by decide +kernel) (by decide +kernel) (by decide +kernel) (by decide +kernel) (by decide +kernel) (by decide +kernel) (by decide +kernel) (by decide +kernel)
  · exact in9_range ⟨#[72, 101, 98, 114, 101, 119]⟩ (rangesC 10) (by decide +kernel) ranges9_10 r w (by decide +kernel) (by decide +kernel) (by decide +kernel) (by decide +kernel) (by decide +kernel) (by decide +kernel) (by decide +kernel) (by decide +kernel) (by decide +kernel)
  · exact in9_range ⟨#[72, 105, 114, 97, 103, 97, 110, 97]⟩ (rangesC 11) (by decide +kernel) ranges9_11 r w (by decide +kernel) (by decide +kernel) (by decide +kernel) (by decide +kernel) (by decide +kernel) (by decide +kernel) (by decide +kernel) (by decide +kernel) (by decide +kernel)
  · exact in9_range ⟨#[75, 97, 116, 97, 107, 97, 110, 97]⟩ (rangesC 12) (by decide +kernel) ranges9_12 r w (by decide +kernel) (by decide +kernel) (by decide +kernel) (by decide +kernel) (by decide +kernel) (by decide +kernel) (by decide +kernel) (by decide +kernel) (by decide +kernel)
  · exact in9_range ⟨#[72, 97, 110]⟩ (rangesC 13) (by decide +kernel) ranges9_13 r w (by decide +kernel) (by decide +kernel) (by decide +kernel) (by decide +kernel) (by decide +kernel) (by decide +kernel) (by decide +kernel) (by decide +kernel) (by decide +kernel)
  · exact in9_range ⟨#[68, 101, 115, 101, 114, 101, 116]⟩ (rangesC 14) (by decide +kernel) ranges9_14 r w (by decide +kernel) (by decide +kernel) (by decide +kernel) (by decide +kernel) (by decide +kernel) (by decide +kernel) (by decide +kernel) (by decide +kernel) (by decide +kernel)

end Go.Proofs.Ytpidgcjioocmhaa
