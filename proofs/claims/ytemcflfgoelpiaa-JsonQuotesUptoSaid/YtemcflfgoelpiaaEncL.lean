/- The walks of the program's encoder at UTF-8: put behind what is there, Encode of a list of scalars, the bytes of one. -/
import Derived.Test.YtemcflfgoelpiaaLib
import Derived.Test.YtemcflfgoelpiaaBits
import Derived.Deep.DeepCutAuto
import Derived.Laws.BytesArg
namespace Go.Proofs.Ytemcflfgoelpiaa
open Go.RowKit

def encU (r : Int) : List Int :=
  if r < 128 then [r] else if r < 2048 then [192 + r / 64, 128 + r % 64] else if r < 65536 then [224 + r / 4096, 128 + r / 64 % 64, 128 + r % 64]
  else [240 + r / 262144, 128 + r / 4096 % 64, 128 + r / 64 % 64, 128 + r % 64]
theorem encU_len (r : Int) : (encU r).length ≤ 4 := by unfold encU; repeat' (split <;> try simp)
def Ebyte : Enc Int := ⟨fun a => [.int .u8 a], 1, by decide, fun _ => rfl, fun a u hu => by simp at hu; subst hu; rfl⟩
theorem info_byteE : (Try.prog.info? 5).map (fun i => (i.zero, i.size, i.bytes)) = some (some (.int .u8 0), 1, 1) := by kernel_rfl
theorem elByte : ElemOf Try.prog 46 5 Ebyte.k 1 := by
  obtain ⟨i, hi, hz0, hz1, hz2⟩ := info_parts info_byteE
  exact ⟨i, _, Try.underlying46, hi, hz0, hz1, hz2, rfl⟩

set_option maxHeartbeats 1600000 in
set_option maxRecDepth 100000 in
theorem put_any (w0 : World) (v : Value) (l : List Int) (r : Int) (w : World) (h : Own Ebyte 5 w0 w v l) (hl : l.length ≤ 1000000000) (h0 : 0 ≤ r) (h1 : r ≤ 1114111) :
    Calls Try.prog 27 #[v, .int .i64 r, .int .i64 1] w (fun e w' => ∃ v', e = .returned v' ∧ Own Ebyte 5 w0 w' v' (l ++ encU r)) := by
  have HO := Lib.hid h
  obtain ⟨A, c, rfl, hlc, hc, hS⟩ := h.isSeq
  have HN := Lib.hid ((HO.out.alloc (.cells #[.slice A l.length c] 46)).alloc (.cells #[.int .i64 1] 3))
  clear h hS HO
  obtain ⟨n, hn⟩ : ∃ n, l.length = n := ⟨_, rfl⟩
  rw [hn] at hl hlc HN ⊢
  have HL := Lib.hid hn
  clear hn
  unfold encU
  by_cases c1 : r < 128
  · rw [if_pos c1]
    go_enter Try.func27, Try.ntmps27
    go_wp2_with (at_builtin; (refine wpList_append_seq _ rfl (.tmp 66) (.tmp 69) 46 rfl 1 elByte rfl (HN.out.alloc _) 1 rfl (SeqAt.new_at (E := Ebyte) _ [r] 5 (w.heap.size + 1 + 1) (by simp)) rfl (by have := HL.out; simp only [maxLen]; omega) (by have := HL.out; omega) ?_); intro v1 w1 ho1 hg1)
    go_ret
    exact ⟨_, rfl, ho1⟩
  · rw [if_neg c1]
    have e1 := and63 r h0 (by omega)
    have e2 := or128 (r % 64) (by omega) (by omega)
    by_cases c2 : r < 2048
    · rw [if_pos c2]
      have e3 := or192 (r / 64) (by omega) (by omega)
      go_enter Try.func27, Try.ntmps27
      go_wp2_with (at_builtin; (refine wpList_append_seq _ rfl (.tmp 74) (.tmp 83) 46 rfl 1 elByte rfl (HN.out.alloc _) 2 rfl (SeqAt.new_at (E := Ebyte) _ [192 + r / 64, 128 + r % 64] 5 (w.heap.size + 1 + 1) (by simp)) rfl (by have := HL.out; simp only [maxLen]; omega) (by have := HL.out; omega) ?_); intro v1 w1 ho1 hg1)
      go_ret
      exact ⟨_, rfl, ho1⟩
    · rw [if_neg c2]
      have e4 := and63 (r / 64) (by omega) (by omega)
      have e5 := or128 (r / 64 % 64) (by omega) (by omega)
      by_cases c3 : r < 65536
      · rw [if_pos c3]
        have e6 := or224 (r / 4096) (by omega) (by omega)
        go_enter Try.func27, Try.ntmps27
        go_wp2_with (at_builtin; (refine wpList_append_seq _ rfl (.tmp 88) (.tmp 102) 46 rfl 1 elByte rfl (HN.out.alloc _) 3 rfl (SeqAt.new_at (E := Ebyte) _ [224 + r / 4096, 128 + r / 64 % 64, 128 + r % 64] 5 (w.heap.size + 1 + 1) (by simp)) rfl (by have := HL.out; simp only [maxLen]; omega) (by have := HL.out; omega) ?_); intro v1 w1 ho1 hg1)
        go_ret
        exact ⟨_, rfl, ho1⟩
      · rw [if_neg c3]
        have e7 := and63 (r / 4096) (by omega) (by omega)
        have e8 := or128 (r / 4096 % 64) (by omega) (by omega)
        have e9 := or240 (r / 262144) (by omega) (by omega)
        go_enter Try.func27, Try.ntmps27
        go_wp2_with (at_builtin; (refine wpList_append_seq _ rfl (.tmp 9) (.tmp 28) 46 rfl 1 elByte rfl (HN.out.alloc _) 4 rfl (SeqAt.new_at (E := Ebyte) _ [240 + r / 262144, 128 + r / 4096 % 64, 128 + r / 64 % 64, 128 + r % 64] 5 (w.heap.size + 1 + 1) (by simp)) rfl (by have := HL.out; simp only [maxLen]; omega) (by have := HL.out; omega) ?_); intro v1 w1 ho1 hg1)
        go_ret
        exact ⟨_, rfl, ho1⟩

theorem conv_own {w0 w : World} {v : Value} {l : List Int} (h : Own Ebyte 5 w0 w v l) : (convert 46 9 v).run Try.prog w = .ok (.string (strOfNums l)) w := by
  obtain ⟨A, c, rfl, _, _, hA⟩ := h.isSeq
  rcases Nat.eq_zero_or_pos l.length with h0 | h0
  · obtain rfl := List.eq_nil_of_length_eq_zero h0
    rcases A with _ | a
    · exact run_convert_bytes_nil (P := Try.prog) w 46 5 Try.underlying46 Try.underlying5 0 c 9 Try.underlying9
    · rcases h.1.2 with ⟨h', _⟩ | ⟨g, cap, cur, h', _⟩
      · cases h'
      · injection h' with h1 _ _
        injection h1 with h1
        subst h1
        exact run_convert_bytes_arg (P := Try.prog) w 46 5 Try.underlying46 Try.underlying5 g 0 0 c [] rfl (fun i hi => by omega) 9 Try.underlying9
  · obtain ⟨b, off, rfl, hb, hc⟩ := hA h0
    refine run_convert_bytes_arg (P := Try.prog) w 46 5 Try.underlying46 Try.underlying5 b off l.length c l rfl (fun i hi => ?_) 9 Try.underlying9
    rw [hc i (by simpa [Ebyte] using hi)]
    congr 1
    have hf := Ebyte.flat_at l i hi 0 (by decide)
    have e : i * Ebyte.k + 0 = i := by show i * 1 + 0 = i; omega
    rw [e] at hf
    rw [List.getD_eq_getElem?_getD, hf, List.getD_eq_getElem?_getD, List.getElem?_eq_getElem hi]
    rfl
def isScalar (r : Int) : Prop := 0 ≤ r ∧ r ≤ 1114111 ∧ (r < 55296 ∨ 57343 < r)
def encAll (rs : List Int) : List Int := rs.flatMap encU
theorem encAll_len (rs : List Int) : (encAll rs).length ≤ 4 * rs.length := by
  induction rs with
  | nil => simp [encAll]
  | cons r rs ih =>
    have := encU_len r
    rw [show encAll (r :: rs) = encU r ++ encAll rs from rfl, List.length_append, List.length_cons]
    omega
theorem encAll_snoc (rs : List Int) (r : Int) : encAll (rs ++ [r]) = encAll rs ++ encU r := by simp [encAll]

set_option maxHeartbeats 1600000 in
theorem encodeL_any (A : Option Addr) (n c : Nat) (rs : List Int) (w : World) (hn : rs.length = n) (hn1 : n ≤ 100000000) (hS : SeqAt Eint w w.heap.size A rs) (hr : ∀ r ∈ rs, isScalar r) :
    Calls Try.prog 11 #[.slice A n c, .int .i64 1, .bool false] w fun e w' => e = .returned (.tuple #[.string (strOfNums (encAll rs)), .int .i64 0]) ∧ Below w.heap.size w w' := by
  have HS := Lib.hid hS
  have HR := Lib.hid hr
  have HN := Lib.hid hn
  clear hS hr hn
  go_enter Try.func11, Try.ntmps11
  go_wp2
  go_loopw [8, 24] (fun vo ix wr => ∃ k : Nat, k ≤ n ∧ ix = .int .i64 k ∧ Hid (Own Ebyte 5 w wr vo (encAll (rs.take k)))) (fun _ ix _ => n + 1 - (intOf ix).toNat)
  case atStart => exact ⟨0, by omega, rfl, Lib.hid (Own.nil_ w)⟩
  case round =>
    obtain ⟨k, hk, rfl, hown⟩ := hrel
    by_cases hlt : k < n
    · have hkl : k < rs.length := by rw [HN.out]; exact hlt
      obtain ⟨r, hrr⟩ : ∃ r, rs[k] = r := ⟨_, rfl⟩
      obtain ⟨g, off, rfl, hg, hcell⟩ := HS.out.int_ hkl
      rw [hrr] at hcell
      have hcr : wr.cell? ⟨g, off + k, none⟩ = some (.int .i64 r) := (hown.out.2.cell (p := ⟨g, off + k, none⟩) hg).trans hcell
      have hs := HR.out r (by rw [← hrr]; exact List.getElem_mem hkl)
      obtain ⟨h0, h1, h2⟩ := hs
      have HT : Hid (encAll (rs.take (k + 1)) = encAll (rs.take k) ++ encU r) := Lib.hid (by
        rw [← encAll_snoc, List.take_succ_eq_append_getElem hkl, hrr])
      have HL : Hid ((encAll (rs.take k)).length ≤ 1000000000) := Lib.hid (by
        have := encAll_len (rs.take k)
        rw [List.length_take] at this
        omega)
      have hkk : (k : Int) < (n : Int) := by omega
      have hk0 : (0 : Int) ≤ (k : Int) := by omega
      have q1 : decide (r < 0) = false := decide_eq_false (by omega)
      have q2 : decide (1114111 < r) = false := decide_eq_false (by omega)
      clear hcell hrr
      rcases h2 with h2 | h2
      · have q3 : decide (55296 ≤ r) = false := decide_eq_false (by omega)
        go_wp2_with (go_at_call 27; refine (put_any w _ _ r _ hown.out HL.out h0 h1).mono ?_; rintro e w1 ⟨v', rfl, ho⟩; have HO := Lib.hid ho; clear ho)
        go_roundw
        case rel => exact ⟨k + 1, by omega, by go_num, Lib.hid (by rw [HT.out]; exact HO.out)⟩
        case measure => simp [intOf]; omega
      · have q3 : (55296 : Int) ≤ r := by omega
        have q4 : decide (r ≤ 57343) = false := decide_eq_false (by omega)
        go_wp2_with (go_at_call 27; refine (put_any w _ _ r _ hown.out HL.out h0 h1).mono ?_; rintro e w1 ⟨v', rfl, ho⟩; have HO := Lib.hid ho; clear ho)
        go_roundw
        case rel => exact ⟨k + 1, by omega, by go_num, Lib.hid (by rw [HT.out]; exact HO.out)⟩
        case measure => simp [intOf]; omega
    · have hkn : ¬ (k : Int) < (n : Int) := by omega
      have ht : rs.take k = rs := List.take_of_length_le (by rw [HN.out]; omega)
      rw [ht] at hown
      have hcv := conv_own hown.out
      clear ht
      go_wp2
      go_ret2
      exact ⟨rfl, hown.out.2⟩

end Go.Proofs.Ytemcflfgoelpiaa
