/- The walk of the law's 'clean': a text's runes, written. -/
import Derived.Test.YtemcflfgoelpiaaQuote
import Derived.Test.YtemcflfgoelpiaaEncL
import Derived.Test.YtemcflfgoelpiaaJsonT
namespace Go.Proofs.Ytemcflfgoelpiaa
open Go.RowKit

theorem nums_app (a b : List Int) : strOfNums (a ++ b) = strOfNums a ++ strOfNums b := by
  unfold strOfNums
  apply ByteArray.ext
  simp
theorem encAll_str (rs : List Int) (h : ∀ r ∈ rs, DecP.Scalar r) : strOfNums (encAll rs) = str (DecP.encs rs) := by
  induction rs with
  | nil => rfl
  | cons r rs ih =>
    have hr := (h r (by simp)).1
    obtain ⟨n, rfl⟩ : ∃ n : Nat, r = n := ⟨r.toNat, by omega⟩
    rw [show encAll ((n : Int) :: rs) = encU n ++ encAll rs from rfl, nums_app, ih (fun x hx => h x (by simp [hx])), encB_encU]
    apply ByteArray.ext
    simp [str, DecP.encs]

set_option maxRecDepth 100000 in
set_option maxHeartbeats 3200000 in
theorem clean_any (s : ByteArray) (w : World) (hs : s.size ≤ 10000000) :
    Calls Try.prog 14 #[.string s] w fun e w' => e = .returned (.string (str (DecP.encs (DecP.runes s.data.toList)))) ∧ Below w.heap.size w w' := by
  obtain ⟨rs, hrs⟩ : ∃ rs, DecP.runes s.data.toList = rs := ⟨_, rfl⟩
  have HSc : Hid (∀ r ∈ rs, DecP.Scalar r) := Lib.hid (by rw [← hrs]; exact DecP.runes_scalar _)
  have hlen : rs.length ≤ s.size := by
    have := DecP.runes_len s.data.toList
    rw [Array.length_toList, hrs] at this
    exact this
  have HD : Hid (∀ W, Calls Try.prog 10 #[.string (⟨#[120]⟩ ++ s), .int .i64 1, .bool false] W fun e w' => Below W.heap.size W w' ∧ ∃ Ar nr cr Ap np cp bad, e = .returned (.tuple #[.agg #[.int .i64 1, .slice Ar nr cr, .slice Ap np cp, .int .i64 bad], .agg #[.int .i64 0, .int .i64 0]]) ∧ Own Eint 3 W w' (.slice Ar nr cr) (120 :: rs)) := Lib.hid fun W => by
    refine (decode_any (xs s) false W (by rw [xs_size]; omega) (xs_mark s)).mono fun e w' h => ?_
    unfold DecEnd badS at h
    rw [xs_list] at h
    obtain ⟨h1, a1, a2, a3, a4, a5, a6, a7, h2, h3, _⟩ := h
    rw [DecP.runes_ascii _ (by decide), hrs] at h3
    exact ⟨h1, a1, a2, a3, a4, a5, a6, a7, h2, h3⟩
  rw [hrs]
  clear hrs
  go_enter Try.func14, Try.ntmps14
  go_upto_region 2 with (go_at_call 10; refine (HD.out _).mono ?_; rintro e w3 ⟨hb3, Ar, nr, cr, Ap, np, cp, bad, rfl, ho3⟩)
  have hsq := ho3.isSeq
  have hs3 := hb3.size
  obtain ⟨hrl, hform⟩ := ho3.1
  rcases hform with ⟨_, hbad⟩ | ⟨g, cap, cur, hv, hg1, hg2, hg3, hg4, hg5, hg6⟩
  · simp at hbad
  injection hv with h1 h2 h3
  subst h1; subst h2; subst h3
  rw [List.length_cons] at hsq ⊢
  have hST : Below w3.heap.size w3 ((w3.alloc (.cells #[.int .i64 1, .slice (some ⟨g, 0, none⟩) (rs.length + 1) cr, .slice Ap np cp, .int .i64 bad] 26)).alloc (.cells #[.int .i64 0, .int .i64 0] 29)) := ((Below.refl _ w3).alloc (Nat.le_refl _) _).alloc (by simp) _
  have hbw : Below w.heap.size w ((w3.alloc (.cells #[.int .i64 1, .slice (some ⟨g, 0, none⟩) (rs.length + 1) cr, .slice Ap np cp, .int .i64 bad] 26)).alloc (.cells #[.int .i64 0, .int .i64 0] 29)) := hb3.trans (hST.mono hs3)
  have hT : ((w3.alloc (.cells #[.int .i64 1, .slice (some ⟨g, 0, none⟩) (rs.length + 1) cr, .slice Ap np cp, .int .i64 bad] 26)).alloc (.cells #[.int .i64 0, .int .i64 0] 29)).heap[w3.heap.size]? = some (.cells #[.int .i64 1, .slice (some ⟨g, 0, none⟩) (rs.length + 1) cr, .slice Ap np cp, .int .i64 bad] 26) := (Below.heap_alloc _ _ _ (by simp)).trans (heap_alloc_new w3 _)
  have hSq : SeqAt Eint w3 w3.heap.size (some ⟨g, 0, none⟩) (120 :: rs) := by
    have h := SeqAt.of_own (l := 120 :: rs) (A := some ⟨g, 0, none⟩) (c := cr) ho3.1
    exact h
  have hSq2 := (hSq.below hST).more hST.size
  generalize (w3.alloc (.cells #[.int .i64 1, .slice (some ⟨g, 0, none⟩) (rs.length + 1) cr, .slice Ap np cp, .int .i64 bad] 26)).alloc (.cells #[.int .i64 0, .int .i64 0] 29) = W at hbw hT hSq2 ⊢
  obtain ⟨T, hTe⟩ : ∃ T, w3.heap.size = T := ⟨_, rfl⟩
  rw [hTe] at hT ⊢
  have hcT := fun o => Lib.cell_of_heap hT o
  have hcap : rs.length + 1 ≤ cr := by first | omega | exact hg3
  have hcut := hSq2.cut_one rfl (m := 1) (cap := cr) (by simp) (by rw [List.length_cons]; exact hcap)
  rw [List.drop_succ_cons, List.drop_zero] at hcut
  have HE : Hid (∀ (A : Option Addr) (n c : Nat) W', n = rs.length → SeqAt Eint W' W'.heap.size A rs → Calls Try.prog 11 #[.slice A n c, .int .i64 1, .bool false] W' fun e w' => e = .returned (.tuple #[.string (str (DecP.encs rs)), .int .i64 0]) ∧ Below W'.heap.size W' w') := Lib.hid fun A n c W' hn hS => by
    have := encodeL_any A n c rs W' hn.symm (by omega) hS HSc.out
    rw [encAll_str rs HSc.out] at this
    exact this
  have HCut := Lib.hid hcut
  have HBW := Lib.hid hbw
  have HL := Lib.hid hlen
  obtain ⟨n, hn⟩ : ∃ n, rs.length = n := ⟨_, rfl⟩
  have HN := Lib.hid hn
  rw [hn] at hcT hcap ⊢
  clear hT hTe hcut hbw hSq hSq2 hST hsq hb3 ho3 hs3 hrl hg1 hg2 hg3 hg4 hg5 hg6 hlen hn
  by_cases hc1 : cr = 1
  · subst hc1
    obtain rfl : n = 0 := by omega
    rw [if_pos rfl] at HCut
    go_wp2_with (go_at_call 11; refine (HE.out _ _ _ _ (by rw [HN.out]) HCut.out).mono ?_; rintro e w5 ⟨rfl, hb5⟩)
    go_ret
    exact ⟨rfl, HBW.out.trans (hb5.mono HBW.out.size)⟩
  · have hc2 : ¬ (cr : Int) = 1 := by omega
    have hc3 : (1 : Int) ≤ (cr : Int) := by omega
    rw [if_neg hc1] at HCut
    go_wp2_with (go_at_call 11; refine (HE.out _ _ _ _ (by rw [HN.out]) HCut.out).mono ?_; rintro e w5 ⟨rfl, hb5⟩)
    go_ret
    exact ⟨rfl, HBW.out.trans (hb5.mono HBW.out.size)⟩

end Go.Proofs.Ytemcflfgoelpiaa
