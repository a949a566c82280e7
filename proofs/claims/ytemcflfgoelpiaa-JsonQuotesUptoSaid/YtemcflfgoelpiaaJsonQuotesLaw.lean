/- The walk of the law JsonQuotes. -/
import Derived.Test.YtemcflfgoelpiaaRefQuote
import Derived.Test.YtemcflfgoelpiaaJsonClean
import Derived.Test.YtemcflfgoelpiaaJsonQuoP
import Derived.Test.YtemcflfgoelpiaaJsonNumsLaw
namespace Go.Proofs.Ytemcflfgoelpiaa
open Go.RowKit

theorem qstr_size (l : List UInt8) : (str l).size = l.length := by simp [str, ByteArray.size]
theorem qstr_list (l : List UInt8) : (str l).data.toList = l := by simp [str]
/-- A quoted text, parsed. -/
theorem parseT_quote (rs : List Int) (h : ∀ r ∈ rs, DecP.Scalar r) : (1048576 < (JsonP.quote rs).length ∧ parseT (JsonP.quote rs) = .bad 2) ∨ ((JsonP.quote rs).length ≤ 1048576 ∧ parseT (JsonP.quote rs) = .ok (.mk 4 (DecP.encs rs) [] []) []) := by
  unfold parseT
  by_cases hl : 1048576 < (JsonP.quote rs).length
  · exact .inl ⟨hl, if_pos hl⟩
  · rw [if_neg hl, JsonP.bad_quote rs h]
    exact .inr ⟨by omega, JsonP.parse_quote rs h⟩

set_option maxRecDepth 100000 in
set_option maxHeartbeats 6400000 in
theorem quotes_any (s : ByteArray) (w : World) (hs : s.size ≤ 1048576) :
    Calls Try.prog 3 #[.string s] w fun e w' => e = .returned (.bool true) ∧ Below w.heap.size w w' := by
  obtain ⟨rs, hrs⟩ : ∃ rs, DecP.runes s.data.toList = rs := ⟨_, rfl⟩
  have hsc : ∀ r ∈ rs, DecP.Scalar r := by rw [← hrs]; exact DecP.runes_scalar _
  have HSc := Lib.hid hsc
  have hlen : rs.length ≤ s.size := by
    have := DecP.runes_len s.data.toList
    rw [Array.length_toList, hrs] at this
    exact this
  have HD : Hid (∀ W, Calls Try.prog 10 #[.string (⟨#[120]⟩ ++ s), .int .i64 1, .bool false] W fun e w' => Below W.heap.size W w' ∧ ∃ Ar nr cr Ap np cp bad, e = .returned (.tuple #[.agg #[.int .i64 1, .slice Ar nr cr, .slice Ap np cp, .int .i64 bad], .agg #[.int .i64 0, .int .i64 0]]) ∧ Own Eint 3 W w' (.slice Ar nr cr) (120 :: rs)) := Lib.hid fun W => by
    refine (decode_any (xs s) false W (by rw [xs_size]; omega) (xs_mark s)).mono fun e w' h => ?_
    unfold DecEnd badS at h
    rw [xs_list] at h
    obtain ⟨h1, a1, a2, a3, a4, a5, a6, a7, h2, h3, _⟩ := h
    rw [DecP.runes_ascii _ (by decide), hrs] at h3
    exact ⟨h1, a1, a2, a3, a4, a5, a6, a7, h2, h3⟩
  have HQ1 : Hid (∀ W, Calls Try.prog 8 #[.string s] W fun e w' => e = .returned (.string (str (JsonP.quote rs))) ∧ Below W.heap.size W w') := Lib.hid fun W => by rw [← hrs]; exact quote_any s W (by omega)
  have HQ2 : Hid (∀ W, Calls Try.prog 9 #[.string s] W fun e w' => e = .returned (.string (str (JsonP.quote rs))) ∧ Below W.heap.size W w') := Lib.hid fun W => by rw [← hrs]; exact refQuote_any s W (by omega)
  have HE : Hid (∀ (A : Option Addr) (n c : Nat) W', n = rs.length → SeqAt Eint W' W'.heap.size A rs → Calls Try.prog 11 #[.slice A n c, .int .i64 1, .bool false] W' fun e w' => e = .returned (.tuple #[.string (str (DecP.encs rs)), .int .i64 0]) ∧ Below W'.heap.size W' w') := Lib.hid fun A n c W' hn hS => by
    have := encodeL_any A n c rs W' hn.symm (by omega) hS HSc.out
    rw [encAll_str rs HSc.out] at this
    exact this
  have hpq := parseT_quote rs hsc
  obtain ⟨E, hE⟩ : ∃ E, str (DecP.encs rs) = E := ⟨_, rfl⟩
  obtain ⟨q, hq⟩ : ∃ q, str (JsonP.quote rs) = q := ⟨_, rfl⟩
  have hql : q.data.toList = JsonP.quote rs := by rw [← hq, qstr_list]
  have hqz : q.size = (JsonP.quote rs).length := by rw [← hq, qstr_size]
  have HP : Hid ((1048576 < q.size ∧ ∀ W, Calls Try.prog 12 #[.string q] W fun e w' => Below W.heap.size W w' ∧ ∃ (p : Int), e = .returned (.tuple #[.agg #[.int .i64 0, .string ⟨#[]⟩, .slice none 0 0, .slice none 0 0], .agg #[.int .i64 2, .int .i64 p]])) ∨
      (q.size ≤ 1048576 ∧ ∀ W, Calls Try.prog 12 #[.string q] W fun e w' => Below W.heap.size W w' ∧ ∃ (ra rb : Option Addr) (rn rc rm rd : Nat), e = .returned (.tuple #[.agg #[.int .i64 4, .string E, .slice ra rn rc, .slice rb rm rd], .agg #[.int .i64 0, .int .i64 0]]))) := Lib.hid (by
    rcases hpq with ⟨h1, h2⟩ | ⟨h1, h2⟩
    · refine .inl ⟨by rw [hqz]; exact h1, fun W => ?_⟩
      have := parse_any q W
      rw [hql, h2] at this
      exact this
    · refine .inr ⟨by rw [hqz]; exact h1, fun W => ?_⟩
      have := parse_any q W
      rw [hql, h2] at this
      refine this.mono fun e w' hh => ?_
      obtain ⟨hb, ⟨rk, rt, ra, rn, rc, rb, rm, rd⟩, he, hl⟩ := hh
      unfold Lies at hl
      obtain ⟨e1, e2, _⟩ := hl
      simp only at e1 e2
      subst e1; subst e2
      rw [hE] at he
      exact ⟨hb, _, _, _, _, _, _, he⟩)
  rw [hq] at HQ1 HQ2
  rw [hE] at HE
  clear hrs hpq hsc hE hql hqz hq
  go_enter Try.func3, Try.ntmps3
  go_upto_region 7 with (first
    | (go_at_call 7; refine (speaks_any _).mono ?_; rintro e w1 ⟨rfl, hb1⟩)
    | (go_at_call 8; (with_reducible refine (HQ1.out _).mono ?_); rintro e w2 ⟨rfl, hb2⟩)
    | (go_at_call 9; (with_reducible refine (HQ2.out _).mono ?_); rintro e w4 ⟨rfl, hb4⟩)
    | (go_at_call 10; refine (HD.out _).mono ?_; rintro e w3 ⟨hb3, Ar, nr, cr, Ap, np, cp, bad, rfl, ho3⟩))
  have hb0 := ((hb1.trans (hb2.mono hb1.size)).trans (hb4.mono (Nat.le_trans hb1.size hb2.size)))
  have hb9 := hb0.trans (hb3.mono hb0.size)
  clear hb1 hb2 hb4 hb3 hb0
  have hsq := ho3.isSeq
  have hs3 := hb9.size
  obtain ⟨hrl, hform⟩ := ho3.1
  rcases hform with ⟨_, hbad⟩ | ⟨g, cap, cur, hv, hg1, hg2, hg3, hg4, hg5, hg6⟩
  · simp at hbad
  injection hv with h1 h2 h3
  subst h1; subst h2; subst h3
  rw [List.length_cons] at hsq ⊢
  have hST : Below w3.heap.size w3 ((w3.alloc (.cells #[.int .i64 1, .slice (some ⟨g, 0, none⟩) (rs.length + 1) cr, .slice Ap np cp, .int .i64 bad] 26)).alloc (.cells #[.int .i64 0, .int .i64 0] 29)) := ((Below.refl _ w3).alloc (Nat.le_refl _) _).alloc (by simp) _
  have hbw : Below w.heap.size w ((w3.alloc (.cells #[.int .i64 1, .slice (some ⟨g, 0, none⟩) (rs.length + 1) cr, .slice Ap np cp, .int .i64 bad] 26)).alloc (.cells #[.int .i64 0, .int .i64 0] 29)) := hb9.trans (hST.mono hs3)
  have hT : ((w3.alloc (.cells #[.int .i64 1, .slice (some ⟨g, 0, none⟩) (rs.length + 1) cr, .slice Ap np cp, .int .i64 bad] 26)).alloc (.cells #[.int .i64 0, .int .i64 0] 29)).heap[w3.heap.size]? = some (.cells #[.int .i64 1, .slice (some ⟨g, 0, none⟩) (rs.length + 1) cr, .slice Ap np cp, .int .i64 bad] 26) := (Below.heap_alloc _ _ _ (by simp)).trans (heap_alloc_new w3 _)
  have hSq : SeqAt Eint w3 w3.heap.size (some ⟨g, 0, none⟩) (120 :: rs) := by
    have h := SeqAt.of_own (l := 120 :: rs) (A := some ⟨g, 0, none⟩) (c := cr) ho3.1
    exact h
  have hSq2 := (hSq.below hST).more hST.size
  generalize (w3.alloc (.cells #[.int .i64 1, .slice (some ⟨g, 0, none⟩) (rs.length + 1) cr, .slice Ap np cp, .int .i64 bad] 26)).alloc (.cells #[.int .i64 0, .int .i64 0] 29) = W at hbw hT hSq2 ⊢
  obtain ⟨T, hTe⟩ : ∃ T, w3.heap.size = T := ⟨_, rfl⟩
  rw [hTe] at hT ⊢
  have hcT := fun o => Lib.cell_of_heap hT o
  have hcap : rs.length + 1 ≤ cr := by first | omega | exact hg3
  have hcut := hSq2.cut_one rfl (m := 1) (cap := cr) (by simp) (by rw [List.length_cons]; exact hcap)
  rw [List.drop_succ_cons, List.drop_zero] at hcut
  have HCut := Lib.hid hcut
  have HBW := Lib.hid hbw
  have HL := Lib.hid hlen
  obtain ⟨n, hn⟩ : ∃ n, rs.length = n := ⟨_, rfl⟩
  have HN := Lib.hid hn
  rw [hn] at hcT hcap ⊢
  clear hT hTe hcut hbw hSq hSq2 hST hsq ho3 hs3 hrl hg1 hg2 hg3 hg4 hg5 hg6 hlen hn hb9
  go_cut [6] (fun s6 wx => s6 = .string E ∧ Below w.heap.size w wx)
  case first =>
    by_cases hc1 : cr = 1
    · subst hc1
      obtain rfl : n = 0 := by omega
      rw [if_pos rfl] at HCut
      go_wp2_with (go_at_call 11; refine (HE.out _ _ _ _ (by rw [HN.out]) HCut.out).mono ?_; rintro e w5 ⟨rfl, hb5⟩)
      go_meet
      exact ⟨rfl, HBW.out.trans (hb5.mono HBW.out.size)⟩
    · have hc2 : ¬ (cr : Int) = 1 := by omega
      have hc3 : (1 : Int) ≤ (cr : Int) := by omega
      rw [if_neg hc1] at HCut
      go_wp2_with (go_at_call 11; refine (HE.out _ _ _ _ (by rw [HN.out]) HCut.out).mono ?_; rintro e w5 ⟨rfl, hb5⟩)
      go_meet
      exact ⟨rfl, HBW.out.trans (hb5.mono HBW.out.size)⟩
  case rest =>
    obtain ⟨rfl, hbx⟩ := hcut
    have HBx := Lib.hid hbx
    clear hbx hcT HCut HBW
    rcases HP.out with ⟨hz, hp⟩ | ⟨hz, hp⟩
    · have HPz := Lib.hid hp
      have hzi : (1048576 : Int) < (q.size : Int) := by omega
      clear hp
      go_wp2_with (go_at_call 12; (refine (HPz.out _).mono ?_); rintro e w5 ⟨hb5, p, rfl⟩)
      go_ret
      exact ⟨rfl, ((HBx.out.trans (hb5.mono HBx.out.size)).alloc (by have := hb5.size; have := HBx.out.size; omega) _).alloc (by have := hb5.size; have := HBx.out.size; simp; omega) _⟩
    · have HPz := Lib.hid hp
      have hzi : ¬ (1048576 : Int) < (q.size : Int) := by omega
      clear hp
      have hfe := faultEq_same 0 0
      go_wp2_with (go_at_call 12; (refine (HPz.out _).mono ?_); rintro e w5 ⟨hb5, ra, rb, rn, rc, rm, rd, rfl⟩)
      go_ret
      exact ⟨rfl, ((HBx.out.trans (hb5.mono HBx.out.size)).alloc (by have := hb5.size; have := HBx.out.size; omega) _).alloc (by have := hb5.size; have := HBx.out.size; simp; omega) _⟩

end Go.Proofs.Ytemcflfgoelpiaa
