/- Chapter 09: ucd's Names hands back the 18 names, rising; the document's Names the table's 15. -/
import Derived.Test.YtpidgcjioocmhaaUcdPerl
import Derived.Test.YtpidgcjioocmhaaAppendC
import Derived.Test.YtpidgcjioocmhaaSortStr
namespace Go.Proofs.Ytpidgcjioocmhaa
open Go.RowKit SetPure Go.WideShapes Go.Op

def namesL : List ByteArray := [⟨#[65, 110, 121]⟩] ++ (List.range 15).map nameC ++ (List.range 2).map nameU
def sortedL : List ByteArray := [⟨#[65, 110, 121]⟩, ⟨#[67, 121, 114, 105, 108, 108, 105, 99]⟩, ⟨#[68, 101, 115, 101, 114, 101, 116]⟩, ⟨#[71, 114, 101, 101, 107]⟩, ⟨#[72, 97, 110]⟩, ⟨#[72, 101, 98, 114, 101, 119]⟩, ⟨#[72, 105, 114, 97, 103, 97, 110, 97]⟩, ⟨#[75, 97, 116, 97, 107, 97, 110, 97]⟩, ⟨#[76]⟩, ⟨#[76, 97, 116, 105, 110]⟩, ⟨#[76, 108]⟩, ⟨#[76, 111]⟩, ⟨#[76, 117]⟩, ⟨#[78]⟩, ⟨#[78, 100]⟩, ⟨#[80]⟩, ⟨#[80, 99]⟩, ⟨#[90, 115]⟩]
theorem namesL_len : namesL.length = 18 := rfl
theorem sorted_perm : (bytesOf namesL).Perm (bytesOf sortedL) := by decide +kernel
theorem sorted_pair : (bytesOf sortedL).Pairwise (· ≤ ·) := by decide +kernel
theorem names_next (j : Nat) (hj : j < 15) : namesL.take (j + 2) = namesL.take (j + 1) ++ [nameC j] := by
  have h : ∀ j : Fin 15, bytesOf (namesL.take (j.val + 2)) = bytesOf (namesL.take (j.val + 1) ++ [nameC j.val]) := by decide +kernel
  have h := h ⟨j, hj⟩
  have inj : ∀ a b : List ByteArray, bytesOf a = bytesOf b → a = b := fun a b hab => (List.map_inj_right (fun x y hxy => by cases x; cases y; simp at hxy; congr)).1 hab
  exact inj _ _ h
theorem names_next2 (j : Nat) (hj : j < 2) : namesL.take (j + 17) = namesL.take (j + 16) ++ [nameU j] := by
  obtain rfl | rfl : j = 0 ∨ j = 1 := by omega
  all_goals rfl

theorem own_first {e : TypeId} {w0 w : World} {v : Value} {l : List ByteArray} {g : Nat} {s x : ByteArray} (ho : Own Estr e w0 w v l) (hx : l[0]? = some x) (hc : w.cell? ⟨g, 0, none⟩ = some (.string s)) (hn : s ≠ x) : some g ≠ v.ownBlock := by
  have hpos : 0 < l.length := (List.getElem?_eq_some_iff.1 hx).1
  rcases ho.1.2 with ⟨_, h0⟩ | ⟨g', cap, cur, rfl, hbg, hg, hnc, hm, hsz, ht⟩
  · omega
  · intro h
    have h : g = g' := by simpa [Value.ownBlock] using h
    subst h
    have h1 := ho.1.cellAt 0 (by show 0 < l.length * 1; omega)
    rw [hc] at h1
    have h2 := Estr.flat_at l 0 hpos 0 (by decide)
    simp only [Estr, Nat.mul_one, Nat.add_zero] at h1 h2
    rw [h2] at h1
    rw [List.getElem?_eq_getElem hpos] at hx
    injection hx with hx
    rw [hx] at h1
    injection h1 with h1
    injection h1 with h1
    exact hn h1
theorem own_anyN (w : World) : Own Estr 9 w (w.alloc (.cells #[.string ⟨#[65, 110, 121]⟩] 9)) (.slice (some ⟨w.heap.size, 0, none⟩) 1 1) (namesL.take 1) :=
  ⟨⟨rfl, .inr ⟨w.heap.size, 1, #[.string ⟨#[65, 110, 121]⟩], rfl, Nat.le_refl _, heap_alloc_new w _, Nat.le_refl _, by simp [maxLen], rfl, rfl⟩⟩, (Below.refl _ w).alloc (Nat.le_refl _) _⟩
theorem first_any (j : Nat) : (namesL.take (j + 1))[0]? = some ⟨#[65, 110, 121]⟩ := rfl
theorem take_len (j : Nat) : (namesL.take j).length ≤ 18 := by rw [List.length_take, namesL_len]; omega

set_option maxHeartbeats 1600000 in
theorem names_any (w : World) : Calls Try.prog 25 #[] w (RetSeq Estr w sortedL) := by
  go_enter Try.func25, Try.ntmps25
  go_wp2_with (go_at_call 39; refine (classes_any _).mono ?_; rintro e w1 ⟨g, rfl, hb1, hg, hT⟩; have HT := Lib.hid hT; clear hT)
  have ho1 := (own_anyN w).below hb1
  have hne : some g ≠ (Value.slice (some ⟨w.heap.size, 0, none⟩) 1 1).ownBlock := own_first ho1 (first_any 0) (HT.out 0 (by decide)).1 (by decide +kernel)
  obtain ⟨v0, hv0⟩ : ∃ v0, Value.slice (some ⟨w.heap.size, 0, none⟩) 1 1 = v0 := ⟨_, rfl⟩
  rw [hv0] at ho1 hne ⊢
  clear hv0
  go_loopw [1, 3, 9] (fun out _ k wr => ∃ j : Nat, j ≤ 15 ∧ k = .int .i64 j ∧ Own Estr 9 w wr out (namesL.take (j + 1)) ∧ Stand w1 v0 wr out) (fun _ _ k _ => 16 - (intOf k).toNat)
  case atStart => exact ⟨0, by omega, rfl, ho1, Stand.refl _ _⟩
  case round =>
    obtain ⟨j, hj, rfl, ho, hst⟩ := hrel
    have hlen := take_len (j + 1)
    by_cases hlt : j < 15
    · obtain ⟨t0, A, t1, hA⟩ := HT.out j hlt
      have c0 := (hst.cell (o := j * 2) hg hne).trans t0
      have c1 := (hst.cell (o := j * 2 + 1) hg hne).trans t1
      clear t0 t1 hA
      have HN := Lib.hid (names_next j hlt)
      generalize nameC j = t at *
      go_wp2_with (at_builtin; (refine wpList_append_seqC rfl (.tmp 13) (.tmp 16) 41 rfl 16 elStrE rfl ((ho.alloc _).alloc _) 1 rfl (SeqAt.new_at (E := Estr) _ [t] 9 _ (by simp)) rfl (by simp only [maxLen]; omega) (by omega) ?_); intro v' w' ho' hg' h5)
      go_roundw
      case rel => exact ⟨j + 1, by omega, by go_num, by rw [HN.out]; exact ho', ((hst.alloc _).alloc _).grown hg' h5⟩
      case measure => simp [intOf]; omega
    · obtain rfl : j = 15 := by omega
      clear hst hne ho1 HT hb1 hg
      go_wp2_with (go_at_call 41; refine (unions_any _).mono ?_; rintro e w2 ⟨g2, rfl, hb2, hg2, hT2⟩; have HT := Lib.hid hT2; clear hT2)
      have ho2 := ho.below hb2
      have hne : some g2 ≠ Value.ownBlock _ := own_first ho2 (first_any 15) (HT.out 0 (by decide)).1 (by decide +kernel)
      go_loopw [1, 5, 21] (fun out2 _ k wr2 => ∃ m : Nat, m ≤ 2 ∧ k = .int .i64 m ∧ Own Estr 9 w wr2 out2 (namesL.take (m + 16)) ∧ Stand w2 u1 wr2 out2) (fun _ _ k _ => 3 - (intOf k).toNat)
      case atStart => exact ⟨0, by omega, rfl, ho2, Stand.refl _ _⟩
      case round =>
        obtain ⟨m, hm, rfl, ho, hst⟩ := hrel
        have hlen := take_len (m + 16)
        by_cases hlt : m < 2
        · obtain ⟨t0, b, t1, hb, hC⟩ := HT.out m hlt
          have c0 := (hst.cell (o := m * 2) hg2 hne).trans t0
          have c1 := (hst.cell (o := m * 2 + 1) hg2 hne).trans t1
          clear t0 t1 hC
          have HN := Lib.hid (names_next2 m hlt)
          have hm2 : (m : Int) < 2 := by omega
          generalize nameU m = t at *
          go_wp2_with (at_builtin; (refine wpList_append_seqC rfl (.tmp 25) (.tmp 28) 41 rfl 16 elStrE rfl ((ho.alloc _).alloc _) 1 rfl (SeqAt.new_at (E := Estr) _ [t] 9 _ (by simp)) rfl (by simp only [maxLen]; omega) (by omega) ?_); intro v' w' ho' hg' h5)
          go_roundw
          case rel => exact ⟨m + 1, by omega, by go_num, by rw [show m + 1 + 16 = m + 17 by omega, HN.out]; exact ho', ((hst.alloc _).alloc _).grown hg' h5⟩
          case measure => simp [intOf]; omega
        · obtain rfl : m = 2 := by omega
          clear hst hne ho2 HT hb2 hg2
          have hfull : namesL.take (2 + 16) = namesL := rfl
          rw [hfull] at ho
          go_wp2_with (go_at_call 45; refine (sort_strs w.heap.size _ namesL sortedL _ ⟨ho.1, ho.2.size⟩ (by decide) (by decide) sorted_perm sorted_pair).mono ?_; rintro e w3 ⟨rfl, hs3, hb3⟩)
          go_ret
          have hO : Own Estr 9 w w3 _ sortedL := ⟨hs3.1, ho.2.trans hb3⟩
          exact hO.ret

set_option maxRecDepth 100000 in
theorem names9_any (w : World) : Calls Try.prog 23 #[] w (RetSeq Estr w ((List.range 15).map nameC)) := by
  go_enter Try.func23, Try.ntmps23
  go_wp2
  go_ret
  exact ⟨_, rfl, IsSeq.new w ((List.range 15).map nameC) 9 15 (by decide) (by decide), (Below.refl _ w).alloc (Nat.le_refl _) _⟩

/-- Each of the rising names is a name of the 18; each is less than the next. -/
theorem sorted_named (i : Nat) (hi : i < 18) : ∃ n, n < 18 ∧ sortedL.getD i ⟨#[]⟩ = nameA n := by
  have h : ∀ i : Fin 18, ∃ n : Fin 18, sortedL.getD i.val ⟨#[]⟩ = nameA n.val := by decide +kernel
  obtain ⟨n, hn⟩ := h ⟨i, hi⟩
  exact ⟨n.val, n.isLt, hn⟩
theorem sorted_less (i : Nat) (hi : i < 17) : bytesLess ((sortedL.getD i ⟨#[]⟩).toList) ((sortedL.getD (i + 1) ⟨#[]⟩).toList) = true := by
  have h : ∀ i : Fin 17, bytesLess ((sortedL.getD i.val ⟨#[]⟩).toList) ((sortedL.getD (i.val + 1) ⟨#[]⟩).toList) = true := by decide +kernel
  exact h ⟨i, hi⟩

end Go.Proofs.Ytpidgcjioocmhaa
