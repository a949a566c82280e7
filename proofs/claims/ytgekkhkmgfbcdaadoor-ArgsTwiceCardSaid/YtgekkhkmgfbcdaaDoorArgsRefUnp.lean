/- Chapter 25: the walk of the document's Unpack. -/
import Derived.Test.YtgekkhkmgfbcdaaDoorArgsUnpack
import Derived.Deep.DeepCutAuto
import Derived.Deep.CutBlock
namespace Go.Proofs.YtgekkhkmgfbcdaaDoor
open Go.Shelf Go.RowKit

/-- A call that unpacks a text as the document does. -/
def RetUnpD (s : ByteArray) (w : World) (e : Ending) (w' : World) : Prop :=
  Below w.heap.size w w' ∧ match ArgsP.unp s.data.toList 0 with
  | .ok l => ∃ v, e = .returned (.tuple #[v, .int .i64 0, .int .i64 0]) ∧ IsSeq Estr w' v (l.map bytesOf) ∧ ∀ k, v.ownBlock = some k → w.heap.size ≤ k
  | .error i => e = .returned (.tuple #[.slice none 0 0, .int .i64 4, .int .i64 i])

/-- Digits from a place on. -/
def DigAt (L : List UInt8) (i j n : Nat) : Prop := (∀ c ∈ (L.drop i).take j, ArgsP.isDig c = true) ∧ ArgsP.dval ((L.drop i).take j) = n
theorem DigAt.start (L : List UInt8) (i : Nat) : DigAt L i 0 0 := ⟨by simp, rfl⟩
theorem DigAt.step {L : List UInt8} {i j n : Nat} {c : UInt8} (h : DigAt L i j n) (hc : L[i + j]? = some c) (h0 : 48 ≤ c.toNat) (h1 : c.toNat ≤ 57) : DigAt L i (j + 1) (10 * n + (c.toNat - 48)) := by
  have e : (L.drop i).take (j + 1) = (L.drop i).take j ++ [c] := by
    rw [List.take_add_one, List.getElem?_drop, hc]; rfl
  refine ⟨fun x hx => ?_, ?_⟩
  · rw [e] at hx
    rcases List.mem_append.1 hx with hx | hx
    · exact h.1 x hx
    · obtain rfl := List.mem_singleton.1 hx; exact ArgsP.isDig_iff.2 ⟨h0, h1⟩
  · rw [e, ArgsP.dval_snoc, h.2]
theorem DigAt.lt {L : List UInt8} {i j n : Nat} (h : DigAt L i j n) (hj : j ≤ 7) : n < 10000000 := by
  have h1 := ArgsP.dval_lt h.1
  rw [h.2] at h1
  have h2 : ((L.drop i).take j).length ≤ 7 := by rw [List.length_take]; omega
  have h3 : 10 ^ ((L.drop i).take j).length ≤ 10 ^ 7 := Nat.pow_le_pow_right (by omega) h2
  omega
/-- So many digits stand there, and no more of seven. -/
def Dig7 (L : List UInt8) (i j n : Nat) : Prop := ArgsP.digs 7 (L.drop i) = j ∧ ArgsP.dval ((L.drop i).take j) = n ∧ n < 10000000
theorem DigAt.all {L : List UInt8} {i j n : Nat} (h : DigAt L i j n) (hj : j ≤ 7) (hl : i + j ≤ L.length) (he : j = 7 ∨ ∀ c, L[i + j]? = some c → ArgsP.isDig c = false) : Dig7 L i j n :=
  ⟨ArgsP.digs_eq 7 (L.drop i) j hj (by rw [List.length_drop]; omega) h.1 (he.imp id fun h c hc => h c (by rwa [List.getElem?_drop] at hc)), h.2, h.lt hj⟩

theorem one_bad {L : List UInt8} {i j n : Nat} (h : Dig7 L i j n) (hc : j = 0 ∨ (L[i]? = some 48 ∧ 1 < j) ∨ L[i + j]? ≠ some 58 ∨ L.length - i ≤ n + j + 1 ∨ L[i + j + 1 + n]? ≠ some 44) : ArgsP.oneL (L.drop i) = none := by
  unfold ArgsP.oneL
  simp only
  rw [h.1, h.2.1, if_pos]
  rw [List.head?_drop, List.getElem?_drop, List.getElem?_drop, List.length_drop]
  rw [show i + (j + 1 + n) = i + j + 1 + n by omega]
  exact hc
theorem one_good {L : List UInt8} {i j n : Nat} (h : Dig7 L i j n) (h1 : 1 ≤ j) (h2 : L[i]? ≠ some 48 ∨ j = 1) (h3 : L[i + j]? = some 58) (h4 : n + j + 1 < L.length - i) (h5 : L[i + j + 1 + n]? = some 44) : ArgsP.oneL (L.drop i) = some (j, n) := by
  unfold ArgsP.oneL
  simp only
  rw [h.1, h.2.1, if_neg]
  rw [List.head?_drop, List.getElem?_drop, List.getElem?_drop, List.length_drop]
  rw [show i + (j + 1 + n) = i + j + 1 + n by omega]
  rintro (h | ⟨h, h'⟩ | h | h | h)
  · omega
  · rcases h2 with h2 | h2
    · exact h2 h
    · omega
  · exact h h3
  · omega
  · exact h h5

set_option maxRecDepth 100000 in
set_option maxHeartbeats 4000000 in
theorem refUnpack_any (s : ByteArray) (w : World) (hs : s.size ≤ 1099511627776) :
    Calls Tryd.prog 12 #[.string s] w (RetUnpD s w) := by
  go_enter Tryd.func12, Tryd.ntmps12
  go_wp2
  go_loopw [5, 6] (fun v i wr => ∃ (k : Nat) (l : List ByteArray), i = .int .i64 k ∧ k ≤ s.size ∧ l.length ≤ k ∧ Own Estr 9 w wr v l ∧
      Hid (ArgsP.unp s.data.toList 0 = (ArgsP.unp s.data.toList k).map (l.map (·.data.toList) ++ ·))) (fun _ i _ => s.size - (intOf i).toNat)
  case atStart => exact ⟨0, [], rfl, by omega, by simp, Own.nil_ _, Lib.hid (by cases ArgsP.unp s.data.toList 0 <;> rfl)⟩
  case round =>
    obtain ⟨k, l, rfl, hk, hlk, hO, HU⟩ := hrel
    by_cases hlt : k < s.size
    · go_upto_block 2 with (fail)
      go_cut [7, 8] from 14 to 45 (fun n7 k8 wx => ∃ j n : Nat, n7 = .int .i64 n ∧ k8 = .int .i64 ((k + j : Nat) : Int) ∧ k + j ≤ s.size ∧ j ≤ 7 ∧ Hid (Dig7 s.data.toList k j n) ∧ n < 10000000 ∧ wr = wx)
      case first =>
        go_wp2_with fail
        go_loop [7, 8] (fun n7 k8 => ∃ j n : Nat, n7 = .int .i64 n ∧ k8 = .int .i64 ((k + j : Nat) : Int) ∧ k + j ≤ s.size ∧ j ≤ 7 ∧ Hid (DigAt s.data.toList k j n) ∧ n < 10000000) (fun _ k8 => s.size - (intOf k8).toNat)
        case atStart => exact ⟨0, 0, rfl, rfl, by omega, by omega, Lib.hid (DigAt.start _ _), by omega⟩
        case round =>
          obtain ⟨j, n, rfl, rfl, hkj, hj7, HD, hn⟩ := hrel
          obtain ⟨p, hp⟩ : ∃ p, k + j = p := ⟨_, rfl⟩
          rw [hp] at hkj ⊢
          by_cases hps : p < s.size
          · have hat : s.data.toList[k + j]? = some s[p] := (congrArg (s.data.toList[·]?) hp).trans (bytes_at hps)
            by_cases hj : j < 7
            · have hp7 : (p : Int) < (k : Int) + 7 := by omega
              by_cases c0 : 48 ≤ (s[p].toNat : Int)
              · by_cases c1 : (s[p].toNat : Int) ≤ 57
                · have HS := Lib.hid (HD.out.step hat (by omega) (by omega))
                  have hn' := HS.out.lt (by omega)
                  have HP := Lib.hid hp
                  clear hat hp
                  go_wp2
                  go_round
                  case rel => exact ⟨j + 1, _, val_int (by omega), by rw [← Nat.add_assoc, HP.out]; go_num, by rw [← Nat.add_assoc, HP.out]; omega, by omega, HS, hn'⟩
                  case measure => simp [intOf]; omega
                · have HE := Lib.hid (HD.out.all hj7 (by rw [len_bytes]; omega) (Or.inr fun c hc => by rw [hat] at hc; injection hc with hc; subst hc; simp only [ArgsP.isDig]; simp; omega))
                  have HP := Lib.hid hp
                  clear hat hp
                  go_wp2
                  go_meet
                  exact ⟨j, n, rfl, by rw [HP.out], by rw [HP.out]; omega, hj7, HE, hn, rfl⟩
              · have HE := Lib.hid (HD.out.all hj7 (by rw [len_bytes]; omega) (Or.inr fun c hc => by rw [hat] at hc; injection hc with hc; subst hc; simp only [ArgsP.isDig]; simp; omega))
                have HP := Lib.hid hp
                clear hat hp
                go_wp2
                go_meet
                exact ⟨j, n, rfl, by rw [HP.out], by rw [HP.out]; omega, hj7, HE, hn, rfl⟩
            · have HE := Lib.hid (HD.out.all hj7 (by rw [len_bytes]; omega) (Or.inl (by omega)))
              have hp7 : ¬ (p : Int) < (k : Int) + 7 := by omega
              have HP := Lib.hid hp
              clear hat hp
              go_wp2
              go_meet
              exact ⟨j, n, rfl, by rw [HP.out], by rw [HP.out]; omega, hj7, HE, hn, rfl⟩
          · have HE := Lib.hid (HD.out.all hj7 (by rw [len_bytes]; omega) (Or.inr fun c hc => by rw [List.getElem?_eq_none (by rw [len_bytes]; omega)] at hc; cases hc))
            have HP := Lib.hid hp
            clear hp
            go_wp2
            go_meet
            exact ⟨j, n, rfl, by rw [HP.out], by rw [HP.out]; omega, hj7, HE, hn, rfl⟩
      case rest =>
        obtain ⟨j, n, rfl, rfl, hkj, hj7, HD, hn, rfl⟩ := hcut
        obtain ⟨p, hp⟩ : ∃ p, k + j = p := ⟨_, rfl⟩
        rw [hp] at hkj ⊢
        have HP := Lib.hid hp
        obtain ⟨bad, hb⟩ : ∃ b, (ArgsP.oneL (s.data.toList.drop k)).isNone = b := ⟨_, rfl⟩
        have HB := Lib.hid hb
        clear hb
        go_upto_region 8 with fail
        go_cut [90] (fun b wx => b = .bool bad ∧ wr = wx)
        case first =>
          have hL := len_bytes s
          have hbad : ArgsP.oneL (s.data.toList.drop k) = none → bad = true := fun h => by rw [← HB.out, h]; rfl
          have hgood : ∀ q, ArgsP.oneL (s.data.toList.drop k) = some q → bad = false := fun q h => by rw [← HB.out, h]; rfl
          have HBad := Lib.hid hbad
          have HGood := Lib.hid hgood
          have HLen := Lib.hid hL
          have hatk := bytes_at hlt
          clear hbad hgood hL HB
          by_cases hj0 : j = 0
          · obtain rfl : p = k := by omega
            have hb := HBad.out (one_bad HD.out (Or.inl hj0))
            subst hb
            clear hp hj0 hatk
            go_wp2
            go_meet
            exact ⟨rfl, rfl⟩
          · have hpk : (k : Int) < (p : Int) := by omega
            have hpe : ((p : Int) == (k : Int)) = false := by simp; omega
            by_cases hz : s[k] = 48 ∧ 1 < j
            · have hb := HBad.out (one_bad HD.out (Or.inr (Or.inl ⟨by rw [hatk, hz.1], hz.2⟩)))
              subst hb
              have hk1 : (k : Int) + 1 < (p : Int) := by omega
              have hcz : ((s[k].toNat : Int) == 48) = true := by rw [hz.1]; rfl
              clear hp hj0 hatk hz
              go_wp2
              go_meet
              exact ⟨rfl, rfl⟩
            · have hz' : s[k] ≠ 48 ∨ j = 1 := by
                by_cases h : s[k] = 48
                · exact Or.inr (by rcases Nat.lt_or_ge 1 j with h' | h'; exact absurd ⟨h, h'⟩ hz; omega)
                · exact Or.inl h
              have hz2 : (((s[k].toNat : Int) == 48) = false) ∨ ((((s[k].toNat : Int) == 48) = true) ∧ ¬ (k : Int) + 1 < (p : Int)) := by
                rcases hz' with h | h
                · refine Or.inl (beq_eq_false_iff_ne.2 fun e => h (UInt8.toNat_inj.1 (by show _ = 48; omega)))
                · by_cases h8 : s[k] = 48
                  · exact Or.inr ⟨by rw [h8]; rfl, by omega⟩
                  · exact Or.inl (beq_eq_false_iff_ne.2 fun e => h8 (UInt8.toNat_inj.1 (by show _ = 48; omega)))
              have HZ := Lib.hid hz'
              clear hz hz'
              by_cases hps : p < s.size
              · have hatp : s.data.toList[k + j]? = some s[p] := (congrArg (s.data.toList[·]?) hp).trans (bytes_at hps)
                by_cases h58 : s[p] = 58
                · have hc58 : ((s[p].toNat : Int) != 58) = false := by rw [h58]; rfl
                  by_cases hn1 : s.size ≤ p + 1 + n
                  · have hb := HBad.out (one_bad HD.out (Or.inr (Or.inr (Or.inr (Or.inl (by rw [HLen.out]; omega))))))
                    subst hb
                    have hni : (s.size : Int) - (p : Int) - 1 ≤ (n : Int) := by omega
                    have hnd : decide ((s.size : Int) - (p : Int) - 1 ≤ (n : Int)) = true := by simp; omega
                    clear hp hj0 hatk hatp h58
                    rcases hz2 with hcz | ⟨hcz, hk1⟩
                    all_goals
                      go_wp2
                      all_goals
                        go_meet
                        exact ⟨rfl, rfl⟩
                  · have hni : ¬ (s.size : Int) - (p : Int) - 1 ≤ (n : Int) := by omega
                    have hnps : ¬ s.size ≤ p := by omega
                    have hnd : decide ((s.size : Int) - (p : Int) - 1 ≤ (n : Int)) = false := by simp; omega
                    have hq0 : 0 ≤ (p : Int) + 1 + (n : Int) := by omega
                    have hq1 : (p : Int) + 1 + (n : Int) < (s.size : Int) := by omega
                    have hq : p + 1 + n < s.size := by omega
                    have hatq : s.data.toList[k + j + 1 + n]? = some (s[p + 1 + n]'hq) := (congrArg (s.data.toList[·]?) (show k + j + 1 + n = p + 1 + n by omega)).trans (bytes_at hq)
                    by_cases h44 : s[p + 1 + n]'hq = 44
                    · have hb := HGood.out _ (one_good HD.out (by omega) (HZ.out.imp (fun h e => h (Option.some.inj (hatk.symm.trans e))) id) (by rw [hatp, h58]) (by rw [HLen.out]; omega) (by rw [hatq, h44]))
                      subst hb
                      have hc44 : (((s[p + 1 + n]'hq).toNat : Int) != 44) = false := by rw [h44]; rfl
                      clear hp hj0 hatk hatp h58 hatq h44 hn1
                      rcases hz2 with hcz | ⟨hcz, hk1⟩
                      all_goals
                        go_wp2
                        all_goals
                          go_meet
                          exact ⟨rfl, rfl⟩
                    · have hb := HBad.out (one_bad HD.out (Or.inr (Or.inr (Or.inr (Or.inr (by rw [hatq]; exact fun e => h44 (Option.some.inj e)))))))
                      subst hb
                      have hc44 : (((s[p + 1 + n]'hq).toNat : Int) != 44) = true := bne_iff_ne.2 fun e => h44 (UInt8.toNat_inj.1 (by show _ = 44; omega))
                      clear hp hj0 hatk hatp h58 hatq h44 hn1
                      rcases hz2 with hcz | ⟨hcz, hk1⟩
                      all_goals
                        go_wp2
                        all_goals
                          go_meet
                          exact ⟨rfl, rfl⟩
                · have hb := HBad.out (one_bad HD.out (Or.inr (Or.inr (Or.inl (by rw [hatp]; exact fun e => h58 (Option.some.inj e))))))
                  subst hb
                  have hc58 : ((s[p].toNat : Int) != 58) = true := bne_iff_ne.2 fun e => h58 (UInt8.toNat_inj.1 (by show _ = 58; omega))
                  clear hp hj0 hatk hatp h58
                  rcases hz2 with hcz | ⟨hcz, hk1⟩
                  all_goals
                    go_wp2
                    all_goals
                      go_meet
                      exact ⟨rfl, rfl⟩
              · have hb := HBad.out (one_bad HD.out (Or.inr (Or.inr (Or.inl (by rw [List.getElem?_eq_none (by rw [HLen.out]; omega)]; exact fun e => by cases e)))))
                subst hb
                have hps' : s.size ≤ p := by omega
                clear hp hj0 hatk hps
                rcases hz2 with hcz | ⟨hcz, hk1⟩
                all_goals
                  go_wp2
                  all_goals
                    go_meet
                    exact ⟨rfl, rfl⟩
        case rest =>
          obtain ⟨rfl, rfl⟩ := hcut
          cases ho : ArgsP.oneL (s.data.toList.drop k) with
          | none =>
            have hb := HB.out
            rw [ho] at hb
            obtain rfl : bad = true := hb.symm
            have HE := Lib.hid (unp_none HU.out (by rw [len_bytes]; exact hlt) ho)
            clear hb ho
            go_wp2
            go_ret3
            refine ⟨hO.2, ?_⟩
            rw [HE.out]
            rfl
          | some q =>
            obtain ⟨j', n'⟩ := q
            have hb := HB.out
            rw [ho] at hb
            obtain rfl : bad = false := hb.symm
            obtain ⟨h1, h2, h3, h4, h5, h6, h7, h8⟩ := ArgsP.oneL_some ho
            have hd := HD.out
            obtain rfl : j' = j := by rw [h4, hd.1]
            obtain rfl : n' = n := by rw [h5, hd.2.1]
            rw [List.length_drop, len_bytes] at h3
            have HS := Lib.hid (unp_snoc (x := s.extract (p + 1) (p + 1 + n')) HU.out (by rw [len_bytes]; exact hlt) ho (by rw [mid_list, Nat.add_sub_cancel_left, ← hp]))
            clear hb ho hd h1 h2 h4 h5 h6 h7 h8
            have hq1 : (p : Int) + 1 ≤ (p : Int) + 1 + (n' : Int) := by omega
            have hq2 : (p : Int) + 1 + (n' : Int) ≤ (s.size : Int) := by omega
            go_wp2_with (at_builtin; (refine wpList_append_seq _ rfl (.tmp 92) (.tmp 101) 22 rfl 16 elStr rfl (hO.alloc _) 1 rfl (SeqAt.new (E := Estr) _ [s.extract (p + 1) (p + 1 + n')] 9) rfl (by simp only [maxLen]; omega) (by omega) ?_); intro v2 w2 hO2 hg2)
            go_roundw
            case rel => exact ⟨k + j' + 2 + n', l ++ [s.extract (p + 1) (p + 1 + n')], by rw [HP.out]; go_num, by rw [HP.out]; omega, by simp; omega, hO2, Lib.hid HS.out⟩
            case measure => simp [intOf]; omega
    · have HE := Lib.hid (unp_all HU.out (by rw [len_bytes]; omega))
      obtain ⟨A, c, rfl, hc1, hc2, hAs⟩ := hO.isSeq
      go_wp2
      go_ret3
      refine ⟨hO.2, ?_⟩
      rw [HE.out]
      exact ⟨_, rfl, by rw [map_bytes]; exact hO.isSeq, fun k hk => (hO.1.lt k hk).1⟩

end Go.Proofs.YtgekkhkmgfbcdaaDoor
