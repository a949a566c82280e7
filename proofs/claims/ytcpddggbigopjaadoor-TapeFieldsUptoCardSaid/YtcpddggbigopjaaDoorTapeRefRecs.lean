/- Chapter 06: the walk of the document's Records. -/
import Derived.Test.YtcpddggbigopjaaDoorTapeRecs
namespace Go.Proofs.YtcpddggbigopjaaDoor
open Go.RowKit Go.Shelf TapePure

theorem ref_fail {l d : List UInt8} {n : Int} (hd : (upto 32 l).1 = d) (hn : (decL d 9).1 = n) (h : (upto 32 l).2 = false ∨ n < (d.length : Int) + 4) : recStep l = none := by
  unfold recStep
  rw [hd, hn]
  refine if_pos ?_
  rcases h with h | h
  · exact .inl h
  · exact .inr (.inr (.inr (.inr h)))
theorem upto32_any (s : ByteArray) (w : World) (hs : s.size ≤ maxLen) : Calls Tryd.prog 21 #[.string s, .int .u8 32] w fun e w' => (∃ t : ByteArray, e = .returned (.tuple #[.string t, .bool (upto 32 s.data.toList).2]) ∧ t.data.toList = (upto 32 s.data.toList).1) ∧ Below w.heap.size w w' := upto_any s 32 w hs
theorem upto61_any (s : ByteArray) (w : World) (hs : s.size ≤ maxLen) : Calls Tryd.prog 21 #[.string s, .int .u8 61] w fun e w' => (∃ t : ByteArray, e = .returned (.tuple #[.string t, .bool (upto 61 s.data.toList).2]) ∧ t.data.toList = (upto 61 s.data.toList).1) ∧ Below w.heap.size w w' := upto_any s 61 w hs
theorem ref_cond {ok okk : Bool} {d rest : List UInt8} {n a : Nat} {nn : Int} (hok : okk = ok) (hrl : rest.length = n - a) (ha : a < n) (h : ok = false ∨ d.getD 0 0 = 48 ∨ (n : Int) - a < nn ∨ nn < (d.length : Int) + 2 ∨ rest.getD (nn.toNat - 1) 0 ≠ 10) :
    okk = false ∨ d.getD 0 0 = 48 ∨ (rest.length : Int) < nn ∨ nn < d.length + 2 ∨ rest.getD (nn.toNat - 1) 0 ≠ 10 := by
  rw [hok]
  rcases h with h | h | h | h | h
  · exact .inl h
  · exact .inr (.inl h)
  · exact .inr (.inr (.inl (by omega)))
  · exact .inr (.inr (.inr (.inl h)))
  · exact .inr (.inr (.inr (.inr h)))
theorem take_drop_add (l : List UInt8) (a k n : Nat) : (l.take (a + n)).drop (a + k) = ((l.drop a).take n).drop k := by
  rw [← List.drop_drop, List.drop_take, Nat.add_sub_cancel_left]
theorem getD_mid {l : List UInt8} {k n q : Nat} (h : k + q < n) : ((l.take n).drop k).getD q 0 = l.getD (k + q) 0 := by
  rw [List.getD_eq_getElem?_getD, List.getElem?_drop, List.getElem?_take, if_pos h, List.getD_eq_getElem?_getD]
theorem take_mid (l : List UInt8) (k q : Nat) : ((l.take (k + q + 1)).drop k).take q = (l.take (k + q)).drop k := by
  rw [List.drop_take, List.drop_take, List.take_take]
  congr 1
  omega
theorem small_len {s : ByteArray} (h : s.size ≤ 1048576) : s.size ≤ maxLen := by unfold maxLen; omega
theorem getD_drop {l : List UInt8} {a k : Nat} : (l.drop a).getD k 0 = l.getD (a + k) 0 := by
  rw [List.getD_eq_getElem?_getD, List.getD_eq_getElem?_getD, List.getElem?_drop]

set_option maxHeartbeats 8000000 in
set_option maxRecDepth 100000 in
theorem refRecords_any (s : ByteArray) (w : World) (hs : s.size ≤ 1048576) :
    Calls Tryd.prog 12 #[.string s] w (RecEnd s.data.toList w) := by
  obtain ⟨l0, hl0⟩ : ∃ l0, s.data.toList = l0 := ⟨_, rfl⟩
  have HL0 := Lib.hid hl0
  have hsl := size_list s
  rw [hl0] at hsl ⊢
  have HSL := Lib.hid hsl
  have HM1 : Hid True := trivial
  clear hl0 hsl
  go_enter Tryd.func12, Tryd.ntmps12
  go_wp2
  go_loopw [4, 5, 6, 7, 8, 9, 10, 11, 12] (fun va ax _ _ _ _ _ _ _ wr => ∃ (a : Nat) (done : List (List UInt8 × List UInt8)), ax = .int .i64 a ∧ a ≤ s.size ∧ done.length ≤ a ∧ Hid (recsL l0 = (recsL (l0.drop a)).map (done ++ ·)) ∧ Hid (Own Ekv 30 w wr va (done.map recB))) (fun _ ax _ _ _ _ _ _ _ _ => s.size + 1 - (intOf ax).toNat)
  case atStart => exact ⟨0, [], rfl, by omega, by simp, Lib.hid (by simp), Lib.hid (Own.nil_ _)⟩
  case round =>
    obtain ⟨a, done, rfl, ha, hdl, hrec, hown⟩ := hrel
    have hbw := hown.out.2
    have hz := hbw.size
    by_cases hlt : a < s.size
    · obtain ⟨rest, hrest⟩ : ∃ rest, l0.drop a = rest := ⟨_, rfl⟩
      have hrl : rest.length = s.size - a := by rw [← hrest, List.length_drop, ← HSL.out]
      have HE := Lib.hid (show rest ≠ [] by intro h; rw [h] at hrl; simp at hrl; omega)
      have HRL := Lib.hid hrl
      have HX := Lib.hid (show (s.extract a s.size).data.toList = rest by rw [drop_extract, HL0.out, hrest])
      have HREST := Lib.hid hrest
      rw [hrest] at hrec
      have HXS := Lib.hid (show (s.extract a s.size).size ≤ maxLen by rw [ByteArray.size_extract]; unfold maxLen; omega)
      have HC := Lib.hid (upto32_any (s.extract a s.size) wr HXS.out)
      rw [HX.out] at HC
      obtain ⟨d, hd⟩ : ∃ d, (upto 32 rest).1 = d := ⟨_, rfl⟩
      obtain ⟨sm, hsm⟩ : ∃ sm, (upto 32 rest).2 = sm := ⟨_, rfl⟩
      rw [hd, hsm] at HC
      have HD := Lib.hid hd
      have HSM := Lib.hid hsm
      obtain ⟨nn, hnn⟩ : ∃ nn, (decL d 9).1 = nn := ⟨_, rfl⟩
      obtain ⟨ok, hok⟩ : ∃ ok, (decL d 9).2 = ok := ⟨_, rfl⟩
      have HNN := Lib.hid hnn
      have HOK := Lib.hid hok
      have hn0 : 0 ≤ nn := by rw [← hnn]; exact decL_nonneg d 9
      have hdl2 := (upto_len 32 rest).1
      rw [hd] at hdl2
      have hdlt : d.length ≤ 1048576 := by omega
      have hai : (a : Int) < (s.size : Int) := by omega
      have hcs : sm = false ∨ (sm = true ∧ ok = false) ∨ (sm = true ∧ ok = true ∧ d.getD 0 0 = 48) ∨ (sm = true ∧ ok = true ∧ d.getD 0 0 ≠ 48 ∧ (s.size : Int) - a < nn) ∨ (sm = true ∧ ok = true ∧ d.getD 0 0 ≠ 48 ∧ nn ≤ (s.size : Int) - a ∧ nn < (d.length : Int) + 4) ∨
          (sm = true ∧ ok = true ∧ d.getD 0 0 ≠ 48 ∧ nn ≤ (s.size : Int) - a ∧ (d.length : Int) + 4 ≤ nn ∧ rest.getD (nn.toNat - 1) 0 ≠ 10) ∨ (sm = true ∧ ok = true ∧ d.getD 0 0 ≠ 48 ∧ nn ≤ (s.size : Int) - a ∧ (d.length : Int) + 4 ≤ nn ∧ rest.getD (nn.toNat - 1) 0 = 10) := by
        cases sm
        · exact .inl rfl
        · right
          cases ok
          · exact .inl ⟨rfl, rfl⟩
          · right
            by_cases g1 : d.getD 0 0 = 48
            · exact .inl ⟨rfl, rfl, g1⟩
            · right
              by_cases g2 : (s.size : Int) - a < nn
              · exact .inl ⟨rfl, rfl, g1, g2⟩
              · right
                by_cases g3 : nn < (d.length : Int) + 4
                · exact .inl ⟨rfl, rfl, g1, by omega, g3⟩
                · right
                  by_cases g4 : rest.getD (nn.toNat - 1) 0 = 10
                  · exact .inr ⟨rfl, rfl, g1, by omega, by omega, g4⟩
                  · exact .inl ⟨rfl, rfl, g1, by omega, by omega, g4⟩
      have HLEN := Lib.hid (fun h : ok = true => decL_len (HOK.out.trans h))
      have HFAIL := Lib.hid (fun (h : ok = false ∨ d.getD 0 0 = 48 ∨ (s.size : Int) - a < nn ∨ nn < (d.length : Int) + 2 ∨ rest.getD (nn.toNat - 1) 0 ≠ 10) => recs_fail hrec.out HE.out (prog_fail HD.out HNN.out (ref_cond HOK.out HRL.out hlt h)))
      have HFAIL2 := Lib.hid (fun (h : sm = false ∨ nn < (d.length : Int) + 4) => recs_fail hrec.out HE.out (ref_fail HD.out HNN.out (by rw [HSM.out]; exact h)))
      clear hrest hrl hd hsm hnn hok hdl2
      go_upto_region 6 with (first
        | (go_at_call 21; refine HC.out.mono ?_; rintro e w1 ⟨⟨D, rfl, hD⟩, hb1⟩)
        | (go_at_call 22; refine (digits_any D 9 _ (by decide) (by decide)).mono ?_; rintro e w2 ⟨rfl, hb2⟩; rw [hD, HNN.out, HOK.out]))
      have hb12 := hbw.trans ((hb1.trans (hb2.mono hb1.size)).mono hz)
      have HB12 := Lib.hid hb12
      have hDs := size_list D
      rw [hD] at hDs
      have HDL := Lib.hid hD
      clear hb12
      rcases hcs with rfl | ⟨rfl, rfl⟩ | ⟨rfl, rfl, g1⟩ | ⟨rfl, rfl, g1, g2⟩ | ⟨rfl, rfl, g1, g2, g3⟩ | ⟨rfl, rfl, g1, g2, g3, g4⟩ | ⟨rfl, rfl, g1, g2, g3, g4⟩
      · have HF := Lib.hid (HFAIL2.out (.inl rfl))
        go_wp2
        go_ret2
        exact rec_none HF.out HB12.out rfl
      · have HF := Lib.hid (HFAIL.out (.inl rfl))
        go_wp2
        go_ret2
        exact rec_none HF.out HB12.out rfl
      · have HF := Lib.hid (HFAIL.out (.inr (.inl g1)))
        have hp := (HLEN.out rfl).1
        have hpD : 0 < D.size := by omega
        have hat : D[0]'hpD = 48 := by rw [at_list HDL.out hpD, g1]
        clear g1
        go_wp2
        go_ret2
        exact rec_none HF.out HB12.out rfl
      all_goals
        have hp := (HLEN.out rfl).1
        have hpD : 0 < D.size := by omega
        obtain ⟨b0, hb0⟩ : ∃ b0, d.getD 0 0 = b0 := ⟨_, rfl⟩
        have hat : D[0]'hpD = b0 := by rw [at_list HDL.out hpD, hb0]
        rw [hb0] at g1
        have hG1 : d.getD 0 0 ≠ 48 := by rw [hb0]; exact g1
        have HG1 := Lib.hid hG1
        have hne48 := byte_ne g1
        have h48 : ((48 : UInt8).toNat : Int) = 48 := rfl
        rw [h48] at hne48
        clear hb0 g1 hG1
      · have HF := Lib.hid (HFAIL.out (.inr (.inr (.inl g2))))
        have k2 : decide ((s.size : Int) - a < nn) = true := decide_eq_true g2
        go_wp2
        go_ret2
        exact rec_none HF.out HB12.out rfl
      · have HF := Lib.hid (HFAIL2.out (.inr g3))
        have k2 : decide ((s.size : Int) - a < nn) = false := decide_eq_false (by omega)
        have k3 : decide (nn < (d.length : Int) + 4) = true := decide_eq_true g3
        have k3' : decide (nn < (D.size : Int) + 4) = true := decide_eq_true (by omega)
        go_wp2
        go_ret2
        exact rec_none HF.out HB12.out rfl
      all_goals
        obtain ⟨Q, rfl⟩ : ∃ Q : Nat, nn = (d.length : Int) + Q + 2 := ⟨nn.toNat - d.length - 2, by omega⟩
        have hQ : 2 ≤ Q := by omega
        have hfit : a + (d.length + Q + 2) ≤ s.size := by omega
        have k2 : decide ((s.size : Int) - a < (d.length : Int) + Q + 2) = false := decide_eq_false (by omega)
        have k3 : decide ((d.length : Int) + Q + 2 < (d.length : Int) + 4) = false := decide_eq_false (by omega)
        have k3' : decide ((d.length : Int) + Q + 2 < (D.size : Int) + 4) = false := decide_eq_false (by omega)
        go_upto_region 9 with (fail)
        have hRl : (s.extract (a + d.length + 1) (a + (d.length + Q + 2))).data.toList = (rest.take (d.length + Q + 2)).drop (d.length + 1) := by
          rw [mid_extract, HL0.out, show a + d.length + 1 = a + (d.length + 1) by omega, take_drop_add, HREST.out]
        have hRs : (s.extract (a + d.length + 1) (a + (d.length + Q + 2))).size = Q + 1 := by rw [ByteArray.size_extract]; omega
        obtain ⟨R, hR⟩ : ∃ R, s.extract (a + d.length + 1) (a + (d.length + Q + 2)) = R := ⟨_, rfl⟩
        rw [hR] at hRl hRs ⊢
        have hQR : Q < R.size := by omega
        have hRat : R[Q]'hQR = rest.getD ((d.length + 1) + Q) 0 := by rw [at_list hRl hQR, getD_mid (by omega)]
        rw [show ((d.length : Int) + Q + 2).toNat - 1 = (d.length + 1) + Q by omega] at g4
        have hQi : (Q : Int) < (R.size : Int) := by omega
        have HRL2 := Lib.hid hRl
        clear hRl hR
      · have HF := Lib.hid (HFAIL.out (.inr (.inr (.inr (.inr (by rw [show ((d.length : Int) + Q + 2).toNat - 1 = (d.length + 1) + Q by omega]; exact g4))))))
        obtain ⟨b1, hb1'⟩ : ∃ b1, rest.getD ((d.length + 1) + Q) 0 = b1 := ⟨_, rfl⟩
        rw [hb1'] at hRat g4
        have hne10 := byte_ne g4
        have h10 : ((10 : UInt8).toNat : Int) = 10 := rfl
        rw [h10] at hne10
        clear hb1' g4
        go_wp2
        go_ret2
        exact rec_none HF.out HB12.out rfl
      · rw [g4] at hRat
        obtain ⟨r, hr⟩ : ∃ r, (rest.take (d.length + 1 + Q)).drop (d.length + 1) = r := ⟨_, rfl⟩
        have HX2 := Lib.hid (show (R.extract 0 Q).data.toList = r by rw [take_extract, HRL2.out, show d.length + Q + 2 = (d.length + 1) + Q + 1 by omega, take_mid, hr])
        have HGO := Lib.hid (prog_go HD.out HNN.out HOK.out HG1.out (by rw [HRL.out]; omega) (by omega) (by rw [show ((d.length : Int) + Q + 2).toNat - 1 = (d.length + 1) + Q by omega]; exact g4) (r := r) (by rw [show ((d.length : Int) + Q + 2).toNat - 1 = (d.length + 1) + Q by omega]; exact hr))
        rw [show ((d.length : Int) + Q + 2).toNat = d.length + Q + 2 by omega] at HGO
        have hrs : (R.extract 0 Q).size = Q := by rw [ByteArray.size_extract]; omega
        have HXS2 := Lib.hid (show (R.extract 0 Q).size ≤ maxLen by rw [hrs]; unfold maxLen; omega)
        have HRS2 := Lib.hid hrs
        clear hr g4 hrs
        go_upto_region 13 with (go_at_call 21; refine (upto61_any (R.extract 0 Q) _ HXS2.out).mono ?_; rintro e w3 ⟨⟨K, rfl, hK⟩, hb3⟩; rw [HX2.out] at hK ⊢)
        obtain ⟨kl, hkl⟩ : ∃ kl, (upto 61 r).1 = kl := ⟨_, rfl⟩
        obtain ⟨fo, hfo⟩ : ∃ fo, (upto 61 r).2 = fo := ⟨_, rfl⟩
        have hul := (upto_len 61 r).2
        simp only [hkl, hfo] at hK HGO hul ⊢
        have hrlen : r.length = Q := by rw [← HX2.out, ← size_list, HRS2.out]
        rw [hrlen] at hul
        have HK := Lib.hid hK
        have HUL := Lib.hid hul
        have HB3 := Lib.hid (HB12.out.trans (hb3.mono HB12.out.size))
        clear hkl hfo hul hrlen
        have hcs2 : fo = false ∨ (fo = true ∧ kl = []) ∨ (fo = true ∧ kl ≠ []) := by
          cases fo
          · exact .inl rfl
          · by_cases h : kl = []
            · exact .inr (.inl ⟨rfl, h⟩)
            · exact .inr (.inr ⟨rfl, h⟩)
        rcases hcs2 with rfl | ⟨rfl, hkn⟩ | ⟨rfl, hkn⟩
        · have HF := Lib.hid (recs_fail hrec.out HE.out (by rw [HGO.out, if_pos (.inl rfl)]))
          go_wp2
          go_ret2
          exact rec_none HF.out HB3.out rfl
        · have HF := Lib.hid (recs_fail hrec.out HE.out (by rw [HGO.out, if_pos (.inr hkn)]))
          have hk1 := str_nil hK hkn
          clear hkn
          go_wp2
          go_ret2
          exact rec_none HF.out HB3.out rfl
        · have HN := Lib.hid (recs_next hrec.out HE.out (by rw [HGO.out, if_neg (by simp [hkn])]))
          have hk1 := str_some hK hkn
          have hkq := HUL.out rfl
          have hKs := size_list K
          rw [hK] at hKs
          have hrs := HRS2.out
          have hdn : (done.map recB).length = done.length := List.length_map _
          have hw3 := hown.out.below (hb1.trans ((hb2.trans (hb3.mono hb2.size)).mono hb1.size))
          have hVl : ((R.extract 0 Q).extract (kl.length + 1) Q).data.toList = r.drop (kl.length + 1) := by
            have := drop_extract (R.extract 0 Q) (kl.length + 1)
            rw [HRS2.out, HX2.out] at this
            exact this
          have HKV := Lib.hid (show (done ++ [(kl, r.drop (kl.length + 1))]).map recB = done.map recB ++ [(K, (R.extract 0 Q).extract (kl.length + 1) Q)] by
            rw [List.map_append]
            congr 1
            show [((⟨kl.toArray⟩ : ByteArray), (⟨(r.drop (kl.length + 1)).toArray⟩ : ByteArray))] = _
            rw [← hVl, ← HK.out, mk_list, mk_list])
          have hsz3 := HB3.out.size
          clear hkn hVl
          go_wp2_with (at_builtin; (refine wpList_append_seq _ rfl (.tmp 87) (.tmp 95) 27 rfl 32 elKV rfl (hw3.alloc _) 1 rfl (SeqAt.new (E := Ekv) w3 [(K, (R.extract 0 Q).extract (kl.length + 1) Q)] 30) rfl (by rw [hdn]; unfold maxLen; omega) (by rw [hdn]; omega) ?_); intro v1 w4 ho1 hg1)
          go_roundw
          case rel => exact ⟨a + (d.length + Q + 2), done ++ [(kl, r.drop (kl.length + 1))], by go_num, by omega, by rw [List.length_append, List.length_singleton]; omega, Lib.hid (by rw [show l0.drop (a + (d.length + Q + 2)) = rest.drop (d.length + Q + 2) by rw [← HREST.out, List.drop_drop]]; exact HN.out), Lib.hid (by rw [HKV.out]; exact ho1)⟩
          case measure => simp [intOf]; omega
    · obtain rfl : a = s.size := by omega
      have HR := Lib.hid (recs_end (l0 := l0) (done := done) (by rw [hrec.out, List.drop_of_length_le (by rw [← HSL.out]; exact Nat.le_refl _)]))
      go_wp2
      go_ret2
      exact rec_some HR.out hbw hown.out.isSeq rfl

end Go.Proofs.YtcpddggbigopjaaDoor
