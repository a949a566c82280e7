/- Chapter 06: the walk of tape's Records. -/
import Derived.Test.YtcpddggbigopjaaDoorTapeDec
import Derived.Test.YtcpddggbigopjaaDoorTapeRecP
namespace Go.Proofs.YtcpddggbigopjaaDoor
open Go.RowKit Go.Shelf TapePure

/-- strings.Cut at one byte. -/
theorem cut_any (s : ByteArray) (c : UInt8) (m : Int) (w : World) (hs : s.size < 4294967281) (hm : w.cell? ⟨0, 0, none⟩ = some (.int .i64 m)) :
    Calls Tryd.prog 19 #[.string s, .string ⟨#[c]⟩] w fun e w' => (∃ D V : ByteArray, e = .returned (.tuple #[.string D, .string V, .bool (upto c s.data.toList).2]) ∧ D.data.toList = (upto c s.data.toList).1 ∧ ((upto c s.data.toList).2 = true → V.data.toList = s.data.toList.drop ((upto c s.data.toList).1.length + 1))) ∧ Below w.heap.size w w' := by
  refine (Any.strings_Cut { Tryd.laysM145 with } s ⟨#[c]⟩ m w hs hm).mono ?_
  rintro e w' ⟨rfl, n, rfl⟩
  have hc : Lib.cut s.data.toList (ByteArray.mk #[c]).data.toList = ((upto c s.data.toList).1, if (upto c s.data.toList).2 = true then s.data.toList.drop ((upto c s.data.toList).1.length + 1) else [], (upto c s.data.toList).2) := cut_upto c s.data.toList
  rw [hc]
  exact ⟨⟨_, _, rfl, list_mk _, fun h => by simp [h]⟩, below_drewN (Below.refl _ _) n⟩

abbrev KV := ByteArray × ByteArray
def Ekv : Enc KV := ⟨fun a => [.string a.1, .string a.2], 2, by decide, fun _ => rfl, fun a u hu => by simp at hu; rcases hu with rfl | rfl <;> rfl⟩
theorem info_kv : (Tryd.prog.info? 30).map (fun i => (i.zero, i.size, i.bytes)) = some (some (.agg #[.string ⟨#[]⟩, .string ⟨#[]⟩]), 2, 32) := by kernel_rfl
set_option maxRecDepth 100000 in
theorem elKV : ElemOf Tryd.prog 27 30 Ekv.k 32 := by
  obtain ⟨i, hi, hz0, hz1, hz2⟩ := info_parts info_kv
  exact ⟨i, _, Tryd.underlying27, hi, hz0, hz1, hz2, rfl⟩
def recB (p : List UInt8 × List UInt8) : KV := (⟨p.1.toArray⟩, ⟨p.2.toArray⟩)
/-- How a call that tells records ends. -/
def RecEnd (l : List UInt8) (w : World) (e : Ending) (w' : World) : Prop :=
  Below w.heap.size w w' ∧ match recsL l with
    | none => e = .returned (.tuple #[.slice none 0 0, .bool false])
    | some L => ∃ v, e = .returned (.tuple #[v, .bool true]) ∧ IsSeq Ekv w' v (L.map recB)
theorem rec_none {l : List UInt8} {w w' : World} {e : Ending} (h : recsL l = none) (hb : Below w.heap.size w w') (he : e = .returned (.tuple #[.slice none 0 0, .bool false])) : RecEnd l w e w' := by
  refine ⟨hb, ?_⟩
  rw [h]; exact he
theorem rec_some {l : List UInt8} {L : List (List UInt8 × List UInt8)} {w w' : World} {v : Value} {e : Ending} (h : recsL l = some L) (hb : Below w.heap.size w w') (hv : IsSeq Ekv w' v (L.map recB)) (he : e = .returned (.tuple #[v, .bool true])) : RecEnd l w e w' := by
  refine ⟨hb, ?_⟩
  rw [h]; exact ⟨v, he, hv⟩

theorem drop_extract (s : ByteArray) (k : Nat) : (s.extract k s.size).data.toList = s.data.toList.drop k := by
  rw [ByteArray.data_extract, Array.toList_extract]
  show (s.data.toList.drop k).take (s.size - k) = _
  rw [List.take_of_length_le (by rw [List.length_drop, ← size_list]; exact Nat.le_refl _)]
theorem mid_extract (s : ByteArray) (a b : Nat) : (s.extract a b).data.toList = (s.data.toList.take b).drop a := by
  rw [ByteArray.data_extract, Array.toList_extract]
  rw [List.drop_take]

theorem decL_len {l : List UInt8} (h : (decL l 9).2 = true) : 1 ≤ l.length ∧ l.length ≤ 9 := by
  unfold decL at h
  by_cases hb : (l.length : Int) < 1 ∨ 9 < (l.length : Int)
  · rw [if_pos hb] at h; cases h
  · omega
theorem byte_ne {b c : UInt8} (h : b ≠ c) : ((b.toNat : Int) == (c.toNat : Int)) = false := beq_eq_false_iff_ne.2 fun hh => h (UInt8.toNat_inj.1 (by omega))
theorem str_nil {s : ByteArray} {l : List UInt8} (h : s.data.toList = l) (hl : l = []) : (s.toList == []) = true := by rw [ByteArray.toList_eq, h, hl]; rfl
theorem str_some {s : ByteArray} {l : List UInt8} (h : s.data.toList = l) (hl : l ≠ []) : (s.toList == []) = false := by rw [ByteArray.toList_eq, h]; exact beq_eq_false_iff_ne.2 hl

set_option maxHeartbeats 8000000 in
set_option maxRecDepth 100000 in
theorem records_any (s : ByteArray) (m : Int) (w : World) (hs : s.size ≤ 1048576) (hm : w.cell? ⟨0, 0, none⟩ = some (.int .i64 m)) :
    Calls Tryd.prog 11 #[.string s] w (RecEnd s.data.toList w) := by
  have hlow : 0 < w.heap.size := World.block_lt_of_cell? w _ hm
  have HM := Lib.hid hm
  have HLOW := Lib.hid hlow
  obtain ⟨l0, hl0⟩ : ∃ l0, s.data.toList = l0 := ⟨_, rfl⟩
  have HL0 := Lib.hid hl0
  rw [hl0]
  clear hm hl0 hlow
  go_enter Tryd.func11, Tryd.ntmps11
  go_wp2
  go_loopw [0, 4, 5, 6, 7, 8, 9, 10, 11] (fun sx va _ _ _ _ _ _ _ wr => ∃ (ds : ByteArray) (rest : List UInt8) (done : List (List UInt8 × List UInt8)), sx = .string ds ∧ Hid (ds.data.toList = rest) ∧ ds.size ≤ 1048576 ∧ done.length ≤ 1048576 ∧ (done.length : Int) + ds.size ≤ 1048576 ∧ Hid (recsL l0 = (recsL rest).map (done ++ ·)) ∧ Hid (Own Ekv 30 w wr va (done.map recB))) (fun sx _ _ _ _ _ _ _ _ _ => match sx with | .string ds => ds.size | _ => 0)
  case atStart => exact ⟨s, l0, [], rfl, HL0, hs, by simp, by simp; omega, Lib.hid (by simp), Lib.hid (Own.nil_ _)⟩
  case round =>
    obtain ⟨ds, rest, done, rfl, hds, hsz, hdl, hsum, hrec, hown⟩ := hrel
    have hbw := hown.out.2
    have hz := hbw.size
    have hsl := size_list ds
    rw [hds.out] at hsl
    have HSL := Lib.hid hsl
    by_cases he : rest = []
    · have h1 : (ds.toList == []) = true := by rw [ByteArray.toList_eq, hds.out, he]; rfl
      have HR := Lib.hid (recs_end (l0 := l0) (done := done) (by rw [← he]; exact hrec.out))
      clear he hsl
      go_wp2
      go_ret2
      exact rec_some HR.out hbw hown.out.isSeq rfl
    · have h1 : (ds.toList == []) = false := by rw [ByteArray.toList_eq, hds.out]; exact beq_eq_false_iff_ne.2 he
      have HE := Lib.hid he
      have hmw := (hbw.cell (p := ⟨0, 0, none⟩) HLOW.out).trans HM.out
      have HC := Lib.hid (cut_any ds 32 m wr (by omega) hmw)
      rw [hds.out] at HC
      obtain ⟨d, hd⟩ : ∃ d, (upto 32 rest).1 = d := ⟨_, rfl⟩
      obtain ⟨sm, hsm⟩ : ∃ sm, (upto 32 rest).2 = sm := ⟨_, rfl⟩
      rw [hd, hsm] at HC
      have HD := Lib.hid hd
      obtain ⟨nn, hnn⟩ : ∃ nn, (decL d 9).1 = nn := ⟨_, rfl⟩
      obtain ⟨ok, hok⟩ : ∃ ok, (decL d 9).2 = ok := ⟨_, rfl⟩
      have HNN := Lib.hid hnn
      have HOK := Lib.hid hok
      have hn0 : 0 ≤ nn := by rw [← hnn]; exact decL_nonneg d 9
      have hdl2 := (upto_len 32 rest).1
      rw [hd] at hdl2
      have hdlt : d.length ≤ 1048576 := by omega
      clear he hsl hd hsm hnn hok
      have hcs : ok = false ∨ (ok = true ∧ d.getD 0 0 = 48) ∨ (ok = true ∧ d.getD 0 0 ≠ 48 ∧ (ds.size : Int) < nn) ∨ (ok = true ∧ d.getD 0 0 ≠ 48 ∧ nn ≤ (ds.size : Int) ∧ nn < (d.length : Int) + 2) ∨
          (ok = true ∧ d.getD 0 0 ≠ 48 ∧ nn ≤ (ds.size : Int) ∧ (d.length : Int) + 2 ≤ nn ∧ rest.getD (nn.toNat - 1) 0 ≠ 10) ∨ (ok = true ∧ d.getD 0 0 ≠ 48 ∧ nn ≤ (ds.size : Int) ∧ (d.length : Int) + 2 ≤ nn ∧ rest.getD (nn.toNat - 1) 0 = 10) := by
        cases ok
        · exact .inl rfl
        · right
          by_cases g1 : d.getD 0 0 = 48
          · exact .inl ⟨rfl, g1⟩
          · right
            by_cases g2 : (ds.size : Int) < nn
            · exact .inl ⟨rfl, g1, g2⟩
            · right
              by_cases g3 : nn < (d.length : Int) + 2
              · exact .inl ⟨rfl, g1, by omega, g3⟩
              · right
                by_cases g4 : rest.getD (nn.toNat - 1) 0 = 10
                · exact .inr ⟨rfl, g1, by omega, by omega, g4⟩
                · exact .inl ⟨rfl, g1, by omega, by omega, g4⟩
      have HLEN := Lib.hid (fun h : ok = true => decL_len (HOK.out.trans h))
      have HFAIL := Lib.hid (fun (h : ok = false ∨ d.getD 0 0 = 48 ∨ (ds.size : Int) < nn ∨ nn < (d.length : Int) + 2 ∨ rest.getD (nn.toNat - 1) 0 ≠ 10) => recs_fail hrec.out HE.out (prog_fail HD.out HNN.out (by rw [HOK.out, ← HSL.out]; exact h)))
      go_upto_region 5 with (first
        | (go_at_call 19; refine HC.out.mono ?_; rintro e w1 ⟨⟨D, V, rfl, hD, _⟩, hb1⟩)
        | (go_at_call 20; refine (decimal_any D 9 _ (by decide) (by decide)).mono ?_; rintro e w2 ⟨rfl, hb2⟩; rw [hD, HNN.out, HOK.out]))
      have hb12 := hbw.trans ((hb1.trans (hb2.mono hb1.size)).mono hz)
      have HB12 := Lib.hid hb12
      have hDs := size_list D
      rw [hD] at hDs
      have HDL := Lib.hid hD
      clear hb12
      rcases hcs with rfl | ⟨rfl, g1⟩ | ⟨rfl, g1, g2⟩ | ⟨rfl, g1, g2, g3⟩ | ⟨rfl, g1, g2, g3, g4⟩ | ⟨rfl, g1, g2, g3, g4⟩
      · have HF := Lib.hid (HFAIL.out (.inl rfl))
        go_wp2
        go_ret2
        exact rec_none HF.out HB12.out rfl
      · have HF := Lib.hid (HFAIL.out (.inr (.inl g1)))
        have hp := (HLEN.out rfl).1
        have hpD : 0 < D.size := by omega
        have hat : D[0]'hpD = 48 := by rw [at_list HDL.out hpD, g1]
        clear g1
        go_wp2
        go_ret2
        exact rec_none HF.out HB12.out rfl
      all_goals
        have hp := (HLEN.out rfl).1
        have hpD : 0 < D.size := by omega
        obtain ⟨b0, hb0⟩ : ∃ b0, d.getD 0 0 = b0 := ⟨_, rfl⟩
        have hat : D[0]'hpD = b0 := by rw [at_list HDL.out hpD, hb0]
        rw [hb0] at g1
        have hG1 : d.getD 0 0 ≠ 48 := by rw [hb0]; exact g1
        have HG1 := Lib.hid hG1
        have hne48 := byte_ne g1
        have h48 : ((48 : UInt8).toNat : Int) = 48 := rfl
        rw [h48] at hne48
        clear hb0 g1 hG1
      · have HF := Lib.hid (HFAIL.out (.inr (.inr (.inl g2))))
        have k2 : decide ((ds.size : Int) < nn) = true := decide_eq_true g2
        go_wp2
        go_ret2
        exact rec_none HF.out HB12.out rfl
      · have HF := Lib.hid (HFAIL.out (.inr (.inr (.inr (.inl g3)))))
        have k2 : decide ((ds.size : Int) < nn) = false := decide_eq_false (by omega)
        have k3 : decide (nn < (d.length : Int) + 2) = true := decide_eq_true g3
        have k3' : decide (nn < (D.size : Int) + 2) = true := decide_eq_true (by omega)
        go_wp2
        go_ret2
        exact rec_none HF.out HB12.out rfl
      · have HF := Lib.hid (HFAIL.out (.inr (.inr (.inr (.inr g4)))))
        obtain ⟨M, rfl⟩ : ∃ M : Nat, nn = (M : Int) + 1 := ⟨nn.toNat - 1, by omega⟩
        rw [show ((M : Int) + 1).toNat - 1 = M by omega] at g4
        have hMs : M < ds.size := by omega
        obtain ⟨b1, hb1'⟩ : ∃ b1, rest.getD M 0 = b1 := ⟨_, rfl⟩
        have hat1 : ds[M]'hMs = b1 := by rw [at_list hds.out hMs, hb1']
        rw [hb1'] at g4
        have hne10 := byte_ne g4
        have h10 : ((10 : UInt8).toNat : Int) = 10 := rfl
        rw [h10] at hne10
        have k2 : decide ((ds.size : Int) < (M : Int) + 1) = false := decide_eq_false (by omega)
        have k3 : decide ((M : Int) + 1 < (d.length : Int) + 2) = false := decide_eq_false (by omega)
        have k3' : decide ((M : Int) + 1 < (D.size : Int) + 2) = false := decide_eq_false (by omega)
        have hMi : (M : Int) < (ds.size : Int) := by omega
        clear hb1' g4
        go_wp2
        go_ret2
        exact rec_none HF.out HB12.out rfl
      · obtain ⟨M, rfl⟩ : ∃ M : Nat, nn = (M : Int) + 1 := ⟨nn.toNat - 1, by omega⟩
        have HG4 := Lib.hid g4
        rw [show ((M : Int) + 1).toNat - 1 = M by omega] at g4
        have hMs : M < ds.size := by omega
        have hat1 : ds[M]'hMs = 10 := by rw [at_list hds.out hMs, g4]
        have k2 : decide ((ds.size : Int) < (M : Int) + 1) = false := decide_eq_false (by omega)
        have k3 : decide ((M : Int) + 1 < (d.length : Int) + 2) = false := decide_eq_false (by omega)
        have k3' : decide ((M : Int) + 1 < (D.size : Int) + 2) = false := decide_eq_false (by omega)
        have hMi : (M : Int) < (ds.size : Int) := by omega
        have hlo : d.length + 1 ≤ M := by omega
        have hloD : D.size + 1 ≤ M := by omega
        clear g4
        obtain ⟨r, hr⟩ : ∃ r, (rest.take M).drop (d.length + 1) = r := ⟨_, rfl⟩
        have HX := Lib.hid (show (ds.extract (d.length + 1) M).data.toList = r by rw [mid_extract, hds.out, hr])
        have HGO := Lib.hid (prog_go HD.out HNN.out HOK.out HG1.out (by rw [← HSL.out]; exact g2) g3 HG4.out (r := r) (by rw [show ((M : Int) + 1).toNat - 1 = M by omega]; exact hr))
        rw [show ((M : Int) + 1).toNat = M + 1 by omega] at HGO
        have HXS := Lib.hid (show (ds.extract (d.length + 1) M).size < 4294967281 by rw [ByteArray.size_extract]; omega)
        have hmw2 := (HB12.out.cell (p := ⟨0, 0, none⟩) HLOW.out).trans HM.out
        have HMW2 := Lib.hid hmw2
        clear hr hmw2
        go_upto_region 8 with (go_at_call 19; refine (cut_any (ds.extract (d.length + 1) M) 61 m _ HXS.out HMW2.out).mono ?_; rintro e w3 ⟨⟨K, V2, rfl, hK, hV⟩, hb3⟩; rw [HX.out] at hK hV ⊢)
        obtain ⟨kl, hkl⟩ : ∃ kl, (upto 61 r).1 = kl := ⟨_, rfl⟩
        obtain ⟨fo, hfo⟩ : ∃ fo, (upto 61 r).2 = fo := ⟨_, rfl⟩
        simp only [hkl, hfo] at hK hV HGO ⊢
        have HK := Lib.hid hK
        have HV := Lib.hid hV
        have HB3 := Lib.hid (HB12.out.trans (hb3.mono HB12.out.size))
        clear hkl hfo hV
        have hcs2 : fo = false ∨ (fo = true ∧ kl = []) ∨ (fo = true ∧ kl ≠ []) := by
          cases fo
          · exact .inl rfl
          · by_cases h : kl = []
            · exact .inr (.inl ⟨rfl, h⟩)
            · exact .inr (.inr ⟨rfl, h⟩)
        rcases hcs2 with rfl | ⟨rfl, hkn⟩ | ⟨rfl, hkn⟩
        · have HF := Lib.hid (recs_fail hrec.out HE.out (by rw [HGO.out, if_pos (.inl rfl)]))
          go_wp2
          go_ret2
          exact rec_none HF.out HB3.out rfl
        · have HF := Lib.hid (recs_fail hrec.out HE.out (by rw [HGO.out, if_pos (.inr hkn)]))
          have hk1 := str_nil hK hkn
          clear hkn
          go_wp2
          go_ret2
          exact rec_none HF.out HB3.out rfl
        · have HN := Lib.hid (recs_next hrec.out HE.out (by rw [HGO.out, if_neg (by simp [hkn])]))
          have hk1 := str_some hK hkn
          have hdn : (done.map recB).length = done.length := List.length_map _
          have hw3 := hown.out.below (hb1.trans ((hb2.trans (hb3.mono hb2.size)).mono hb1.size))
          have HKV := Lib.hid (show (done ++ [(kl, r.drop (kl.length + 1))]).map recB = done.map recB ++ [(K, V2)] by
            rw [List.map_append]
            congr 1
            show [((⟨kl.toArray⟩ : ByteArray), (⟨(r.drop (kl.length + 1)).toArray⟩ : ByteArray))] = _
            rw [← HV.out rfl, ← HK.out, mk_list, mk_list])
          have hsz3 := HB3.out.size
          clear hkn
          go_wp2_with (at_builtin; (refine wpList_append_seq _ rfl (.tmp 70) (.tmp 74) 27 rfl 32 elKV rfl (hw3.alloc _) 1 rfl (SeqAt.new (E := Ekv) w3 [(K, V2)] 30) rfl (by rw [hdn]; unfold maxLen; omega) (by rw [hdn]; omega) ?_); intro v1 w4 ho1 hg1)
          go_roundw
          case rel => exact ⟨_, rest.drop (M + 1), done ++ [(kl, r.drop (kl.length + 1))], rfl, Lib.hid (by rw [drop_extract, hds.out]), by rw [ByteArray.size_extract]; omega, by rw [List.length_append, List.length_singleton]; omega, by rw [List.length_append, List.length_singleton, ByteArray.size_extract]; omega, HN, Lib.hid (by rw [HKV.out]; exact ho1)⟩
          case measure =>
            show (ds.extract (M + 1) ds.size).size < ds.size
            rw [ByteArray.size_extract]; omega

end Go.Proofs.YtcpddggbigopjaaDoor
