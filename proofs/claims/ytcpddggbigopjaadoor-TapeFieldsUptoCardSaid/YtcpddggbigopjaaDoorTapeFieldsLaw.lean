/- Chapter 06, the walk of TapeFields. -/
import Derived.Test.YtcpddggbigopjaaDoorTapeRefRecs
import Derived.Test.YtcpddggbigopjaaDoorTapeRefNum
import Derived.Test.YtcpddggbigopjaaDoorTapeNumsLaw
import Derived.Laws.StructEq
import Derived.ChangeKeysEq
namespace Go.Proofs.YtcpddggbigopjaaDoor
open Go.RowKit Go.Shelf TapePure

theorem eq_kv (a b : ByteArray) (w : World) : (Op.equalIn 10000 30 (.agg #[.string a, .string b]) (.agg #[.string a, .string b])).run Tryd.prog w = .ok true w := by
  have u9 := Tryd.underlying9
  have a9 := Tryd.isAgg9
  have z9 := Tryd.sizeOf9
  have hu : Tryd.prog.underlying 30 = some (.array 2 9) := by kernel_rfl
  obtain ⟨i, hi⟩ : ∃ i, Tryd.prog.info? 9 = some i := by
    have h : (Tryd.prog.info? 9).isSome = true := by kernel_rfl
    exact Option.isSome_iff_exists.1 h
  have hc : Tryd.prog.cellsOf 9 = 1 := by kernel_rfl
  rw [show (10000 : Nat) = 9999 + 1 from rfl, run_equalIn_array w 9999 _ _ hu hi]
  simp only [hc, show List.range 2 = [0, 1] from rfl, Op.eqItems]
  go_simp
@[go_sem] theorem guard_kv (op : BinOp) (x y : Operand) (xs ys : Array Value) (w : World) : (eqGuard op 30 x y (.agg xs) (.agg ys)).run Tryd.prog w = .ok () w := run_eqGuard_agg w op _ x y xs ys (by kernel_rfl)
@[go_sem ↓] theorem neq_kv (a b : ByteArray) (w : World) : (binOp .neq 30 (.agg #[.string a, .string b]) (.agg #[.string a, .string b])).run Tryd.prog w = .ok (.bool false) w := by
  rw [run_neq_struct, eq_kv]; rfl

theorem SeqAt.kvs_ {w : World} {B : Nat} {A : Option Addr} {l : List KV} (h : SeqAt Ekv w B A l) (hn : 0 < l.length) :
    ∃ b off, A = some ⟨b, off, none⟩ ∧ b < B ∧ ∀ i, i < l.length → w.cell? ⟨b, off + i * 2, none⟩ = some (.string (l.getD i (⟨#[]⟩, ⟨#[]⟩)).1) ∧ w.cell? ⟨b, off + i * 2 + 1, none⟩ = some (.string (l.getD i (⟨#[]⟩, ⟨#[]⟩)).2) := by
  obtain ⟨b, off, e, hb, hc⟩ := h.at_ hn
  refine ⟨b, off, e, hb, fun i hi => ?_⟩
  obtain ⟨b', off', e', _, hc'⟩ := h.at_ hi
  rw [e] at e'
  injection e' with e'
  injection e' with e1 e2
  subst e1; subst e2
  have h0 := hc' 0 (by decide)
  have h1 := hc' 1 (by decide)
  have hg : l.getD i (⟨#[]⟩, ⟨#[]⟩) = l[i] := by rw [List.getD_eq_getElem?_getD, List.getElem?_eq_getElem hi]; rfl
  rw [hg]
  exact ⟨by simpa [Ekv] using h0, by simpa [Ekv, Nat.add_assoc] using h1⟩

set_option maxHeartbeats 4000000 in
set_option maxRecDepth 100000 in
theorem fields_any (s : ByteArray) (m : Int) (w : World) (hs : s.size ≤ 1048576) (hm : w.cell? ⟨0, 0, none⟩ = some (.int .i64 m)) :
    Calls Tryd.prog 4 #[.string s] w fun e w' => e = .returned (.bool true) ∧ Below w.heap.size w w' := by
  have hlow : 0 < w.heap.size := World.block_lt_of_cell? w _ hm
  have HM := Lib.hid hm
  have HLOW := Lib.hid hlow
  obtain ⟨p, hp⟩ : ∃ p, (numL s.data.toList).1 = p := ⟨_, rfl⟩
  obtain ⟨q, hq⟩ : ∃ q, (numL s.data.toList).2 = q := ⟨_, rfl⟩
  have HP := Lib.hid hp
  have HQ := Lib.hid hq
  have HS := Lib.hid (small_len hs)
  clear hm hlow hp hq
  cases hrec : recsL s.data.toList with
  | none =>
    have HREC := Lib.hid hrec
    clear hrec
    go_enter Tryd.func4, Tryd.ntmps4
    go_wp2_with (first
      | (go_at_call 8; refine (speaks_any _).mono ?_; rintro e w1 ⟨rfl, hb1⟩)
      | (go_at_call 9; refine (number_any s _ HS.out).mono ?_; rintro e w2 ⟨rfl, hb2⟩; rw [HP.out, HQ.out])
      | (go_at_call 10; refine (refNumber_any s _ HS.out).mono ?_; rintro e w3 ⟨rfl, hb3⟩; rw [HP.out, HQ.out]; have hb13 := (hb1.trans (hb2.mono hb1.size)).trans (hb3.mono (Nat.le_trans hb1.size hb2.size)); have hm3 := (hb13.cell (p := ⟨0, 0, none⟩) HLOW.out).trans HM.out)
      | (go_at_call 11; refine (records_any s m _ hs hm3).mono ?_; rintro e w4 ⟨hb4, he4⟩; rw [HREC.out] at he4; simp only at he4; subst he4)
      | (go_at_call 12; refine (refRecords_any s _ hs).mono ?_; rintro e w5 ⟨hb5, he5⟩; rw [HREC.out] at he5; simp only at he5; subst he5))
    have hT := (hb13.trans (hb4.mono hb13.size)).trans (hb5.mono (Nat.le_trans hb13.size hb4.size))
    have HT := Lib.hid hT
    clear hb1 hb2 hb3 hb4 hb5 hb13 hm3 hT
    go_loopw [11] (fun ix wr => ix = .int .i64 0 ∧ Below w.heap.size w wr) (fun _ _ => 0)
    case atStart => exact ⟨rfl, HT.out⟩
    case round =>
      obtain ⟨rfl, hbw⟩ := hrel
      go_wp2
      go_ret
      exact ⟨rfl, hbw⟩
  | some L =>
    have HREC := Lib.hid hrec
    clear hrec
    go_enter Tryd.func4, Tryd.ntmps4
    go_wp2_with (first
      | (go_at_call 8; refine (speaks_any _).mono ?_; rintro e w1 ⟨rfl, hb1⟩)
      | (go_at_call 9; refine (number_any s _ HS.out).mono ?_; rintro e w2 ⟨rfl, hb2⟩; rw [HP.out, HQ.out])
      | (go_at_call 10; refine (refNumber_any s _ HS.out).mono ?_; rintro e w3 ⟨rfl, hb3⟩; rw [HP.out, HQ.out]; have hb13 := (hb1.trans (hb2.mono hb1.size)).trans (hb3.mono (Nat.le_trans hb1.size hb2.size)); have hm3 := (hb13.cell (p := ⟨0, 0, none⟩) HLOW.out).trans HM.out)
      | (go_at_call 11; refine (records_any s m _ hs hm3).mono ?_; rintro e w4 ⟨hb4, he4⟩; rw [HREC.out] at he4; simp only at he4; obtain ⟨v1, rfl, A1, c1, rfl, hc1, hcm1, hA1⟩ := he4; have HA1 := Lib.hid hA1; clear hA1)
      | (go_at_call 12; refine (refRecords_any s _ hs).mono ?_; rintro e w5 ⟨hb5, he5⟩; rw [HREC.out] at he5; simp only at he5; obtain ⟨v2, rfl, A2, c2, rfl, hc2, hcm2, hA2⟩ := he5; have HA2 := Lib.hid hA2; have HA1' := Lib.hid ((HA1.out.below hb5).more hb5.size); clear hA2))
    have hT := (hb13.trans (hb4.mono hb13.size)).trans (hb5.mono (Nat.le_trans hb13.size hb4.size))
    have HT := Lib.hid hT
    obtain ⟨X, hX⟩ : ∃ X, L.map recB = X := ⟨_, rfl⟩
    have HXL := Lib.hid (show X.length = L.length by rw [← hX, List.length_map])
    rw [hX] at HA1' HA2
    rw [List.length_map] at hc1
    unfold maxLen at hcm1
    clear hb1 hb2 hb3 hb4 hb5 hb13 hm3 hT HA1 hX
    go_loopw [11] (fun ix wr => ∃ k : Nat, k ≤ L.length ∧ ix = .int .i64 k ∧ Below w5.heap.size w5 wr) (fun ix _ => L.length + 1 - (intOf ix).toNat)
    case atStart => exact ⟨0, by omega, rfl, Below.refl _ _⟩
    case round =>
      obtain ⟨k, hk, rfl, hbw⟩ := hrel
      by_cases hlt : k < L.length
      · obtain ⟨b1, o1, rfl, hb1', h1⟩ := (HA1'.out.below hbw).kvs_ (by rw [HXL.out]; omega)
        obtain ⟨b2, o2, rfl, hb2', h2⟩ := (HA2.out.below hbw).kvs_ (by rw [HXL.out]; omega)
        obtain ⟨c10, c11⟩ := h1 k (by rw [HXL.out]; exact hlt)
        obtain ⟨c20, c21⟩ := h2 k (by rw [HXL.out]; exact hlt)
        obtain ⟨⟨ka, va⟩, hr⟩ : ∃ r, X.getD k (⟨#[]⟩, ⟨#[]⟩) = r := ⟨_, rfl⟩
        rw [hr] at c10 c11 c20 c21
        simp only at c10 c11 c20 c21
        have hki : (k : Int) < (L.length : Int) := by omega
        clear h1 h2 hr
        go_wp2
        go_quiet (fail)
        go_wp2
        go_roundw
        case rel => exact ⟨k + 1, by omega, by go_num, below_drewN hbw _⟩
        case measure => simp [intOf]; omega
      · obtain rfl : k = L.length := by omega
        go_wp2
        go_ret
        exact ⟨rfl, HT.out.trans (hbw.mono HT.out.size)⟩

end Go.Proofs.YtcpddggbigopjaaDoor
