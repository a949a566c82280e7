/- Chapter 08, the walk of 'same': is a set's list the document's list? -/
import Derived.Test.YtapjkahpblbnmaaCanon
namespace Go.Proofs.Ytapjkahpblbnmaa
open Go.RowKit SetPure CanonPure

theorem stood_rrange : Try.prog.stoodInHeld 47 = false := by kernel_rfl
@[go_sem] theorem guard_rrange (op : BinOp) (x y : Operand) (xs ys : Array Value) (w : World) : (eqGuard op 47 x y (.agg xs) (.agg ys)).run Try.prog w = .ok () w := run_eqGuard_agg w op _ x y xs ys (by kernel_rfl)
theorem eq_rrange (a b c d : Int) (w : World) : (Op.equalIn 10000 47 (.agg #[.int .i64 a, .int .i64 b]) (.agg #[.int .i64 c, .int .i64 d])).run Try.prog w = .ok (rangeEq a b c d) w := by
  have u3 := Try.underlying3
  have a3 := Try.isAgg3
  have z3 := Try.sizeOf3
  have hS : Try.prog.underlying 47 = some (.struct (Try.prog.fieldsOf 47)) := by kernel_rfl
  rw [show (10000 : Nat) = 9999 + 1 from rfl, run_equalIn_agg w 9999 47 _ _ hS stood_rrange]
  simp only [Program.fieldsOf, Try.underlying47]
  go_simp
  by_cases h1 : a = c <;> by_cases h2 : b = d <;> simp [rangeEq, h1, h2]
@[go_sem ↓] theorem neq_rrange (a b c d : Int) (w : World) : (binOp .neq 47 (.agg #[.int .i64 a, .int .i64 b]) (.agg #[.int .i64 c, .int .i64 d])).run Try.prog w = .ok (.bool (!rangeEq a b c d)) w := by
  rw [run_neq_struct, eq_rrange]; rfl

set_option maxHeartbeats 1600000 in
set_option maxRecDepth 100000 in
theorem same_any (A A' : Option Addr) (c c' B : Nat) (l l' : List Rg) (w : World) (hcl : Canon l) (hcan : Canon l') (hA : SeqAt Epair w B A l) (hA' : SeqAt Epair w B A' l') (hB : B ≤ w.heap.size) (hset : IsSet w (.slice A l.length c) l) :
    Calls Try.prog 18 #[.slice A l.length c, .slice A' l'.length c'] w fun e w' => e = .returned (.bool (decide (l = l'))) ∧ Below w.heap.size w w' := by
  have HA := Lib.hid hA
  have HA' := Lib.hid hA'
  have hlen := hcl.len
  have hlen' := hcan.len
  have HO := Lib.hid (Canon.ok hcan (by omega))
  have HST := Lib.hid hset
  clear hA hA' hcl hset
  by_cases hn : l.length = l'.length
  · have hb1 : ((l.length : Int) != (l'.length : Int)) = false := by simp; omega
    have HN := Lib.hid hn
    clear hn
    go_enter Try.func18, Try.ntmps18
    go_wp2
    go_loopw [5, 6] (fun n i wr => ∃ k : Nat, k ≤ l'.length ∧ i = .int .i64 k ∧ n = .int .i64 (sizeL (l'.take k)) ∧ Below w.heap.size w wr ∧ Hid (l.take k = l'.take k)) (fun _ i _ => l'.length + 1 - (intOf i).toNat)
    case atStart => exact ⟨0, by omega, rfl, rfl, Below.refl _ _, rfl⟩
    case round =>
      obtain ⟨k, hk, rfl, rfl, hbw, hrest⟩ := hrel
      have hz := hbw.size
      by_cases hlt' : k < l'.length
      · have hlt : k < l.length := by have := HN.out; omega
        obtain ⟨b, off, rfl, hb, hc⟩ := (HA.out.below (hbw.mono hB)).pairs_ (by omega)
        obtain ⟨b', off', rfl, hb', hc'⟩ := (HA'.out.below (hbw.mono hB)).pairs_ (by omega)
        obtain ⟨h0, h1⟩ := hc k hlt
        obtain ⟨h0', h1'⟩ := hc' k hlt'
        clear hc hc'
        obtain ⟨⟨x, y⟩, hr⟩ : ∃ r, l.getD k (0, 0) = r := ⟨_, rfl⟩
        obtain ⟨⟨x', y'⟩, hr'⟩ : ∃ r, l'.getD k (0, 0) = r := ⟨_, rfl⟩
        rw [hr] at h0 h1
        rw [hr'] at h0' h1'
        have hq := HO.out _ (mem_at' hlt' hr')
        have hS := sizeL_bd (s := l'.take k) (fun r hr => HO.out r (List.mem_of_mem_take hr))
        have HS2 := Lib.hid (show sizeL (l'.take (k + 1)) = sizeL (l'.take k) + (y' - x' + 1) by rw [take_next' hlt' hr', sizeL_append]; simp [sizeL])
        have hTk : ((l'.take k).length : Int) ≤ 557056 := by rw [List.length_take]; omega
        have HR := Lib.hid hr
        have HR' := Lib.hid hr'
        clear hr hr'
        simp only at h0 h1 h0' h1' hq
        obtain ⟨q1, q2, q3⟩ := hq
        generalize sizeL (l'.take k) = S at *
        obtain ⟨s1, s2⟩ := hS
        generalize (l'.take k).length = T at *
        have hki : (k : Int) < (l.length : Int) := by omega
        have hki' : (k : Int) < (l'.length : Int) := by omega
        go_wp2
        go_quiet (fail)
        cases he : rangeEq x y x' y' with
        | false =>
          have hne := Lib.hid (show ¬ (x, y) = (x', y') from fun h => by rw [(rangeEq_iff x y x' y').2 h] at he; cases he)
          go_wp2
          go_ret
          refine ⟨ret_bool ?_, below_drewN hbw _⟩
          symm
          rw [decide_eq_false_iff_not]
          intro h
          subst h
          exact hne.out (HR.out.symm.trans HR'.out)
        | true =>
          have heq := Lib.hid ((rangeEq_iff x y x' y').1 he)
          have hbw7 : Below w.heap.size w (wr.drewN nq) := below_drewN hbw _
          have k0 : (wr.drewN nq).cell? ⟨b', off' + k * 2, none⟩ = some (.int .i64 x') := h0'
          have k1 : (wr.drewN nq).cell? ⟨b', off' + k * 2 + 1, none⟩ = some (.int .i64 y') := h1'
          generalize wr.drewN nq = w7 at *
          go_upto_region 6 with (fail)
          have t1 : IntKind.i64.wrap (y' - x') = y' - x' := IntWalk.i64_in _ (by omega)
          have t2 : IntKind.i64.wrap (y' - x' + 1) = y' - x' + 1 := IntWalk.i64_in _ (by omega)
          have t3 : IntKind.i64.wrap (S + (y' - x' + 1)) = S + (y' - x' + 1) := IntWalk.i64_in _ (by omega)
          go_quiet (fail)
          clear t1 t2 t3
          go_wp2
          go_roundw
          case rel => exact ⟨k + 1, by omega, by go_num, val_int (by rw [HS2.out]), below_drewN hbw7 _, Lib.hid (by rw [take_next' hlt HR.out, take_next' hlt' HR'.out, hrest.out, heq.out])⟩
          case measure => simp [intOf]; omega
      · have h1 := hrest.out
        have h2 := HN.out
        rw [List.take_of_length_le (by omega), List.take_of_length_le (by omega)] at h1
        subst h1
        have HSZ := Lib.hid (set_size (HST.out.below hbw))
        have HT := Lib.hid (show sizeL (l.take k) = sizeL l by rw [List.take_of_length_le (by omega)])
        rw [HT.out]
        generalize sizeL l = Z at *
        go_wp2_with (go_at_call 16; refine HSZ.out.mono ?_; rintro e w1 ⟨rfl, hb1⟩)
        go_ret
        exact ⟨ret_bool (by simp), hbw.trans (hb1.mono hz)⟩
  · have hb1 : ((l.length : Int) != (l'.length : Int)) = true := by simp; omega
    have hne : ¬ l = l' := fun h => hn (by rw [h])
    have HN := Lib.hid hne
    clear hn hne
    go_enter Try.func18, Try.ntmps18
    go_wp2
    go_ret
    exact ⟨ret_bool (by simp [HN.out]), Below.refl _ _⟩

end Go.Proofs.Ytapjkahpblbnmaa
