/- Chapter 13, the walk of SplitTells. -/
import Derived.Test.YtemjgnpkhomofaaSplitSc
import Derived.Test.YtemjgnpkhomofaaSplitRead
namespace Go.Proofs.Ytemjgnpkhomofaa
open Go.RowKit SetPure UtfPure

set_option maxHeartbeats 4000000 in
set_option maxRecDepth 100000 in
theorem tells_any (A : Option Addr) (c : Nat) (l : List Rg) (r : Int) (s : ByteArray) (w : World) (hl : l.length ≤ 8796093022208) (hA : SeqAt Epair w w.heap.size A l) (hs : s.size ≤ 140737488355328) :
    Calls Try.prog 3 #[.slice A l.length c, .int .i64 r, .string s] w fun e w' => e = .returned (.bool true) ∧ Below w.heap.size w w' := by
  have hsm : s.size ≤ maxLen := by unfold maxLen; omega
  have HA := Lib.hid hA
  have HL := Lib.hid hl
  have HSM := Lib.hid hsm
  have HR4 := Lib.hid (show (strU r).size ≤ maxLen by rw [strU_size]; have := enc_pos r; unfold maxLen; omega)
  obtain ⟨bf, hbf⟩ : ∃ b, (decide (0 ≤ refSc (intsOf s)) && inB l (refSc (intsOf s))) = b := ⟨_, rfl⟩
  obtain ⟨bs, hbs⟩ : ∃ b, isScalar r = b := ⟨_, rfl⟩
  obtain ⟨bi, hbi⟩ : ∃ b, inB l r = b := ⟨_, rfl⟩
  have HFB := Lib.hid hbf
  have HSB := Lib.hid hbs
  have HIB := Lib.hid hbi
  have HBD := Lib.hid (fun h : bs = true => scalar_bd (hbs.trans h))
  obtain ⟨wf, HT, hcf⟩ : ∃ wf : Int, Hid (∀ o, Canon o → (∀ z, inB o z = (inB l z && inR z)) → ((countL (splitL o) (intsOf s) : Nat) : Int) = wf) ∧ ((bf = false ∧ wf = 0) ∨ (bf = true ∧ wf = 1)) := by
    cases bf
    · exact ⟨0, fun o hc ho => by rw [tells_count hc ho, hbf]; rfl, .inl ⟨rfl, rfl⟩⟩
    · exact ⟨1, fun o hc ho => by rw [tells_count hc ho, hbf]; rfl, .inr ⟨rfl, rfl⟩⟩
  obtain ⟨wi, HI, hci⟩ : ∃ wi : Int, Hid (bs = true → ∀ o, Canon o → (∀ z, inB o z = (inB l z && inR z)) → ((countL (splitL o) (intsOf (strU r)) : Nat) : Int) = wi) ∧ ((bi = false ∧ wi = 0) ∨ (bi = true ∧ wi = 1)) := by
    cases bi
    · exact ⟨0, fun h o hc ho => by rw [strU_ints (scalar_bd (hbs.trans h)).1 (scalar_bd (hbs.trans h)).2, one_count hc ho (hbs.trans h), hbi]; rfl, .inl ⟨rfl, rfl⟩⟩
    · exact ⟨1, fun h o hc ho => by rw [strU_ints (scalar_bd (hbs.trans h)).1 (scalar_bd (hbs.trans h)).2, one_count hc ho (hbs.trans h), hbi]; rfl, .inr ⟨rfl, rfl⟩⟩
  clear hbf hbs hbi hA hsm
  have HM1 : Hid True := trivial
  rcases hcf with ⟨rfl, rfl⟩ | ⟨rfl, rfl⟩ <;> cases bs <;> rcases hci with ⟨rfl, rfl⟩ | ⟨rfl, rfl⟩
  all_goals
    go_enter Try.func3, Try.ntmps3
    go_wp2_with (first
      | (go_at_call 7; refine (speaks_any _).mono ?_; rintro e w1 ⟨rfl, hb1⟩)
      | (go_at_call 8; refine (made_any A c l w1 HL.out ((HA.out.below hb1).more hb1.size)).mono ?_; rintro e w2 ⟨x, vb, rfl, ⟨o, hset, ho⟩, ⟨A2, c2, rfl, _, _, hA2⟩, hb2⟩; have HO := Lib.hid ho; have HST := Lib.hid hset; obtain ⟨⟨A3, c3, rfl, _, _, _⟩, hcan⟩ := hset; have hol := hcan.len; have HCN := Lib.hid hcan; have HA2 := Lib.hid hA2; have HLN := Lib.hid (splitL_len (s := o) (fun r hr => by have h1 := Canon.ge hcan _ hr; have h2 := CanonFrom.lo hcan (x := r.2) ⟨_, hr, h1.2, Int.le_refl _⟩; omega)); clear ho hcan hA2)
      | (go_at_call 9; refine (split_rows HST.out).mono ?_; rintro e w3 ⟨v3, rfl, hrows, hb3⟩; obtain ⟨A4, c4, rfl, hlc4, hcm4⟩ := hrows.shape; have HRW := Lib.hid hrows; have hln := HLN.out; unfold maxLen at hcm4; clear hrows)
      | (go_at_call 10; refine (refFits_any A2 c2 l s w3 (by omega) ((HA2.out.below hb3).more hb3.size) HSM.out).mono ?_; rintro e w4 ⟨rfl, hb4⟩; rw [HFB.out])
      | (go_at_call 11; clear HM1; refine (count_any _ _ s w4 (HRW.out.below hb4) HSM.out).mono ?_; rintro e w5 ⟨rfl, hb5⟩; rw [HT.out o HCN.out HO.out])
      | (go_at_call 12; refine (scalar_any r _).mono ?_; rintro e w6 ⟨rfl, rfl⟩; rw [HSB.out])
      | (go_at_call 13; refine (refIn_any A2 c2 w5.heap.size l r w5 (by omega) ((((HA2.out.below hb3).more hb3.size).below hb4).more hb4.size |>.below hb5 |>.more hb5.size) (Nat.le_refl _)).mono ?_; rintro e w7 ⟨rfl, hb7⟩; rw [HIB.out])
      | (go_at_call 14; refine (bytes_any r _ (HBD.out (by simp)).1 (HBD.out (by simp)).2).mono ?_; rintro e w8 ⟨rfl, hb8⟩)
      | (go_at_call 11; refine (count_any _ _ (strU r) w8 ((((HRW.out.below hb4).below hb5).below hb7).below hb8) HR4.out).mono ?_; rintro e w9 ⟨rfl, hb9⟩; rw [HI.out (by simp) o HCN.out HO.out]))
    go_ret
    have z1 := hb1.size
    have z2 := Nat.le_trans z1 hb2.size
    have z3 := Nat.le_trans z2 hb3.size
    have z4 := Nat.le_trans z3 hb4.size
    have z5 := Nat.le_trans z4 hb5.size
    have hb15 := (((hb1.trans (hb2.mono z1)).trans (hb3.mono z2)).trans (hb4.mono z3)).trans (hb5.mono z4)
    first
      | exact ⟨rfl, ((hb15.trans (hb7.mono z5)).trans (hb8.mono (Nat.le_trans z5 hb7.size))).trans (hb9.mono (Nat.le_trans (Nat.le_trans z5 hb7.size) hb8.size))⟩
      | exact ⟨rfl, hb15⟩

end Go.Proofs.Ytemjgnpkhomofaa
