/- Chapter 11: the walk of Size; the pattern's tree behind Parse. -/
import Derived.Test.YtjfeepajlkckeaaGreatDoorZe30
namespace Go.Proofs.YtjfeepajlkckeaaGreatDoor
open Go.RowKit SetPure

theorem sizeAL_take : ∀ (l : List SynP.Nd) (i : Nat) (h : i < l.length), SynP.sizeAL (l.take (i + 1)) = SynP.sizeAL (l.take i) + SynP.sizeA l[i]
  | x :: l, 0, _ => by simp [SynP.sizeAL]
  | x :: l, i + 1, h => by
    have := sizeAL_take l i (by simpa using h)
    simp [SynP.sizeAL] at this ⊢
    omega
theorem sizeDL_take : ∀ (l : List SynP.Nd) (i : Nat) (h : i < l.length), SynP.sizeDL (l.take (i + 1)) = max (SynP.sizeDL (l.take i)) (SynP.sizeD l[i])
  | x :: l, 0, _ => by simp [SynP.sizeDL]
  | x :: l, i + 1, h => by
    have := sizeDL_take l i (by simpa using h)
    simp [SynP.sizeDL] at this ⊢
    omega
theorem sizeAL_le : ∀ (l : List SynP.Nd) (i : Nat), SynP.sizeAL (l.take i) ≤ SynP.sizeAL l
  | [], i => by simp
  | x :: l, 0 => by simp [SynP.sizeAL]
  | x :: l, i + 1 => by
    have := sizeAL_le l i
    simp [SynP.sizeAL] at this ⊢
    omega
mutual
theorem sizeD_le : ∀ x : SynP.Nd, SynP.sizeD x ≤ SynP.sizeA x
  | .mk _ _ _ _ _ _ _ _ kids => by
    have := sizeDL_le kids
    unfold SynP.sizeD SynP.sizeA
    omega
theorem sizeDL_le : ∀ l : List SynP.Nd, SynP.sizeDL l ≤ SynP.sizeAL l
  | [] => Nat.le_refl _
  | x :: l => by
    have h1 := sizeD_le x
    have h2 := sizeDL_le l
    unfold SynP.sizeDL SynP.sizeAL
    omega
end
/-- Size tells a tree's size. -/
def SizeC (nd : SynP.Nd) : Prop := ∀ (r : RawN) (P : Nat → Prop) (w : World), Lies w P nd r → Calls Tryz.prog 7 #[.agg r.cells.toArray] w fun e w' => e = .returned (.tuple #[.int .i64 (SynP.sizeA nd), .int .i64 (SynP.sizeD nd)]) ∧ Below w.heap.size w w'

set_option maxRecDepth 100000 in
set_option maxHeartbeats 6400000 in
theorem nsize_step (kind : Nat) (set : Option (Int → Bool)) (fold : Bool) (least most : Int) (lazy : Bool) (cap : Nat) (name : List UInt8) (kids : List SynP.Nd)
    (IH : ∀ x ∈ kids, SizeC x) (hsz : SynP.sizeA (.mk kind set fold least most lazy cap name kids) ≤ 1000000) : SizeC (.mk kind set fold least most lazy cap name kids) := by
  intro r P w hl
  have hn := hl.kids.1
  have hmax := hl.room
  have HIH := Lib.hid IH
  have hAk : SynP.sizeAL kids ≤ 1000000 := by unfold SynP.sizeA at hsz; omega
  have HAk := Lib.hid hAk
  obtain ⟨N, hN⟩ : ∃ N, w.heap.size = N := ⟨_, rfl⟩
  have HNe := Lib.hid hN
  have HS0 := Lib.hid (RepS.start (r := r) hN)
  have HLs : Hid (∀ w', Below N w w' → Lies w' P (.mk kind set fold least most lazy cap name kids) r) := Lib.hid fun w' hb => Lies.on (StandN.below (by rw [hN]; exact hb)) _ _ hl
  have HE : Hid (SynP.sizeA (.mk kind set fold least most lazy cap name kids) = 1 + SynP.sizeAL kids ∧ SynP.sizeD (.mk kind set fold least most lazy cap name kids) = 1 + SynP.sizeDL kids) := Lib.hid ⟨by rw [SynP.sizeA], by rw [SynP.sizeD]⟩
  obtain ⟨r0, r1, r2, r3, r4, r5, r6, r7, r8, r9, ra, rb, rc⟩ := r
  simp only at hn hmax
  have HKn : Hid (kids.length = rb) := Lib.hid hn.symm
  simp only [RawN.cells] at HS0 ⊢
  rw [HE.out.1, HE.out.2]
  clear IH hsz hl hN hn hAk
  go_enter Tryz.func7, Tryz.ntmps7
  go_upto_region 1 with fail
  rw [HNe.out]
  generalize w.alloc (.cells #[.int .i64 r0, .slice r1 r2 r3, .bool r4, .int .i64 r5, .int .i64 r6, .bool r7, .int .i64 r8, .string r9, .slice ra rb rc] 28) = W at HS0 ⊢
  have hcW : ∀ o, W.cell? ⟨N, o, none⟩ = #[Value.int .i64 r0, .slice r1 r2 r3, .bool r4, .int .i64 r5, .int .i64 r6, .bool r7, .int .i64 r8, .string r9, .slice ra rb rc][o]? := fun o => Lib.cell_of_heap HS0.out.box o
  go_wp2_with fail
  clear hcW
  go_loopw [4, 5, 13] (fun s4 s5 s13 wr => ∃ i : Nat, i ≤ rb ∧ s13 = .int .i64 i ∧ s4 = .int .i64 ((1 + SynP.sizeAL (kids.take i) : Nat) : Int) ∧ s5 = .int .i64 ((SynP.sizeDL (kids.take i) : Nat) : Int) ∧ Hid (RepS w wr N ⟨r0, r1, r2, r3, r4, r5, r6, r7, r8, r9, ra, rb, rc⟩)) (fun _ _ s13 _ => rb + 1 - (intOf s13).toNat)
  case atStart => exact ⟨0, Nat.zero_le _, rfl, rfl, rfl, HS0⟩
  case round =>
    obtain ⟨i, hi, rfl, rfl, rfl, HS⟩ := hrel
    clear HS0
    have zN := HS.out.lt
    by_cases hlt : i < rb
    · have hii : (i : Int) < (rb : Int) := by omega
      have hi0 : (0 : Int) ≤ (i : Int) := by omega
      have hij : i < kids.length := by rw [HKn.out]; exact hlt
      obtain ⟨b, off, z1, rfl, hb, k1, y1⟩ := (HLs.out wr HS.out.bel).kid_ i hij
      have hA1 := sizeAL_take kids i hij
      have hD1 := sizeDL_take kids i hij
      have hA2 := sizeAL_le kids (i + 1)
      have hD2 := sizeDL_le (kids.take (i + 1))
      obtain ⟨x, hx⟩ : ∃ x, kids[i]'hij = x := ⟨_, rfl⟩
      rw [hx] at k1 hA1 hD1
      have hxm : x ∈ kids := by rw [← hx]; exact List.getElem_mem hij
      have HC : Hid (∀ wx, Below wr.heap.size wr wx → Calls Tryz.prog 7 #[.agg z1.cells.toArray] wx fun e w' => e = .returned (.tuple #[.int .i64 (SynP.sizeA x), .int .i64 (SynP.sizeD x)]) ∧ Below wx.heap.size wx w') := Lib.hid fun wx hb => HIH.out x hxm z1 P wx (Lies.on (StandN.below hb) _ _ k1)
      rw [hA1] at hA2
      rw [hA1, hD1] at hD2
      have hAb := HAk.out
      obtain ⟨a, ha⟩ : ∃ a, SynP.sizeAL (kids.take i) = a := ⟨_, rfl⟩
      obtain ⟨d, hd⟩ : ∃ d, SynP.sizeDL (kids.take i) = d := ⟨_, rfl⟩
      obtain ⟨xa, hxa⟩ : ∃ a, SynP.sizeA x = a := ⟨_, rfl⟩
      obtain ⟨xd, hxd⟩ : ∃ a, SynP.sizeD x = a := ⟨_, rfl⟩
      rw [ha, hxa] at hA1 hA2
      rw [hd, hxd] at hD1
      rw [ha, hxa, hd, hxd] at hD2
      rw [ha, hd]
      rw [hxa, hxd] at HC
      have HF : Hid (SynP.sizeAL (kids.take (i + 1)) = a + xa ∧ SynP.sizeDL (kids.take (i + 1)) = max d xd) := Lib.hid ⟨hA1, hD1⟩
      have e1 : IntKind.i64.wrap (((1 + a : Nat) : Int) + (xa : Int)) = ((1 + (a + xa) : Nat) : Int) := by rw [IntWalk.i64_in _ (by omega)]; omega
      obtain ⟨a0, a1, a2, a3, a4, a5, a6, a7, a8, a9, aa, ab, ac⟩ := z1
      simp only [RawN.cells] at HC
      have m0 : wr.cell? ⟨b, off + i * 9, none⟩ = some (.int .i64 a0) := y1 0 (by decide)
      have m1 : wr.cell? ⟨b, off + i * 9 + 1, none⟩ = some (.slice a1 a2 a3) := y1 1 (by decide)
      have m2 : wr.cell? ⟨b, off + i * 9 + 2, none⟩ = some (.bool a4) := y1 2 (by decide)
      have m3 : wr.cell? ⟨b, off + i * 9 + 3, none⟩ = some (.int .i64 a5) := y1 3 (by decide)
      have m4 : wr.cell? ⟨b, off + i * 9 + 4, none⟩ = some (.int .i64 a6) := y1 4 (by decide)
      have m5 : wr.cell? ⟨b, off + i * 9 + 5, none⟩ = some (.bool a7) := y1 5 (by decide)
      have m6 : wr.cell? ⟨b, off + i * 9 + 6, none⟩ = some (.int .i64 a8) := y1 6 (by decide)
      have m7 : wr.cell? ⟨b, off + i * 9 + 7, none⟩ = some (.string a9) := y1 7 (by decide)
      have m8 : wr.cell? ⟨b, off + i * 9 + 8, none⟩ = some (.slice aa ab ac) := y1 8 (by decide)
      have HBa : Hid (∀ o : Obj, Below wr.heap.size wr (wr.alloc o)) := Lib.hid fun o => (Below.refl _ wr).alloc (Nat.le_refl _) _
      clear y1 hx k1 hxm hA1 hD1 ha hd hxa hxd
      go_wp2_with (first
        | (refine wpList_store_newN rfl 28 (.tmp 7) (.tmp 16) rfl _ #[.int .i64 a0, .slice a1 a2 a3, .bool a4, .int .i64 a5, .int .i64 a6, .bool a7, .int .i64 a8, .string a9, .slice aa ab ac] rfl rfl 28 sizeN rfl (cellsN_one ⟨a0, a1, a2, a3, a4, a5, a6, a7, a8, a9, aa, ab, ac⟩) ?_)
        | (go_at_call 7; refine (HC.out _ (HBa.out _)).mono ?_; rintro e w4 ⟨rfl, hb4⟩; have HS4 := Lib.hid (HS.out.below (step_alloc hb4)); clear hb4))
      exact ⟨⟨i + 1, by omega, by simp, val_int (by rw [HF.out.1]; omega), val_int (by rw [HF.out.2]; omega), HS4⟩, by simp only [intOf]; omega⟩
    · obtain rfl : i = rb := by omega
      have hii : ¬ (i : Int) < (i : Int) := by omega
      have hT : kids.take i = kids := List.take_of_length_le (by rw [HKn.out]; exact Nat.le_refl _)
      rw [hT]
      have h1 := sizeDL_le kids
      have h2 := HAk.out
      have e1 : IntKind.i64.wrap (((SynP.sizeDL kids : Nat) : Int) + 1) = ((1 + SynP.sizeDL kids : Nat) : Int) := by rw [IntWalk.i64_in _ (by omega)]; omega
      go_wp2_with fail
      go_ret2
      exact ⟨rfl, by rw [HNe.out]; exact HS.out.bel⟩
theorem nsize_all : ∀ (n : Nat) (nd : SynP.Nd), SynP.sizeA nd ≤ n → SynP.sizeA nd ≤ 1000000 → SizeC nd
  | 0, nd, h, _ => absurd (size_pos nd) (by omega)
  | n + 1, .mk kind set fold least most lazy cap name kids, h, h2 => nsize_step kind set fold least most lazy cap name kids (fun x hx => by
      have h3 := size_kid hx
      unfold SynP.sizeA at h h2
      exact nsize_all n x (by omega) (by omega)) h2

end Go.Proofs.YtjfeepajlkckeaaGreatDoor
