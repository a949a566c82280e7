/- The document's Decode at UTF-8, of bytes without a mark, and with any text's first byte 120. -/
import Derived.Test.YtemcflfgoelpiaaRefUtf
import Derived.Test.YtemcflfgoelpiaaDecX
import Derived.Test.YtemcflfgoelpiaaEncL
import Derived.Test.YtemcflfgoelpiaaJsonV
import Derived.Test.YtemcflfgoelpiaaDecode
namespace Go.Proofs.Ytemcflfgoelpiaa
open Go.RowKit

set_option maxRecDepth 100000 in
theorem refOne_any (s : ByteArray) (a : Nat) (w : World) (hs : s.size ≤ 140737488355328) (h0 : a < s.size) : Calls Try.prog 37 #[.string s, .int .i64 a, .int .i64 1] w fun e w' => e = .returned (oneV (DecP.one (s.data.toList.drop a))) ∧ w = w' := by
  have ha0 : (0 : Int) ≤ (a : Int) := by omega
  have has : (a : Int) < (s.size : Int) := by omega
  have HU := Lib.hid fun W => refUtf8_any s a W hs h0
  obtain ⟨⟨p, q⟩, hp⟩ : ∃ p, DecP.one (s.data.toList.drop a) = p := ⟨_, rfl⟩
  rw [hp] at HU ⊢
  clear hp
  unfold oneV at HU ⊢
  go_enter Try.func37, Try.ntmps37
  go_wp2_with (go_at_call 54; (with_reducible refine (HU.out _).mono ?_); rintro e w' ⟨rfl, rfl⟩)
  go_ret2
  exact ⟨by rfl, rfl⟩

theorem ref_ints_cells (w : World) (g : Nat) (hg : w.heap.size = g) (xs : List Int) (t : TypeId) : ∀ i, i < xs.length → (w.alloc (.cells (xs.map (Value.int .u8)).toArray t)).cell? ⟨g, 0 + i, none⟩ = some (.int .u8 (xs.getD i 0)) := by
  intro i hi
  subst hg
  rw [Nat.zero_add, cell_of_row _ _ _ _ _ (0, 0) (heap_alloc_new w _), List.getElem?_toArray, List.getElem?_map, List.getElem?_eq_getElem hi, List.getD_eq_getElem?_getD, List.getElem?_eq_getElem hi]
  rfl
/-- 'string([]byte{..})'. -/
theorem ref_conv_new (w : World) (xs : List Int) (n : Nat) (hn : xs.length = n) : (convert 46 9 (.slice (some ⟨w.heap.size, 0, none⟩) n n)).run Try.prog (w.alloc (.cells (xs.map (Value.int .u8)).toArray 5)) = .ok (.string (strOfNums xs)) (w.alloc (.cells (xs.map (Value.int .u8)).toArray 5)) := by
  subst hn
  exact run_convert_bytes_arg (P := Try.prog) _ 46 5 Try.underlying46 Try.underlying5 w.heap.size 0 xs.length xs.length xs rfl (ref_ints_cells w _ rfl xs _) 9 Try.underlying9

set_option maxHeartbeats 1600000 in
set_option maxRecDepth 100000 in
theorem refBytes_any (r : Int) (w : World) (h0 : 0 ≤ r) (h1 : r ≤ 1114111) :
    Calls Try.prog 22 #[.int .i64 r, .int .i64 1] w fun e w' => e = .returned (.string (strOfNums (encU r))) ∧ Below w.heap.size w w' := by
  unfold encU
  by_cases c1 : r < 128
  · rw [if_pos c1]
    have hcv := ref_conv_new w [r] 1 rfl
    simp only [List.map_cons, List.map_nil] at hcv
    go_enter Try.func22, Try.ntmps22
    go_wp2
    go_ret
    exact ⟨rfl, (Below.refl _ w).alloc (Nat.le_refl _) _⟩
  · rw [if_neg c1]
    by_cases c2 : r < 2048
    · rw [if_pos c2]
      have hcv := ref_conv_new w [192 + r / 64, 128 + r % 64] 2 rfl
      simp only [List.map_cons, List.map_nil] at hcv
      go_enter Try.func22, Try.ntmps22
      go_wp2
      go_ret
      exact ⟨rfl, (Below.refl _ w).alloc (Nat.le_refl _) _⟩
    · rw [if_neg c2]
      by_cases c3 : r < 65536
      · rw [if_pos c3]
        have hcv := ref_conv_new w [224 + r / 4096, 128 + r / 64 % 64, 128 + r % 64] 3 rfl
        simp only [List.map_cons, List.map_nil] at hcv
        go_enter Try.func22, Try.ntmps22
        go_wp2
        go_ret
        exact ⟨rfl, (Below.refl _ w).alloc (Nat.le_refl _) _⟩
      · rw [if_neg c3]
        have hcv := ref_conv_new w [240 + r / 262144, 128 + r / 4096 % 64, 128 + r / 64 % 64, 128 + r % 64] 4 rfl
        simp only [List.map_cons, List.map_nil] at hcv
        go_enter Try.func22, Try.ntmps22
        go_wp2
        go_ret
        exact ⟨rfl, (Below.refl _ w).alloc (Nat.le_refl _) _⟩

theorem refMark_any (w : World) : Calls Try.prog 36 #[.int .i64 1] w fun e w' => e = .returned (.string ⟨#[239, 187, 191]⟩) ∧ Below w.heap.size w w' := by
  have hcv := ref_conv_new w [239, 187, 191] 3 rfl
  rw [show strOfNums [239, 187, 191] = ⟨#[239, 187, 191]⟩ by decide +kernel] at hcv
  simp only [List.map_cons, List.map_nil] at hcv
  go_enter Try.func36, Try.ntmps36
  go_wp2
  go_ret
  exact ⟨rfl, (Below.refl _ w).alloc (Nat.le_refl _) _⟩

theorem extract_ne (d : ByteArray) (h : NoMark d) : ((d.extract 0 3).toList == [239, 187, 191]) = false := by
  have hl : (d.extract 0 3).toList = d.data.toList.take 3 := by simp [ByteArray.toList_eq]
  rw [hl]
  cases hb : (d.data.toList.take 3 == [239, 187, 191]) with
  | false => rfl
  | true =>
    have he : d.data.toList.take 3 = [239, 187, 191] := by simpa using hb
    have hp : ([239, 187, 191] : List UInt8) <+: d.data.toList := by rw [← he]; exact List.take_prefix 3 _
    have : Lib.hasPrefix d.data.toList [239, 187, 191] = true := by unfold Lib.hasPrefix; exact List.isPrefixOf_iff_prefix.2 hp
    rw [show Lib.hasPrefix d.data.toList [239, 187, 191] = false from h] at this
    cases this
theorem refBegins_any (d : ByteArray) (h : NoMark d) (hs : d.size ≤ 140737488355328) (w : World) : Calls Try.prog 35 #[.string d, .string ⟨#[239, 187, 191]⟩] w fun e w' => e = .returned (.bool false) ∧ w = w' := by
  by_cases h3 : 3 ≤ d.size
  · have h3' : (3 : Int) ≤ (d.size : Int) := by omega
    go_enter Try.func35, Try.ntmps35
    go_wp2
    go_ret
    exact ⟨ret_bool (extract_ne d h), rfl⟩
  · have h3' : ¬ (3 : Int) ≤ (d.size : Int) := by omega
    go_enter Try.func35, Try.ntmps35
    go_wp2
    go_ret
    exact ⟨rfl, rfl⟩

/-- What the document's Decode holds in its loop. -/
structure RdS (w wr : World) (N : Nat) (bad : Int) (rs ps : List Int) (vr vp : Value) : Prop where
  bel : Below N w wr
  res : wr.heap[N]? = some (.cells #[.int .i64 0, .int .i64 0, .slice none 0 0, .slice none 0 0] 59)
  blk : wr.heap[N + 1]? = some (.cells #[.int .i64 1, .int .i64 bad, vr, vp] 59)
  runes : OwnB Eint 3 (N + 2) wr vr rs
  places : OwnB Eint 3 (N + 2) wr vp ps
  ne : vr.ownBlock = none ∨ vr.ownBlock ≠ vp.ownBlock
section
variable {w wr wx : World} {N : Nat} {bad : Int} {rs ps : List Int} {vr vp : Value}
theorem RdS.lt (h : RdS w wr N bad rs ps vr vp) : N + 1 < wr.heap.size := (Array.getElem?_eq_some_iff.1 h.blk).1
theorem RdS.below (h : RdS w wr N bad rs ps vr vp) (k : Below wr.heap.size wr wx) : RdS w wx N bad rs ps vr vp := by
  have h1 := h.lt
  exact ⟨h.bel.trans (k.mono (by omega)), (k.block _ (by omega)).trans h.res, (k.block _ h1).trans h.blk, h.runes.below k, h.places.below k, h.ne⟩
theorem RdS.start (w : World) (N : Nat) (hN : w.heap.size = N) : RdS w ((w.alloc (.cells #[.int .i64 0, .int .i64 0, .slice none 0 0, .slice none 0 0] 59)).alloc (.cells #[.int .i64 1, .int .i64 0, .slice none 0 0, .slice none 0 0] 59)) N 0 [] [] (.slice none 0 0) (.slice none 0 0) := by
  subst hN
  refine ⟨((Below.refl _ w).alloc (Nat.le_refl _) _).alloc (by simp) _, (Below.heap_alloc _ _ _ (by simp)).trans (heap_alloc_new w _), ?_, OwnB.nil_ (by simp), OwnB.nil_ (by simp), .inl rfl⟩
  have := heap_alloc_new (w.alloc (.cells #[.int .i64 0, .int .i64 0, .slice none 0 0, .slice none 0 0] 59)) (.cells #[.int .i64 1, .int .i64 0, .slice none 0 0, .slice none 0 0] 59)
  simpa using this
theorem newi (w : World) (x : Int) : ∀ j u, (Eint.enc x)[j]? = some u → (w.alloc (.cells #[.int .i64 x] 3)).cell? ((⟨w.heap.size, 0, none⟩ : Addr).add j) = some u := by
  intro j u hj
  rw [add_row, cell_of_row _ _ _ _ _ (0, 0) (heap_alloc_new w _)]
  simpa [Eint] using hj
theorem RdS.swapNe (h : RdS w wr N bad rs ps vr vp) : vp.ownBlock = none ∨ vp.ownBlock ≠ vr.ownBlock := by
  rcases h.ne with h | h
  · cases hv : vp.ownBlock with
    | none => exact .inl rfl
    | some k => right; rw [h]; simp
  · exact .inr (Ne.symm h)
theorem RdS.grown (h : RdS w wr N bad rs ps vr vp) {r : Option Nat} (hg : wr.grownBy wx r) (hr : ∀ k, r = some k → N + 2 ≤ k) : Below N w wx ∧ wx.heap[N]? = some (.cells #[.int .i64 0, .int .i64 0, .slice none 0 0, .slice none 0 0] 59) ∧ wx.heap[N + 1]? = some (.cells #[.int .i64 1, .int .i64 bad, vr, vp] 59) := by
  have h1 := h.lt
  refine ⟨⟨hg.os.trans h.bel.os, hg.tape.trans h.bel.tape, hg.output.trans h.bel.output, Nat.le_trans h.bel.size hg.size, fun k hkk => (hg.block k (by omega) (fun e => by have := hr k e.symm; omega)).trans (h.bel.block k hkk)⟩, ?_, ?_⟩
  · exact (hg.block N (by omega) (fun e => by have := hr N e.symm; omega)).trans h.res
  · exact (hg.block (N + 1) (by omega) (fun e => by have := hr (N + 1) e.symm; omega)).trans h.blk
theorem set_other (wx : World) (b o k : Nat) (u : Value) (h : b ≠ k) : (wx.setCell ⟨b, o, none⟩ u).heap[k]? = wx.heap[k]? := Below.heap_setCell wx ⟨b, o, none⟩ u k (fun e => h e.symm)
theorem RdS.addRune (h : RdS w wr N bad rs ps vr vp) {v' : Value} {x : Int} (ho : OwnB Eint 3 (N + 2) wx v' (rs ++ [x])) (hg : wr.grownBy wx vr.ownBlock) (hat : v'.ownBlock = vr.ownBlock ∨ v'.ownBlock = some wr.heap.size) :
    RdS w (wx.setCell ⟨N + 1, 2, none⟩ v') N bad (rs ++ [x]) ps v' vp := by
  obtain ⟨h1, h2, h3⟩ := h.grown hg (fun k e => (h.runes.lt k e).1)
  refine ⟨h1.setCell (p := ⟨N + 1, 2, none⟩) (by show N ≤ N + 1; omega) _, (set_other _ _ _ _ _ (by omega)).trans h2, ?_, ho.setBelow (a := ⟨N + 1, 2, none⟩) (by show N + 1 < N + 2; omega) _, ?_, ?_⟩
  · simp only [World.setCell, Array.getElem?_modify, if_true, h3, Option.map_some]
    rfl
  · exact (h.places.grown hg h.swapNe).setBelow (a := ⟨N + 1, 2, none⟩) (by show N + 1 < N + 2; omega) _
  · rcases hat with e | e
    · rw [e]; exact h.ne
    · right; rw [e]; intro e'; have := (h.places.lt _ e'.symm).2; omega
theorem RdS.addPlace (h : RdS w wr N bad rs ps vr vp) {v' : Value} {x : Int} (ho : OwnB Eint 3 (N + 2) wx v' (ps ++ [x])) (hg : wr.grownBy wx vp.ownBlock) (hat : v'.ownBlock = vp.ownBlock ∨ v'.ownBlock = some wr.heap.size) :
    RdS w (wx.setCell ⟨N + 1, 3, none⟩ v') N bad rs (ps ++ [x]) vr v' := by
  obtain ⟨h1, h2, h3⟩ := h.grown hg (fun k e => (h.places.lt k e).1)
  refine ⟨h1.setCell (p := ⟨N + 1, 3, none⟩) (by show N ≤ N + 1; omega) _, (set_other _ _ _ _ _ (by omega)).trans h2, ?_, ?_, ho.setBelow (a := ⟨N + 1, 3, none⟩) (by show N + 1 < N + 2; omega) _, ?_⟩
  · simp only [World.setCell, Array.getElem?_modify, if_true, h3, Option.map_some]
    rfl
  · exact (h.runes.grown hg h.ne).setBelow (a := ⟨N + 1, 3, none⟩) (by show N + 1 < N + 2; omega) _
  · rcases hat with e | e
    · rw [e]; exact h.ne
    · rcases hv : vr.ownBlock with _ | k
      · exact .inl rfl
      · right; rw [e]; intro e'; injection e' with e'; have := (h.runes.lt _ hv).2; omega
theorem RdS.setBad (h : RdS w wr N bad rs ps vr vp) (b' : Int) : RdS w (wr.setCell ⟨N + 1, 1, none⟩ (.int .i64 b')) N b' rs ps vr vp := by
  refine ⟨h.bel.setCell (p := ⟨N + 1, 1, none⟩) (by show N ≤ N + 1; omega) _, (set_other _ _ _ _ _ (by omega)).trans h.res, ?_, h.runes.setBelow (a := ⟨N + 1, 1, none⟩) (by show N + 1 < N + 2; omega) _, h.places.setBelow (a := ⟨N + 1, 1, none⟩) (by show N + 1 < N + 2; omega) _, h.ne⟩
  have h3 := h.blk
  simp only [World.setCell, Array.getElem?_modify, if_true, h3, Option.map_some]
  rfl
end

/-- How the document's Decode ends. -/
def RDecEnd (s : ByteArray) (strict : Bool) (w : World) (e : Ending) (w' : World) : Prop :=
  Below w.heap.size w w' ∧ match (if strict then DecP.badAt s.data.toList 0 else none) with
    | some p => e = .returned (.tuple #[.agg #[.int .i64 0, .int .i64 0, .slice none 0 0, .slice none 0 0], .int .i64 17, .int .i64 p])
    | none => ∃ (Ar : Option Addr) (cr : Nat) (Ap : Option Addr) (np cp : Nat) (bad : Int), e = .returned (.tuple #[.agg #[.int .i64 1, .int .i64 bad, .slice Ar (DecP.runes s.data.toList).length cr, .slice Ap np cp], .int .i64 0, .int .i64 0]) ∧ (DecP.runes s.data.toList).length ≤ cr ∧ SeqAt Eint w' w'.heap.size Ar (DecP.runes s.data.toList)

set_option maxRecDepth 100000 in
set_option maxHeartbeats 6400000 in
theorem refDecode_any (s : ByteArray) (strict : Bool) (w : World) (hs : s.size ≤ 100000000) (hm : NoMark s) :
    Calls Try.prog 21 #[.string s, .int .i64 1, .bool strict] w (RDecEnd s strict w) := by
  obtain ⟨N, hN⟩ : ∃ N, w.heap.size = N := ⟨_, rfl⟩
  have HS0 := Lib.hid (RdS.start w N hN)
  have HN := Lib.hid hN
  have HB := Lib.hid fun W => refBegins_any s hm (by omega) W
  clear hN hm
  go_enter Try.func21, Try.ntmps21
  go_upto_region 11 with fail
  rw [HN.out]
  generalize (w.alloc (.cells #[.int .i64 0, .int .i64 0, .slice none 0 0, .slice none 0 0] 59)).alloc (.cells #[.int .i64 1, .int .i64 0, .slice none 0 0, .slice none 0 0] 59) = W at HS0 ⊢
  go_wp2_with (first
    | (go_at_call 36; refine (refMark_any _).mono ?_; rintro e w3 ⟨rfl, hb3⟩; have HS1 := Lib.hid (HS0.out.below hb3); clear hb3)
    | (go_at_call 35; (with_reducible refine (HB.out _).mono ?_); rintro e w4 ⟨rfl, rfl⟩))
  go_loopw [11] (fun s11 wr => ∃ (a : Nat) (bad : Int) (rs ps : List Int) (vr vp : Value), a ≤ s.size ∧ s11 = .int .i64 a ∧ 0 ≤ bad ∧ bad ≤ a ∧ rs.length ≤ a ∧ ps.length ≤ a ∧ Hid (DecP.runes s.data.toList = rs ++ DecP.runes (s.data.toList.drop a)) ∧ Hid (strict = true → DecP.badAt s.data.toList 0 = DecP.badAt (s.data.toList.drop a) a) ∧ Hid (RdS w wr N bad rs ps vr vp)) (fun s11 _ => s.size + 1 - (intOf s11).toNat)
  case atStart => exact ⟨0, 0, [], [], _, _, by omega, rfl, by omega, by omega, by simp, by simp, Lib.hid rfl, Lib.hid (fun _ => rfl), HS1⟩
  case round =>
    obtain ⟨a, bad, rs, ps, vr, vp, ha, rfl, b0, b1, l1, l2, HR, HBd, HS⟩ := hrel
    clear HS0 HS1
    have ha0 : (0 : Int) ≤ (a : Int) := by omega
    by_cases hlt : a < s.size
    · have hlt' : (a : Int) < (s.size : Int) := by omega
      have hne : s.data.toList.drop a ≠ [] := by
        intro e
        have := congrArg List.length e
        rw [List.length_drop, Array.length_toList, List.length_nil] at this
        have h2 : s.data.size = s.size := rfl
        omega
      have hpos := DecP.one_pos _ hne
      rw [List.length_drop, Array.length_toList] at hpos
      have h2 : s.data.size = s.size := rfl
      rw [h2] at hpos
      have hru := DecP.runes_cons hne
      have hbad1 := DecP.badAt_bad (i := a) hne
      have hbad2 := DecP.badAt_good (i := a) hne
      have HOne := Lib.hid fun W => refOne_any s a W (by omega) hlt
      obtain ⟨⟨r, n⟩, hrn⟩ : ∃ p, DecP.one (s.data.toList.drop a) = p := ⟨_, rfl⟩
      rw [hrn] at hpos hru hbad1 hbad2 HOne
      simp only [List.drop_drop] at hru hbad1 hbad2 hpos
      obtain ⟨hn1, hn2⟩ := hpos
      unfold oneV at HOne
      simp only at HOne
      have hR2 := HR.out
      rw [hru] at hR2
      have HR2 := Lib.hid hR2
      have HB1 := Lib.hid hbad1
      have HB2 := Lib.hid hbad2
      have hcT : ∀ o, wr.cell? ⟨N + 1, o, none⟩ = #[Value.int .i64 1, .int .i64 bad, vr, vp][o]? := fun o => Lib.cell_of_heap HS.out.blk o
      have hfT := fun o => Lib.frozen_of_heap HS.out.blk o
      clear hne hru hbad1 hbad2 hrn hR2 h2 HR
      by_cases hv0 : r < 0
      · cases strict
        · go_upto_region 21 with (go_at_call 37; (with_reducible refine (HOne.out _).mono ?_); rintro e w5 ⟨rfl, rfl⟩)
          have HSx := Lib.hid (HS.out.setBad (bad + 1))
          clear HS hcT hfT
          generalize wr.setCell ⟨N + 1, 1, none⟩ (.int .i64 (bad + 1)) = wx at HSx ⊢
          have hcx : ∀ o, wx.cell? ⟨N + 1, o, none⟩ = #[Value.int .i64 1, .int .i64 (bad + 1), vr, vp][o]? := fun o => Lib.cell_of_heap HSx.out.blk o
          have hfx := fun o => Lib.frozen_of_heap HSx.out.blk o
          have hzx := HSx.out.lt
          go_upto_region 22 with (at_builtin; (refine wpList_append_one (E := Eint) (base := N + 2) (l := rs) 65533 ⟨wx.heap.size, 0, none⟩ 1 rfl (.tmp 66) (.tmp 68) 24 rfl 8 elInt rfl (HSx.out.runes.alloc _) rfl (newi wx 65533) (by unfold maxLen; omega) (by omega) ?_); intro v5 w5 ho5 hg5 hat5; have HS4 := Lib.hid (HSx.out.below ((Below.refl _ wx).alloc (Nat.le_refl _) (.cells #[.int .i64 65533] 3))); have hb5 := (HS4.out.grown hg5 (fun k e => (HSx.out.runes.lt k e).1)).2.2; have hc5 := fun o => Lib.cell_of_heap hb5 o; have hz5 := fun o => Lib.frozen_of_heap hb5 o; have HS5 := Lib.hid (HS4.out.addRune ho5 hg5 hat5); obtain ⟨A5, c5, rfl, -, -⟩ := ho5.form; rw [List.length_append, List.length_singleton] at HS5 ⊢; clear hb5 ho5 hg5 hat5)
          clear hc5 hz5 hcx hfx hzx HS4 HSx
          generalize w5.setCell ⟨N + 1, 2, none⟩ (.slice A5 (rs.length + 1) c5) = wy at HS5 ⊢
          have hcy : ∀ o, wy.cell? ⟨N + 1, o, none⟩ = #[Value.int .i64 1, .int .i64 (bad + 1), (.slice A5 (rs.length + 1) c5), vp][o]? := fun o => Lib.cell_of_heap HS5.out.blk o
          have hfy := fun o => Lib.frozen_of_heap HS5.out.blk o
          have hzy := HS5.out.lt
          go_wp2_with (at_builtin; (refine wpList_append_one (E := Eint) (base := N + 2) (l := ps) (a : Int) ⟨wy.heap.size, 0, none⟩ 1 rfl (.tmp 72) (.tmp 74) 24 rfl 8 elInt rfl (HS5.out.places.alloc _) rfl (newi wy a) (by unfold maxLen; omega) (by omega) ?_); intro v6 w6 ho6 hg6 hat6; have HS6 := Lib.hid (HS5.out.below ((Below.refl _ wy).alloc (Nat.le_refl _) (.cells #[.int .i64 a] 3))); have hb6 := (HS6.out.grown hg6 (fun k e => (HS5.out.places.lt k e).1)).2.2; have hc6 := fun o => Lib.cell_of_heap hb6 o; have hz6 := fun o => Lib.frozen_of_heap hb6 o; have HS7 := Lib.hid (HS6.out.addPlace ho6 hg6 hat6); obtain ⟨A6, c6, rfl, -, -⟩ := ho6.form; rw [List.length_append, List.length_singleton] at HS7 ⊢; clear hb6 ho6 hg6 hat6)
          exact ⟨⟨a + n, (bad + 1), rs ++ [65533], ps ++ [(a : Int)], _, _, by omega, by simp, by omega, by omega, by rw [List.length_append, List.length_singleton]; omega, by rw [List.length_append, List.length_singleton]; omega, Lib.hid (by rw [HR2.out, List.append_assoc, List.singleton_append]; unfold DecP.rune; rw [if_pos hv0]), Lib.hid (fun e => by cases e), HS7⟩, by simp only [intOf]; omega⟩
        · have HX : Hid (DecP.badAt s.data.toList 0 = some a) := Lib.hid (by rw [HBd.out rfl]; exact HB1.out hv0)
          have c0 := fun o => Lib.cell_of_heap HS.out.res o
          have f0 := fun o => Lib.frozen_of_heap HS.out.res o
          have hz := HS.out.lt
          go_wp2_with (go_at_call 37; (with_reducible refine (HOne.out _).mono ?_); rintro e w5 ⟨rfl, rfl⟩)
          refine bodyPost_ret (v := .tuple #[.agg #[.int .i64 0, .int .i64 0, .slice none 0 0, .slice none 0 0], .int .i64 17, .int .i64 a]) ?_ ?_ ?_
          · simp [results, Try.results21, go_sem, c0]
          · rfl
          refine ⟨?_, ?_⟩
          · rw [HN.out]
            exact (((HS.out.bel.setCell (p := ⟨N, 0, none⟩) (Nat.le_refl _) _).setCell (p := ⟨N, 1, none⟩) (Nat.le_refl _) _).setCell (p := ⟨N, 2, none⟩) (Nat.le_refl _) _).setCell (p := ⟨N, 3, none⟩) (Nat.le_refl _) _
          · rw [if_pos rfl, HX.out]
      · go_upto_region 21 with (go_at_call 37; (with_reducible refine (HOne.out _).mono ?_); rintro e w5 ⟨rfl, rfl⟩)
        have HSx := HS
        clear HS hcT hfT
        obtain ⟨wx, hwx⟩ : ∃ W5 : World, wr = W5 := ⟨_, rfl⟩
        rw [hwx] at HSx ⊢
        clear hwx
        have hcx : ∀ o, wx.cell? ⟨N + 1, o, none⟩ = #[Value.int .i64 1, .int .i64 bad, vr, vp][o]? := fun o => Lib.cell_of_heap HSx.out.blk o
        have hfx := fun o => Lib.frozen_of_heap HSx.out.blk o
        have hzx := HSx.out.lt
        go_upto_region 22 with (at_builtin; (refine wpList_append_one (E := Eint) (base := N + 2) (l := rs) r ⟨wx.heap.size, 0, none⟩ 1 rfl (.tmp 66) (.tmp 68) 24 rfl 8 elInt rfl (HSx.out.runes.alloc _) rfl (newi wx r) (by unfold maxLen; omega) (by omega) ?_); intro v5 w5 ho5 hg5 hat5; have HS4 := Lib.hid (HSx.out.below ((Below.refl _ wx).alloc (Nat.le_refl _) (.cells #[.int .i64 r] 3))); have hb5 := (HS4.out.grown hg5 (fun k e => (HSx.out.runes.lt k e).1)).2.2; have hc5 := fun o => Lib.cell_of_heap hb5 o; have hz5 := fun o => Lib.frozen_of_heap hb5 o; have HS5 := Lib.hid (HS4.out.addRune ho5 hg5 hat5); obtain ⟨A5, c5, rfl, -, -⟩ := ho5.form; rw [List.length_append, List.length_singleton] at HS5 ⊢; clear hb5 ho5 hg5 hat5)
        clear hc5 hz5 hcx hfx hzx HS4 HSx
        generalize w5.setCell ⟨N + 1, 2, none⟩ (.slice A5 (rs.length + 1) c5) = wy at HS5 ⊢
        have hcy : ∀ o, wy.cell? ⟨N + 1, o, none⟩ = #[Value.int .i64 1, .int .i64 bad, (.slice A5 (rs.length + 1) c5), vp][o]? := fun o => Lib.cell_of_heap HS5.out.blk o
        have hfy := fun o => Lib.frozen_of_heap HS5.out.blk o
        have hzy := HS5.out.lt
        go_wp2_with (at_builtin; (refine wpList_append_one (E := Eint) (base := N + 2) (l := ps) (a : Int) ⟨wy.heap.size, 0, none⟩ 1 rfl (.tmp 72) (.tmp 74) 24 rfl 8 elInt rfl (HS5.out.places.alloc _) rfl (newi wy a) (by unfold maxLen; omega) (by omega) ?_); intro v6 w6 ho6 hg6 hat6; have HS6 := Lib.hid (HS5.out.below ((Below.refl _ wy).alloc (Nat.le_refl _) (.cells #[.int .i64 a] 3))); have hb6 := (HS6.out.grown hg6 (fun k e => (HS5.out.places.lt k e).1)).2.2; have hc6 := fun o => Lib.cell_of_heap hb6 o; have hz6 := fun o => Lib.frozen_of_heap hb6 o; have HS7 := Lib.hid (HS6.out.addPlace ho6 hg6 hat6); obtain ⟨A6, c6, rfl, -, -⟩ := ho6.form; rw [List.length_append, List.length_singleton] at HS7 ⊢; clear hb6 ho6 hg6 hat6)
        exact ⟨⟨a + n, bad, rs ++ [r], ps ++ [(a : Int)], _, _, by omega, by simp, by omega, by omega, by rw [List.length_append, List.length_singleton]; omega, by rw [List.length_append, List.length_singleton]; omega, Lib.hid (by rw [HR2.out, List.append_assoc, List.singleton_append]; unfold DecP.rune; rw [if_neg (show ¬ r < 0 by omega)]), Lib.hid (fun e => by rw [HBd.out e]; exact HB2.out (by omega)), HS7⟩, by simp only [intOf]; omega⟩
    · obtain rfl : a = s.size := by omega
      have hlt' : ¬ (s.size : Int) < (s.size : Int) := by omega
      have hdrop : s.data.toList.drop s.size = [] := List.drop_of_length_le (by rw [Array.length_toList]; exact Nat.le_refl _)
      have hR2 := HR.out
      rw [hdrop, DecP.runes_nil, List.append_nil] at hR2
      have HRR := Lib.hid hR2
      have HX : Hid ((if strict then DecP.badAt s.data.toList 0 else none) = none) := Lib.hid (by
        cases strict
        · rfl
        · rw [if_pos rfl, HBd.out rfl, hdrop, DecP.badAt_nil])
      obtain ⟨Ar, cr, rfl, hr1, -⟩ := HS.out.runes.form
      have hcy : ∀ o, wr.cell? ⟨N + 1, o, none⟩ = #[Value.int .i64 1, .int .i64 bad, .slice Ar rs.length cr, vp][o]? := fun o => Lib.cell_of_heap HS.out.blk o
      have hfy := fun o => Lib.frozen_of_heap HS.out.blk o
      have hzy := HS.out.lt
      clear hdrop hR2 HR HBd
      go_upto_region 25 with (at_builtin; (refine wpList_append_one (E := Eint) (base := N + 2) (l := ps) (s.size : Int) ⟨wr.heap.size, 0, none⟩ 1 rfl (.tmp 81) (.tmp 84) 24 rfl 8 elInt rfl (HS.out.places.alloc _) rfl (newi wr s.size) (by unfold maxLen; omega) (by omega) ?_); intro v6 w6 ho6 hg6 hat6; have HS6 := Lib.hid (HS.out.below ((Below.refl _ wr).alloc (Nat.le_refl _) (.cells #[.int .i64 s.size] 3))); have hb6 := (HS6.out.grown hg6 (fun k e => (HS.out.places.lt k e).1)).2.2; have hc6 := fun o => Lib.cell_of_heap hb6 o; have hz6 := fun o => Lib.frozen_of_heap hb6 o; have HS7 := Lib.hid (HS6.out.addPlace ho6 hg6 hat6); obtain ⟨A6, c6, rfl, -, -⟩ := ho6.form; rw [List.length_append, List.length_singleton] at HS7 ⊢; clear hb6 ho6 hg6 hat6)
      clear hc6 hz6 hcy hfy hzy HS6 HS
      generalize w6.setCell ⟨N + 1, 3, none⟩ (.slice A6 (ps.length + 1) c6) = wy at HS7 ⊢
      have hcy : ∀ o, wy.cell? ⟨N + 1, o, none⟩ = #[Value.int .i64 1, .int .i64 bad, .slice Ar rs.length cr, .slice A6 (ps.length + 1) c6][o]? := fun o => Lib.cell_of_heap HS7.out.blk o
      have hcz : ∀ o, wy.cell? ⟨N, o, none⟩ = #[Value.int .i64 0, .int .i64 0, .slice none 0 0, .slice none 0 0][o]? := fun o => Lib.cell_of_heap HS7.out.res o
      have hfz := fun o => Lib.frozen_of_heap HS7.out.res o
      have hzy := HS7.out.lt
      have HFin : Hid (∀ (u0 u1 u2 u3 : Value), Below w.heap.size w ((((wy.setCell ⟨N, 0, none⟩ u0).setCell ⟨N, 1, none⟩ u1).setCell ⟨N, 2, none⟩ u2).setCell ⟨N, 3, none⟩ u3) ∧ SeqAt Eint ((((wy.setCell ⟨N, 0, none⟩ u0).setCell ⟨N, 1, none⟩ u1).setCell ⟨N, 2, none⟩ u2).setCell ⟨N, 3, none⟩ u3) ((((wy.setCell ⟨N, 0, none⟩ u0).setCell ⟨N, 1, none⟩ u1).setCell ⟨N, 2, none⟩ u2).setCell ⟨N, 3, none⟩ u3).heap.size Ar rs) := Lib.hid fun u0 u1 u2 u3 => by
        refine ⟨by rw [HN.out]; exact (((HS7.out.bel.setCell (p := ⟨N, 0, none⟩) (Nat.le_refl _) _).setCell (p := ⟨N, 1, none⟩) (Nat.le_refl _) _).setCell (p := ⟨N, 2, none⟩) (Nat.le_refl _) _).setCell (p := ⟨N, 3, none⟩) (Nat.le_refl _) _, ?_⟩
        have hlt : ∀ o, (⟨N, o, none⟩ : Addr).block < N + 2 := fun o => by show N < N + 2; omega
        have h := (((HS7.out.runes.setBelow (hlt 0) u0).setBelow (hlt 1) u1).setBelow (hlt 2) u2).setBelow (hlt 3) u3
        exact h.seq
      go_wp2
      refine bodyPost_ret (v := .tuple #[.agg #[.int .i64 1, .int .i64 bad, .slice Ar rs.length cr, .slice A6 (ps.length + 1) c6], .int .i64 0, .int .i64 0]) ?_ ?_ ?_
      · simp [results, Try.results21, go_sem, hcz]
      · rfl
      refine ⟨(HFin.out _ _ _ _).1, ?_⟩
      rw [HX.out]
      refine ⟨Ar, cr, A6, ps.length + 1, c6, bad, ?_, ?_, ?_⟩
      · rw [HRR.out]
      · rw [HRR.out]; exact hr1
      · rw [HRR.out]; exact (HFin.out _ _ _ _).2

end Go.Proofs.Ytemcflfgoelpiaa
