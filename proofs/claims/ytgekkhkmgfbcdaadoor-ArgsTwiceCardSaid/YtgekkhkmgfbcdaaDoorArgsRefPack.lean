/- Chapter 25: the walk of the document's Pack. -/
import Derived.Test.YtgekkhkmgfbcdaaDoorArgsDec
import Derived.Lib.AppendStr
namespace Go.Proofs.YtgekkhkmgfbcdaaDoor
open Go.Shelf Go.RowKit

theorem flat_bI (l : List UInt8) : (bI l).flatMap Ebyte.enc = Lib.byteCells l := by
  induction l with
  | nil => rfl
  | cons c l ih => show _ :: (bI l).flatMap Ebyte.enc = _; rw [ih]; rfl
theorem bI_len (l : List UInt8) : (bI l).length = l.length := by simp [bI]
theorem bI_app (a b : List UInt8) : bI (a ++ b) = bI a ++ bI b := by simp [bI]
theorem strCells_bytes (s : ByteArray) : Lib.strCells s = Lib.byteCells s.data.toList := by simp [Lib.strCells, Lib.byteCells]

/-- 'b = append(b, s...)', b a row of bytes of the call's own, s a text. -/
theorem wpList_append_txt {w0 w : World} {v : Value} {l : List UInt8} {ops : Array Oper} {rest : List Oper} {o : Oper} {a : Act} {Q : Exit → Act → World → Prop} (hgd : o.guard = none) (sl x : Operand)
    (ho : o.op = .call { callee := .builtin .append, args := #[sl, x], argTypes := #[58, 9] }) (hs : a.eval sl = v) (hown : Own Ebyte 5 w0 w v (bI l)) (s : ByteArray) (hx : a.eval x = .string s)
    (hbytes : l.length + s.size ≤ 140737488355328)
    (h : ∀ v' w', Own Ebyte 5 w0 w' v' (bI (l ++ s.data.toList)) → w.grownBy w' v.ownBlock → wpList Tryd.prog ops Q rest (a.put o.dst v') w') : wpList Tryd.prog ops Q (o :: rest) a w := by
  obtain ⟨i, hi, hz0, hz1, hz2⟩ := byte_info
  have h1 := hown.1
  rw [flat_bI, bI_len] at h1
  refine Lib.wpList_append_own_string w hgd sl x 58 9 ho w0.heap.size 5 i Tryd.underlying58 Tryd.underlying9 hi hz0 hz1 hz2 v l.length (Lib.byteCells l) hs h1 s hx (by unfold maxLen; omega) hbytes hown.2.size ?_
  intro v' w' h2 hg _
  refine h v' w' ⟨?_, hown.2.grown hg hown.2.size (fun k hk => (h1.lt k hk).1)⟩ hg
  rw [flat_bI, bI_len]
  have e : Lib.byteCells (l ++ s.data.toList) = Lib.byteCells l ++ Lib.strCells s := by rw [strCells_bytes]; simp [Lib.byteCells]
  rw [e, List.length_append, len_bytes]
  exact h2

theorem conv_bytes {w0 w : World} {v : Value} {l : List UInt8} (h : Own Ebyte 5 w0 w v (bI l)) : (convert 58 9 v).run Tryd.prog w = .ok (.string (bytesOf l)) w := by
  rw [← str_bI]; exact conv_own h

set_option maxRecDepth 100000 in
set_option maxHeartbeats 1000000 in
theorem refPack_any (A : Option Addr) (c : Nat) (l : List ByteArray) (w : World) (B : Nat) (hA : SeqAt Estr w B A l) (hB : B ≤ w.heap.size) (hl : l.length ≤ 8796093022208) (hbig : (ArgsP.packL (txt l)).length ≤ 140737488355328) :
    Calls Tryd.prog 10 #[.slice A l.length c] w (RetTxt (ArgsP.packL (txt l)) w) := by
  have HA := Lib.hid hA
  have HB := Lib.hid hbig
  obtain ⟨n, hn⟩ : ∃ n, l.length = n := ⟨_, rfl⟩
  have HL := Lib.hid hn
  rw [hn] at hl ⊢
  clear hA hn hbig
  go_enter Tryd.func10, Tryd.ntmps10
  go_wp2
  go_loopw [3, 4] (fun v i wr => ∃ (k : Nat) (acc : List UInt8), i = .int .i64 k ∧ k ≤ n ∧ Own Ebyte 5 w wr v (bI acc) ∧ Hid (ArgsP.packL (txt l) = acc ++ ArgsP.packL (txt (l.drop k)))) (fun _ i _ => n - (intOf i).toNat)
  case atStart => exact ⟨0, [], rfl, by omega, Own.nil_ w, Lib.hid rfl⟩
  case round =>
    obtain ⟨k, acc, rfl, hk, hO, HU⟩ := hrel
    by_cases hlt : k < n
    · obtain ⟨b, off, rfl, hbB, hcs⟩ := (HA.out.below (hO.2.mono hB)).strs_ (by rw [HL.out]; omega)
      have hc0 := hcs k (by rw [HL.out]; exact hlt)
      clear hcs
      obtain ⟨x, hx⟩ : ∃ x, l.getD k ⟨#[]⟩ = x := ⟨_, rfl⟩
      rw [hx] at hc0
      by_cases hs : x.size ≤ 9999999
      · have HS := Lib.hid (pack_step HU.out (by rw [HL.out]; exact hlt) hx hs)
        have hfit : (acc ++ Lib.decDigits x.size ++ [58] ++ x.data.toList ++ [44]).length ≤ 140737488355328 := by
          have := HB.out; rw [HS.out, List.length_append] at this; omega
        simp only [List.length_append, List.length_singleton, len_bytes] at hfit
        clear hx
        have hd := digits_few hs
        have HI := Lib.hid (show bytesOf (Lib.itoa (x.size : Int)) = bytesOf (Lib.decDigits x.size) by rw [Lib.itoa_nonneg])
        have hbw : b < w.heap.size := by omega
        have hsx : (x.size : Int) < 10000000 := by omega
        go_wp2_with fail
        refine (decimal_any _ _ (by omega) (by omega)).mono ?_
        rintro e w1 ⟨rfl, hb1⟩
        rw [HI.out]
        have hO1 := hO.below hb1
        go_upto_region 6 with (at_builtin; (refine wpList_append_txt (l := acc) rfl (.tmp 19) (.tmp 25) rfl rfl hO1 _ rfl (by rw [bytesOf_size]; omega) ?_); intro v2 w2 hO2 hg2)
        rw [bytesOf_list] at hO2
        obtain ⟨l2, hl2⟩ : ∃ l2, acc ++ Lib.decDigits x.size = l2 := ⟨_, rfl⟩
        rw [hl2] at hO2 HS
        have hn2 : l2.length = acc.length + (Lib.decDigits x.size).length := by rw [← hl2, List.length_append]
        have HN2 := Lib.hid hn2
        clear hn2 hl2
        have hc2 := (hO2.2.cell (p := ⟨b, off + k, none⟩) hbw).trans ((hO.2.cell (p := ⟨b, off + k, none⟩) hbw).symm.trans hc0)
        clear hc0
        go_upto_region 7 with (at_builtin; (refine wpList_append_seq _ rfl (.tmp 27) (.tmp 28) 58 rfl 1 elByte rfl (hO2.alloc _) 1 rfl (SeqAt.new (E := Ebyte) _ [58] 5) rfl ?c3 ?c4 ?_))
        case c3 => rw [bI_len, HN2.out]; simp only [maxLen]; omega
        case c4 => rw [bI_len, HN2.out]; omega
        intro v3 w3 hO3 hg3
        rw [show bI l2 ++ [58] = bI (l2 ++ [58]) by rw [bI_app]; rfl] at hO3
        obtain ⟨l3, hl3⟩ : ∃ l3, l2 ++ [58] = l3 := ⟨_, rfl⟩
        rw [hl3] at hO3 HS
        have HN3 := Lib.hid (show l3.length = acc.length + (Lib.decDigits x.size).length + 1 by rw [← hl3, List.length_append, HN2.out]; rfl)
        clear hl3
        have hc3 := (hO3.2.cell (p := ⟨b, off + k, none⟩) hbw).trans ((hO2.2.cell (p := ⟨b, off + k, none⟩) hbw).symm.trans hc2)
        clear hc2
        go_upto_region 8 with (at_builtin; (refine wpList_append_txt (l := l3) rfl (.tmp 30) (.tmp 34) rfl rfl hO3 _ rfl (by rw [HN3.out]; omega) ?_); intro v4 w4 hO4 hg4)
        obtain ⟨l4, hl4⟩ : ∃ l4, l3 ++ x.data.toList = l4 := ⟨_, rfl⟩
        rw [hl4] at hO4 HS
        have HN4 := Lib.hid (show l4.length = acc.length + (Lib.decDigits x.size).length + 1 + x.size by rw [← hl4, List.length_append, HN3.out, len_bytes])
        clear hl4
        go_wp2_with (at_builtin; (refine wpList_append_seq _ rfl (.tmp 36) (.tmp 37) 58 rfl 1 elByte rfl (hO4.alloc _) 1 rfl (SeqAt.new (E := Ebyte) _ [44] 5) rfl ?c5 ?c6 ?_))
        case c5 => rw [bI_len, HN4.out]; simp only [maxLen]; omega
        case c6 => rw [bI_len, HN4.out]; omega
        intro v5 w5 hO5 hg5
        rw [show bI l4 ++ [44] = bI (l4 ++ [44]) by rw [bI_app]; rfl] at hO5
        go_wp2
        go_roundw
        case rel => exact ⟨k + 1, _, by go_num, by omega, hO5, Lib.hid HS.out⟩
        case measure => simp [intOf]; omega
      · have HE := Lib.hid (pack_stop HU.out (by rw [HL.out]; exact hlt) hx (by omega))
        have hsx : ¬ (x.size : Int) < 10000000 := by omega
        have hcv := conv_bytes hO
        clear hx
        go_wp2
        go_ret
        exact ⟨by rw [HE.out]; rfl, hO.2⟩
    · have HE := Lib.hid (pack_end HU.out (by rw [HL.out]; omega))
      have hcv := conv_bytes hO
      go_wp2
      go_ret
      exact ⟨by rw [HE.out]; rfl, hO.2⟩

end Go.Proofs.YtgekkhkmgfbcdaaDoor
