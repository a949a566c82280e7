/- Chapter 25: the walk of the law ArgsShows. -/
import Derived.Test.YtgekkhkmgfbcdaaDoorArgsRefShow
import Derived.Test.YtgekkhkmgfbcdaaDoorArgsParLawB
namespace Go.Proofs.YtgekkhkmgfbcdaaDoor
open Go.Shelf Go.RowKit

theorem setRow_alloc (w : World) (z c : Array Value) (t : TypeId) : (w.alloc (.cells z t)).setRow w.heap.size c = w.alloc (.cells c t) := by
  unfold World.setRow World.alloc
  congr 1
  refine Array.ext (by simp) (fun i h1 h2 => ?_)
  rw [Array.getElem_modify]
  by_cases hi : w.heap.size = i
  · subst hi; simp
  · rw [if_neg hi, Array.getElem_push_lt (by simp at h1; omega), Array.getElem_push_lt (by simp at h1; omega)]
theorem wpList_store_new {P : Program} {ops : Array Oper} {rest : List Oper} {o : Oper} {a : Act} {w : World} {Q : Exit → Act → World → Prop} (hgd : o.guard = none) (ty : TypeId) (x y : Operand) (ho : o.op = .store ty x y)
    (z cells : Array Value) (hx : a.eval x = .pointer (some ⟨w.heap.size, 0, none⟩)) (hy : a.eval y = .agg cells)
    (t : TypeId) (hi : (P.info? ty).map (·.size) = some cells.size) (hz : z.size = cells.size) (h1 : cells.all (·.oneCell') = true)
    (h : wpList P ops Q rest (a.put o.dst undef) (w.alloc (.cells cells t))) : wpList P ops Q (o :: rest) a (w.alloc (.cells z t)) :=
  wpList_store_row hgd ty x y ho w.heap.size cells hx hy t z (heap_alloc_new w _) hi hz h1 (by rw [setRow_alloc]; exact h)

theorem lawInfo : (Tryd.prog.info? 50).map (·.size) = some 18 := by kernel_rfl
/-- The text of values is not too long. -/
def Bound (vs : List Value) : Prop := ∀ j, 15 ≤ j → j < 18 → ∀ s, vs[j]? = some (.string s) → s.size ≤ 140737488355328
theorem packL_len (l : List ByteArray) : (ArgsP.packL (txt l)).length ≤ l.length * 10000008 := by
  induction l with
  | nil => simp [txt, ArgsP.packL]
  | cons x l ih =>
    show (if x.data.toList.length ≤ 9999999 then ArgsP.packOne x.data.toList ++ ArgsP.packL (txt l) else []).length ≤ _
    rw [len_bytes]
    split
    · rename_i h
      have := digits_few h
      unfold ArgsP.packOne
      simp only [List.length_append, List.length_cons, List.length_nil, len_bytes, Nat.add_mul]
      omega
    · exact Nat.zero_le _
theorem itoa_len (n : Int) (h1 : -9223372036854775808 ≤ n) (h2 : n ≤ 9223372036854775807) : (Lib.itoa n).length ≤ 20 := by
  have hl : (Lib.decDigits n.natAbs).length ≤ 19 := ArgsP.dec_len_le (by decide) (by omega)
  unfold Lib.itoa
  split
  · simp only [List.length_cons]
    omega
  · rename_i hn
    rw [show n.toNat = n.natAbs by omega]
    omega
theorem Typed.sizes {vs : List Value} (h : Typed vs) (hI : Ints vs) (hb : Bound vs) : ∀ j, j < 18 → (valS (vs.getD j undef)).size ≤ 140737488355328 := by
  intro j hj
  have hg : ∀ v, vs[j]? = some v → vs.getD j undef = v := fun v e => by rw [List.getD_eq_getElem?_getD, e]; rfl
  by_cases h5 : j < 5
  · obtain ⟨n, hn⟩ := (h.2 j hj).1 h5
    rw [hg _ hn]
    unfold valS
    simp only
    split
    · exact Nat.zero_le _
    · rw [bytesOf_size]
      have := itoa_len n (hI j h5 n hn).1 (hI j h5 n hn).2
      omega
  · by_cases h15 : j < 15
    · obtain ⟨b, hb⟩ := (h.2 j hj).2.1 (by omega) h15
      rw [hg _ hb]
      cases b
      · exact Nat.zero_le _
      · show (3 : Nat) ≤ _; omega
    · obtain ⟨s, hs⟩ := (h.2 j hj).2.2 (by omega)
      rw [hg _ hs]
      exact hb j (by omega) hj s hs
theorem show_len (vs : List Value) : (showT vs).length ≤ 400000000 := by
  have := packL_len (prsOf vs (jsOf vs 18))
  have hl : (prsOf vs (jsOf vs 18)).length ≤ 36 := by rw [prsOf_len]; have := jsOf_len vs 18; omega
  have : (prsOf vs (jsOf vs 18)).length * 10000008 ≤ 36 * 10000008 := Nat.mul_le_mul_right _ hl
  show (ArgsP.packL (txt (prsOf vs (jsOf vs 18)))).length ≤ _
  omega
/-- The texts are not too long. -/
def ShortT (vs : List Value) : Prop := ∀ j, j < 3 → ∀ s, vs[15 + j]? = some (.string s) → s.size ≤ 9999999
theorem Typed.short {vs : List Value} (h : Typed vs) (hI : Ints vs) (hs : ShortT vs) : Short vs := by
  intro j hj
  have hg : ∀ v, vs[j]? = some v → vs.getD j undef = v := fun v e => by rw [List.getD_eq_getElem?_getD, e]; rfl
  by_cases h5 : j < 5
  · obtain ⟨n, hn⟩ := (h.2 j hj).1 h5
    rw [hg _ hn]
    unfold valS
    simp only
    split
    · exact Nat.zero_le _
    · rw [bytesOf_size]
      have := itoa_len n (hI j h5 n hn).1 (hI j h5 n hn).2
      omega
  · by_cases h15 : j < 15
    · obtain ⟨b, hb⟩ := (h.2 j hj).2.1 (by omega) h15
      rw [hg _ hb]
      cases b
      · exact Nat.zero_le _
      · show (3 : Nat) ≤ _; omega
    · obtain ⟨s, hs'⟩ := (h.2 j hj).2.2 (by omega)
      rw [hg _ hs']
      obtain ⟨k, rfl⟩ : ∃ k, j = 15 + k := ⟨j - 15, by omega⟩
      exact hs k (by omega) s hs'

/-- What the walk asks of the values, each hidden. -/
structure ShowFacts (vs : List Value) (c17 c18 : Array Value) (z q : ByteArray) : Prop where
  opt : ∀ w, Calls Tryd.prog 15 #[.agg c18] w fun e w' => e = .returned (.agg c17) ∧ Below w.heap.size w w'
  eq : ∀ w, (binOp .eql 39 (.agg c17) (.agg c17)).run Tryd.prog w = .ok (.bool true) w
  sh : ∀ w, Base w → Calls Tryd.prog 16 #[.agg c17, .string z] w fun e w' => e = .returned (.string q) ∧ Below w.heap.size w w'
  rf : ∀ w, Calls Tryd.prog 17 #[.agg c18] w fun e w' => e = .returned (.string q) ∧ Below w.heap.size w w'
  s17 : c17.size = 17
  s18 : c18.size = 18
  o17 : c17.all (·.oneCell') = true
  o18 : c18.all (·.oneCell') = true
  zat : c18[17]? = some (.string z)
  nat : ∀ j, j < 5 → ∃ n : Int, c18[j]? = some (.int .i64 n) ∧ vs[j]? = some (.int .i64 n) ∧ -9223372036854775808 ≤ n ∧ n ≤ 9223372036854775807
  tat : ∀ j, j < 3 → ∃ s : ByteArray, c18[15 + j]? = some (.string s) ∧ vs[15 + j]? = some (.string s) ∧ s.size ≤ 140737488355328
  back : Small vs → ShortT vs → ∀ w, Base w → 4 ≤ w.heap.size → Calls Tryd.prog 13 #[.string q] w fun e w' => e = .returned (.tuple #[.agg c17, .string z, .agg #[.int .i64 0, .int .i64 0]]) ∧ Below w.heap.size w w'
theorem show_facts {vs : List Value} (hT : Typed vs) (hI : Ints vs) (hb : Bound vs) : ∃ z, ShowFacts vs (optC vs).toArray vs.toArray z (bytesOf (showT vs)) := by
  have hz := hT.sizes hI hb
  have hl := show_len vs
  obtain ⟨n0, n1, n2, n3, n4, b0, b1, b2, b3, b4, b5, b6, b7, b8, b9, t0, t1, t2, hvs⟩ := hT.lit
  have hsh : vs.getD 17 undef = .string t2 := by rw [hvs]; rfl
  have hin : ∀ j, j < 5 → ∃ n : Int, vs.toArray[j]? = some (.int .i64 n) ∧ vs[j]? = some (.int .i64 n) ∧ -9223372036854775808 ≤ n ∧ n ≤ 9223372036854775807 := by
    intro j hj
    obtain ⟨n, hn⟩ := (hT.2 j (by omega)).1 hj
    exact ⟨n, by rw [List.getElem?_toArray]; exact hn, hn, (hI j hj n hn).1, (hI j hj n hn).2⟩
  have hta : ∀ j, j < 3 → ∃ s : ByteArray, vs.toArray[15 + j]? = some (.string s) ∧ vs[15 + j]? = some (.string s) ∧ s.size ≤ 140737488355328 := by
    intro j hj
    obtain ⟨s, hs⟩ := (hT.2 (15 + j) (by omega)).2.2 (by omega)
    exact ⟨s, by rw [List.getElem?_toArray]; exact hs, hs, hb (15 + j) (by omega) (by omega) s hs⟩
  have hone : Ones vs := by
    rw [hvs]
    intro v hv
    simp only [List.mem_cons, List.not_mem_nil, or_false] at hv
    rcases hv with rfl | rfl | rfl | rfl | rfl | rfl | rfl | rfl | rfl | rfl | rfl | rfl | rfl | rfl | rfl | rfl | rfl | rfl <;> rfl
  have hbk : Small vs → ShortT vs → ∀ w, Base w → 4 ≤ w.heap.size → Calls Tryd.prog 13 #[.string (bytesOf (showT vs))] w fun e w' => e = .returned (.tuple #[.agg (optC vs).toArray, .string t2, .agg #[.int .i64 0, .int .i64 0]]) ∧ Below w.heap.size w w' := by
    intro hs hst w hB h4
    obtain ⟨vs', code, at_, _, hp, hP, _⟩ := parse_both (bytesOf (showT vs)) (by rw [bytesOf_size]; omega)
    rw [bytesOf_list, parse_show hT hs (hT.short hI hst)] at hp
    injection hp with hp1 hp2
    injection hp2 with hp2 hp3
    subst hp1 hp2 hp3
    have := hP w hB h4
    unfold RetParse at this
    rw [hsh] at this
    exact this
  refine ⟨t2, ?_, ?_, fun w hB => show_any hT hI t2 hsh w hB hz (by omega), fun w => refShow_any hT hI w (by omega), by simp [optC, permN], by rw [List.size_toArray]; exact hT.1, all_oneCell_toArray (hone.opt hT.1), all_oneCell_toArray hone, by rw [hvs]; rfl, hin, hta, hbk⟩
  · rw [hvs]; exact fun w => options_any n0 n1 n2 n3 n4 b0 b1 b2 b3 b4 b5 b6 b7 b8 b9 t0 t1 t2 w
  · rw [hvs]; exact fun w => eql_opt n0 n1 n2 n3 n4 b0 b1 b2 b3 b4 b5 b6 b7 b8 b9 t0 t1 w

end Go.Proofs.YtgekkhkmgfbcdaaDoor
