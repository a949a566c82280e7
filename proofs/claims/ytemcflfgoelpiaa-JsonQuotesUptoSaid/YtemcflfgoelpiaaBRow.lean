/- A row of bytes of the call's own: texts and bytes put behind it, and the text that it becomes. -/
import Derived.Test.YtemcflfgoelpiaaLib
import Derived.Test.YtemcflfgoelpiaaEncL
import Derived.Test.YtemcflfgoelpiaaBuild
import Derived.Lib.AppendStr
namespace Go.Proofs.Ytemcflfgoelpiaa
open Go.Shelf Go.RowKit

/-- Bytes as numbers. -/
def nI (l : List UInt8) : List Int := l.map fun c => (c.toNat : Int)
theorem nI_len (l : List UInt8) : (nI l).length = l.length := by simp [nI]
theorem nI_app (a b : List UInt8) : nI (a ++ b) = nI a ++ nI b := by simp [nI]
theorem flat_nI (l : List UInt8) : (nI l).flatMap Ebyte.enc = Lib.byteCells l := by
  induction l with
  | nil => rfl
  | cons c l ih => show _ :: (nI l).flatMap Ebyte.enc = _; rw [ih]; rfl
theorem strOf_nI (l : List UInt8) : strOfNums (nI l) = ⟨l.toArray⟩ := by
  unfold strOfNums nI
  rw [List.map_map]
  congr 1
  have : l.map ((fun n : Int => UInt8.ofNat n.toNat) ∘ fun c : UInt8 => (c.toNat : Int)) = l.map id := List.map_congr_left fun c _ => by
    show UInt8.ofNat ((c.toNat : Int).toNat) = c
    rw [Int.toNat_natCast, UInt8.ofNat_toNat]
  rw [this, List.map_id]
def BRow (base : Nat) (w : World) (v : Value) (l : List UInt8) : Prop := OwnB Ebyte 5 base w v (nI l)
section
variable {base : Nat} {w w' : World} {v : Value} {l : List UInt8}
theorem BRow.form (h : BRow base w v l) : ∃ A c, v = .slice A l.length c ∧ l.length ≤ c ∧ c ≤ maxLen := by
  obtain ⟨A, c, h1, h2, h3⟩ := OwnB.form h
  rw [nI_len] at h1 h2
  exact ⟨A, c, h1, h2, h3⟩
theorem BRow.below (h : BRow base w v l) (k : Below w.heap.size w w') : BRow base w' v l := OwnB.below h k
theorem BRow.alloc (h : BRow base w v l) (o : Obj) : BRow base (w.alloc o) v l := OwnB.alloc h o
theorem BRow.lt (h : BRow base w v l) : ∀ k, v.ownBlock = some k → base ≤ k ∧ k < w.heap.size := OwnB.lt h
theorem BRow.nil_ (h : base ≤ w.heap.size) : BRow base w (.slice none 0 0) [] := OwnB.nil_ h
/-- A fresh row of these bytes. -/
theorem BRow.lit (w : World) (l : List UInt8) (g : Nat) (hg : w.heap.size = g) (hb : base ≤ g) (hm : l.length ≤ maxLen) : BRow base (w.alloc (.cells (Lib.byteCells l).toArray 5)) (.slice (some ⟨g, 0, none⟩) l.length l.length) l := by
  subst hg
  refine ⟨?_, by simp; omega⟩
  have h := World.ownsRow_lit (e := 5) (size := 1) (base := base) w (Lib.byteCells l).toArray l.length hb hm (by simp [Lib.byteCells])
  rw [flat_nI, nI_len]
  rw [List.toList_toArray] at h
  exact h
theorem BRow.grown {v' : Value} {m : List Int} (k : OwnB Ebyte 5 base w' v' (nI l ++ m)) {l' : List UInt8} (hm : m = nI l') : BRow base w' v' (l ++ l') := by
  unfold BRow
  rw [nI_app, ← hm]
  exact k
/-- 'b = append(b, s...)', s a text. -/
theorem wpList_append_brow {ops : Array Oper} {rest : List Oper} {o : Oper} {a : Act} {Q : Exit → Act → World → Prop} (hgd : o.guard = none) (sl x : Operand)
    (ho : o.op = .call { callee := .builtin .append, args := #[sl, x], argTypes := #[46, 9] }) (hs : a.eval sl = v) (hown : BRow base w v l) (s : ByteArray) (hx : a.eval x = .string s)
    (hbytes : l.length + s.size ≤ 140737488355328)
    (h : ∀ v' w', BRow base w' v' (l ++ s.data.toList) → w.grownBy w' v.ownBlock → wpList Try.prog ops Q rest (a.put o.dst v') w') : wpList Try.prog ops Q (o :: rest) a w := by
  obtain ⟨i, hi, hz0, hz1, hz2⟩ := byte_info
  have h1 := hown.1
  rw [flat_nI, nI_len] at h1
  refine Lib.wpList_append_own_string w hgd sl x 46 9 ho base 5 i Try.underlying46 Try.underlying9 hi hz0 hz1 hz2 v l.length (Lib.byteCells l) hs h1 s hx (by unfold maxLen; omega) hbytes hown.2 ?_
  intro v' w' h2 hg _
  refine h v' w' ⟨?_, Nat.le_trans hown.2 hg.size⟩ hg
  rw [flat_nI, nI_len]
  have e : Lib.byteCells (l ++ s.data.toList) = Lib.byteCells l ++ Lib.strCells s := by simp [Lib.byteCells, Lib.strCells]
  rw [e, List.length_append, Array.length_toList]
  exact h2
/-- 'b = append(b, x, y, ..)': the bytes lie in a fresh block. -/
theorem wpList_append_bytes {ops : Array Oper} {rest : List Oper} {o : Oper} {a : Act} {Q : Exit → Act → World → Prop} (m : List UInt8) (W : World) (hW : w = W.alloc (.cells (Lib.byteCells m).toArray 5)) (hgd : o.guard = none) (sl x : Operand)
    (ho : o.op = .call { callee := .builtin .append, args := #[sl, x], argTypes := #[46, 46] }) (hs : a.eval sl = v) (hown : BRow base W v l) (k : Nat) (hk : m.length = k) (hx : a.eval x = .slice (some ⟨W.heap.size, 0, none⟩) k k)
    (hbytes : l.length + k ≤ 140737488355328)
    (h : ∀ v' w', BRow base w' v' (l ++ m) → w.grownBy w' v.ownBlock → wpList Try.prog ops Q rest (a.put o.dst v') w') : wpList Try.prog ops Q (o :: rest) a w := by
  subst hW
  have hseq : SeqAt Ebyte (W.alloc (.cells (Lib.byteCells m).toArray 5)) (W.heap.size + 1) (some ⟨W.heap.size, 0, none⟩) (nI m) := by
    have := SeqAt.new (E := Ebyte) W (nI m) 5
    rw [flat_nI] at this
    exact this
  refine wpList_append_seqB _ hgd sl x 46 ho 1 elByte hs (hown.alloc _) k hx hseq (by rw [nI_len]; exact hk) (by rw [nI_len]; unfold maxLen; omega) (by rw [nI_len]; omega) ?_
  intro v' w' h2 hg
  exact h v' w' (BRow.grown h2 rfl) hg
/-- The same in a region that draws its order. -/
theorem step_append_bytes {ops : Array Oper} {o : Oper} {a : Act} {K : Act → World → Prop} {Q : Exit → Act → World → Prop} {F : Prop} (m : List UInt8) (W : World) (hW : w = W.alloc (.cells (Lib.byteCells m).toArray 5)) (hgd : o.guard = none) (sl x : Operand)
    (ho : o.op = .call { callee := .builtin .append, args := #[sl, x], argTypes := #[46, 46] }) (hs : a.eval sl = v) (hown : BRow base W v l) (k : Nat) (hk : m.length = k) (hx : a.eval x = .slice (some ⟨W.heap.size, 0, none⟩) k k)
    (hbytes : l.length + k ≤ 140737488355328)
    (h : ∀ v' w', BRow base w' v' (l ++ m) → w.grownBy w' v.ownBlock → K (a.put o.dst v') w') : if Region.wanted o (yielded ops a.tmps) = true then Oper.wp Try.prog o a w K Q else F := by
  rw [if_pos (by simp [Region.wanted, hgd])]
  subst hW
  have hseq : SeqAt Ebyte (W.alloc (.cells (Lib.byteCells m).toArray 5)) (W.heap.size + 1) (some ⟨W.heap.size, 0, none⟩) (nI m) := by
    have := SeqAt.new (E := Ebyte) W (nI m) 5
    rw [flat_nI] at this
    exact this
  refine wp_append_seqB _ sl x 46 ho 1 elByte hs (hown.alloc _) k hx hseq (by rw [nI_len]; exact hk) (by rw [nI_len]; unfold maxLen; omega) (by rw [nI_len]; omega) ?_
  intro v' w' h2 hg
  exact h v' w' (BRow.grown h2 rfl) hg
/-- 'string(b)'. -/
theorem conv_brow (h : BRow base w v l) : (convert 46 9 v).run Try.prog w = .ok (.string ⟨l.toArray⟩) w := by
  have hform := h.form
  obtain ⟨A, c, rfl, _, _⟩ := hform
  have hA : SeqAt Ebyte w w.heap.size A (nI l) := by
    have h' := h
    unfold BRow at h'
    rw [← nI_len l] at h'
    exact OwnB.seq h'
  rw [← strOf_nI, ← nI_len l]
  rcases Nat.eq_zero_or_pos (nI l).length with h0 | h0
  · have hl := List.eq_nil_of_length_eq_zero h0
    rw [hl]
    rcases A with _ | a
    · exact run_convert_bytes_nil (P := Try.prog) w 46 5 Try.underlying46 Try.underlying5 0 c 9 Try.underlying9
    · rcases h.1.2 with ⟨h', _⟩ | ⟨g, cap, cur, h', _⟩
      · cases h'
      · injection h' with h1 _ _
        injection h1 with h1
        subst h1
        exact run_convert_bytes_arg (P := Try.prog) w 46 5 Try.underlying46 Try.underlying5 g 0 0 c [] rfl (fun i hi => by omega) 9 Try.underlying9
  · obtain ⟨b, off, rfl, hb, hc⟩ := hA h0
    refine run_convert_bytes_arg (P := Try.prog) w 46 5 Try.underlying46 Try.underlying5 b off (nI l).length c (nI l) rfl (fun i hi => ?_) 9 Try.underlying9
    rw [hc i (by simpa [Ebyte] using hi)]
    congr 1
    have hf := Ebyte.flat_at (nI l) i hi 0 (by decide)
    have e : i * Ebyte.k + 0 = i := by show i * 1 + 0 = i; omega
    rw [e] at hf
    rw [List.getD_eq_getElem?_getD, hf, List.getD_eq_getElem?_getD, List.getElem?_eq_getElem hi]
    rfl
end

end Go.Proofs.Ytemcflfgoelpiaa
