/- The walk of the JSON parser's text. -/
import Derived.Test.YtemcflfgoelpiaaJsonU
import Derived.Test.YtemcflfgoelpiaaEncL
import Derived.Test.YtemcflfgoelpiaaBuild
namespace Go.Proofs.Ytemcflfgoelpiaa
open Go.RowKit

theorem encB_encU (r : Nat) : strOfNums (encU r) = ⟨(JsonP.encB r).toArray⟩ := by
  unfold strOfNums encU JsonP.encB
  by_cases c1 : r < 128
  · rw [if_pos (by omega), if_pos c1]; simp
  · rw [if_neg (by omega), if_neg c1]
    by_cases c2 : r < 2048
    · rw [if_pos (by omega), if_pos c2]
      simp only [List.map_cons, List.map_nil]
      rw [show (192 + (r : Int) / 64).toNat = 192 + r / 64 by omega, show (128 + (r : Int) % 64).toNat = 128 + r % 64 by omega]
    · rw [if_neg (by omega), if_neg c2]
      by_cases c3 : r < 65536
      · rw [if_pos (by omega), if_pos c3]
        simp only [List.map_cons, List.map_nil]
        rw [show (224 + (r : Int) / 4096).toNat = 224 + r / 4096 by omega, show (128 + (r : Int) / 64 % 64).toNat = 128 + r / 64 % 64 by omega, show (128 + (r : Int) % 64).toNat = 128 + r % 64 by omega]
      · rw [if_neg (by omega), if_neg c3]
        simp only [List.map_cons, List.map_nil]
        rw [show (240 + (r : Int) / 262144).toNat = 240 + r / 262144 by omega, show (128 + (r : Int) / 4096 % 64).toNat = 128 + r / 4096 % 64 by omega, show (128 + (r : Int) / 64 % 64).toNat = 128 + r / 64 % 64 by omega, show (128 + (r : Int) % 64).toNat = 128 + r % 64 by omega]
theorem encB_len (r : Nat) : (JsonP.encB r).length ≤ 4 := by unfold JsonP.encB; repeat' (split <;> try simp)

set_option maxHeartbeats 400000 in
theorem jbytes_any (r : Nat) (w : World) (hr : isScalar r) : Calls Try.prog 19 #[.int .i64 r] w fun e w' => e = .returned (.string ⟨(JsonP.encB r).toArray⟩) ∧ Below w.heap.size w w' := by
  have HR := Lib.hid hr
  have HE := Lib.hid (encB_encU r)
  clear hr
  go_enter Try.func19, Try.ntmps19
  go_wp2_with (go_at_call 11; refine (encodeL_any _ 1 1 [(r : Int)] _ rfl (by omega) ((SeqAt.new (E := Eint) w [(r : Int)] 3).more (by simp)) (fun x hx => by rw [List.mem_singleton] at hx; rw [hx]; exact HR.out)).mono ?_; rintro e w1 ⟨rfl, hb1⟩; rw [show encAll [(r : Int)] = encU r from List.append_nil _, HE.out])
  go_ret
  exact ⟨rfl, ((Below.refl _ w).alloc (Nat.le_refl _) _).trans (hb1.mono (by simp))⟩

/-- A unit is a scalar. -/
theorem unit_scalar {l u : List UInt8} {a : Nat} (h : JsonP.unit l = some (a, u)) : isScalar a := by
  unfold JsonP.unit at h
  split at h
  · cases h
  · rename_i x t hx
    have hb := hex_lt 4 0 l _ hx
    replace hb : x < 65536 := hb
    split at h
    · injection h with h; injection h with h _; subst h; unfold isScalar; omega
    · split at h
      · unfold JsonP.second at h
        split at h
        · split at h
          · cases h
          · rename_i d v hd
            have hb2 := hex_lt 4 0 _ _ hd
            replace hb2 : d < 65536 := hb2
            split at h
            · injection h with h; injection h with h _; subst h; unfold isScalar; omega
            · injection h with h; injection h with h _; subst h; exact ⟨by decide, by decide, by decide⟩
        · injection h with h; injection h with h _; subst h; exact ⟨by decide, by decide, by decide⟩
      · injection h with h; injection h with h _; subst h; exact ⟨by decide, by decide, by decide⟩

theorem bldAt_mv {T e : TypeId} {B b p : Nat} {q : Value} {bs : List Value} {w w' : World} (h : Lib.BuilderAtF T e B b q bs w) (hb : Mv p w w') (hp : p < B) : Lib.BuilderAtF T e B b q bs w' := by
  have hlt := h.lt
  obtain ⟨hB, v, hbk, hown, hne⟩ := h
  exact ⟨hB, v, (hb.heap hlt (by omega)).trans hbk, hown.kept hb (by
    cases hv : v.ownBlock with
    | none => exact .inl rfl
    | some g => exact .inr (fun e => by injection e with e; have := (hown.lt g hv).1; omega)), hne⟩
theorem Bld.mv {B b p : Nat} {l : List UInt8} {w w' : World} (h : Bld B b l w) (hb : Mv p w w') (hp : p < B) : Bld B b l w' := by
  rcases h with h | h
  · exact .inl (bldAt_mv h hb hp)
  · exact .inr (bldAt_mv h hb hp)
theorem Mv.kept {p B : Nat} {w0 a b : World} (h : Mv p w0 a) (k : Below B a b) (hB : w0.heap.size ≤ B) : Mv p w0 b :=
  ⟨k.os.trans h.os, k.tape.trans h.tape, k.output.trans h.output, Nat.le_trans h.size k.size, fun i hi hn => (k.block i (Nat.lt_of_lt_of_le hi hB)).trans (h.block i hi hn)⟩
theorem At.kept {w w' : World} {b B : Nat} {s : ByteArray} {l : List UInt8} (h : At w b s l) (k : Below B w w') (hb : b < B) : At w' b s l := h.far (k.block b hb)

/-- What text holds at the loop's head. -/
structure TextS (w wr : World) (b : Nat) (s : ByteArray) (out t : List UInt8) : Prop where
  mv : Mv b w wr
  at_ : At wr b s t
  bld : Bld w.heap.size w.heap.size out wr
theorem TextS.step {w wr wx : World} {b : Nat} {s : ByteArray} {out t t' : List UInt8} (h : TextS w wr b s out t) (k : Mv b wr wx) (ha : At wx b s t') (hb : b < w.heap.size) : TextS w wx b s out t' :=
  ⟨h.mv.step k, ha, h.bld.mv k hb⟩
theorem TextS.wrote {w wr wx : World} {b : Nat} {s : ByteArray} {out out' t : List UInt8} (h : TextS w wr b s out t) (k : Kept w.heap.size w.heap.size wr wx) (hb : Bld w.heap.size w.heap.size out' wx) (hlt : b < w.heap.size) : TextS w wx b s out' t :=
  ⟨h.mv.kept k.1 (Nat.le_refl _), h.at_.kept k.1 hlt, hb⟩
theorem TextS.below {w wr wx : World} {b : Nat} {s : ByteArray} {out t : List UInt8} (h : TextS w wr b s out t) (k : Below wr.heap.size wr wx) : TextS w wx b s out t :=
  ⟨h.mv.below k, h.at_.below k, h.bld.below k⟩
theorem TextS.size {w wr : World} {b : Nat} {s : ByteArray} {out t : List UInt8} (h : TextS w wr b s out t) : w.heap.size ≤ wr.heap.size := h.mv.size

def TextEnd (w : World) (b : Nat) (s : ByteArray) : Option (List UInt8 × List UInt8) → Ending → World → Prop
  | some p, e, w' => Went w b s (.string ⟨p.1.toArray⟩) p.2 e w'
  | none, e, w' => Threw w b 20 e w'
def shortsB : ByteArray := ⟨#[98, 116, 110, 102, 114]⟩
/-- What text asks of a byte behind a stroke. -/
theorem short_byte (c : UInt8) : ∃ i : Int, Lib.indexByte [98, 116, 110, 102, 114] c = i ∧ -1 ≤ i ∧ i < 5 ∧ (if 0 ≤ i then JsonP.short c = some ([8, 9, 10, 12, 13].getD i.toNat (0 : UInt8)) else JsonP.short c = none) := by
  have h : ∀ k : Fin 256, -1 ≤ Lib.indexByte [98, 116, 110, 102, 114] (UInt8.ofNat k.val) ∧ Lib.indexByte [98, 116, 110, 102, 114] (UInt8.ofNat k.val) < 5 ∧ (if 0 ≤ Lib.indexByte [98, 116, 110, 102, 114] (UInt8.ofNat k.val) then JsonP.short (UInt8.ofNat k.val) = some ([8, 9, 10, 12, 13].getD (Lib.indexByte [98, 116, 110, 102, 114] (UInt8.ofNat k.val)).toNat (0 : UInt8)) else JsonP.short (UInt8.ofNat k.val) = none) := by decide +kernel
  have := h ⟨c.toNat, UInt8.toNat_lt c⟩
  simp only [UInt8.ofNat_toNat] at this
  exact ⟨_, rfl, this.1, this.2.1, this.2.2⟩

end Go.Proofs.Ytemcflfgoelpiaa
