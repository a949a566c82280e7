/- The walks of the JSON parser's small methods. -/
import Derived.Test.YtemcflfgoelpiaaJsonP
import Derived.Test.YtemcflfgoelpiaaMv
import Derived.Test.YtemcflfgoelpiaaBits
import Derived.Test.YtemcflfgoelpiaaShelf
import Derived.Deep.QuietTactic
import Derived.BigQuiet
import Derived.Deep.DeepCutAuto
import Derived.WalkKit
import Derived.Laws.BytesArg
namespace Go.Proofs.Ytemcflfgoelpiaa
open Go.RowKit

/-- The parser at block b stands before the bytes l, the end of s. -/
def At (w : World) (b : Nat) (s : ByteArray) (l : List UInt8) : Prop :=
  ∃ i : Nat, i ≤ s.size ∧ s.data.toList.drop i = l ∧ w.heap[b]? = some (.cells #[.string s, .int .i64 i] 73)
/-- A method's end: it hands back v, the parser stands before l. -/
def Went (w : World) (b : Nat) (s : ByteArray) (v : Value) (l : List UInt8) (e : Ending) (w' : World) : Prop := e = .returned v ∧ Mv b w w' ∧ At w' b s l
/-- A method's end: a fault is thrown. -/
def Threw (w : World) (b : Nat) (c : Nat) (e : Ending) (w' : World) : Prop :=
  Mv b w w' ∧ ∃ i : Nat, e = .panicked [{ v := .iface 69 (.agg #[.int .i64 c, .int .i64 i]), recovered := false }]
def unitV : Value := .tuple #[]

theorem At.drewN {w : World} {b : Nat} {s : ByteArray} {l : List UInt8} (h : At w b s l) (n : Nat) : At (w.drewN n) b s l := h
theorem At.far {w w' : World} {b : Nat} {s : ByteArray} {l : List UInt8} (h : At w b s l) (k : w'.heap[b]? = w.heap[b]?) : At w' b s l := by
  obtain ⟨i, h1, h2, h3⟩ := h
  exact ⟨i, h1, h2, k.trans h3⟩
theorem At.lt {w : World} {b : Nat} {s : ByteArray} {l : List UInt8} (h : At w b s l) : b < w.heap.size := by
  obtain ⟨i, h1, h2, h3⟩ := h
  exact (Array.getElem?_eq_some_iff.1 h3).1
theorem At.below {w w' : World} {b : Nat} {s : ByteArray} {l : List UInt8} (h : At w b s l) (k : Below w.heap.size w w') : At w' b s l := h.far (k.block b h.lt)

/-- The byte here. -/
def pk (l : List UInt8) : Int := match l with
  | [] => 0
  | c :: _ => c.toNat

theorem drop_cons {s : ByteArray} {i : Nat} (h : i < s.size) : s.data.toList.drop i = s[i] :: s.data.toList.drop (i + 1) := by
  have h' : i < s.data.toList.length := by rw [Array.length_toList]; exact h
  rw [List.drop_eq_getElem_cons h']
  rfl
theorem drop_none {s : ByteArray} {i : Nat} (h : s.size ≤ i) : s.data.toList.drop i = [] := List.drop_of_length_le (by rw [Array.length_toList]; exact h)

theorem fail_any (c : Nat) (w : World) (b : Nat) (s : ByteArray) (l : List UInt8) (h : At w b s l) :
    Calls Try.prog 31 #[.pointer (some ⟨b, 0, none⟩), .int .i64 c] w fun e w' => Threw w b c e w' := by
  obtain ⟨i, h1, h2, h3⟩ := h
  have hc := fun o => Lib.cell_of_heap h3 o
  have HW := Lib.hid h3
  clear h2 h3
  go_enter Try.func31, Try.ntmps31
  go_wp2
  exact ⟨rfl, Mv.rfl_ _ _, i, rfl⟩

set_option maxHeartbeats 400000 in
theorem peek_any (w : World) (b : Nat) (s : ByteArray) (l : List UInt8) (hs : s.size ≤ 1048576) (h : At w b s l) :
    Calls Try.prog 45 #[.pointer (some ⟨b, 0, none⟩)] w fun e w' => e = .returned (.int .u8 (pk l)) ∧ ∃ n, w' = w.drewN n := by
  obtain ⟨i, h1, h2, h3⟩ := h
  have hc := fun o => Lib.cell_of_heap h3 o
  by_cases hi : i < s.size
  · have hp : pk l = s[i].toNat := by rw [← h2, drop_cons hi]; rfl
    rw [hp]
    have hii : (i : Int) < (s.size : Int) := by omega
    have hi0 : (0 : Int) ≤ (i : Int) := by omega
    clear h2 h3 hp
    go_enter Try.func45, Try.ntmps45
    go_wp2
    go_quiet (fail)
    go_wp2
    go_quiet (fail)
    go_wp2
    go_ret
    exact ⟨rfl, _, World.drewN_drewN _ _ _⟩
  · have hp : pk l = 0 := by rw [← h2, drop_none (by omega)]; rfl
    rw [hp]
    have hii : ¬ (i : Int) < (s.size : Int) := by omega
    clear h2 h3 hp
    go_enter Try.func45, Try.ntmps45
    go_wp2
    go_quiet (fail)
    go_wp2
    go_ret
    exact ⟨rfl, _, rfl⟩

theorem isDigit_any (c : UInt8) (w : World) : Calls Try.prog 48 #[.int .u8 c.toNat] w fun e w' => e = .returned (.bool (JsonP.isDg c)) ∧ w = w' := by
  have hd : JsonP.isDg c = (decide (48 ≤ (c.toNat : Int)) && decide ((c.toNat : Int) ≤ 57)) := by
    unfold JsonP.isDg
    rw [Bool.eq_iff_iff]
    simp [UInt8.le_iff_toNat_le]
    omega
  rw [hd]
  clear hd
  obtain ⟨x, hx⟩ : ∃ x : Int, (c.toNat : Int) = x := ⟨_, rfl⟩
  rw [hx]
  clear hx
  by_cases h1 : 48 ≤ x
  · have e1 : decide (48 ≤ x) = true := decide_eq_true h1
    rw [e1]
    go_enter Try.func48, Try.ntmps48
    go_wp2
    go_ret
    exact ⟨by simp, rfl⟩
  · have e1 : decide (48 ≤ x) = false := decide_eq_false h1
    rw [e1]
    go_enter Try.func48, Try.ntmps48
    go_wp2
    go_ret
    exact ⟨by simp, rfl⟩

end Go.Proofs.Ytemcflfgoelpiaa
