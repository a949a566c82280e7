/- Walks of the methods of sets.Set that read, and of those that build a set by append. -/
import Derived.Test.YtpidgcjioocmhaaLib
import Derived.Test.YtpidgcjioocmhaaSetPure
namespace Go.Proofs.Ytpidgcjioocmhaa
open Go.RowKit SetPure

theorem getD_at' {l : List Rg} {k : Nat} {r : Rg} (hk : k < l.length) (hx : l.getD k (0, 0) = r) : l[k] = r := by
  rw [← hx, List.getD_eq_getElem?_getD, List.getElem?_eq_getElem hk]; rfl
theorem take_next' {l : List Rg} {k : Nat} {r : Rg} (hk : k < l.length) (hx : l.getD k (0, 0) = r) : l.take (k + 1) = l.take k ++ [r] := by
  rw [List.take_add_one, List.getElem?_eq_getElem hk, getD_at' hk hx]; rfl
theorem drop_next' {l : List Rg} {k : Nat} {r : Rg} (hk : k < l.length) (hx : l.getD k (0, 0) = r) : l.drop k = r :: l.drop (k + 1) := by
  rw [List.drop_eq_getElem_cons hk, getD_at' hk hx]
theorem mem_at' {l : List Rg} {k : Nat} {r : Rg} (hk : k < l.length) (hx : l.getD k (0, 0) = r) : r ∈ l := by
  rw [← getD_at' hk hx]; exact List.getElem_mem hk
theorem Canon.ok {lo : Int} {s : List Rg} (h : CanonFrom lo s) (hl : 0 ≤ lo) : ∀ r ∈ s, 0 ≤ r.1 ∧ r.1 ≤ r.2 ∧ r.2 ≤ 1114111 := by
  induction s generalizing lo with
  | nil => intro r hr; cases hr
  | cons q s ih =>
    intro r hr
    rcases List.mem_cons.1 hr with rfl | hr
    · exact ⟨by have := h.1; omega, h.2.1, h.2.2.1⟩
    · exact ih h.2.2.2 (by have := h.1; have := h.2.1; omega) r hr
theorem sizeL_bd {s : List Rg} (h : ∀ r ∈ s, 0 ≤ r.1 ∧ r.1 ≤ r.2 ∧ r.2 ≤ 1114111) : 0 ≤ sizeL s ∧ sizeL s ≤ 1114112 * s.length := by
  induction s with
  | nil => simp [sizeL]
  | cons q s ih =>
    have h1 := h q (List.mem_cons_self ..)
    have h2 := ih (fun r hr => h r (List.mem_cons_of_mem _ hr))
    simp only [sizeL, List.length_cons]
    omega

set_option maxHeartbeats 400000 in
theorem size_any (A : Option Addr) (c B : Nat) (l : List Rg) (w : World) (hcan : Canon l) (hA : SeqAt Epair w B A l) (hB : B ≤ w.heap.size) :
    Calls Try.prog 18 #[.slice A l.length c] w fun e w' => e = .returned (.int .i64 (sizeL l)) ∧ Below w.heap.size w w' := by
  have hok := Canon.ok hcan (by omega)
  have hlen := hcan.len
  have HA := Lib.hid hA
  have HO := Lib.hid hok
  clear hA hcan hok
  go_enter Try.func18, Try.ntmps18
  go_wp2
  go_loopw [3, 8] (fun n i wr => ∃ k : Nat, k ≤ l.length ∧ i = .int .i64 k ∧ n = .int .i64 (sizeL (l.take k)) ∧ Below w.heap.size w wr) (fun _ i _ => l.length + 1 - (intOf i).toNat)
  case atStart => exact ⟨0, by omega, rfl, rfl, Below.refl _ _⟩
  case round =>
    obtain ⟨k, hk, rfl, rfl, hbw⟩ := hrel
    have hz := hbw.size
    by_cases hlt : k < l.length
    · obtain ⟨b, off, rfl, hb, hc⟩ := (HA.out.below (hbw.mono hB)).pairs_ (by omega)
      obtain ⟨h0, h1⟩ := hc k hlt
      clear hc
      obtain ⟨⟨x, y⟩, hr⟩ : ∃ r, l.getD k (0, 0) = r := ⟨_, rfl⟩
      rw [hr] at h0 h1
      have hq := HO.out _ (mem_at' hlt hr)
      have hS := sizeL_bd (s := l.take k) (fun r hr => HO.out r (List.mem_of_mem_take hr))
      have hS2 : sizeL (l.take (k + 1)) = sizeL (l.take k) + (y - x + 1) := by rw [take_next' hlt hr, sizeL_append]; simp [sizeL]
      have hTk : ((l.take k).length : Int) ≤ 557056 := by rw [List.length_take]; omega
      have HS2 := Lib.hid hS2
      clear hS2 hr
      simp only at h0 h1 hq
      obtain ⟨q1, q2, q3⟩ := hq
      generalize sizeL (l.take k) = S at *
      obtain ⟨s1, s2⟩ := hS
      generalize (l.take k).length = T at *
      go_wp2
      go_roundw
      case rel => exact ⟨k + 1, by omega, by go_num, val_int (by rw [HS2.out]), hbw.alloc hz _⟩
      case measure => simp [intOf]; omega
    · go_wp2
      go_ret
      exact ⟨ret_int (by rw [List.take_of_length_le (by omega)]), hbw⟩

theorem stood_range : Try.prog.stoodInHeld 29 = false := by kernel_rfl
@[go_sem] theorem guard_range (op : BinOp) (x y : Operand) (xs ys : Array Value) (w : World) : (eqGuard op 29 x y (.agg xs) (.agg ys)).run Try.prog w = .ok () w := run_eqGuard_agg w op _ x y xs ys (by kernel_rfl)
def rangeEq (a b c d : Int) : Bool := a == c && b == d
theorem rangeEq_iff (a b c d : Int) : rangeEq a b c d = true ↔ (a, b) = (c, d) := by simp [rangeEq]
/-- Two ranges are one if both their ends are. -/
theorem eq_range (a b c d : Int) (w : World) : (Op.equalIn 10000 29 (.agg #[.int .i64 a, .int .i64 b]) (.agg #[.int .i64 c, .int .i64 d])).run Try.prog w = .ok (rangeEq a b c d) w := by
  have u3 := Try.underlying3
  have a3 := Try.isAgg3
  have z3 := Try.sizeOf3
  have hS : Try.prog.underlying 29 = some (.struct (Try.prog.fieldsOf 29)) := by kernel_rfl
  rw [show (10000 : Nat) = 9999 + 1 from rfl, run_equalIn_agg w 9999 29 _ _ hS stood_range]
  simp only [Program.fieldsOf, Try.underlying29]
  go_simp
  by_cases h1 : a = c <;> by_cases h2 : b = d <;> simp [rangeEq, h1, h2]

@[go_sem ↓] theorem neq_range (a b c d : Int) (w : World) : (binOp .neq 29 (.agg #[.int .i64 a, .int .i64 b]) (.agg #[.int .i64 c, .int .i64 d])).run Try.prog w = .ok (.bool (!rangeEq a b c d)) w := by
  rw [run_neq_struct, eq_range]; rfl
@[go_sem ↓] theorem eql_range (a b c d : Int) (w : World) : (binOp .eql 29 (.agg #[.int .i64 a, .int .i64 b]) (.agg #[.int .i64 c, .int .i64 d])).run Try.prog w = .ok (.bool (rangeEq a b c d)) w := by
  rw [run_eql_struct, eq_range]; rfl

end Go.Proofs.Ytpidgcjioocmhaa
