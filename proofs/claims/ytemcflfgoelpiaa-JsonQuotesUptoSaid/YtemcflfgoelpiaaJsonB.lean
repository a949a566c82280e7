/- The walks of the JSON parser's small methods: has, blanks, run, want. -/
import Derived.Test.YtemcflfgoelpiaaJsonA
import Derived.Deep.LoopGhost
namespace Go.Proofs.Ytemcflfgoelpiaa
open Go.RowKit

theorem quiet_add_same {P : Program} {f : FuncId} {args : Array Value} {w : World} {a n : Nat} {v : Value}
    (h : Calls P f args (w.drewN (a + n)) fun e w' => e = .returned v ∧ w' = w.drewN (a + n)) :
    Calls P f args (w.drewN (a + n)) fun e w'' => e = .returned v ∧ ∃ m, w'' = w.drewN (a + m) :=
  h.mono fun _ _ ⟨he, hm⟩ => ⟨he, n, hm⟩
theorem index_any (set : ByteArray) (c : UInt8) (w : World) : Calls Try.prog 17 #[.string set, .int .u8 c.toNat] w fun e w' => e = .returned (.int .i64 (Lib.indexByte set.data.toList c)) ∧ w' = w := by
  have := Try.strings_IndexByte set c.toNat w
  rw [show ((c.toNat : Int).toNat).toUInt8 = c by rw [Int.toNat_natCast]; exact UInt8.ofNat_toNat] at this
  exact this
/-- The set of bytes tells the predicate. -/
def Tells (set : ByteArray) (p : UInt8 → Bool) : Prop := ∀ c, p c = decide (0 ≤ Lib.indexByte set.data.toList c)

theorem At.mk_ {w : World} {b : Nat} {s : ByteArray} {i : Nat} (h : w.heap[b]? = some (.cells #[.string s, .int .i64 i] 73)) (j : Nat) (x : Int) (hx : x = j) (hj : j ≤ s.size) :
    At (w.setCell ⟨b, 1, none⟩ (.int .i64 x)) b s (s.data.toList.drop j) := by
  subst hx
  refine ⟨j, hj, rfl, ?_⟩
  simp only [World.setCell, Array.getElem?_modify, if_true, h, Option.map_some]
  rfl

/-- has: behind the byte, if it stands here. -/
def HasEnd (w : World) (b : Nat) (s : ByteArray) (l : List UInt8) : Option (List UInt8) → Ending → World → Prop
  | some t, e, w' => Went w b s (.bool true) t e w'
  | none, e, w' => Went w b s (.bool false) l e w'

set_option maxHeartbeats 400000 in
theorem has_any (set : ByteArray) (p : UInt8 → Bool) (hp : Tells set p) (w : World) (b : Nat) (s : ByteArray) (l : List UInt8) (hs : s.size ≤ 1048576) (h : At w b s l) :
    Calls Try.prog 59 #[.pointer (some ⟨b, 0, none⟩), .string set] w fun e w' => HasEnd w b s l (JsonP.has p l) e w' := by
  have HA := Lib.hid h
  obtain ⟨i, h1, h2, h3⟩ := h
  have hc := fun o => Lib.cell_of_heap h3 o
  have hz := fun o => Lib.frozen_of_heap h3 o
  have H3 := Lib.hid h3
  clear h3
  by_cases hi : i < s.size
  · obtain ⟨x, hx⟩ : ∃ x, Lib.indexByte set.data.toList s[i] = x := ⟨_, rfl⟩
    have hl : JsonP.has p l = if 0 ≤ x then some (s.data.toList.drop (i + 1)) else none := by
      rw [← h2, drop_cons hi]
      show (if p s[i] = true then some _ else none) = _
      rw [hp, hx]
      simp
    have HI : Hid (∀ w, Calls Try.prog 17 #[.string set, .int .u8 s[i].toNat] w fun e w' => e = .returned (.int .i64 x) ∧ w' = w) := Lib.hid fun w => by
      have := index_any set s[i] w
      rw [hx] at this
      exact this
    have hii : (i : Int) < (s.size : Int) := by omega
    have hi0 : (0 : Int) ≤ (i : Int) := by omega
    clear hx h2 hp
    by_cases hx : 0 ≤ x
    · rw [hl, if_pos hx]
      clear hl
      go_enter Try.func59, Try.ntmps59
      go_wp2
      go_quiet ((go_at_call 17; exact Calls.quiet_of_same (HI.out _)))
      go_wp2
      go_ret
      exact ⟨rfl, ((Mv.rfl_ b w).drewN _).set ⟨b, 1, none⟩ (.inl rfl) _, At.mk_ (w := w.drewN _) H3.out (i + 1) _ (by omega) (by omega)⟩
    · rw [hl, if_neg hx]
      have hx1 : decide (0 ≤ x) = false := decide_eq_false hx
      clear hl
      go_enter Try.func59, Try.ntmps59
      go_wp2
      go_quiet ((go_at_call 17; exact Calls.quiet_of_same (HI.out _)))
      go_wp2
      go_ret
      exact ⟨rfl, (Mv.rfl_ b w).drewN _, HA.out⟩
  · have hl : JsonP.has p l = none := by rw [← h2, drop_none (by omega)]; rfl
    rw [hl]
    have hii : ¬ (i : Int) < (s.size : Int) := by omega
    have hid : decide ((i : Int) < (s.size : Int)) = false := decide_eq_false hii
    clear h2 hl
    go_enter Try.func59, Try.ntmps59
    go_wp2
    go_quiet (fail)
    go_wp2
    go_ret
    exact ⟨rfl, (Mv.rfl_ b w).drewN _, HA.out⟩

theorem tells_blank : Tells ⟨#[32, 9, 10, 13]⟩ JsonP.isBl := by
  intro c
  have h : ∀ k : Fin 256, JsonP.isBl (UInt8.ofNat k.val) = decide (0 ≤ Lib.indexByte [32, 9, 10, 13] (UInt8.ofNat k.val)) := by decide +kernel
  have := h ⟨c.toNat, UInt8.toNat_lt c⟩
  simpa using this

set_option maxHeartbeats 400000 in
theorem blanks_any (w : World) (b : Nat) (s : ByteArray) (l : List UInt8) (hs : s.size ≤ 1048576) (h : At w b s l) :
    Calls Try.prog 30 #[.pointer (some ⟨b, 0, none⟩)] w fun e w' => Went w b s unitV (JsonP.blanks l) e w' := by
  have HA := Lib.hid h
  have hlen : l.length ≤ s.size := by
    obtain ⟨i, h1, h2, h3⟩ := h
    rw [← h2, List.length_drop, Array.length_toList]
    exact Nat.sub_le _ _
  clear h
  go_enter Try.func30, Try.ntmps30
  go_wp2
  go_loopg [] (s.size + 1) (fun k wr => ∃ t, t.length + 1 ≤ k ∧ Hid (JsonP.blanks t = JsonP.blanks l) ∧ Mv b w wr ∧ Hid (At wr b s t))
  case atStart => exact ⟨l, by omega, Lib.hid rfl, Mv.rfl_ _ _, HA⟩
  case round =>
    obtain ⟨t, hk, HE, hm, HAt⟩ := hrel
    obtain ⟨i, h1, h2, h3⟩ := HAt.out
    have hc := fun o => Lib.cell_of_heap h3 o
    have hz := fun o => Lib.frozen_of_heap h3 o
    have H3 := Lib.hid h3
    have HM := Lib.hid hm
    clear h3 hm
    by_cases hi : i < s.size
    · obtain ⟨x, hx⟩ : ∃ x, Lib.indexByte (ByteArray.mk #[32, 9, 10, 13]).data.toList s[i] = x := ⟨_, rfl⟩
      have hl : JsonP.blanks t = if 0 ≤ x then JsonP.blanks (s.data.toList.drop (i + 1)) else t := by
        have hb := tells_blank s[i]
        rw [hx] at hb
        rw [← h2, drop_cons hi]
        unfold JsonP.blanks
        rw [List.dropWhile_cons, hb]
        simp
      have HT : Hid (t.length = (s.data.toList.drop (i + 1)).length + 1) := Lib.hid (by rw [← h2, drop_cons hi, List.length_cons])
      have HI : Hid (∀ w, Calls Try.prog 17 #[.string ⟨#[32, 9, 10, 13]⟩, .int .u8 s[i].toNat] w fun e w' => e = .returned (.int .i64 x) ∧ w' = w) := Lib.hid fun w => by
        have := index_any ⟨#[32, 9, 10, 13]⟩ s[i] w
        rw [hx] at this
        exact this
      have hii : (i : Int) < (s.size : Int) := by omega
      have hi0 : (0 : Int) ≤ (i : Int) := by omega
      clear hx h2
      by_cases hx : 0 ≤ x
      · have HE2 : Hid (JsonP.blanks (s.data.toList.drop (i + 1)) = JsonP.blanks l) := Lib.hid (by rw [← HE.out, hl, if_pos hx])
        clear hl
        go_wp2
        go_quiet ((go_at_call 17; exact Calls.quiet_of_same (HI.out _)))
        go_wp2
        go_roundg (gk - 1)
        case measure => omega
        case rel => exact ⟨_, by have := HT.out; omega, HE2, (HM.out.drewN _).set ⟨b, 1, none⟩ (.inl rfl) _, Lib.hid (At.mk_ (w := wr.drewN _) H3.out (i + 1) _ (by omega) (by omega))⟩
      · have HE2 : Hid (t = JsonP.blanks l) := Lib.hid (by rw [← HE.out, hl, if_neg hx])
        have hx1 : decide (0 ≤ x) = false := decide_eq_false hx
        clear hl
        go_wp2
        go_quiet ((go_at_call 17; exact Calls.quiet_of_same (HI.out _)))
        go_wp2
        go_end0
        exact ⟨rfl, HM.out.drewN _, by rw [← HE2.out]; exact HAt.out⟩
    · have hl : JsonP.blanks l = t := by rw [← HE.out, ← h2, drop_none (by omega)]; rfl
      have HE2 := Lib.hid hl
      have hii : ¬ (i : Int) < (s.size : Int) := by omega
      have hid : decide ((i : Int) < (s.size : Int)) = false := decide_eq_false hii
      clear h2 hl
      go_wp2
      go_quiet (fail)
      go_wp2
      go_end0
      exact ⟨rfl, HM.out.drewN _, by rw [HE2.out]; exact HAt.out⟩

end Go.Proofs.Ytemcflfgoelpiaa
