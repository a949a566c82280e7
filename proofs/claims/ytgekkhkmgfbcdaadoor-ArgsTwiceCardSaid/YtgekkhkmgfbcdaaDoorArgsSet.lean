/- Chapter 25: the walk of a place's set. -/
import Derived.Test.YtgekkhkmgfbcdaaDoorArgsDel
import Derived.Test.YtgekkhkmgfbcdaaDoorArgsNumP
namespace Go.Proofs.YtgekkhkmgfbcdaaDoor
open Go.Shelf Go.RowKit

theorem heap_setCell_eq {w w1 : World} {k : Nat} (h : w1.heap[k]? = w.heap[k]?) (a : Addr) (v : Value) : (w1.setCell a v).heap[k]? = (w.setCell a v).heap[k]? := by
  simp only [World.setCell, Array.getElem?_modify, h]
theorem heap_setCell_ne (w : World) {a : Addr} {k : Nat} (h : a.block ≠ k) (v : Value) : (w.setCell a v).heap[k]? = w.heap[k]? := by
  simp only [World.setCell, Array.getElem?_modify, if_neg h]
theorem below_setCell2 {B : Nat} {w w1 : World} (h : Below B w w1) (a : Addr) (u : Value) : Below B (w.setCell a u) (w1.setCell a u) :=
  ⟨h.os, h.tape, h.output, by simpa [World.setCell] using h.size, fun k hk => heap_setCell_eq (h.block k hk) a u⟩
theorem size_setCell (w : World) (a : Addr) (v : Value) : (w.setCell a v).heap.size = w.heap.size := by simp [World.setCell]

/-- The library's variables lie in other blocks. -/
theorem var_set {w : World} {n : String} {cs : Array Value} {g : Nat} {a : Addr} {v : Value} (hg : Tryd.prog.globalNamed n = some g) (ha : a.block ≠ g) (h : w.var? Tryd.prog n = some cs) : (w.setCell a v).var? Tryd.prog n = some cs := by
  unfold World.var? at h ⊢
  rw [hg] at h ⊢
  simp only [Option.bind_some] at h ⊢
  rw [heap_setCell_ne w ha]
  exact h
theorem g_pow_ : Tryd.prog.globalNamed "internal/strconv.uint64pow10" = some 0 := by kernel_rfl
theorem Base.set {w : World} (h : Base w) {a : Addr} (ha : 4 ≤ a.block) (v : Value) : Base (w.setCell a v) := by
  have hc : ∀ (g : Nat) u, g < 4 → w.cell? ⟨g, 0, none⟩ = some u → (w.setCell a v).cell? ⟨g, 0, none⟩ = some u := fun g u hg hu => by
    exact (World.cell?_setCell_other (w := w) (a := a) (b := ⟨g, 0, none⟩) (v := v) (show a ≠ ⟨g, 0, none⟩ from fun e => by rw [e] at ha; simp only at ha; omega)).trans hu
  refine ⟨?_, var_set g_pow_ (by omega) h.pows, ?_, ?_⟩
  · obtain ⟨m, hm⟩ := h.most; exact ⟨m, hc _ _ (by decide) hm⟩
  · obtain ⟨ev, hv, hx⟩ := h.syn; exact ⟨ev, hc _ _ (by decide) hv, hx⟩
  · obtain ⟨ev, hv, hx⟩ := h.rng; exact ⟨ev, hc _ _ (by decide) hv, hx⟩

theorem trim_w (s t : ByteArray) (w : World) (h : ArgsP.magL s.data.toList = t.data.toList) :
    Calls Tryd.prog 36 #[.string s, .string ⟨#[45]⟩] w fun e w' => e = .returned (.string t) ∧ w = w' := by
  refine (Tryd.strings_TrimPrefix s ⟨#[45]⟩ w).mono ?_
  rintro e w' ⟨rfl, rfl⟩
  rw [ArgsP.trim_mag, h]
  exact ⟨rfl, rfl⟩

/-- A value was laid where it lies; a number that is none may be laid too. -/
def SetRes (ok : Bool) (a : Addr) (P : Value → Prop) (w : World) (e : Ending) (w' : World) : Prop := ∃ u : Value, e = .returned (.bool ok) ∧ P u ∧ Below w.heap.size (w.setCell a u) w'

/-- What a call that only makes memory leaves, behind a new block. -/
theorem box_kept {w w1 : World} {cs : Array Value} {T : TypeId} (hb : Below (w.alloc (.cells cs T)).heap.size (w.alloc (.cells cs T)) w1) {b o : Nat} {v : Value} (hc : w.cell? ⟨b, o, none⟩ = some v) (hf : w.frozen? ⟨b, o, none⟩ = false) :
    (∀ i, w1.cell? ⟨w.heap.size, i, none⟩ = cs[i]?) ∧ w1.cell? ⟨b, o, none⟩ = some v ∧ w1.frozen? ⟨b, o, none⟩ = false ∧ Below w.heap.size w w1 := by
  have hlt := cell_lt hc
  have hb' : Below w.heap.size w w1 := ((Below.refl _ w).alloc (Nat.le_refl _) _).trans (hb.mono (by simp))
  exact ⟨fun i => (hb.cell (p := ⟨_, i, none⟩) (by simp)).trans (World.cell?_alloc_new w _ _ i), (hb'.cell (p := ⟨b, o, none⟩) hlt).trans hc, (hb'.frozen (p := ⟨b, o, none⟩) hlt).trans hf, hb'⟩

set_option maxRecDepth 100000 in
set_option maxHeartbeats 1000000 in
theorem set_num (key x : ByteArray) (b o : Nat) (v0 : Value) (w : World) (hx : x.size ≤ 140737488355328) (hB : Base w) (hb : 4 ≤ b) (hc : w.cell? ⟨b, o, none⟩ = some v0) (hf : w.frozen? ⟨b, o, none⟩ = false) :
    Calls Tryd.prog 28 #[.agg #[.string key, .pointer (some ⟨b, o, none⟩), .pointer none, .pointer none], .string x] w
      (SetRes (ArgsP.numL x.data.toList).isSome ⟨b, o, none⟩ (fun u => ∃ m : Int, u = .int .i64 m ∧ ∀ n, ArgsP.numL x.data.toList = some n → m = n) w) := by
  have H := Lib.hid hB
  have hlt := cell_lt hc
  clear hB
  by_cases hat : ∃ n, Lib.atoiAll x.data.toList = .ok n
  · obtain ⟨n, hn⟩ := hat
    have hnb := ArgsP.atoi_bound' hn
    obtain ⟨ev, hev⟩ : ∃ ev : ByteArray, Lib.itoa n = ev.data.toList := ⟨bytesOf (Lib.itoa n), (bytesOf_list _).symm⟩
    obtain ⟨t, ht⟩ : ∃ t : ByteArray, ArgsP.magL x.data.toList = t.data.toList := ⟨bytesOf _, (bytesOf_list _).symm⟩
    have HA := Lib.hid hn
    have HI := Lib.hid hev
    have HT := Lib.hid ht
    by_cases he : ev.data.toList = x.data.toList
    · have hse := str_same.2 he
      by_cases hl : t.size ≤ 18
      · have HN := Lib.hid (ArgsP.numL_of (hev.trans he) (by rw [ht, len_bytes]; exact hl))
        have hl' : decide ((t.size : Int) ≤ 18) = true := by simp; omega
        clear hn hev ht he hl
        go_enter Tryd.func28, Tryd.ntmps28
        go_wp2_with (first
          | (go_at_call 35; refine (atoi_ok x n _ (by omega) HA.out).mono ?_; rintro e w1 ⟨rfl, hb1⟩; obtain ⟨hbx, hc1, hf1, hb1'⟩ := box_kept hb1 hc hf; have hb01 := hbx 1; clear hbx)
          | (go_at_call 20; refine (itoa_w ev n _ HI.out (by omega) (by omega) ((H.out.later hb1').set hb _)).mono ?_; rintro e w2 ⟨rfl, hb2⟩)
          | (go_at_call 36; refine (trim_w x t _ HT.out).mono ?_; rintro e w3 ⟨rfl, rfl⟩))
        go_ret
        exact ⟨.int .i64 n, by rw [HN.out]; rfl, ⟨n, rfl, fun k hk => by rw [HN.out] at hk; exact Option.some.inj hk⟩, (below_setCell2 hb1' _ _).trans (hb2.mono (by rw [size_setCell]; exact hb1'.size))⟩
      · have HN := Lib.hid (show ArgsP.numL x.data.toList = none by
          cases h : ArgsP.numL x.data.toList with
          | none => rfl
          | some k => exact absurd (ArgsP.numL_some h).2.2 (by rw [ht, len_bytes]; exact hl))
        have hl' : decide ((t.size : Int) ≤ 18) = false := by simp; omega
        clear hn hev ht he hl
        go_enter Tryd.func28, Tryd.ntmps28
        go_wp2_with (first
          | (go_at_call 35; refine (atoi_ok x n _ (by omega) HA.out).mono ?_; rintro e w1 ⟨rfl, hb1⟩; obtain ⟨hbx, hc1, hf1, hb1'⟩ := box_kept hb1 hc hf; have hb01 := hbx 1; clear hbx)
          | (go_at_call 20; refine (itoa_w ev n _ HI.out (by omega) (by omega) ((H.out.later hb1').set hb _)).mono ?_; rintro e w2 ⟨rfl, hb2⟩)
          | (go_at_call 36; refine (trim_w x t _ HT.out).mono ?_; rintro e w3 ⟨rfl, rfl⟩))
        go_ret
        exact ⟨.int .i64 n, by rw [HN.out]; rfl, ⟨n, rfl, fun k hk => by rw [HN.out] at hk; cases hk⟩, (below_setCell2 hb1' _ _).trans (hb2.mono (by rw [size_setCell]; exact hb1'.size))⟩
    · have hse := str_other he
      have HN := Lib.hid (show ArgsP.numL x.data.toList = none by
        cases h : ArgsP.numL x.data.toList with
        | none => rfl
        | some k =>
          obtain ⟨h1, h2, _⟩ := ArgsP.numL_some h
          rw [hn] at h1
          injection h1 with h1
          subst h1
          exact absurd (hev.symm.trans h2) he)
      clear hn hev ht he
      go_enter Tryd.func28, Tryd.ntmps28
      go_wp2_with (first
          | (go_at_call 35; refine (atoi_ok x n _ (by omega) HA.out).mono ?_; rintro e w1 ⟨rfl, hb1⟩; obtain ⟨hbx, hc1, hf1, hb1'⟩ := box_kept hb1 hc hf; have hb01 := hbx 1; clear hbx)
          | (go_at_call 20; refine (itoa_w ev n _ HI.out (by omega) (by omega) ((H.out.later hb1').set hb _)).mono ?_; rintro e w2 ⟨rfl, hb2⟩)
          | (go_at_call 36; refine (trim_w x t _ HT.out).mono ?_; rintro e w3 ⟨rfl, rfl⟩))
      go_ret
      exact ⟨.int .i64 n, by rw [HN.out]; rfl, ⟨n, rfl, fun k hk => by rw [HN.out] at hk; cases hk⟩, (below_setCell2 hb1' _ _).trans (hb2.mono (by rw [size_setCell]; exact hb1'.size))⟩
  · have HA := Lib.hid (fun n hn => hat ⟨n, hn⟩ : ∀ n, Lib.atoiAll x.data.toList ≠ .ok n)
    have HN := Lib.hid (show ArgsP.numL x.data.toList = none by
      cases h : ArgsP.numL x.data.toList with
      | none => rfl
      | some n => exact absurd (ArgsP.numL_some h).1 (HA.out n))
    clear hat
    go_enter Tryd.func28, Tryd.ntmps28
    go_wp2_with ((go_at_call 35; refine (atoi_no x _ (by omega) (H.out.below ((Below.refl _ w).alloc (Nat.le_refl _) _)) HA.out).mono ?_; rintro e w1 ⟨m, N, rfl, hb1⟩; obtain ⟨hbx, hc1, hf1, hb1'⟩ := box_kept hb1 hc hf; have hb01 := hbx 1; clear hbx))
    go_ret
    exact ⟨.int .i64 m, by rw [HN.out]; rfl, ⟨m, rfl, fun n hn => by rw [HN.out] at hn; cases hn⟩, below_setCell2 hb1' _ _⟩

set_option maxRecDepth 100000 in
set_option maxHeartbeats 1000000 in
theorem set_yes (key x : ByteArray) (b o : Nat) (v0 : Value) (w : World) (hc : w.cell? ⟨b, o, none⟩ = some v0) (hf : w.frozen? ⟨b, o, none⟩ = false) :
    Calls Tryd.prog 28 #[.agg #[.string key, .pointer none, .pointer (some ⟨b, o, none⟩), .pointer none], .string x] w
      (SetRes ((x.toList == [121, 101, 115]) || (x.toList == [110, 111])) ⟨b, o, none⟩ (fun u => u = .bool (x.toList == [121, 101, 115])) w) := by
  have hlt := cell_lt hc
  cases h1 : (x.toList == [121, 101, 115]) <;> cases h2 : (x.toList == [110, 111])
  all_goals
    go_enter Tryd.func28, Tryd.ntmps28
    go_wp2
    go_ret
    exact ⟨_, rfl, rfl, (Below.refl _ _).alloc (by rw [size_setCell]; exact Nat.le_refl _) _⟩

set_option maxRecDepth 100000 in
theorem set_txt (key x : ByteArray) (b o : Nat) (v0 : Value) (w : World) (hc : w.cell? ⟨b, o, none⟩ = some v0) (hf : w.frozen? ⟨b, o, none⟩ = false) :
    Calls Tryd.prog 28 #[.agg #[.string key, .pointer none, .pointer none, .pointer (some ⟨b, o, none⟩)], .string x] w
      (SetRes true ⟨b, o, none⟩ (fun u => u = .string x) w) := by
  have hlt := cell_lt hc
  go_enter Tryd.func28, Tryd.ntmps28
  go_wp2
  go_ret
  exact ⟨_, rfl, rfl, (Below.refl _ _).alloc (by rw [size_setCell]; exact Nat.le_refl _) _⟩

end Go.Proofs.YtgekkhkmgfbcdaaDoor
