/- The walk of the JSON parser's value, by the contract of its kids. -/
import Derived.Test.YtemcflfgoelpiaaJsonV
import Derived.Test.YtemcflfgoelpiaaJsonPL
namespace Go.Proofs.Ytemcflfgoelpiaa
open Go.RowKit

/-- The end of value and of kids. -/
def ResEnd (w : World) (b : Nat) (s : ByteArray) : JsonP.Res → Ending → World → Prop
  | .ok j t, e, w' => ∃ r : Raw, e = .returned (.agg r.cells.toArray) ∧ Mv b w w' ∧ At w' b s t ∧ Lies w' (fun k => w.heap.size ≤ k) j r
  | .bad c, e, w' => Threw w b c e w'
/-- What kids reads. -/
def kidsV (n : Nat) (ob : Bool) (deep : Nat) (l : List UInt8) : JsonP.Res := match JsonP.has (JsonP.isEnd ob) (JsonP.blanks l) with
  | some u => .ok (.mk (if ob then 6 else 5) [] [] []) u
  | none => JsonP.items n ob deep [] [] l
def openB (ob : Bool) : Int := if ob then 123 else 91
def ValueP (n : Nat) : Prop := ∀ (deep : Nat) (l : List UInt8) (w : World) (b : Nat) (s : ByteArray), s.size ≤ 1048576 → At w b s l → 2 * l.length + 1 ≤ n → deep ≤ 32 →
  Calls Try.prog 29 #[.pointer (some ⟨b, 0, none⟩), .int .i64 deep] w fun e w' => ResEnd w b s (JsonP.value n deep l) e w'
def KidsP (n : Nat) : Prop := ∀ (ob : Bool) (deep : Nat) (l : List UInt8) (w : World) (b : Nat) (s : ByteArray), s.size ≤ 1048576 → At w b s l → 2 * l.length + 2 ≤ n → deep ≤ 32 →
  Calls Try.prog 50 #[.pointer (some ⟨b, 0, none⟩), .int .u8 (openB ob), .int .i64 deep] w fun e w' => ResEnd w b s (kidsV n ob deep l) e w'

def zeroC : Array Value := #[.int .i64 0, .string ⟨#[]⟩, .slice none 0 0, .slice none 0 0]
/-- What value holds behind its first calls. -/
structure ValS (w wr : World) (b V : Nat) (s : ByteArray) (l : List UInt8) : Prop where
  mv : Mv b w wr
  at_ : At wr b s l
  blk : wr.heap[V]? = some (.cells #[.int .i64 0, .string ⟨#[]⟩, .slice none 0 0, .slice none 0 0] 37)
theorem ValS.start {w : World} {b : Nat} {s : ByteArray} {l : List UInt8} (h : At w b s l) : ValS w (w.alloc (.cells #[.int .i64 0, .string ⟨#[]⟩, .slice none 0 0, .slice none 0 0] 37)) b w.heap.size s l :=
  ⟨(Mv.rfl_ b w).alloc _, h.below ((Below.refl _ w).alloc (Nat.le_refl _) _), heap_alloc_new w _⟩
theorem ValS.step {w wr wx : World} {b V : Nat} {s : ByteArray} {l l' : List UInt8} (h : ValS w wr b V s l) (k : Mv b wr wx) (ha : At wx b s l') (hb : V ≠ b) : ValS w wx b V s l' :=
  ⟨h.mv.step k, ha, (k.heap (Array.getElem?_eq_some_iff.1 h.blk).1 hb).trans h.blk⟩

theorem cells_set {w : World} {V : Nat} {a0 a1 a2 a3 : Value} {T : TypeId} (h : w.heap[V]? = some (.cells #[a0, a1, a2, a3] T)) (b0 b1 b2 b3 : Value) :
    ((((w.setCell ⟨V, 0, none⟩ b0).setCell ⟨V, 1, none⟩ b1).setCell ⟨V, 2, none⟩ b2).setCell ⟨V, 3, none⟩ b3).heap[V]? = some (.cells #[b0, b1, b2, b3] T) := by
  simp only [World.setCell, Array.getElem?_modify, if_true, h, Option.map_some]
  rfl
/-- Behind the store of the result. -/
theorem ValS.ret {w wr : World} {b V : Nat} {s : ByteArray} {l : List UInt8} (h : ValS w wr b V s l) (hV : w.heap.size = V) (hb : V ≠ b) (j : JsonP.J) (r : Raw) (hl : Lies wr (fun k => w.heap.size ≤ k ∧ k ≠ V) j r) (b0 b1 b2 b3 : Value) :
    Mv b w ((((wr.setCell ⟨V, 0, none⟩ b0).setCell ⟨V, 1, none⟩ b1).setCell ⟨V, 2, none⟩ b2).setCell ⟨V, 3, none⟩ b3) ∧
    At ((((wr.setCell ⟨V, 0, none⟩ b0).setCell ⟨V, 1, none⟩ b1).setCell ⟨V, 2, none⟩ b2).setCell ⟨V, 3, none⟩ b3) b s l ∧
    Lies ((((wr.setCell ⟨V, 0, none⟩ b0).setCell ⟨V, 1, none⟩ b1).setCell ⟨V, 2, none⟩ b2).setCell ⟨V, 3, none⟩ b3) (fun k => w.heap.size ≤ k) j r := by
  have hm := (((h.mv.set ⟨V, 0, none⟩ (.inr (Nat.le_of_eq hV)) b0).set ⟨V, 1, none⟩ (.inr (Nat.le_of_eq hV)) b1).set ⟨V, 2, none⟩ (.inr (Nat.le_of_eq hV)) b2).set ⟨V, 3, none⟩ (.inr (Nat.le_of_eq hV)) b3
  have hst : ∀ (w : World) (o : Nat) (u : Value), Stand (fun k => k ≠ V) w (w.setCell ⟨V, o, none⟩ u) := fun w o u => Stand.set ⟨V, o, none⟩ u (fun h => h rfl)
  have hst2 : Stand (fun k => k ≠ V) wr ((((wr.setCell ⟨V, 0, none⟩ b0).setCell ⟨V, 1, none⟩ b1).setCell ⟨V, 2, none⟩ b2).setCell ⟨V, 3, none⟩ b3) := by
    refine ⟨by simp [World.setCell], fun k hk hlt => ?_⟩
    rw [(hst _ 3 b3).block k hk (by simpa [World.setCell] using hlt), (hst _ 2 b2).block k hk (by simpa [World.setCell] using hlt), (hst _ 1 b1).block k hk (by simpa [World.setCell] using hlt), (hst _ 0 b0).block k hk hlt]
  refine ⟨hm, h.at_.far (hst2.block b hb.symm h.at_.lt), ?_⟩
  exact Lies.mono (fun k hk _ => hk.1) j r (Lies.on ⟨hst2.size, fun k hk hlt => hst2.block k hk.2 hlt⟩ j r hl)

theorem value_zero : ValueP 0 := fun deep l w b s hs h hn => absurd hn (by omega)

theorem value_nil {n deep : Nat} {l : List UInt8} (h : JsonP.blanks l = []) : JsonP.value (n + 1) deep l = .bad 20 := by unfold JsonP.value; rw [h]
theorem value_cons {n deep : Nat} {l t : List UInt8} {c : UInt8} (h : JsonP.blanks l = c :: t) : JsonP.value (n + 1) deep l =
      if c = 110 then JsonP.leaf 0 (JsonP.want [110, 117, 108, 108] (c :: t))
      else if c = 102 then JsonP.leaf 1 (JsonP.want [102, 97, 108, 115, 101] (c :: t))
      else if c = 116 then JsonP.leaf 2 (JsonP.want [116, 114, 117, 101] (c :: t))
      else if c = 34 then (match JsonP.text (c :: t) with
        | some (s, u) => .ok (.mk 4 s [] []) u
        | none => .bad 20)
      else if c = 45 ∨ JsonP.isDg c then (match JsonP.number (c :: t) with
        | some u => .ok (.mk 3 ((c :: t).take ((c :: t).length - u.length)) [] []) u
        | none => .bad 20)
      else if c = 91 ∨ c = 123 then (if 32 ≤ deep then .bad 21 else kidsV n (c = 123) (deep + 1) t)
      else .bad 20 := by
  have key : (match JsonP.has (JsonP.isEnd (c = 123)) (JsonP.blanks t) with
        | some u => JsonP.Res.ok (.mk (if c = 123 then 6 else 5) [] [] []) u
        | none => JsonP.items n (c = 123) (deep + 1) [] [] t) = kidsV n (c = 123) (deep + 1) t := by
    unfold kidsV
    by_cases hc : c = 123 <;> simp [hc]
  rw [← key]
  conv => lhs; unfold JsonP.value
  rw [h]
  rfl

set_option maxRecDepth 100000 in
set_option maxHeartbeats 3200000 in
theorem value_w_nil (n deep : Nat) (l : List UInt8) (w : World) (b : Nat) (s : ByteArray) (hs : s.size ≤ 1048576) (h : At w b s l) (hbl : JsonP.blanks l = []) :
    Calls Try.prog 29 #[.pointer (some ⟨b, 0, none⟩), .int .i64 deep] w fun e w' => Threw w b 20 e w' := by
  have hbw := h.lt
  have HS0 := Lib.hid (ValS.start h)
  obtain ⟨V, hV⟩ : ∃ V, w.heap.size = V := ⟨_, rfl⟩
  have HVe := Lib.hid hV
  have hVb : V ≠ b := by omega
  clear h hV
  have HX : Hid (((hd (JsonP.blanks l)).toNat : Int) = 0) := Lib.hid (by rw [hbl]; rfl)
  have HDg : Hid (∀ w, Calls Try.prog 48 #[.int .u8 0] w fun e w' => e = .returned (.bool false) ∧ w = w') := Lib.hid fun w => isDigit_any 0 w
  clear hbl
  go_enter Try.func29, Try.ntmps29
  go_wp2_with (first
    | (go_at_call 30; refine (blanks_any _ b s l hs HS0.out.at_).mono ?_; rintro e w1 ⟨rfl, hm, ha⟩; have HS1 := Lib.hid (HS0.out.step hm ha (by rw [HVe.out]; exact hVb)); clear hm ha)
    | (go_at_call 45; refine (peek_hd _ b s _ hs HS1.out.at_).mono ?_; rintro e w2 ⟨rfl, hm, ha⟩; rw [HX.out]; have HS := Lib.hid (by have := HS1.out.step hm ha (by rw [HVe.out]; exact hVb); rw [HVe.out] at this; exact this); clear hm ha)
    | (go_at_call 48; refine (HDg.out _).mono ?_; rintro e w8 ⟨rfl, rfl⟩)
    | (go_at_call 31; refine (fail_any 20 _ b s _ HS.out.at_).mono ?_; rintro e w9 ⟨hm9, i9, rfl⟩))
  exact ⟨rfl, HS.out.mv.step hm9, i9, rfl⟩

set_option maxRecDepth 100000 in
set_option maxHeartbeats 3200000 in
theorem value_w_other (n deep : Nat) (l : List UInt8) (w : World) (b : Nat) (s : ByteArray) (hs : s.size ≤ 1048576) (h : At w b s l) (c : UInt8) (t : List UInt8) (hbl : JsonP.blanks l = c :: t) (hx : c ≠ 110 ∧ c ≠ 102 ∧ c ≠ 116 ∧ c ≠ 34 ∧ c ≠ 45 ∧ c ≠ 91 ∧ c ≠ 123) (hd0 : JsonP.isDg c = false) :
    Calls Try.prog 29 #[.pointer (some ⟨b, 0, none⟩), .int .i64 deep] w fun e w' => Threw w b 20 e w' := by
  have hbw := h.lt
  have HS0 := Lib.hid (ValS.start h)
  obtain ⟨V, hV⟩ : ∃ V, w.heap.size = V := ⟨_, rfl⟩
  have HVe := Lib.hid hV
  have hVb : V ≠ b := by omega
  clear h hV
  obtain ⟨x, hxx⟩ : ∃ x : Int, (c.toNat : Int) = x := ⟨_, rfl⟩
  have HX : Hid (((hd (JsonP.blanks l)).toNat : Int) = x) := Lib.hid (by rw [hbl]; exact hxx)
  have HDg : Hid (∀ w, Calls Try.prog 48 #[.int .u8 x] w fun e w' => e = .returned (.bool false) ∧ w = w') := Lib.hid fun w => by
    have := isDigit_any c w
    rw [hxx, hd0] at this
    exact this
  have hne : ∀ k : UInt8, c ≠ k → (x == (k.toNat : Int)) = false := fun k hk => by
    rw [beq_eq_false_iff_ne, ← hxx]
    intro e
    exact hk (UInt8.toNat_inj.1 (by omega))
  have q1 : (x == 110) = false := hne 110 hx.1
  have q2 : (x == 102) = false := hne 102 hx.2.1
  have q3 : (x == 116) = false := hne 116 hx.2.2.1
  have q4 : (x == 34) = false := hne 34 hx.2.2.2.1
  have q5 : (x == 45) = false := hne 45 hx.2.2.2.2.1
  have q6 : (x == 91) = false := hne 91 hx.2.2.2.2.2.1
  have q7 : (x == 123) = false := hne 123 hx.2.2.2.2.2.2
  clear hbl hx hd0 hne hxx
  go_enter Try.func29, Try.ntmps29
  go_wp2_with (first
    | (go_at_call 30; refine (blanks_any _ b s l hs HS0.out.at_).mono ?_; rintro e w1 ⟨rfl, hm, ha⟩; have HS1 := Lib.hid (HS0.out.step hm ha (by rw [HVe.out]; exact hVb)); clear hm ha)
    | (go_at_call 45; refine (peek_hd _ b s _ hs HS1.out.at_).mono ?_; rintro e w2 ⟨rfl, hm, ha⟩; rw [HX.out]; have HS := Lib.hid (by have := HS1.out.step hm ha (by rw [HVe.out]; exact hVb); rw [HVe.out] at this; exact this); clear hm ha)
    | (go_at_call 48; refine (HDg.out _).mono ?_; rintro e w8 ⟨rfl, rfl⟩)
    | (go_at_call 31; refine (fail_any 20 _ b s _ HS.out.at_).mono ?_; rintro e w9 ⟨hm9, i9, rfl⟩))
  exact ⟨rfl, HS.out.mv.step hm9, i9, rfl⟩

set_option maxRecDepth 100000 in
set_option maxHeartbeats 3200000 in
theorem value_w_null (n deep : Nat) (l : List UInt8) (w : World) (b : Nat) (s : ByteArray) (hs : s.size ≤ 1048576) (h : At w b s l) (t : List UInt8) (hbl : JsonP.blanks l = 110 :: t) :
    Calls Try.prog 29 #[.pointer (some ⟨b, 0, none⟩), .int .i64 deep] w fun e w' => ResEnd w b s (JsonP.leaf 0 (JsonP.want [110, 117, 108, 108] (110 :: t))) e w' := by
  have hbw := h.lt
  have HS0 := Lib.hid (ValS.start h)
  obtain ⟨V, hV⟩ : ∃ V, w.heap.size = V := ⟨_, rfl⟩
  have HVe := Lib.hid hV
  have hVb : V ≠ b := by omega
  clear h hV
  have HX : Hid (((hd (JsonP.blanks l)).toNat : Int) = 110) := Lib.hid (by rw [hbl]; rfl)
  cases hw : JsonP.want [110, 117, 108, 108] (110 :: t) with
  | none =>
    have HW : Hid (JsonP.want [110, 117, 108, 108] (JsonP.blanks l) = none) := Lib.hid (by rw [hbl]; exact hw)
    clear hw hbl
    go_enter Try.func29, Try.ntmps29
    go_wp2_with (first
      | (go_at_call 30; refine (blanks_any _ b s l hs HS0.out.at_).mono ?_; rintro e w1 ⟨rfl, hm, ha⟩; have HS1 := Lib.hid (HS0.out.step hm ha (by rw [HVe.out]; exact hVb)); clear hm ha)
      | (go_at_call 45; refine (peek_hd _ b s _ hs HS1.out.at_).mono ?_; rintro e w2 ⟨rfl, hm, ha⟩; rw [HX.out]; have HS := Lib.hid (by have := HS1.out.step hm ha (by rw [HVe.out]; exact hVb); rw [HVe.out] at this; exact this); clear hm ha)
      | (go_at_call 46; refine (want_any ⟨#[110, 117, 108, 108]⟩ (by decide) _ b s _ hs HS.out.at_).mono ?_; rw [show (ByteArray.mk #[110, 117, 108, 108]).data.toList = [110, 117, 108, 108] from rfl, HW.out]; rintro e w9 ⟨hm9, i9, rfl⟩))
    exact ⟨rfl, HS.out.mv.step hm9, i9, rfl⟩
  | some u =>
    have HW : Hid (JsonP.want [110, 117, 108, 108] (JsonP.blanks l) = some u) := Lib.hid (by rw [hbl]; exact hw)
    clear hw hbl
    go_enter Try.func29, Try.ntmps29
    go_upto_region 5 with (first
      | (go_at_call 30; refine (blanks_any _ b s l hs HS0.out.at_).mono ?_; rintro e w1 ⟨rfl, hm, ha⟩; have HS1 := Lib.hid (HS0.out.step hm ha (by rw [HVe.out]; exact hVb)); clear hm ha)
      | (go_at_call 45; refine (peek_hd _ b s _ hs HS1.out.at_).mono ?_; rintro e w2 ⟨rfl, hm, ha⟩; rw [HX.out]; have HS := Lib.hid (by have := HS1.out.step hm ha (by rw [HVe.out]; exact hVb); rw [HVe.out] at this; exact this); clear hm ha)
      | (go_at_call 46; refine (want_any ⟨#[110, 117, 108, 108]⟩ (by decide) _ b s _ hs HS.out.at_).mono ?_; rw [show (ByteArray.mk #[110, 117, 108, 108]).data.toList = [110, 117, 108, 108] from rfl, HW.out]; rintro e w3 ⟨rfl, hm, ha⟩; have HS3 := Lib.hid (HS.out.step hm ha hVb); clear hm ha))
    have hc := fun o => Lib.cell_of_heap HS3.out.blk o
    have hz := fun o => Lib.frozen_of_heap HS3.out.blk o
    rw [HVe.out]
    go_wp2
    refine bodyPost_ret (v := .agg #[.int .i64 0, .string ⟨#[]⟩, .slice none 0 0, .slice none 0 0]) ?_ rfl ?_
    · simp [results, Try.results29, go_sem, hc]
    · exact ⟨leafRaw 0 ⟨#[]⟩, rfl, HS3.out.ret HVe.out hVb _ _ (Lies.leaf _ _ 0 []) _ _ _ _⟩

set_option maxRecDepth 100000 in
set_option maxHeartbeats 3200000 in
theorem value_w_false (n deep : Nat) (l : List UInt8) (w : World) (b : Nat) (s : ByteArray) (hs : s.size ≤ 1048576) (h : At w b s l) (t : List UInt8) (hbl : JsonP.blanks l = 102 :: t) :
    Calls Try.prog 29 #[.pointer (some ⟨b, 0, none⟩), .int .i64 deep] w fun e w' => ResEnd w b s (JsonP.leaf 1 (JsonP.want [102, 97, 108, 115, 101] (102 :: t))) e w' := by
  have hbw := h.lt
  have HS0 := Lib.hid (ValS.start h)
  obtain ⟨V, hV⟩ : ∃ V, w.heap.size = V := ⟨_, rfl⟩
  have HVe := Lib.hid hV
  have hVb : V ≠ b := by omega
  clear h hV
  have HX : Hid (((hd (JsonP.blanks l)).toNat : Int) = 102) := Lib.hid (by rw [hbl]; rfl)
  cases hw : JsonP.want [102, 97, 108, 115, 101] (102 :: t) with
  | none =>
    have HW : Hid (JsonP.want [102, 97, 108, 115, 101] (JsonP.blanks l) = none) := Lib.hid (by rw [hbl]; exact hw)
    clear hw hbl
    go_enter Try.func29, Try.ntmps29
    go_wp2_with (first
      | (go_at_call 30; refine (blanks_any _ b s l hs HS0.out.at_).mono ?_; rintro e w1 ⟨rfl, hm, ha⟩; have HS1 := Lib.hid (HS0.out.step hm ha (by rw [HVe.out]; exact hVb)); clear hm ha)
      | (go_at_call 45; refine (peek_hd _ b s _ hs HS1.out.at_).mono ?_; rintro e w2 ⟨rfl, hm, ha⟩; rw [HX.out]; have HS := Lib.hid (by have := HS1.out.step hm ha (by rw [HVe.out]; exact hVb); rw [HVe.out] at this; exact this); clear hm ha)
      | (go_at_call 46; refine (want_any ⟨#[102, 97, 108, 115, 101]⟩ (by decide) _ b s _ hs HS.out.at_).mono ?_; rw [show (ByteArray.mk #[102, 97, 108, 115, 101]).data.toList = [102, 97, 108, 115, 101] from rfl, HW.out]; rintro e w9 ⟨hm9, i9, rfl⟩))
    exact ⟨rfl, HS.out.mv.step hm9, i9, rfl⟩
  | some u =>
    have HW : Hid (JsonP.want [102, 97, 108, 115, 101] (JsonP.blanks l) = some u) := Lib.hid (by rw [hbl]; exact hw)
    clear hw hbl
    go_enter Try.func29, Try.ntmps29
    go_upto_region 8 with (first
      | (go_at_call 30; refine (blanks_any _ b s l hs HS0.out.at_).mono ?_; rintro e w1 ⟨rfl, hm, ha⟩; have HS1 := Lib.hid (HS0.out.step hm ha (by rw [HVe.out]; exact hVb)); clear hm ha)
      | (go_at_call 45; refine (peek_hd _ b s _ hs HS1.out.at_).mono ?_; rintro e w2 ⟨rfl, hm, ha⟩; rw [HX.out]; have HS := Lib.hid (by have := HS1.out.step hm ha (by rw [HVe.out]; exact hVb); rw [HVe.out] at this; exact this); clear hm ha)
      | (go_at_call 46; refine (want_any ⟨#[102, 97, 108, 115, 101]⟩ (by decide) _ b s _ hs HS.out.at_).mono ?_; rw [show (ByteArray.mk #[102, 97, 108, 115, 101]).data.toList = [102, 97, 108, 115, 101] from rfl, HW.out]; rintro e w3 ⟨rfl, hm, ha⟩; have HS3 := Lib.hid (HS.out.step hm ha hVb); clear hm ha))
    have hc := fun o => Lib.cell_of_heap HS3.out.blk o
    have hz := fun o => Lib.frozen_of_heap HS3.out.blk o
    rw [HVe.out]
    go_wp2
    refine bodyPost_ret (v := .agg #[.int .i64 1, .string ⟨#[]⟩, .slice none 0 0, .slice none 0 0]) ?_ rfl ?_
    · simp [results, Try.results29, go_sem, hc]
    · exact ⟨leafRaw 1 ⟨#[]⟩, rfl, HS3.out.ret HVe.out hVb _ _ (Lies.leaf _ _ 1 []) _ _ _ _⟩

set_option maxRecDepth 100000 in
set_option maxHeartbeats 3200000 in
theorem value_w_true (n deep : Nat) (l : List UInt8) (w : World) (b : Nat) (s : ByteArray) (hs : s.size ≤ 1048576) (h : At w b s l) (t : List UInt8) (hbl : JsonP.blanks l = 116 :: t) :
    Calls Try.prog 29 #[.pointer (some ⟨b, 0, none⟩), .int .i64 deep] w fun e w' => ResEnd w b s (JsonP.leaf 2 (JsonP.want [116, 114, 117, 101] (116 :: t))) e w' := by
  have hbw := h.lt
  have HS0 := Lib.hid (ValS.start h)
  obtain ⟨V, hV⟩ : ∃ V, w.heap.size = V := ⟨_, rfl⟩
  have HVe := Lib.hid hV
  have hVb : V ≠ b := by omega
  clear h hV
  have HX : Hid (((hd (JsonP.blanks l)).toNat : Int) = 116) := Lib.hid (by rw [hbl]; rfl)
  cases hw : JsonP.want [116, 114, 117, 101] (116 :: t) with
  | none =>
    have HW : Hid (JsonP.want [116, 114, 117, 101] (JsonP.blanks l) = none) := Lib.hid (by rw [hbl]; exact hw)
    clear hw hbl
    go_enter Try.func29, Try.ntmps29
    go_wp2_with (first
      | (go_at_call 30; refine (blanks_any _ b s l hs HS0.out.at_).mono ?_; rintro e w1 ⟨rfl, hm, ha⟩; have HS1 := Lib.hid (HS0.out.step hm ha (by rw [HVe.out]; exact hVb)); clear hm ha)
      | (go_at_call 45; refine (peek_hd _ b s _ hs HS1.out.at_).mono ?_; rintro e w2 ⟨rfl, hm, ha⟩; rw [HX.out]; have HS := Lib.hid (by have := HS1.out.step hm ha (by rw [HVe.out]; exact hVb); rw [HVe.out] at this; exact this); clear hm ha)
      | (go_at_call 46; refine (want_any ⟨#[116, 114, 117, 101]⟩ (by decide) _ b s _ hs HS.out.at_).mono ?_; rw [show (ByteArray.mk #[116, 114, 117, 101]).data.toList = [116, 114, 117, 101] from rfl, HW.out]; rintro e w9 ⟨hm9, i9, rfl⟩))
    exact ⟨rfl, HS.out.mv.step hm9, i9, rfl⟩
  | some u =>
    have HW : Hid (JsonP.want [116, 114, 117, 101] (JsonP.blanks l) = some u) := Lib.hid (by rw [hbl]; exact hw)
    clear hw hbl
    go_enter Try.func29, Try.ntmps29
    go_upto_region 11 with (first
      | (go_at_call 30; refine (blanks_any _ b s l hs HS0.out.at_).mono ?_; rintro e w1 ⟨rfl, hm, ha⟩; have HS1 := Lib.hid (HS0.out.step hm ha (by rw [HVe.out]; exact hVb)); clear hm ha)
      | (go_at_call 45; refine (peek_hd _ b s _ hs HS1.out.at_).mono ?_; rintro e w2 ⟨rfl, hm, ha⟩; rw [HX.out]; have HS := Lib.hid (by have := HS1.out.step hm ha (by rw [HVe.out]; exact hVb); rw [HVe.out] at this; exact this); clear hm ha)
      | (go_at_call 46; refine (want_any ⟨#[116, 114, 117, 101]⟩ (by decide) _ b s _ hs HS.out.at_).mono ?_; rw [show (ByteArray.mk #[116, 114, 117, 101]).data.toList = [116, 114, 117, 101] from rfl, HW.out]; rintro e w3 ⟨rfl, hm, ha⟩; have HS3 := Lib.hid (HS.out.step hm ha hVb); clear hm ha))
    have hc := fun o => Lib.cell_of_heap HS3.out.blk o
    have hz := fun o => Lib.frozen_of_heap HS3.out.blk o
    rw [HVe.out]
    go_wp2
    refine bodyPost_ret (v := .agg #[.int .i64 2, .string ⟨#[]⟩, .slice none 0 0, .slice none 0 0]) ?_ rfl ?_
    · simp [results, Try.results29, go_sem, hc]
    · exact ⟨leafRaw 2 ⟨#[]⟩, rfl, HS3.out.ret HVe.out hVb _ _ (Lies.leaf _ _ 2 []) _ _ _ _⟩

set_option maxRecDepth 100000 in
set_option maxHeartbeats 3200000 in
theorem value_w_text (n deep : Nat) (l : List UInt8) (w : World) (b : Nat) (s : ByteArray) (hs : s.size ≤ 1048576) (h : At w b s l) (t : List UInt8) (hbl : JsonP.blanks l = 34 :: t) :
    Calls Try.prog 29 #[.pointer (some ⟨b, 0, none⟩), .int .i64 deep] w fun e w' => ResEnd w b s (match JsonP.text (34 :: t) with
        | some (s, u) => .ok (.mk 4 s [] []) u
        | none => .bad 20) e w' := by
  have hbw := h.lt
  have HS0 := Lib.hid (ValS.start h)
  obtain ⟨V, hV⟩ : ∃ V, w.heap.size = V := ⟨_, rfl⟩
  have HVe := Lib.hid hV
  have hVb : V ≠ b := by omega
  clear h hV
  have HX : Hid (((hd (JsonP.blanks l)).toNat : Int) = 34) := Lib.hid (by rw [hbl]; rfl)
  cases hw : JsonP.text (34 :: t) with
  | none =>
    have HW : Hid (JsonP.text (JsonP.blanks l) = none) := Lib.hid (by rw [hbl]; exact hw)
    clear hw hbl
    go_enter Try.func29, Try.ntmps29
    go_wp2_with (first
      | (go_at_call 30; refine (blanks_any _ b s l hs HS0.out.at_).mono ?_; rintro e w1 ⟨rfl, hm, ha⟩; have HS1 := Lib.hid (HS0.out.step hm ha (by rw [HVe.out]; exact hVb)); clear hm ha)
      | (go_at_call 45; refine (peek_hd _ b s _ hs HS1.out.at_).mono ?_; rintro e w2 ⟨rfl, hm, ha⟩; rw [HX.out]; have HS := Lib.hid (by have := HS1.out.step hm ha (by rw [HVe.out]; exact hVb); rw [HVe.out] at this; exact this); clear hm ha)
      | (go_at_call 47; refine (text_any _ b s _ hs HS.out.at_).mono ?_; rw [HW.out]; rintro e w9 ⟨hm9, i9, rfl⟩))
    exact ⟨rfl, HS.out.mv.step hm9, i9, rfl⟩
  | some p =>
    obtain ⟨tx, u⟩ := p
    have HW : Hid (JsonP.text (JsonP.blanks l) = some (tx, u)) := Lib.hid (by rw [hbl]; exact hw)
    clear hw hbl
    have tk : True := trivial
    go_enter Try.func29, Try.ntmps29
    go_upto_region 13 with (first
      | (go_at_call 30; refine (blanks_any _ b s l hs HS0.out.at_).mono ?_; rintro e w1 ⟨rfl, hm, ha⟩; have HS1 := Lib.hid (HS0.out.step hm ha (by rw [HVe.out]; exact hVb)); clear hm ha)
      | (go_at_call 45; refine (peek_hd _ b s _ hs HS1.out.at_).mono ?_; rintro e w2 ⟨rfl, hm, ha⟩; rw [HX.out]; have HS := Lib.hid (by have := HS1.out.step hm ha (by rw [HVe.out]; exact hVb); rw [HVe.out] at this; exact this); clear hm ha))
    have hc0 := fun o => Lib.cell_of_heap HS.out.blk o
    clear hc0
    rw [HVe.out]
    go_wp2_with (go_at_call 47; refine (text_any _ b s _ hs HS.out.at_).mono ?_; rw [HW.out]; rintro e w3 ⟨rfl, hm, ha⟩; have HS3 := Lib.hid (HS.out.step hm ha hVb); have hc := fun o => Lib.cell_of_heap HS3.out.blk o; have hz := fun o => Lib.frozen_of_heap HS3.out.blk o; clear hm ha)
    refine bodyPost_ret (v := .agg #[.int .i64 4, .string ⟨tx.toArray⟩, .slice none 0 0, .slice none 0 0]) ?_ rfl ?_
    · simp [results, Try.results29, go_sem, hc]
    · exact ⟨leafRaw 4 (str tx), rfl, HS3.out.ret HVe.out hVb _ _ (Lies.leaf _ _ 4 tx) _ _ _ _⟩

set_option maxRecDepth 100000 in
set_option maxHeartbeats 3200000 in
theorem value_w_num_minus (n deep : Nat) (l : List UInt8) (w : World) (b : Nat) (s : ByteArray) (hs : s.size ≤ 1048576) (h : At w b s l) (c : UInt8) (t : List UInt8) (hbl : JsonP.blanks l = c :: t) (hc45 : c = 45) (hx : c ≠ 110 ∧ c ≠ 102 ∧ c ≠ 116 ∧ c ≠ 34) :
    Calls Try.prog 29 #[.pointer (some ⟨b, 0, none⟩), .int .i64 deep] w fun e w' => ResEnd w b s (match JsonP.number (c :: t) with
        | some u => .ok (.mk 3 ((c :: t).take ((c :: t).length - u.length)) [] []) u
        | none => .bad 20) e w' := by
  have hbw := h.lt
  have HS0 := Lib.hid (ValS.start h)
  obtain ⟨V, hV⟩ : ∃ V, w.heap.size = V := ⟨_, rfl⟩
  have HVe := Lib.hid hV
  have hVb : V ≠ b := by omega
  clear h hV
  obtain ⟨x, hxx⟩ : ∃ x : Int, (c.toNat : Int) = x := ⟨_, rfl⟩
  have HX : Hid (((hd (JsonP.blanks l)).toNat : Int) = x) := Lib.hid (by rw [hbl]; exact hxx)
  have hne : ∀ k : UInt8, c ≠ k → (x == (k.toNat : Int)) = false := fun k hk => by
    rw [beq_eq_false_iff_ne, ← hxx]
    intro e
    exact hk (UInt8.toNat_inj.1 (by omega))
  have q1 : (x == 110) = false := hne 110 hx.1
  have q2 : (x == 102) = false := hne 102 hx.2.1
  have q3 : (x == 116) = false := hne 116 hx.2.2.1
  have q4 : (x == 34) = false := hne 34 hx.2.2.2
  have q5 : (x == 45) = true := by rw [← hxx, hc45]; rfl
  cases hw : JsonP.number (c :: t) with
  | none =>
    have HW : Hid (JsonP.number (JsonP.blanks l) = none) := Lib.hid (by rw [hbl]; exact hw)
    clear hw hbl hne hxx hx
    go_enter Try.func29, Try.ntmps29
    go_wp2_with (first
      | (go_at_call 30; refine (blanks_any _ b s l hs HS0.out.at_).mono ?_; rintro e w1 ⟨rfl, hm, ha⟩; have HS1 := Lib.hid (HS0.out.step hm ha (by rw [HVe.out]; exact hVb)); clear hm ha)
      | (go_at_call 45; refine (peek_hd _ b s _ hs HS1.out.at_).mono ?_; rintro e w2 ⟨rfl, hm, ha⟩; rw [HX.out]; have HS := Lib.hid (by have := HS1.out.step hm ha (by rw [HVe.out]; exact hVb); rw [HVe.out] at this; exact this); clear hm ha)
      | (go_at_call 49; refine (number_any _ b s _ hs HS.out.at_).mono ?_; unfold NumEnd; rw [HW.out]; rintro e w9 ⟨hm9, i9, rfl⟩))
    exact ⟨rfl, HS.out.mv.step hm9, i9, rfl⟩
  | some u =>
    have HW : Hid (JsonP.number (JsonP.blanks l) = some u) := Lib.hid (by rw [hbl]; exact hw)
    obtain ⟨tx, htx⟩ : ∃ tx, (c :: t).take ((c :: t).length - u.length) = tx := ⟨_, rfl⟩
    have HTx : Hid ((JsonP.blanks l).take ((JsonP.blanks l).length - u.length) = tx) := Lib.hid (by rw [hbl]; exact htx)
    dsimp only
    rw [htx]
    clear hw hbl hne hxx hx htx
    go_enter Try.func29, Try.ntmps29
    go_upto_region 15 with (first
      | (go_at_call 30; refine (blanks_any _ b s l hs HS0.out.at_).mono ?_; rintro e w1 ⟨rfl, hm, ha⟩; have HS1 := Lib.hid (HS0.out.step hm ha (by rw [HVe.out]; exact hVb)); clear hm ha)
      | (go_at_call 45; refine (peek_hd _ b s _ hs HS1.out.at_).mono ?_; rintro e w2 ⟨rfl, hm, ha⟩; rw [HX.out]; have HS := Lib.hid (by have := HS1.out.step hm ha (by rw [HVe.out]; exact hVb); rw [HVe.out] at this; exact this); clear hm ha))
    rw [HVe.out]
    go_wp2_with (go_at_call 49; refine (number_any _ b s _ hs HS.out.at_).mono ?_; unfold NumEnd; rw [HW.out]; dsimp only; rw [HTx.out]; rintro e w3 ⟨rfl, hm, ha⟩; have HS3 := Lib.hid (HS.out.step hm ha hVb); have hc := fun o => Lib.cell_of_heap HS3.out.blk o; have hz := fun o => Lib.frozen_of_heap HS3.out.blk o; clear hm ha)
    refine bodyPost_ret (v := .agg #[.int .i64 3, .string ⟨tx.toArray⟩, .slice none 0 0, .slice none 0 0]) ?_ rfl ?_
    · simp [results, Try.results29, go_sem, hc]
    · exact ⟨leafRaw 3 (str tx), rfl, HS3.out.ret HVe.out hVb _ _ (Lies.leaf _ _ 3 tx) _ _ _ _⟩

set_option maxRecDepth 100000 in
set_option maxHeartbeats 3200000 in
theorem value_w_num_digit (n deep : Nat) (l : List UInt8) (w : World) (b : Nat) (s : ByteArray) (hs : s.size ≤ 1048576) (h : At w b s l) (c : UInt8) (t : List UInt8) (hbl : JsonP.blanks l = c :: t) (hc45 : c ≠ 45) (hdg : JsonP.isDg c = true) (hx : c ≠ 110 ∧ c ≠ 102 ∧ c ≠ 116 ∧ c ≠ 34) :
    Calls Try.prog 29 #[.pointer (some ⟨b, 0, none⟩), .int .i64 deep] w fun e w' => ResEnd w b s (match JsonP.number (c :: t) with
        | some u => .ok (.mk 3 ((c :: t).take ((c :: t).length - u.length)) [] []) u
        | none => .bad 20) e w' := by
  have hbw := h.lt
  have HS0 := Lib.hid (ValS.start h)
  obtain ⟨V, hV⟩ : ∃ V, w.heap.size = V := ⟨_, rfl⟩
  have HVe := Lib.hid hV
  have hVb : V ≠ b := by omega
  clear h hV
  obtain ⟨x, hxx⟩ : ∃ x : Int, (c.toNat : Int) = x := ⟨_, rfl⟩
  have HX : Hid (((hd (JsonP.blanks l)).toNat : Int) = x) := Lib.hid (by rw [hbl]; exact hxx)
  have hne : ∀ k : UInt8, c ≠ k → (x == (k.toNat : Int)) = false := fun k hk => by
    rw [beq_eq_false_iff_ne, ← hxx]
    intro e
    exact hk (UInt8.toNat_inj.1 (by omega))
  have q1 : (x == 110) = false := hne 110 hx.1
  have q2 : (x == 102) = false := hne 102 hx.2.1
  have q3 : (x == 116) = false := hne 116 hx.2.2.1
  have q4 : (x == 34) = false := hne 34 hx.2.2.2
  have q5 : (x == 45) = false := hne 45 hc45
  have HDg : Hid (∀ w, Calls Try.prog 48 #[.int .u8 x] w fun e w' => e = .returned (.bool true) ∧ w = w') := Lib.hid fun w => by
    have := isDigit_any c w
    rw [hxx, hdg] at this
    exact this
  cases hw : JsonP.number (c :: t) with
  | none =>
    have HW : Hid (JsonP.number (JsonP.blanks l) = none) := Lib.hid (by rw [hbl]; exact hw)
    clear hw hbl hne hxx hx
    go_enter Try.func29, Try.ntmps29
    go_wp2_with (first
      | (go_at_call 30; refine (blanks_any _ b s l hs HS0.out.at_).mono ?_; rintro e w1 ⟨rfl, hm, ha⟩; have HS1 := Lib.hid (HS0.out.step hm ha (by rw [HVe.out]; exact hVb)); clear hm ha)
      | (go_at_call 45; refine (peek_hd _ b s _ hs HS1.out.at_).mono ?_; rintro e w2 ⟨rfl, hm, ha⟩; rw [HX.out]; have HS := Lib.hid (by have := HS1.out.step hm ha (by rw [HVe.out]; exact hVb); rw [HVe.out] at this; exact this); clear hm ha)
      | (go_at_call 48; refine (HDg.out _).mono ?_; rintro e w8 ⟨rfl, rfl⟩)
      | (go_at_call 49; refine (number_any _ b s _ hs HS.out.at_).mono ?_; unfold NumEnd; rw [HW.out]; rintro e w9 ⟨hm9, i9, rfl⟩))
    exact ⟨rfl, HS.out.mv.step hm9, i9, rfl⟩
  | some u =>
    have HW : Hid (JsonP.number (JsonP.blanks l) = some u) := Lib.hid (by rw [hbl]; exact hw)
    obtain ⟨tx, htx⟩ : ∃ tx, (c :: t).take ((c :: t).length - u.length) = tx := ⟨_, rfl⟩
    have HTx : Hid ((JsonP.blanks l).take ((JsonP.blanks l).length - u.length) = tx) := Lib.hid (by rw [hbl]; exact htx)
    dsimp only
    rw [htx]
    clear hw hbl hne hxx hx htx
    go_enter Try.func29, Try.ntmps29
    go_upto_region 15 with (first
      | (go_at_call 30; refine (blanks_any _ b s l hs HS0.out.at_).mono ?_; rintro e w1 ⟨rfl, hm, ha⟩; have HS1 := Lib.hid (HS0.out.step hm ha (by rw [HVe.out]; exact hVb)); clear hm ha)
      | (go_at_call 45; refine (peek_hd _ b s _ hs HS1.out.at_).mono ?_; rintro e w2 ⟨rfl, hm, ha⟩; rw [HX.out]; have HS := Lib.hid (by have := HS1.out.step hm ha (by rw [HVe.out]; exact hVb); rw [HVe.out] at this; exact this); clear hm ha)
      | (go_at_call 48; refine (HDg.out _).mono ?_; rintro e w8 ⟨rfl, rfl⟩))
    rw [HVe.out]
    go_wp2_with (go_at_call 49; refine (number_any _ b s _ hs HS.out.at_).mono ?_; unfold NumEnd; rw [HW.out]; dsimp only; rw [HTx.out]; rintro e w3 ⟨rfl, hm, ha⟩; have HS3 := Lib.hid (HS.out.step hm ha hVb); have hc := fun o => Lib.cell_of_heap HS3.out.blk o; have hz := fun o => Lib.frozen_of_heap HS3.out.blk o; clear hm ha)
    refine bodyPost_ret (v := .agg #[.int .i64 3, .string ⟨tx.toArray⟩, .slice none 0 0, .slice none 0 0]) ?_ rfl ?_
    · simp [results, Try.results29, go_sem, hc]
    · exact ⟨leafRaw 3 (str tx), rfl, HS3.out.ret HVe.out hVb _ _ (Lies.leaf _ _ 3 tx) _ _ _ _⟩

set_option maxRecDepth 100000 in
set_option maxHeartbeats 3200000 in
theorem value_w_list (n deep : Nat) (l : List UInt8) (w : World) (b : Nat) (s : ByteArray) (hs : s.size ≤ 1048576) (h : At w b s l) (t : List UInt8) (hbl : JsonP.blanks l = 91 :: t) (hk : KidsP n) (hn : 2 * t.length + 2 ≤ n) (hdeep : deep ≤ 32) :
    Calls Try.prog 29 #[.pointer (some ⟨b, 0, none⟩), .int .i64 deep] w fun e w' => ResEnd w b s (if 32 ≤ deep then .bad 21 else kidsV n false (deep + 1) t) e w' := by
  have hbw := h.lt
  have HS0 := Lib.hid (ValS.start h)
  obtain ⟨V, hV⟩ : ∃ V, w.heap.size = V := ⟨_, rfl⟩
  have HVe := Lib.hid hV
  have hVb : V ≠ b := by omega
  clear h hV
  have HX : Hid (((hd (JsonP.blanks l)).toNat : Int) = 91) := Lib.hid (by rw [hbl]; rfl)
  have HBl := Lib.hid hbl
  have HDg : Hid (∀ w, Calls Try.prog 48 #[.int .u8 91] w fun e w' => e = .returned (.bool false) ∧ w = w') := Lib.hid fun w => isDigit_any 91 w
  clear hbl
  by_cases hd32 : 32 ≤ deep
  · rw [if_pos hd32]
    have hdd : (32 : Int) ≤ (deep : Int) := by omega
    clear hk
    go_enter Try.func29, Try.ntmps29
    go_wp2_with (first
      | (go_at_call 30; refine (blanks_any _ b s l hs HS0.out.at_).mono ?_; rintro e w1 ⟨rfl, hm, ha⟩; have HS1 := Lib.hid (HS0.out.step hm ha (by rw [HVe.out]; exact hVb)); clear hm ha)
      | (go_at_call 45; refine (peek_hd _ b s _ hs HS1.out.at_).mono ?_; rintro e w2 ⟨rfl, hm, ha⟩; rw [HX.out]; have HS := Lib.hid (by have := HS1.out.step hm ha (by rw [HVe.out]; exact hVb); rw [HVe.out] at this; exact this); clear hm ha)
      | (go_at_call 48; refine (HDg.out _).mono ?_; rintro e w8 ⟨rfl, rfl⟩)
      | (go_at_call 31; refine (fail_any 21 _ b s _ HS.out.at_).mono ?_; rintro e w9 ⟨hm9, i9, rfl⟩))
    exact ⟨rfl, HS.out.mv.step hm9, i9, rfl⟩
  · rw [if_neg hd32]
    have hdd : ¬ (32 : Int) ≤ (deep : Int) := by omega
    have hdd2 : decide ((32 : Int) ≤ (deep : Int)) = false := decide_eq_false hdd
    have hd0 : (0 : Int) ≤ (deep : Int) := by omega
    have hd1 : (deep : Int) < 100 := by omega
    have HK : Hid (∀ W, At W b s t → Calls Try.prog 50 #[.pointer (some ⟨b, 0, none⟩), .int .u8 91, .int .i64 ((deep : Int) + 1)] W fun e w' => ResEnd W b s (kidsV n false (deep + 1) t) e w') := Lib.hid fun W hW => hk false (deep + 1) t W b s hs hW hn (by omega)
    clear hk
    go_enter Try.func29, Try.ntmps29
    go_upto_region 19 with (first
      | (go_at_call 30; refine (blanks_any _ b s l hs HS0.out.at_).mono ?_; rintro e w1 ⟨rfl, hm, ha⟩; have HS1 := Lib.hid (HS0.out.step hm ha (by rw [HVe.out]; exact hVb)); clear hm ha)
      | (go_at_call 45; refine (peek_hd _ b s _ hs HS1.out.at_).mono ?_; rintro e w2 ⟨rfl, hm, ha⟩; rw [HX.out]; have HS := Lib.hid (by have := HS1.out.step hm ha (by rw [HVe.out]; exact hVb); rw [HVe.out] at this; exact this); clear hm ha)
      | (go_at_call 48; refine (HDg.out _).mono ?_; rintro e w8 ⟨rfl, rfl⟩))
    rw [HVe.out]
    obtain ⟨i, h1, h2, h3⟩ := HS.out.at_
    rw [HBl.out] at h2
    obtain ⟨h4, h5⟩ := lt_of_cons h2
    have H3 := Lib.hid h3
    have hc := fun o => Lib.cell_of_heap H3.out o
    have hz := fun o => Lib.frozen_of_heap H3.out o
    have HG : Hid (ValS w (w2.setCell ⟨b, 1, none⟩ (.int .i64 ((i : Int) + 1))) b V s t) := Lib.hid (HS.out.step ((Mv.rfl_ b w2).set ⟨b, 1, none⟩ (.inl rfl) _) (by rw [← h5]; exact At.mk_ H3.out (i + 1) _ (by omega) (by omega)) hVb)
    clear h2 h3 h5
    go_upto_region 20 with fail
    clear hc hz H3 HS HS1 HS0
    generalize w2.setCell ⟨b, 1, none⟩ (.int .i64 ((i : Int) + 1)) = W at HG ⊢
    have hWV : V < W.heap.size := (Array.getElem?_eq_some_iff.1 HG.out.blk).1
    cases hv : kidsV n false (deep + 1) t with
    | bad code =>
      have HV := Lib.hid hv
      clear hv
      go_wp2_with (go_at_call 50; refine (HK.out _ HG.out.at_).mono ?_; rw [HV.out]; rintro e w9 ⟨hm9, i9, rfl⟩)
      rw [HV.out]
      exact ⟨rfl, HG.out.mv.step hm9, i9, rfl⟩
    | ok j u =>
      have HV := Lib.hid hv
      clear hv
      go_wp2_with (go_at_call 50; refine (HK.out _ HG.out.at_).mono ?_; rw [HV.out]; rintro e w3 ⟨r, rfl, hm, ha, hl⟩; obtain ⟨rk, rt, ra, rn, rc, ra2, rn2, rc2⟩ := r; show _; have HS3 := Lib.hid (HG.out.step hm ha hVb); have HL := Lib.hid hl; have hc := fun o => Lib.cell_of_heap HS3.out.blk o; have hz := fun o => Lib.frozen_of_heap HS3.out.blk o; clear hm ha hl; simp only [Raw.cells])
      refine bodyPost_ret (v := .agg #[.int .i64 rk, .string rt, .slice ra rn rc, .slice ra2 rn2 rc2]) ?_ rfl ?_
      · simp [results, Try.results29, go_sem, hc]
      · rw [HV.out]
        exact ⟨⟨rk, rt, ra, rn, rc, ra2, rn2, rc2⟩, rfl, HS3.out.ret HVe.out hVb _ _ (Lies.mono (fun k hk _ => ⟨Nat.le_trans HG.out.mv.size hk, by omega⟩) _ _ HL.out) _ _ _ _⟩

set_option maxRecDepth 100000 in
set_option maxHeartbeats 3200000 in
theorem value_w_object (n deep : Nat) (l : List UInt8) (w : World) (b : Nat) (s : ByteArray) (hs : s.size ≤ 1048576) (h : At w b s l) (t : List UInt8) (hbl : JsonP.blanks l = 123 :: t) (hk : KidsP n) (hn : 2 * t.length + 2 ≤ n) (hdeep : deep ≤ 32) :
    Calls Try.prog 29 #[.pointer (some ⟨b, 0, none⟩), .int .i64 deep] w fun e w' => ResEnd w b s (if 32 ≤ deep then .bad 21 else kidsV n true (deep + 1) t) e w' := by
  have hbw := h.lt
  have HS0 := Lib.hid (ValS.start h)
  obtain ⟨V, hV⟩ : ∃ V, w.heap.size = V := ⟨_, rfl⟩
  have HVe := Lib.hid hV
  have hVb : V ≠ b := by omega
  clear h hV
  have HX : Hid (((hd (JsonP.blanks l)).toNat : Int) = 123) := Lib.hid (by rw [hbl]; rfl)
  have HBl := Lib.hid hbl
  have HDg : Hid (∀ w, Calls Try.prog 48 #[.int .u8 123] w fun e w' => e = .returned (.bool false) ∧ w = w') := Lib.hid fun w => isDigit_any 123 w
  clear hbl
  by_cases hd32 : 32 ≤ deep
  · rw [if_pos hd32]
    have hdd : (32 : Int) ≤ (deep : Int) := by omega
    clear hk
    go_enter Try.func29, Try.ntmps29
    go_wp2_with (first
      | (go_at_call 30; refine (blanks_any _ b s l hs HS0.out.at_).mono ?_; rintro e w1 ⟨rfl, hm, ha⟩; have HS1 := Lib.hid (HS0.out.step hm ha (by rw [HVe.out]; exact hVb)); clear hm ha)
      | (go_at_call 45; refine (peek_hd _ b s _ hs HS1.out.at_).mono ?_; rintro e w2 ⟨rfl, hm, ha⟩; rw [HX.out]; have HS := Lib.hid (by have := HS1.out.step hm ha (by rw [HVe.out]; exact hVb); rw [HVe.out] at this; exact this); clear hm ha)
      | (go_at_call 48; refine (HDg.out _).mono ?_; rintro e w8 ⟨rfl, rfl⟩)
      | (go_at_call 31; refine (fail_any 21 _ b s _ HS.out.at_).mono ?_; rintro e w9 ⟨hm9, i9, rfl⟩))
    exact ⟨rfl, HS.out.mv.step hm9, i9, rfl⟩
  · rw [if_neg hd32]
    have hdd : ¬ (32 : Int) ≤ (deep : Int) := by omega
    have hdd2 : decide ((32 : Int) ≤ (deep : Int)) = false := decide_eq_false hdd
    have hd0 : (0 : Int) ≤ (deep : Int) := by omega
    have hd1 : (deep : Int) < 100 := by omega
    have HK : Hid (∀ W, At W b s t → Calls Try.prog 50 #[.pointer (some ⟨b, 0, none⟩), .int .u8 123, .int .i64 ((deep : Int) + 1)] W fun e w' => ResEnd W b s (kidsV n true (deep + 1) t) e w') := Lib.hid fun W hW => hk true (deep + 1) t W b s hs hW hn (by omega)
    clear hk
    go_enter Try.func29, Try.ntmps29
    go_upto_region 19 with (first
      | (go_at_call 30; refine (blanks_any _ b s l hs HS0.out.at_).mono ?_; rintro e w1 ⟨rfl, hm, ha⟩; have HS1 := Lib.hid (HS0.out.step hm ha (by rw [HVe.out]; exact hVb)); clear hm ha)
      | (go_at_call 45; refine (peek_hd _ b s _ hs HS1.out.at_).mono ?_; rintro e w2 ⟨rfl, hm, ha⟩; rw [HX.out]; have HS := Lib.hid (by have := HS1.out.step hm ha (by rw [HVe.out]; exact hVb); rw [HVe.out] at this; exact this); clear hm ha)
      | (go_at_call 48; refine (HDg.out _).mono ?_; rintro e w8 ⟨rfl, rfl⟩))
    rw [HVe.out]
    obtain ⟨i, h1, h2, h3⟩ := HS.out.at_
    rw [HBl.out] at h2
    obtain ⟨h4, h5⟩ := lt_of_cons h2
    have H3 := Lib.hid h3
    have hc := fun o => Lib.cell_of_heap H3.out o
    have hz := fun o => Lib.frozen_of_heap H3.out o
    have HG : Hid (ValS w (w2.setCell ⟨b, 1, none⟩ (.int .i64 ((i : Int) + 1))) b V s t) := Lib.hid (HS.out.step ((Mv.rfl_ b w2).set ⟨b, 1, none⟩ (.inl rfl) _) (by rw [← h5]; exact At.mk_ H3.out (i + 1) _ (by omega) (by omega)) hVb)
    clear h2 h3 h5
    go_upto_region 20 with fail
    clear hc hz H3 HS HS1 HS0
    generalize w2.setCell ⟨b, 1, none⟩ (.int .i64 ((i : Int) + 1)) = W at HG ⊢
    have hWV : V < W.heap.size := (Array.getElem?_eq_some_iff.1 HG.out.blk).1
    cases hv : kidsV n true (deep + 1) t with
    | bad code =>
      have HV := Lib.hid hv
      clear hv
      go_wp2_with (go_at_call 50; refine (HK.out _ HG.out.at_).mono ?_; rw [HV.out]; rintro e w9 ⟨hm9, i9, rfl⟩)
      rw [HV.out]
      exact ⟨rfl, HG.out.mv.step hm9, i9, rfl⟩
    | ok j u =>
      have HV := Lib.hid hv
      clear hv
      go_wp2_with (go_at_call 50; refine (HK.out _ HG.out.at_).mono ?_; rw [HV.out]; rintro e w3 ⟨r, rfl, hm, ha, hl⟩; obtain ⟨rk, rt, ra, rn, rc, ra2, rn2, rc2⟩ := r; show _; have HS3 := Lib.hid (HG.out.step hm ha hVb); have HL := Lib.hid hl; have hc := fun o => Lib.cell_of_heap HS3.out.blk o; have hz := fun o => Lib.frozen_of_heap HS3.out.blk o; clear hm ha hl; simp only [Raw.cells])
      refine bodyPost_ret (v := .agg #[.int .i64 rk, .string rt, .slice ra rn rc, .slice ra2 rn2 rc2]) ?_ rfl ?_
      · simp [results, Try.results29, go_sem, hc]
      · rw [HV.out]
        exact ⟨⟨rk, rt, ra, rn, rc, ra2, rn2, rc2⟩, rfl, HS3.out.ret HVe.out hVb _ _ (Lies.mono (fun k hk _ => ⟨Nat.le_trans HG.out.mv.size hk, by omega⟩) _ _ HL.out) _ _ _ _⟩


theorem value_step (n : Nat) (hk : KidsP n) : ValueP (n + 1) := by
  intro deep l w b s hs h hn hdeep
  cases hbl : JsonP.blanks l with
  | nil => rw [value_nil hbl]; exact value_w_nil n deep l w b s hs h hbl
  | cons c t =>
    rw [value_cons hbl]
    have hlen : t.length + 1 ≤ l.length := by have := JsonP.blanks_len l; rw [hbl] at this; exact this
    by_cases h1 : c = 110
    · subst h1; rw [if_pos rfl]; exact value_w_null n deep l w b s hs h t hbl
    rw [if_neg h1]
    by_cases h2 : c = 102
    · subst h2; rw [if_pos rfl]; exact value_w_false n deep l w b s hs h t hbl
    rw [if_neg h2]
    by_cases h3 : c = 116
    · subst h3; rw [if_pos rfl]; exact value_w_true n deep l w b s hs h t hbl
    rw [if_neg h3]
    by_cases h4 : c = 34
    · subst h4; rw [if_pos rfl]; exact value_w_text n deep l w b s hs h t hbl
    rw [if_neg h4]
    by_cases h5 : c = 45
    · rw [if_pos (.inl h5)]; exact value_w_num_minus n deep l w b s hs h c t hbl h5 ⟨h1, h2, h3, h4⟩
    by_cases h6 : JsonP.isDg c = true
    · rw [if_pos (.inr h6)]; exact value_w_num_digit n deep l w b s hs h c t hbl h5 h6 ⟨h1, h2, h3, h4⟩
    rw [if_neg (by rintro (e | e); exact h5 e; exact h6 e)]
    by_cases h7 : c = 91
    · subst h7
      rw [if_pos (.inl rfl)]
      exact value_w_list n deep l w b s hs h t hbl hk (by omega) hdeep
    by_cases h8 : c = 123
    · subst h8
      rw [if_pos (.inr rfl)]
      exact value_w_object n deep l w b s hs h t hbl hk (by omega) hdeep
    rw [if_neg (by rintro (e | e); exact h7 e; exact h8 e)]
    exact value_w_other n deep l w b s hs h c t hbl ⟨h1, h2, h3, h4, h5, h7, h8⟩ (by simpa using h6)

end Go.Proofs.Ytemcflfgoelpiaa
