/- Chapter 10: the parser of patterns: flags. -/
import Derived.Test.YtblkejnckbeieaaGreatDoorZk8
namespace Go.Proofs.YtblkejnckbeieaaGreatDoor
open Go.RowKit SetPure

theorem flags_succ (rs : List Int) (from_ n : Nat) (on some_ : Bool) (f : SynP.Fl) (m0 m1 : List Int) (i : Nat) : SynP.flags rs from_ (n + 1) on some_ f m0 m1 i =
    if SynP.pk rs i = 45 ∧ on = true then SynP.flags rs from_ n false some_ f m0 m1 (i + 1)
    else if (SynP.pk rs i = 105 ∨ SynP.pk rs i = 109 ∨ SynP.pk rs i = 115 ∨ SynP.pk rs i = 85) ∧ ¬ SynP.pk rs i ∈ (if on then m0 else m1) then
      SynP.flags rs from_ n on true (f.put (SynP.pk rs i) on) (if on then m0 ++ [SynP.pk rs i] else m0) (if on then m1 else m1 ++ [SynP.pk rs i]) (i + 1)
    else if (SynP.pk rs i = 58 ∨ SynP.pk rs i = 41) ∧ (some_ = true ∨ SynP.pk rs i = 58 ∧ on = true) then .ok (decide (SynP.pk rs i = 58), f, i + 1)
    else .bad 20 from_ := by
  conv => lhs; unfold SynP.flags
section
variable {rs : List Int} {from_ n : Nat} {on some_ : Bool} {f : SynP.Fl} {m0 m1 : List Int} {i : Nat} {c : Int}
theorem flags_off (hc : SynP.pk rs i = c) (h : c = 45) : SynP.flags rs from_ (n + 1) true some_ f m0 m1 i = SynP.flags rs from_ n false some_ f m0 m1 (i + 1) := by
  rw [flags_succ, if_pos ⟨hc.trans h, rfl⟩]
theorem flags_letter (hc : SynP.pk rs i = c) (h : c = 105 ∨ c = 109 ∨ c = 115 ∨ c = 85) (hm : ¬ c ∈ (if on then m0 else m1)) : SynP.flags rs from_ (n + 1) on some_ f m0 m1 i =
    SynP.flags rs from_ n on true (f.put c on) (if on then m0 ++ [c] else m0) (if on then m1 else m1 ++ [c]) (i + 1) := by
  subst hc
  rw [flags_succ, if_neg (fun k => by omega), if_pos ⟨h, hm⟩]
theorem flags_end (hc : SynP.pk rs i = c) (h : (c = 58 ∨ c = 41) ∧ (some_ = true ∨ c = 58 ∧ on = true)) : SynP.flags rs from_ (n + 1) on some_ f m0 m1 i = .ok (decide (c = 58), f, i + 1) := by
  subst hc
  rw [flags_succ, if_neg (fun k => by omega), if_neg (fun k => by omega), if_pos h]
theorem flags_bad (hc : SynP.pk rs i = c) (h1 : ¬ (c = 45 ∧ on = true)) (h2 : ¬ ((c = 105 ∨ c = 109 ∨ c = 115 ∨ c = 85) ∧ ¬ c ∈ (if on then m0 else m1))) (h3 : ¬ ((c = 58 ∨ c = 41) ∧ (some_ = true ∨ c = 58 ∧ on = true))) : SynP.flags rs from_ (n + 1) on some_ f m0 m1 i = .bad 20 from_ := by
  subst hc
  rw [flags_succ, if_neg h1, if_neg h2, if_neg h3]
end

theorem pick_t (x y : Int) (w : World) : Calls Tryz.prog 142 #[.bool true, .int .i64 x, .int .i64 y] w fun e w' => e = .returned (.int .i64 x) ∧ w = w' := pick_int true x y w
theorem pick_f (x y : Int) (w : World) : Calls Tryz.prog 142 #[.bool false, .int .i64 x, .int .i64 y] w fun e w' => e = .returned (.int .i64 y) ∧ w = w' := pick_int false x y w
/-- Which flag is a letter's. -/
def ofO (c : Int) : Nat := if c = 105 then 0 else if c = 109 then 1 else if c = 115 then 2 else 3
theorem flagOf_any (c : Int) (hc : c = 105 ∨ c = 109 ∨ c = 115 ∨ c = 85) (F o : Nat) (ho : ofO c = o) (w : World) : Calls Tryz.prog 195 #[.pointer (some ⟨F, 0, none⟩), .int .i64 c] w fun e w' => e = .returned (.pointer (some ⟨F, o, none⟩)) ∧ w = w' := by
  subst ho
  rcases hc with rfl | rfl | rfl | rfl
  all_goals
    go_enter Tryz.func195, Tryz.ntmps195
    go_wp2
    go_ret
    exact ⟨rfl, rfl⟩
theorem idx_flag : ∀ k : Fin 128, (0 ≤ Lib.indexByte [105, 109, 115, 85] k.val.toUInt8) ↔ (k.val = 105 ∨ k.val = 109 ∨ k.val = 115 ∨ k.val = 85) := by decide +kernel
theorem index_flag (c : Int) (h0 : 0 ≤ c) (h1 : c < 128) : ∃ k : Int, (0 ≤ k ↔ (c = 105 ∨ c = 109 ∨ c = 115 ∨ c = 85)) ∧ ∀ w, Calls Tryz.prog 177 #[.string ⟨#[105, 109, 115, 85]⟩, .int .u8 c] w fun e w' => e = .returned (.int .i64 k) ∧ w' = w := by
  refine ⟨_, ?_, fun w => Tryz.strings_IndexByte ⟨#[105, 109, 115, 85]⟩ c w⟩
  have := idx_flag ⟨c.toNat, by omega⟩
  rw [show (ByteArray.mk #[105, 109, 115, 85]).data.toList = [105, 109, 115, 85] from rfl, this]
  simp only
  omega

def flA (f : SynP.Fl) : Array Value := #[.bool f.fold, .bool f.lines, .bool f.dot, .bool f.lazy]
theorem flA_put (f : SynP.Fl) (c : Int) (b : Bool) (hc : c = 105 ∨ c = 109 ∨ c = 115 ∨ c = 85) : (flA f).setIfInBounds (ofO c) (.bool b) = flA (f.put c b) := by
  rcases hc with rfl | rfl | rfl | rfl <;> rfl
/-- What flags holds in its loop. -/
structure FlS (w wr : World) (V : Nat) (X : Cx) (p : Pv) (i : Nat) (f : SynP.Fl) (m0 m1 : List Int) (v0 v1 u0 u1 : Value) : Prop where
  hV : w.heap.size = V
  hX : X.b < V
  mv : Mv X.b w wr
  at_ : At wr X p i
  fb : wr.heap[V]? = some (.cells (flA f) 39 (0, 0))
  mb : wr.heap[V + 1]? = some (.cells #[u0, u1] 232 (0, 0))
  q0 : OwnB Eint 3 (V + 2) wr v0 m0
  q1 : OwnB Eint 3 (V + 2) wr v1 m1
  ne : v0.ownBlock = none ∨ v0.ownBlock ≠ v1.ownBlock
theorem ne_swap {a b : Option Nat} (h : a = none ∨ a ≠ b) : b = none ∨ b ≠ a := by
  cases b with
  | none => exact .inl rfl
  | some k => rcases h with h | h
              · exact .inr (by rw [h]; simp)
              · exact .inr (Ne.symm h)
section
variable {w wr wx : World} {V : Nat} {X : Cx} {p : Pv} {i : Nat} {f : SynP.Fl} {m0 m1 : List Int} {v0 v1 u0 u1 : Value}
theorem FlS.lt (h : FlS w wr V X p i f m0 m1 v0 v1 u0 u1) : V + 1 < wr.heap.size := (Array.getElem?_eq_some_iff.1 h.mb).1
theorem FlS.step (h : FlS w wr V X p i f m0 m1 v0 v1 u0 u1) (k : Mv X.b wr wx) {j : Nat} (ha : At wx X p j) : FlS w wx V X p j f m0 m1 v0 v1 u0 u1 := by
  have := h.lt
  have := h.hX
  exact ⟨h.hV, h.hX, h.mv.step k, ha, (k.heap (by omega) (by omega)).trans h.fb, (k.heap (by omega) (by omega)).trans h.mb, h.q0.mv k (by omega), h.q1.mv k (by omega), h.ne⟩
theorem FlS.put (h : FlS w wr V X p i f m0 m1 v0 v1 u0 u1) (x : Int) {j : Nat} (hx : x = j) (hj : j ≤ X.rs.length + 1) : FlS w (wr.setCell ⟨X.b, 4, none⟩ (.int .i64 x)) V X p j f m0 m1 v0 v1 u0 u1 :=
  h.step (mv_put wr X _) (h.at_.put x j hx hj)
theorem FlS.below (h : FlS w wr V X p i f m0 m1 v0 v1 u0 u1) (k : Below wr.heap.size wr wx) : FlS w wx V X p i f m0 m1 v0 v1 u0 u1 := by
  have := h.lt
  exact ⟨h.hV, h.hX, h.mv.below k, h.at_.below k, (k.block _ (by omega)).trans h.fb, (k.block _ (by omega)).trans h.mb, h.q0.below k, h.q1.below k, h.ne⟩
theorem FlS.alloc (h : FlS w wr V X p i f m0 m1 v0 v1 u0 u1) (o : Obj) : FlS w (wr.alloc o) V X p i f m0 m1 v0 v1 u0 u1 := h.below ((Below.refl _ wr).alloc (Nat.le_refl _) o)
theorem FlS.grow0 (h : FlS w wr V X p i f m0 m1 v0 v1 u0 u1) {v2 : Value} {l2 : List Int} (ho : OwnB Eint 3 (V + 2) wx v2 l2) (hg : wr.grownBy wx v0.ownBlock) (hat : v2.ownBlock = v0.ownBlock ∨ v2.ownBlock = some wr.heap.size) : FlS w wx V X p i f l2 m1 v2 v1 u0 u1 := by
  have hl := h.lt
  have hX := h.hX
  have hV := h.hV
  have hr := fun k (hk : v0.ownBlock = some k) => h.q0.lt k hk
  refine ⟨hV, hX, h.mv.grown hg (fun k hk => by have := (hr k hk).1; omega), h.at_.grown hg (fun k hk => by have := (hr k hk).1; omega), (hg.block V (by omega) (fun e => by have := (hr V e.symm).1; omega)).trans h.fb, (hg.block (V + 1) (by omega) (fun e => by have := (hr (V + 1) e.symm).1; omega)).trans h.mb, ho, h.q1.kept_ hg (ne_swap h.ne), ?_⟩
  rcases hat with e | e
  · rw [e]; exact h.ne
  · right
    rw [e]
    intro e2
    have := (h.q1.lt _ e2.symm).2
    omega
theorem FlS.swap_ (h : FlS w wr V X p i f m0 m1 v0 v1 u0 u1) {v2 : Value} {l2 : List Int} (ho : OwnB Eint 3 (V + 2) wx v2 l2) (hg : wr.grownBy wx v1.ownBlock) (hat : v2.ownBlock = v1.ownBlock ∨ v2.ownBlock = some wr.heap.size) : FlS w wx V X p i f m0 l2 v0 v2 u0 u1 := by
  have hl := h.lt
  have hX := h.hX
  have hV := h.hV
  have hr := fun k (hk : v1.ownBlock = some k) => h.q1.lt k hk
  refine ⟨hV, hX, h.mv.grown hg (fun k hk => by have := (hr k hk).1; omega), h.at_.grown hg (fun k hk => by have := (hr k hk).1; omega), (hg.block V (by omega) (fun e => by have := (hr V e.symm).1; omega)).trans h.fb, (hg.block (V + 1) (by omega) (fun e => by have := (hr (V + 1) e.symm).1; omega)).trans h.mb, h.q0.kept_ hg h.ne, ho, ne_swap ?_⟩
  rcases hat with e | e
  · rw [e]; exact ne_swap h.ne
  · right
    rw [e]
    intro e2
    have := (h.q0.lt _ e2.symm).2
    omega
theorem FlS.grow1 (h : FlS w wr V X p i f m0 m1 v0 v1 u0 u1) {v2 : Value} {l2 : List Int} (ho : OwnB Eint 3 (V + 2) wx v2 l2) (hg : wr.grownBy wx v1.ownBlock) (hat : v2.ownBlock = v1.ownBlock ∨ v2.ownBlock = some wr.heap.size) : FlS w wx V X p i f m0 l2 v0 v2 u0 u1 := h.swap_ ho hg hat
theorem FlS.mcell (h : FlS w wr V X p i f m0 m1 v0 v1 u0 u1) (o : Nat) : wr.cell? ⟨V + 1, o, none⟩ = (#[u0, u1] : Array Value)[o]? := Lib.cell_of_heap h.mb o
theorem FlS.mfroz (h : FlS w wr V X p i f m0 m1 v0 v1 u0 u1) (o : Nat) : wr.frozen? ⟨V + 1, o, none⟩ = false := Lib.frozen_of_heap h.mb o
theorem FlS.setM (h : FlS w wr V X p i f m0 m1 v0 v1 u0 u1) (o : Nat) (u : Value) : FlS w (wr.setCell ⟨V + 1, o, none⟩ u) V X p i f m0 m1 v0 v1 ((#[u0, u1] : Array Value).setIfInBounds o u)[0]! ((#[u0, u1] : Array Value).setIfInBounds o u)[1]! := by
  have hl := h.lt
  have hX := h.hX
  have hV := h.hV
  have hlo := h.at_.low
  have hm : Mv X.b w (wr.setCell ⟨V + 1, o, none⟩ u) := h.mv.set ⟨V + 1, o, none⟩ (.inr (by show w.heap.size ≤ V + 1; omega)) u
  refine ⟨hV, hX, hm, h.at_.mv_ ((Below.refl _ wr).setCell (p := ⟨V + 1, o, none⟩) (by show X.B ≤ V + 1; omega) u) (Below.heap_setCell wr ⟨V + 1, o, none⟩ u X.b (by show X.b ≠ V + 1; omega)), (Below.heap_setCell wr ⟨V + 1, o, none⟩ u V (by show V ≠ V + 1; omega)).trans h.fb, ?_, h.q0.setBelow (a := ⟨V + 1, o, none⟩) (by show V + 1 < V + 2; omega) u, h.q1.setBelow (a := ⟨V + 1, o, none⟩) (by show V + 1 < V + 2; omega) u, h.ne⟩
  simp only [World.setCell, Array.getElem?_modify, if_true, h.mb, Option.map_some]
  match o with
  | 0 => rfl
  | 1 => rfl
  | o + 2 => rw [Array.setIfInBounds_eq_of_size_le (by simp)]; rfl
theorem FlS.stored0 (h : FlS w wr V X p i f m0 m1 v0 v1 u0 u1) : FlS w (wr.setCell ⟨V + 1, 0, none⟩ v0) V X p i f m0 m1 v0 v1 v0 u1 := h.setM 0 v0
theorem FlS.stored1 (h : FlS w wr V X p i f m0 m1 v0 v1 u0 u1) : FlS w (wr.setCell ⟨V + 1, 1, none⟩ v1) V X p i f m0 m1 v0 v1 u0 v1 := h.setM 1 v1
theorem FlS.fcells (h : FlS w wr V X p i f m0 m1 v0 v1 u0 u1) (o : Nat) : wr.cell? ⟨V, o, none⟩ = (#[.bool f.fold, .bool f.lines, .bool f.dot, .bool f.lazy] : Array Value)[o]? := Lib.cell_of_heap h.fb o
theorem FlS.fcell (h : FlS w wr V X p i f m0 m1 v0 v1 u0 u1) (c : Int) : ∃ b, wr.cell? ⟨V, ofO c, none⟩ = some (.bool b) ∧ wr.frozen? ⟨V, ofO c, none⟩ = false := by
  have hk : ofO c = 0 ∨ ofO c = 1 ∨ ofO c = 2 ∨ ofO c = 3 := by
    unfold ofO
    split
    · exact .inl rfl
    split
    · exact .inr (.inl rfl)
    split
    · exact .inr (.inr (.inl rfl))
    exact .inr (.inr (.inr rfl))
  rcases hk with e | e | e | e
  all_goals
    rw [e]
    exact ⟨_, h.fcells _, Lib.frozen_of_heap h.fb _⟩
theorem FlS.flag (h : FlS w wr V X p i f m0 m1 v0 v1 u0 u1) (c : Int) (b : Bool) (hc : c = 105 ∨ c = 109 ∨ c = 115 ∨ c = 85) : FlS w (wr.setCell ⟨V, ofO c, none⟩ (.bool b)) V X p i (f.put c b) m0 m1 v0 v1 u0 u1 := by
  have hl := h.lt
  have hX := h.hX
  have hV := h.hV
  have hlo := h.at_.low
  have hm : Mv X.b w (wr.setCell ⟨V, ofO c, none⟩ (.bool b)) := h.mv.set ⟨V, ofO c, none⟩ (.inr (by show w.heap.size ≤ V; omega)) _
  refine ⟨hV, hX, hm, h.at_.mv_ ((Below.refl _ wr).setCell (p := ⟨V, ofO c, none⟩) (by show X.B ≤ V; omega) _) (Below.heap_setCell wr ⟨V, ofO c, none⟩ _ X.b (by show X.b ≠ V; omega)), ?_, (Below.heap_setCell wr ⟨V, ofO c, none⟩ _ (V + 1) (by show V + 1 ≠ V; omega)).trans h.mb, h.q0.setBelow (a := ⟨V, ofO c, none⟩) (by show V < V + 2; omega) _, h.q1.setBelow (a := ⟨V, ofO c, none⟩) (by show V < V + 2; omega) _, h.ne⟩
  rw [← flA_put f c b hc]
  simp only [World.setCell, Array.getElem?_modify, if_true, h.fb, Option.map_some]
  rfl
end
/-- 'p.Flags = f'. -/
theorem At.setFl {w : World} {X : Cx} {p : Pv} {i : Nat} (h : At w X p i) (f : SynP.Fl) : At ((((w.setCell ⟨X.b, 7, none⟩ (.bool f.fold)).setCell ⟨X.b, 8, none⟩ (.bool f.lines)).setCell ⟨X.b, 9, none⟩ (.bool f.dot)).setCell ⟨X.b, 10, none⟩ (.bool f.lazy)) X { p with f := f } i ∧
    Mv X.b w ((((w.setCell ⟨X.b, 7, none⟩ (.bool f.fold)).setCell ⟨X.b, 8, none⟩ (.bool f.lines)).setCell ⟨X.b, 9, none⟩ (.bool f.dot)).setCell ⟨X.b, 10, none⟩ (.bool f.lazy)) := by
  have hm : Mv X.b w ((((w.setCell ⟨X.b, 7, none⟩ (.bool f.fold)).setCell ⟨X.b, 8, none⟩ (.bool f.lines)).setCell ⟨X.b, 9, none⟩ (.bool f.dot)).setCell ⟨X.b, 10, none⟩ (.bool f.lazy)) :=
    ((((Mv.rfl_ X.b w).set ⟨X.b, 7, none⟩ (.inl rfl) _).set ⟨X.b, 8, none⟩ (.inl rfl) _).set ⟨X.b, 9, none⟩ (.inl rfl) _).set ⟨X.b, 10, none⟩ (.inl rfl) _
  have hk := Mv.to_below (Below.refl X.B w) hm h.low (Nat.le_of_lt (Nat.lt_of_le_of_lt h.low h.lt))
  refine ⟨⟨h.le, h.few, h.pll, h.ru.below hk, h.pla.below hk, h.low, ?_⟩, hm⟩
  simp only [World.setCell, Array.getElem?_modify, if_true, h.blk, Option.map_some]
  rfl

def FlagsEnd (w : World) (X : Cx) (p : Pv) : SynP.R (Bool × SynP.Fl × Nat) → Ending → World → Prop
  | .ok x, e, w' => e = .returned (.bool x.1) ∧ Mv X.b w w' ∧ At w' X { p with f := x.2.1 } x.2.2
  | .bad c k, e, w' => Threw w X c k e w'

set_option maxRecDepth 100000 in
set_option maxHeartbeats 12800000 in
theorem flags_any (from_ : Nat) (w : World) (X : Cx) (p : Pv) (i0 : Nat) (h : At w X p i0) (hs : Scal X.rs) (hf : from_ ≤ X.rs.length) (hi0 : i0 ≤ X.rs.length) :
    Calls Tryz.prog 171 #[.pointer (some ⟨X.b, 0, none⟩), .int .i64 from_] w (FlagsEnd w X p (SynP.flags X.rs from_ (X.rs.length + 1) true false p.f [] [] i0)) := by
  have hfew := h.few
  have hbw := h.lt
  have HSc := Lib.hid (pk_sc hs)
  obtain ⟨R, hR⟩ : ∃ R, SynP.flags X.rs from_ (X.rs.length + 1) true false p.f [] [] i0 = R := ⟨_, rfl⟩
  have HR0 := Lib.hid hR
  rw [hR]
  have hc := h.cell
  obtain ⟨V, hV⟩ : ∃ V, w.heap.size = V := ⟨_, rfl⟩
  have hs0 : FlS w ((w.alloc (.cells (flA p.f) 39)).alloc (.cells #[.slice none 0 0, .slice none 0 0] 232)) V X p i0 p.f [] [] (.slice none 0 0) (.slice none 0 0) (.slice none 0 0) (.slice none 0 0) := by
    have hb : Below w.heap.size w ((w.alloc (.cells (flA p.f) 39)).alloc (.cells #[.slice none 0 0, .slice none 0 0] 232)) := ((Below.refl _ w).alloc (Nat.le_refl _) _).alloc (by simp) _
    subst hV
    refine ⟨rfl, hbw, Mv.of_below hb, h.below hb, (Below.heap_alloc _ _ _ (by simp)).trans (heap_alloc_new w _), ?_, OwnB.nil_ (by simp), OwnB.nil_ (by simp), .inl rfl⟩
    have := heap_alloc_new (w.alloc (.cells (flA p.f) 39)) (.cells #[.slice none 0 0, .slice none 0 0] 232)
    simpa using this
  have HS0 := Lib.hid hs0
  have HVe := Lib.hid hV
  clear h hR hs0 hs hV
  go_enter Tryz.func171, Tryz.ntmps171
  go_upto_region 4 with fail
  rw [HVe.out]
  unfold flA at HS0
  generalize (w.alloc (.cells #[.bool p.f.fold, .bool p.f.lines, .bool p.f.dot, .bool p.f.lazy] 39)).alloc (.cells #[.slice none 0 0, .slice none 0 0] 232) = W0 at HS0 ⊢
  clear hc
  go_loopg [5, 6] (X.rs.length + 1) (fun k s5 s6 wr => ∃ (on some_ : Bool) (f : SynP.Fl) (m0 m1 : List Int) (v0 v1 : Value) (i : Nat), s5 = .bool on ∧ s6 = .bool some_ ∧ Hid (SynP.flags X.rs from_ k on some_ f m0 m1 i = R) ∧ Hid (FlS w wr V X p i f m0 m1 v0 v1 v0 v1) ∧ i ≤ X.rs.length ∧ m0.length + m1.length ≤ i ∧ X.rs.length + 1 ≤ k + i)
  case atStart => exact ⟨true, false, p.f, [], [], _, _, i0, rfl, rfl, HR0, HS0, hi0, by simp, by omega⟩
  case round =>
    clear HS0 HR0
    obtain ⟨on, some_, f, m0, m1, v0, v1, i, rfl, rfl, HE, HS, hi, hm01, hki⟩ := hrel
    obtain ⟨gm, rfl⟩ : ∃ m, gk = m + 1 := ⟨gk - 1, by omega⟩
    have hvf0 := HS.out.q0.form
    obtain ⟨A0, c0, rfl, _, _⟩ := hvf0
    have hvf1 := HS.out.q1.form
    obtain ⟨A1, c1, rfl, _, _⟩ := hvf1
    have HPk := pkIs X p i
    obtain ⟨c, hcE⟩ : ∃ c, SynP.pk X.rs i = c := ⟨_, rfl⟩
    have hin : c ≠ -1 → i < X.rs.length := fun h => pk_in (by rw [hcE]; exact h)
    have hcb := HSc.out i
    rw [hcE] at HPk hcb
    have HCc := Lib.hid hcE
    clear hcE
    obtain ⟨hcb0, hcb1⟩ := hcb
    have hc := HS.out.at_.cell
    have hz := HS.out.at_.frozen
    go_upto_region 5 with (go_at_call 100; refine (HPk.out _ HS.out.at_).mono ?_; rintro e w1 ⟨rfl, hm1, ha1⟩; replace HS := Lib.hid (HS.out.step hm1 ha1); clear hm1 ha1; replace hc := HS.out.at_.cell; replace hz := HS.out.at_.frozen)
    go_upto_region 7 with fail
    have hsp := HS.out.put (j := i + 1) ((i : Int) + 1) (by omega) (by omega)
    generalize w1.setCell ⟨X.b, 4, none⟩ (.int .i64 ((i : Int) + 1)) = W at hsp ⊢
    replace HS := Lib.hid hsp
    clear hsp
    replace hc := HS.out.at_.cell
    replace hz := HS.out.at_.frozen
    have hcM := HS.out.mcell
    cases on with
    | true =>
      by_cases k45 : c = 45
      · have hE2 : SynP.flags X.rs from_ gm false some_ f m0 m1 (i + 1) = R := by rw [← HE.out]; exact (flags_off HCc.out k45).symm
        have HE2 := Lib.hid hE2
        have := hin (by omega)
        clear hE2 HE
        go_wp2
        go_roundg gm
        case measure => omega
        case rel => exact ⟨false, some_, _, _, _, _, _, i + 1, rfl, rfl, HE2, HS, by omega, by omega, by omega⟩
      by_cases hlt : c = 105 ∨ c = 109 ∨ c = 115 ∨ c = 85
      · have := hin (by omega)
        by_cases hm : c ∈ m0
        · have HR : Hid (SynP.R.bad 20 from_ = R) := Lib.hid (by rw [← HE.out]; exact (flags_bad HCc.out (fun h => by omega) (by intro h; exact h.2 hm) (fun h => by omega)).symm)
          have q0 : 0 ≤ c := by omega
          have q1 : c < 128 := by omega
          obtain ⟨k, hk1, hk2⟩ := index_flag c (by omega) (by omega)
          have HI := Lib.hid hk2
          clear hk2
          have hk0 : 0 ≤ k := hk1.2 (by omega)
          clear hk1
          have hmd : decide (c ∈ m0) = true := decide_eq_true hm
          have n45 : (c == 45) = false := beq_eq_false_iff_ne.2 (by omega)
          have n58 : (c == 58) = false := beq_eq_false_iff_ne.2 (by omega)
          have n41 : (c == 41) = false := beq_eq_false_iff_ne.2 (by omega)
          go_wp2_with (first | (go_at_call 177; refine (HI.out _).mono ?_; rintro e w1 ⟨rfl, rfl⟩) | (go_at_call 142; refine (pick_t _ _ _).mono ?_; rintro e w1 ⟨rfl, rfl⟩) | (go_at_call 194; refine (contains_any _ _ _ _ m0 c _ rfl (by omega) HS.out.q0.seq).mono ?_; rintro e w1 ⟨rfl, rfl⟩) | (go_at_call 101; refine (fail_any _ _ _ X p _ HS.out.at_ (by omega)).mono ?_; rintro e w1 ⟨hm1, he1⟩; unfold thrown at he1; subst he1; have HMf := Lib.hid (HS.out.mv.step hm1); clear hm1))
          rw [← HR.out]; exact ⟨rfl, HMf.out, rfl⟩
        · have hE2 : SynP.flags X.rs from_ gm true true (f.put c true) (m0 ++ [c]) m1 (i + 1) = R := by rw [← HE.out]; exact (flags_letter HCc.out (by omega) (by exact hm)).symm
          have HE2 := Lib.hid hE2
          have HLt := Lib.hid hlt
          have q0 : 0 ≤ c := by omega
          have q1 : c < 128 := by omega
          obtain ⟨k, hk1, hk2⟩ := index_flag c (by omega) (by omega)
          have HI := Lib.hid hk2
          clear hk2
          have hk0 : 0 ≤ k := hk1.2 (by omega)
          clear hk1
          have hmd : decide (c ∈ m0) = false := decide_eq_false hm
          have n45 : (c == 45) = false := beq_eq_false_iff_ne.2 (by omega)
          clear hE2 HE hm hlt
          go_upto_region 12 with (first | (go_at_call 177; refine (HI.out _).mono ?_; rintro e w1 ⟨rfl, rfl⟩) | (go_at_call 142; refine (pick_t _ _ _).mono ?_; rintro e w1 ⟨rfl, rfl⟩) | (go_at_call 194; refine (contains_any _ _ _ _ m0 c _ rfl (by omega) HS.out.q0.seq).mono ?_; rintro e w1 ⟨rfl, rfl⟩) | (at_builtin; refine wpList_append_one (E := Eint) (base := V + 2) (l := m0) c ⟨w1.heap.size, 0, none⟩ 1 rfl (.tmp 59) (.tmp 61) 22 (by rfl) 8 elIntN (by rfl) (HS.out.q0.alloc _) (by rfl) (by exact news_new w1 _ _ _ rfl) (by unfold maxLen; omega) (by omega) ?_; intro v2 w2 ho2 hg2 hat2; have hs2 := (HS.out.alloc (.cells #[.int .i64 c] 3)).grow0 ho2 hg2 hat2; obtain ⟨A2, c2, hv2, _, _⟩ := ho2.form; rw [List.length_append, List.length_singleton] at hv2; subst hv2; have HS2 := Lib.hid hs2; clear ho2 hg2 hat2 hs2; have hcM := HS2.out.mcell; have hzM := HS2.out.mfroz))
          have hs3 := HS2.out.stored0
          generalize w2.setCell ⟨V + 1, 0, none⟩ (.slice A2 (m0.length + 1) c2) = W3 at hs3 ⊢
          replace HS := Lib.hid hs3
          clear hs3 HS2 hcM hzM hc hz
          have hoc := HS.out.fcell c
          obtain ⟨o, ho⟩ : ∃ o, ofO c = o := ⟨_, rfl⟩
          have HOf := Lib.hid (flagOf_any c HLt.out V o ho)
          have HOo := Lib.hid ho
          rw [ho] at hoc
          obtain ⟨bo, hoc1, hoc2⟩ := hoc
          clear ho
          go_wp2_with (go_at_call 195; refine (HOf.out _).mono ?_; rintro e w1 ⟨rfl, rfl⟩)
          have hs4 := HS.out.flag c true HLt.out
          rw [HOo.out] at hs4
          replace HS := Lib.hid hs4
          have hml : (m0 ++ [c]).length = m0.length + 1 ∧ (m1 ++ [c]).length = m1.length + 1 := ⟨by simp, by simp⟩
          go_roundg gm
          case measure => omega
          case rel => exact ⟨true, true, _, _, _, _, _, i + 1, rfl, rfl, HE2, HS, by omega, by omega, by omega⟩
      by_cases hcv : c = 58
      · have := hin (by omega)
        cases some_ with
        | true =>
          have HR : Hid (SynP.R.ok (decide (c = 58), f, i + 1) = R) := Lib.hid (by rw [← HE.out]; exact (flags_end HCc.out (by simp [hcv])).symm)
          have q0 : 0 ≤ c := by omega
          have q1 : c < 128 := by omega
          obtain ⟨k, hk1, hk2⟩ := index_flag c (by omega) (by omega)
          have HI := Lib.hid hk2
          clear hk2
          have hk0 : decide (0 ≤ k) = false := decide_eq_false (fun h => by have := hk1.1 h; omega)
          clear hk1
          have n45 : (c == 45) = false := beq_eq_false_iff_ne.2 (by omega)
          have hcF := HS.out.fcells
          subst hcv
          go_wp2_with (go_at_call 177; refine (HI.out _).mono ?_; rintro e w1 ⟨rfl, rfl⟩)
          go_ret
          have hfl := HS.out.at_.setFl f
          rw [← HR.out]; exact ⟨rfl, HS.out.mv.step hfl.2, hfl.1⟩
        | false =>
          have HR : Hid (SynP.R.ok (decide (c = 58), f, i + 1) = R) := Lib.hid (by rw [← HE.out]; exact (flags_end HCc.out (by simp [hcv])).symm)
          have q0 : 0 ≤ c := by omega
          have q1 : c < 128 := by omega
          obtain ⟨k, hk1, hk2⟩ := index_flag c (by omega) (by omega)
          have HI := Lib.hid hk2
          clear hk2
          have hk0 : decide (0 ≤ k) = false := decide_eq_false (fun h => by have := hk1.1 h; omega)
          clear hk1
          have n45 : (c == 45) = false := beq_eq_false_iff_ne.2 (by omega)
          have hcF := HS.out.fcells
          subst hcv
          go_wp2_with (go_at_call 177; refine (HI.out _).mono ?_; rintro e w1 ⟨rfl, rfl⟩)
          go_ret
          have hfl := HS.out.at_.setFl f
          rw [← HR.out]; exact ⟨rfl, HS.out.mv.step hfl.2, hfl.1⟩
      by_cases hcv : c = 41
      · cases some_ with
        | true =>
          have := hin (by omega)
          have HR : Hid (SynP.R.ok (decide (c = 58), f, i + 1) = R) := Lib.hid (by rw [← HE.out]; exact (flags_end HCc.out (by simp [hcv])).symm)
          have q0 : 0 ≤ c := by omega
          have q1 : c < 128 := by omega
          obtain ⟨k, hk1, hk2⟩ := index_flag c (by omega) (by omega)
          have HI := Lib.hid hk2
          clear hk2
          have hk0 : decide (0 ≤ k) = false := decide_eq_false (fun h => by have := hk1.1 h; omega)
          clear hk1
          have n45 : (c == 45) = false := beq_eq_false_iff_ne.2 (by omega)
          have hcF := HS.out.fcells
          subst hcv
          go_wp2_with (go_at_call 177; refine (HI.out _).mono ?_; rintro e w1 ⟨rfl, rfl⟩)
          go_ret
          have hfl := HS.out.at_.setFl f
          rw [← HR.out]; exact ⟨rfl, HS.out.mv.step hfl.2, hfl.1⟩
        | false =>
          have HR : Hid (SynP.R.bad 20 from_ = R) := Lib.hid (by rw [← HE.out]; exact (flags_bad HCc.out (fun h => by omega) (fun h => hlt h.1) (fun h => by rcases h.2 with h | h <;> first | omega | exact absurd h.2 (by decide) | cases h)).symm)
          have q0 : 0 ≤ c := by omega
          have q1 : c < 128 := by omega
          obtain ⟨k, hk1, hk2⟩ := index_flag c (by omega) (by omega)
          have HI := Lib.hid hk2
          clear hk2
          have hk0 : decide (0 ≤ k) = false := decide_eq_false (fun h => by have := hk1.1 h; omega)
          clear hk1
          have n45 : (c == 45) = false := beq_eq_false_iff_ne.2 (by omega)
          have n58 : (c == 58) = false := beq_eq_false_iff_ne.2 (by omega)
          subst hcv
          go_wp2_with (first | (go_at_call 177; refine (HI.out _).mono ?_; rintro e w1 ⟨rfl, rfl⟩) | (go_at_call 101; refine (fail_any _ _ _ X p _ HS.out.at_ (by omega)).mono ?_; rintro e w1 ⟨hm1, he1⟩; unfold thrown at he1; subst he1; have HMf := Lib.hid (HS.out.mv.step hm1); clear hm1))
          rw [← HR.out]; exact ⟨rfl, HMf.out, rfl⟩
      rcases (by omega : c < 0 ∨ (0 ≤ c ∧ c < 128) ∨ 128 ≤ c) with q | ⟨q, q2⟩ | q
      · have HR : Hid (SynP.R.bad 20 from_ = R) := Lib.hid (by rw [← HE.out]; exact (flags_bad HCc.out (fun h => by omega) (fun h => hlt h.1) (fun h => by omega)).symm)
        have d0 : decide (0 ≤ c) = false := decide_eq_false (by omega)
        have n45 : (c == 45) = false := beq_eq_false_iff_ne.2 (by omega)
        have n58 : (c == 58) = false := beq_eq_false_iff_ne.2 (by omega)
        have n41 : (c == 41) = false := beq_eq_false_iff_ne.2 (by omega)
        go_wp2_with (first | (go_at_call 101; refine (fail_any _ _ _ X p _ HS.out.at_ (by omega)).mono ?_; rintro e w1 ⟨hm1, he1⟩; unfold thrown at he1; subst he1; have HMf := Lib.hid (HS.out.mv.step hm1); clear hm1))
        rw [← HR.out]; exact ⟨rfl, HMf.out, rfl⟩
      · have HR : Hid (SynP.R.bad 20 from_ = R) := Lib.hid (by rw [← HE.out]; exact (flags_bad HCc.out (fun h => by omega) (fun h => hlt h.1) (fun h => by omega)).symm)
        have q0 : 0 ≤ c := by omega
        have q1 : c < 128 := by omega
        obtain ⟨k, hk1, hk2⟩ := index_flag c (by omega) (by omega)
        have HI := Lib.hid hk2
        clear hk2
        have hk0 : decide (0 ≤ k) = false := decide_eq_false (fun h => by have := hk1.1 h; omega)
        clear hk1
        have n45 : (c == 45) = false := beq_eq_false_iff_ne.2 (by omega)
        have n58 : (c == 58) = false := beq_eq_false_iff_ne.2 (by omega)
        have n41 : (c == 41) = false := beq_eq_false_iff_ne.2 (by omega)
        go_wp2_with (first | (go_at_call 177; refine (HI.out _).mono ?_; rintro e w1 ⟨rfl, rfl⟩) | (go_at_call 101; refine (fail_any _ _ _ X p _ HS.out.at_ (by omega)).mono ?_; rintro e w1 ⟨hm1, he1⟩; unfold thrown at he1; subst he1; have HMf := Lib.hid (HS.out.mv.step hm1); clear hm1))
        rw [← HR.out]; exact ⟨rfl, HMf.out, rfl⟩
      · have HR : Hid (SynP.R.bad 20 from_ = R) := Lib.hid (by rw [← HE.out]; exact (flags_bad HCc.out (fun h => by omega) (fun h => hlt h.1) (fun h => by omega)).symm)
        have d0 : 0 ≤ c := by omega
        have d1 : decide (c < 128) = false := decide_eq_false (by omega)
        have n45 : (c == 45) = false := beq_eq_false_iff_ne.2 (by omega)
        have n58 : (c == 58) = false := beq_eq_false_iff_ne.2 (by omega)
        have n41 : (c == 41) = false := beq_eq_false_iff_ne.2 (by omega)
        go_wp2_with (first | (go_at_call 101; refine (fail_any _ _ _ X p _ HS.out.at_ (by omega)).mono ?_; rintro e w1 ⟨hm1, he1⟩; unfold thrown at he1; subst he1; have HMf := Lib.hid (HS.out.mv.step hm1); clear hm1))
        rw [← HR.out]; exact ⟨rfl, HMf.out, rfl⟩
    | false =>
      by_cases k45 : c = 45
      · have HR : Hid (SynP.R.bad 20 from_ = R) := Lib.hid (by rw [← HE.out]; exact (flags_bad HCc.out (fun h => by cases h.2) (fun h => by omega) (fun h => by omega)).symm)
        have q0 : 0 ≤ c := by omega
        have q1 : c < 128 := by omega
        obtain ⟨k, hk1, hk2⟩ := index_flag c (by omega) (by omega)
        have HI := Lib.hid hk2
        clear hk2
        have hk0 : decide (0 ≤ k) = false := decide_eq_false (fun h => by have := hk1.1 h; omega)
        clear hk1
        subst k45
        go_wp2_with (first | (go_at_call 177; refine (HI.out _).mono ?_; rintro e w1 ⟨rfl, rfl⟩) | (go_at_call 101; refine (fail_any _ _ _ X p _ HS.out.at_ (by omega)).mono ?_; rintro e w1 ⟨hm1, he1⟩; unfold thrown at he1; subst he1; have HMf := Lib.hid (HS.out.mv.step hm1); clear hm1))
        rw [← HR.out]; exact ⟨rfl, HMf.out, rfl⟩
      by_cases hlt : c = 105 ∨ c = 109 ∨ c = 115 ∨ c = 85
      · have := hin (by omega)
        by_cases hm : c ∈ m1
        · have HR : Hid (SynP.R.bad 20 from_ = R) := Lib.hid (by rw [← HE.out]; exact (flags_bad HCc.out (fun h => by omega) (by intro h; exact h.2 hm) (fun h => by omega)).symm)
          have q0 : 0 ≤ c := by omega
          have q1 : c < 128 := by omega
          obtain ⟨k, hk1, hk2⟩ := index_flag c (by omega) (by omega)
          have HI := Lib.hid hk2
          clear hk2
          have hk0 : 0 ≤ k := hk1.2 (by omega)
          clear hk1
          have hmd : decide (c ∈ m1) = true := decide_eq_true hm
          have n45 : (c == 45) = false := beq_eq_false_iff_ne.2 (by omega)
          have n58 : (c == 58) = false := beq_eq_false_iff_ne.2 (by omega)
          have n41 : (c == 41) = false := beq_eq_false_iff_ne.2 (by omega)
          go_wp2_with (first | (go_at_call 177; refine (HI.out _).mono ?_; rintro e w1 ⟨rfl, rfl⟩) | (go_at_call 142; refine (pick_f _ _ _).mono ?_; rintro e w1 ⟨rfl, rfl⟩) | (go_at_call 194; refine (contains_any _ _ _ _ m1 c _ rfl (by omega) HS.out.q1.seq).mono ?_; rintro e w1 ⟨rfl, rfl⟩) | (go_at_call 101; refine (fail_any _ _ _ X p _ HS.out.at_ (by omega)).mono ?_; rintro e w1 ⟨hm1, he1⟩; unfold thrown at he1; subst he1; have HMf := Lib.hid (HS.out.mv.step hm1); clear hm1))
          rw [← HR.out]; exact ⟨rfl, HMf.out, rfl⟩
        · have hE2 : SynP.flags X.rs from_ gm false true (f.put c false) m0 (m1 ++ [c]) (i + 1) = R := by rw [← HE.out]; exact (flags_letter HCc.out (by omega) (by exact hm)).symm
          have HE2 := Lib.hid hE2
          have HLt := Lib.hid hlt
          have q0 : 0 ≤ c := by omega
          have q1 : c < 128 := by omega
          obtain ⟨k, hk1, hk2⟩ := index_flag c (by omega) (by omega)
          have HI := Lib.hid hk2
          clear hk2
          have hk0 : 0 ≤ k := hk1.2 (by omega)
          clear hk1
          have hmd : decide (c ∈ m1) = false := decide_eq_false hm
          have n45 : (c == 45) = false := beq_eq_false_iff_ne.2 (by omega)
          clear hE2 HE hm hlt
          go_upto_region 12 with (first | (go_at_call 177; refine (HI.out _).mono ?_; rintro e w1 ⟨rfl, rfl⟩) | (go_at_call 142; refine (pick_f _ _ _).mono ?_; rintro e w1 ⟨rfl, rfl⟩) | (go_at_call 194; refine (contains_any _ _ _ _ m1 c _ rfl (by omega) HS.out.q1.seq).mono ?_; rintro e w1 ⟨rfl, rfl⟩) | (at_builtin; refine wpList_append_one (E := Eint) (base := V + 2) (l := m1) c ⟨w1.heap.size, 0, none⟩ 1 rfl (.tmp 59) (.tmp 61) 22 (by rfl) 8 elIntN (by rfl) (HS.out.q1.alloc _) (by rfl) (by exact news_new w1 _ _ _ rfl) (by unfold maxLen; omega) (by omega) ?_; intro v2 w2 ho2 hg2 hat2; have hs2 := (HS.out.alloc (.cells #[.int .i64 c] 3)).grow1 ho2 hg2 hat2; obtain ⟨A2, c2, hv2, _, _⟩ := ho2.form; rw [List.length_append, List.length_singleton] at hv2; subst hv2; have HS2 := Lib.hid hs2; clear ho2 hg2 hat2 hs2; have hcM := HS2.out.mcell; have hzM := HS2.out.mfroz))
          have hs3 := HS2.out.stored1
          generalize w2.setCell ⟨V + 1, 1, none⟩ (.slice A2 (m1.length + 1) c2) = W3 at hs3 ⊢
          replace HS := Lib.hid hs3
          clear hs3 HS2 hcM hzM hc hz
          have hoc := HS.out.fcell c
          obtain ⟨o, ho⟩ : ∃ o, ofO c = o := ⟨_, rfl⟩
          have HOf := Lib.hid (flagOf_any c HLt.out V o ho)
          have HOo := Lib.hid ho
          rw [ho] at hoc
          obtain ⟨bo, hoc1, hoc2⟩ := hoc
          clear ho
          go_wp2_with (go_at_call 195; refine (HOf.out _).mono ?_; rintro e w1 ⟨rfl, rfl⟩)
          have hs4 := HS.out.flag c false HLt.out
          rw [HOo.out] at hs4
          replace HS := Lib.hid hs4
          have hml : (m0 ++ [c]).length = m0.length + 1 ∧ (m1 ++ [c]).length = m1.length + 1 := ⟨by simp, by simp⟩
          go_roundg gm
          case measure => omega
          case rel => exact ⟨false, true, _, _, _, _, _, i + 1, rfl, rfl, HE2, HS, by omega, by omega, by omega⟩
      by_cases hcv : c = 58
      · cases some_ with
        | true =>
          have := hin (by omega)
          have HR : Hid (SynP.R.ok (decide (c = 58), f, i + 1) = R) := Lib.hid (by rw [← HE.out]; exact (flags_end HCc.out (by simp [hcv])).symm)
          have q0 : 0 ≤ c := by omega
          have q1 : c < 128 := by omega
          obtain ⟨k, hk1, hk2⟩ := index_flag c (by omega) (by omega)
          have HI := Lib.hid hk2
          clear hk2
          have hk0 : decide (0 ≤ k) = false := decide_eq_false (fun h => by have := hk1.1 h; omega)
          clear hk1
          have n45 : (c == 45) = false := beq_eq_false_iff_ne.2 (by omega)
          have hcF := HS.out.fcells
          subst hcv
          go_wp2_with (go_at_call 177; refine (HI.out _).mono ?_; rintro e w1 ⟨rfl, rfl⟩)
          go_ret
          have hfl := HS.out.at_.setFl f
          rw [← HR.out]; exact ⟨rfl, HS.out.mv.step hfl.2, hfl.1⟩
        | false =>
          have HR : Hid (SynP.R.bad 20 from_ = R) := Lib.hid (by rw [← HE.out]; exact (flags_bad HCc.out (fun h => by omega) (fun h => hlt h.1) (fun h => by rcases h.2 with h | h <;> first | omega | exact absurd h.2 (by decide) | cases h)).symm)
          have q0 : 0 ≤ c := by omega
          have q1 : c < 128 := by omega
          obtain ⟨k, hk1, hk2⟩ := index_flag c (by omega) (by omega)
          have HI := Lib.hid hk2
          clear hk2
          have hk0 : decide (0 ≤ k) = false := decide_eq_false (fun h => by have := hk1.1 h; omega)
          clear hk1
          have n45 : (c == 45) = false := beq_eq_false_iff_ne.2 (by omega)
          subst hcv
          go_wp2_with (first | (go_at_call 177; refine (HI.out _).mono ?_; rintro e w1 ⟨rfl, rfl⟩) | (go_at_call 101; refine (fail_any _ _ _ X p _ HS.out.at_ (by omega)).mono ?_; rintro e w1 ⟨hm1, he1⟩; unfold thrown at he1; subst he1; have HMf := Lib.hid (HS.out.mv.step hm1); clear hm1))
          rw [← HR.out]; exact ⟨rfl, HMf.out, rfl⟩
      by_cases hcv : c = 41
      · cases some_ with
        | true =>
          have := hin (by omega)
          have HR : Hid (SynP.R.ok (decide (c = 58), f, i + 1) = R) := Lib.hid (by rw [← HE.out]; exact (flags_end HCc.out (by simp [hcv])).symm)
          have q0 : 0 ≤ c := by omega
          have q1 : c < 128 := by omega
          obtain ⟨k, hk1, hk2⟩ := index_flag c (by omega) (by omega)
          have HI := Lib.hid hk2
          clear hk2
          have hk0 : decide (0 ≤ k) = false := decide_eq_false (fun h => by have := hk1.1 h; omega)
          clear hk1
          have n45 : (c == 45) = false := beq_eq_false_iff_ne.2 (by omega)
          have hcF := HS.out.fcells
          subst hcv
          go_wp2_with (go_at_call 177; refine (HI.out _).mono ?_; rintro e w1 ⟨rfl, rfl⟩)
          go_ret
          have hfl := HS.out.at_.setFl f
          rw [← HR.out]; exact ⟨rfl, HS.out.mv.step hfl.2, hfl.1⟩
        | false =>
          have HR : Hid (SynP.R.bad 20 from_ = R) := Lib.hid (by rw [← HE.out]; exact (flags_bad HCc.out (fun h => by omega) (fun h => hlt h.1) (fun h => by rcases h.2 with h | h <;> first | omega | exact absurd h.2 (by decide) | cases h)).symm)
          have q0 : 0 ≤ c := by omega
          have q1 : c < 128 := by omega
          obtain ⟨k, hk1, hk2⟩ := index_flag c (by omega) (by omega)
          have HI := Lib.hid hk2
          clear hk2
          have hk0 : decide (0 ≤ k) = false := decide_eq_false (fun h => by have := hk1.1 h; omega)
          clear hk1
          have n45 : (c == 45) = false := beq_eq_false_iff_ne.2 (by omega)
          have n58 : (c == 58) = false := beq_eq_false_iff_ne.2 (by omega)
          subst hcv
          go_wp2_with (first | (go_at_call 177; refine (HI.out _).mono ?_; rintro e w1 ⟨rfl, rfl⟩) | (go_at_call 101; refine (fail_any _ _ _ X p _ HS.out.at_ (by omega)).mono ?_; rintro e w1 ⟨hm1, he1⟩; unfold thrown at he1; subst he1; have HMf := Lib.hid (HS.out.mv.step hm1); clear hm1))
          rw [← HR.out]; exact ⟨rfl, HMf.out, rfl⟩
      rcases (by omega : c < 0 ∨ (0 ≤ c ∧ c < 128) ∨ 128 ≤ c) with q | ⟨q, q2⟩ | q
      · have HR : Hid (SynP.R.bad 20 from_ = R) := Lib.hid (by rw [← HE.out]; exact (flags_bad HCc.out (fun h => by omega) (fun h => hlt h.1) (fun h => by omega)).symm)
        have d0 : decide (0 ≤ c) = false := decide_eq_false (by omega)
        have n45 : (c == 45) = false := beq_eq_false_iff_ne.2 (by omega)
        have n58 : (c == 58) = false := beq_eq_false_iff_ne.2 (by omega)
        have n41 : (c == 41) = false := beq_eq_false_iff_ne.2 (by omega)
        go_wp2_with (first | (go_at_call 101; refine (fail_any _ _ _ X p _ HS.out.at_ (by omega)).mono ?_; rintro e w1 ⟨hm1, he1⟩; unfold thrown at he1; subst he1; have HMf := Lib.hid (HS.out.mv.step hm1); clear hm1))
        rw [← HR.out]; exact ⟨rfl, HMf.out, rfl⟩
      · have HR : Hid (SynP.R.bad 20 from_ = R) := Lib.hid (by rw [← HE.out]; exact (flags_bad HCc.out (fun h => by omega) (fun h => hlt h.1) (fun h => by omega)).symm)
        have q0 : 0 ≤ c := by omega
        have q1 : c < 128 := by omega
        obtain ⟨k, hk1, hk2⟩ := index_flag c (by omega) (by omega)
        have HI := Lib.hid hk2
        clear hk2
        have hk0 : decide (0 ≤ k) = false := decide_eq_false (fun h => by have := hk1.1 h; omega)
        clear hk1
        have n45 : (c == 45) = false := beq_eq_false_iff_ne.2 (by omega)
        have n58 : (c == 58) = false := beq_eq_false_iff_ne.2 (by omega)
        have n41 : (c == 41) = false := beq_eq_false_iff_ne.2 (by omega)
        go_wp2_with (first | (go_at_call 177; refine (HI.out _).mono ?_; rintro e w1 ⟨rfl, rfl⟩) | (go_at_call 101; refine (fail_any _ _ _ X p _ HS.out.at_ (by omega)).mono ?_; rintro e w1 ⟨hm1, he1⟩; unfold thrown at he1; subst he1; have HMf := Lib.hid (HS.out.mv.step hm1); clear hm1))
        rw [← HR.out]; exact ⟨rfl, HMf.out, rfl⟩
      · have HR : Hid (SynP.R.bad 20 from_ = R) := Lib.hid (by rw [← HE.out]; exact (flags_bad HCc.out (fun h => by omega) (fun h => hlt h.1) (fun h => by omega)).symm)
        have d0 : 0 ≤ c := by omega
        have d1 : decide (c < 128) = false := decide_eq_false (by omega)
        have n45 : (c == 45) = false := beq_eq_false_iff_ne.2 (by omega)
        have n58 : (c == 58) = false := beq_eq_false_iff_ne.2 (by omega)
        have n41 : (c == 41) = false := beq_eq_false_iff_ne.2 (by omega)
        go_wp2_with (first | (go_at_call 101; refine (fail_any _ _ _ X p _ HS.out.at_ (by omega)).mono ?_; rintro e w1 ⟨hm1, he1⟩; unfold thrown at he1; subst he1; have HMf := Lib.hid (HS.out.mv.step hm1); clear hm1))
        rw [← HR.out]; exact ⟨rfl, HMf.out, rfl⟩

end Go.Proofs.YtblkejnckbeieaaGreatDoor
