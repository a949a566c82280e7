/- Chapter 10: the walk of the parser's Parse, by the contract of alternatives. -/
import Derived.Test.YtblkejnckbeieaaGreatDoorZk23
import Derived.Test.YtblkejnckbeieaaGreatDoorZk13
import Derived.StillTailTactics
namespace Go.Proofs.YtblkejnckbeieaaGreatDoor
open Go.RowKit

/-- The door, where a fault was thrown. -/
theorem parse_panic {w W : World} {N : Nat} {c i : Int} {f : SynP.Fl} (h : ParS w W N #[.int .i64 0, .slice none 0 0, .bool false, .int .i64 0, .int .i64 0, .bool false, .int .i64 0, .string ⟨#[]⟩, .slice none 0 0, .slice none 0 0] #[.int .i64 0, .int .i64 0] f) (tmps : Array Value) (h4 : tmps.getD 4 undef = .pointer (some ⟨N + 1, 0, none⟩)) (h5 : tmps.getD 5 undef = .pointer (some ⟨N + 1 + 1, 0, none⟩)) :
    bodyPostD Tryz.prog Tryz.f11 (fun e w' => PatEnd w (.bad c i) e w') (.panic [{ v := .iface 72 (.agg #[.int .i64 c, .int .i64 i]), recovered := false }])
      { tmps := tmps, defers := [{ target := .fn (.func 30) #[.pointer (some ⟨N + 1, 0, none⟩), .pointer (some ⟨N + 1 + 1, 0, none⟩)], args := #[] }] } W := by
  rw [Array.getD_eq_getD_getElem?] at h4 h5
  refine leaves_cons (f := 30) (args := #[.pointer (some ⟨N + 1, 0, none⟩), .pointer (some ⟨N + 1 + 1, 0, none⟩)]) (by simp) (by simp [go_sem]) ?_
  refine (catch_panicking (N + 1) (N + 1 + 1) (by omega) c i [] _ _ W h.val h.flt).mono ?_
  rintro e u' w'' ⟨rfl, rfl, hb, hv, hf⟩
  have hcV := fun o => Lib.cell_of_heap hv o
  have hcT := fun o => Lib.cell_of_heap hf o
  refine Exists.intro (.tuple #[.agg #[.int .i64 0, .slice none 0 0, .bool false, .int .i64 0, .int .i64 0, .bool false, .int .i64 0, .string ⟨#[]⟩, .slice none 0 0, .slice none 0 0], .agg #[.int .i64 c, .int .i64 i]]) (And.intro ?_ ⟨by rw [h.hN]; exact h.bel.trans (hb.mono (by omega)), rfl⟩)
  simp [results, Tryz.results11, go_sem, h4, h5, hcV, hcT]
/-- The door, where all went well. -/
theorem parse_return {w W : World} {N : Nat} {f : SynP.Fl} {nd : SynP.Nd} {r0 : Int} {r1 : Option Addr} {r2 r3 : Nat} {r4 : Bool} {r5 r6 : Int} {r7 : Bool} {r8 : Int} {r9 : ByteArray} {ra : Option Addr} {rb rc : Nat} {An : Option Addr} {cn : Nat} {ns : List (List UInt8)} (h : ParS w W N #[.int .i64 r0, .slice r1 r2 r3, .bool r4, .int .i64 r5, .int .i64 r6, .bool r7, .int .i64 r8, .string r9, .slice ra rb rc, .slice An ns.length cn] #[.int .i64 0, .int .i64 0] f)
    (hl : Lies W (fun k => N ≤ k) nd ⟨r0, r1, r2, r3, r4, r5, r6, r7, r8, r9, ra, rb, rc⟩) (hn : SeqAt Estr W W.heap.size An (ns.map str)) (hc1 : ns.length ≤ cn) (hc2 : cn ≤ maxLen) (tmps : Array Value) (h4 : tmps.getD 4 undef = .pointer (some ⟨N + 1, 0, none⟩)) (h5 : tmps.getD 5 undef = .pointer (some ⟨N + 1 + 1, 0, none⟩)) :
    bodyPostD Tryz.prog Tryz.f11 (fun e w' => PatEnd w (.ok nd ns) e w') .ret
      { tmps := tmps, defers := [{ target := .fn (.func 30) #[.pointer (some ⟨N + 1, 0, none⟩), .pointer (some ⟨N + 1 + 1, 0, none⟩)], args := #[] }] } W := by
  rw [Array.getD_eq_getD_getElem?] at h4 h5
  refine leaves_cons (f := 30) (args := #[.pointer (some ⟨N + 1, 0, none⟩), .pointer (some ⟨N + 1 + 1, 0, none⟩)]) (by simp) (by simp [go_sem]) ?_
  refine (catch_idle (N + 1) (N + 1 + 1) W).mono ?_
  rintro e u' w'' ⟨rfl, rfl, rfl⟩
  have hcV := fun o => Lib.cell_of_heap h.val o
  have hcT := fun o => Lib.cell_of_heap h.flt o
  have hN := h.hN
  subst hN
  refine Exists.intro (.tuple #[.agg #[.int .i64 r0, .slice r1 r2 r3, .bool r4, .int .i64 r5, .int .i64 r6, .bool r7, .int .i64 r8, .string r9, .slice ra rb rc, .slice An ns.length cn], .agg #[.int .i64 0, .int .i64 0]]) (And.intro ?_ ⟨h.bel, ⟨r0, r1, r2, r3, r4, r5, r6, r7, r8, r9, ra, rb, rc⟩, An, cn, rfl, hl, hn, hc1, hc2⟩)
  simp [results, Tryz.results11, go_sem, h4, h5, hcV, hcT]

/-- A piece of code that goes on: no panic is told. -/
theorem wp_only {P : Program} {c : Code} {K : Act → World → Prop} {Q : Exit → Act → World → Prop} {a : Act} {w : World} (h : c.wp P (Exit.then K fun _ _ _ => False) a w) : c.wp P (Exit.then K Q) a w :=
  Code.wp_mono (fun e a w h => by cases e <;> first | exact h | exact False.elim h) h

/-- What Parse holds at its end: beside its results' blocks the tree and the names. -/
structure FinS (w W : World) (N : Nat) (v t : Array Value) (f : SynP.Fl) (B : Nat) (nd : SynP.Nd) (r : RawN) (nmv : Value) (ns : List (List UInt8)) : Prop where
  par : ParS w W N v t f
  lies : Lies W (fun k => N ≤ k) nd r
  nms : OwnB Estr 9 B W nmv (ns.map str)
  hB : N + 1 + 1 < B
theorem StandN.other {w : World} {A : Nat → Prop} {V : Nat} {cs : Array Value} {t : TypeId} {fz : Nat × Nat} (o : Nat) (u : Value) (hV : w.heap[V]? = some (.cells cs t fz)) (h1 : t ≠ 29) (h2 : t ≠ 51) : StandN A w (w.setCell ⟨V, o, none⟩ u) := by
  have hne : ∀ {k : Nat} {cs' : Array Value} {t' : TypeId} {fz' : Nat × Nat}, w.heap[k]? = some (.cells cs' t' fz') → t ≠ t' → k ≠ V := by
    rintro k cs' t' fz' e ht rfl
    rw [hV] at e
    injection e with e
    injection e with _ e
    exact ht e
  exact ⟨⟨by simp [World.setCell], fun k cs' fz' e => Below.heap_setCell w ⟨V, o, none⟩ u k (hne e h2)⟩, fun k _ _ _ e => Below.heap_setCell w ⟨V, o, none⟩ u k (hne e h1)⟩
section
variable {w W : World} {N : Nat} {v t : Array Value} {f : SynP.Fl} {B : Nat} {nd : SynP.Nd} {r : RawN} {nmv : Value} {ns : List (List UInt8)}
theorem FinS.setV (h : FinS w W N v t f B nd r nmv ns) (o : Nat) (u : Value) : FinS w (W.setCell ⟨N + 1, o, none⟩ u) N (v.setIfInBounds o u) t f B nd r nmv ns :=
  ⟨h.par.setV o u, Lies.on (StandN.other o u h.par.val (by decide) (by decide)) _ _ h.lies, h.nms.setBelow (a := ⟨N + 1, o, none⟩) (by show N + 1 < B; have := h.hB; omega) u, h.hB⟩
theorem FinS.setT (h : FinS w W N v t f B nd r nmv ns) (o : Nat) (u : Value) : FinS w (W.setCell ⟨N + 1 + 1, o, none⟩ u) N v (t.setIfInBounds o u) f B nd r nmv ns :=
  ⟨h.par.setT o u, Lies.on (StandN.other o u h.par.flt (by decide) (by decide)) _ _ h.lies, h.nms.setBelow (a := ⟨N + 1 + 1, o, none⟩) h.hB u, h.hB⟩
theorem FinS.drew (h : FinS w W N v t f B nd r nmv ns) : FinS w W.drew N v t f B nd r nmv ns :=
  ⟨⟨h.par.hN, h.par.bel.drew, h.par.flg, h.par.val, h.par.flt⟩, Lies.on (StandN.below ((Below.refl _ W).drew)) _ _ h.lies, h.nms.drew, h.hB⟩
theorem FinS.all (h : FinS w W N #[.int .i64 0, .slice none 0 0, .bool false, .int .i64 0, .int .i64 0, .bool false, .int .i64 0, .string ⟨#[]⟩, .slice none 0 0, .slice none 0 0] #[.int .i64 0, .int .i64 0] f B nd r nmv ns) (b0 b1 b2 b3 b4 b5 b6 b7 b8 b9 : Value) : FinS w ((((((((((((W.setCell ⟨N + 1, 0, none⟩ b0).setCell ⟨N + 1, 1, none⟩ b1).setCell ⟨N + 1, 2, none⟩ b2).setCell ⟨N + 1, 3, none⟩ b3).setCell ⟨N + 1, 4, none⟩ b4).setCell ⟨N + 1, 5, none⟩ b5).setCell ⟨N + 1, 6, none⟩ b6).setCell ⟨N + 1, 7, none⟩ b7).setCell ⟨N + 1, 8, none⟩ b8).setCell ⟨N + 1, 9, none⟩ b9).setCell ⟨N + 1 + 1, 0, none⟩ (.int .i64 0)).setCell ⟨N + 1 + 1, 1, none⟩ (.int .i64 0)) N #[b0, b1, b2, b3, b4, b5, b6, b7, b8, b9] #[.int .i64 0, .int .i64 0] f B nd r nmv ns := by
  have h2 := ((((((((((((h.setV 0 b0).setV 1 b1).setV 2 b2).setV 3 b3).setV 4 b4).setV 5 b5).setV 6 b6).setV 7 b7).setV 8 b8).setV 9 b9).setT 0 (.int .i64 0)).setT 1 (.int .i64 0))
  simp only [List.setIfInBounds_toArray, List.set_cons_zero, List.set_cons_succ] at h2
  exact h2
end
theorem parse_fin {w W : World} {N : Nat} {f : SynP.Fl} {B : Nat} {nd : SynP.Nd} {r0 : Int} {r1 : Option Addr} {r2 r3 : Nat} {r4 : Bool} {r5 r6 : Int} {r7 : Bool} {r8 : Int} {r9 : ByteArray} {ra : Option Addr} {rb rc : Nat} {An : Option Addr} {cn : Nat} {ns : List (List UInt8)}
    (h : FinS w W N #[.int .i64 r0, .slice r1 r2 r3, .bool r4, .int .i64 r5, .int .i64 r6, .bool r7, .int .i64 r8, .string r9, .slice ra rb rc, .slice An ns.length cn] #[.int .i64 0, .int .i64 0] f B nd ⟨r0, r1, r2, r3, r4, r5, r6, r7, r8, r9, ra, rb, rc⟩ (.slice An ns.length cn) ns)
    (hc1 : ns.length ≤ cn) (hc2 : cn ≤ maxLen) (tmps : Array Value) (h4 : tmps.getD 4 undef = .pointer (some ⟨N + 1, 0, none⟩)) (h5 : tmps.getD 5 undef = .pointer (some ⟨N + 1 + 1, 0, none⟩)) :
    bodyPostD Tryz.prog Tryz.f11 (fun e w' => PatEnd w (.ok nd ns) e w') .ret
      { tmps := tmps, defers := [{ target := .fn (.func 30) #[.pointer (some ⟨N + 1, 0, none⟩), .pointer (some ⟨N + 1 + 1, 0, none⟩)], args := #[] }] } W := by
  have hn := h.nms
  rw [show ns.length = (ns.map str).length by rw [List.length_map]] at hn
  exact parse_return h.par h.lies (OwnB.seq hn) hc1 hc2 tmps h4 h5

theorem runes_Scal (d : ByteArray) : Scal (patRs d) := fun r hr => ⟨(DecP.runes_scalar _ r hr).1, (DecP.runes_scalar _ r hr).2.1⟩
theorem places_len : ∀ (n : Nat) (s : List UInt8) (i : Nat), s.length ≤ n → (DecP.places s i).length = (DecP.runes s).length := by
  intro n
  induction n with
  | zero =>
    intro s i hs
    obtain rfl : s = [] := List.eq_nil_of_length_eq_zero (by omega)
    rw [DecP.places_nil, DecP.runes_nil]
  | succ n ih =>
    intro s i hs
    by_cases he : s = []
    · subst he
      rw [DecP.places_nil, DecP.runes_nil]
    · have hp := DecP.one_pos s he
      rw [DecP.places_cons he, DecP.runes_cons he, List.length_cons, List.length_cons, ih _ _ (by rw [List.length_drop]; omega)]

/-- The parser, where Parse has made it. -/
theorem PS.start {W : World} {f : SynP.Fl} {Ar Ap : Option Addr} {cr cp : Nat} {bad : Int} {rs pl : List Int} (hr : SeqAt Eint W W.heap.size Ar rs) (hp : SeqAt Eint W W.heap.size Ap pl) (hfew : rs.length ≤ 1024) (hpl : pl.length = rs.length + 1) :
    PS ((W.alloc (.cells #[.string ⟨#[]⟩] 9)).alloc (.cells #[.int .i64 1, .slice Ar rs.length cr, .slice Ap pl.length cp, .int .i64 bad, .int .i64 0, .slice none 0 0, .slice (some ⟨W.heap.size, 0, none⟩) 1 1, .bool f.fold, .bool f.lines, .bool f.dot, .bool f.lazy] 76))
      ⟨W.heap.size, W.heap.size + 1, 1, bad, Ar, cr, Ap, cp, rs, pl⟩ ⟨.slice none 0 0, .slice (some ⟨W.heap.size, 0, none⟩) 1 1, f⟩ ⟨0, [], [[]], f⟩ := by
  have hb : Below W.heap.size W ((W.alloc (.cells #[.string ⟨#[]⟩] 9)).alloc (.cells #[.int .i64 1, .slice Ar rs.length cr, .slice Ap pl.length cp, .int .i64 bad, .int .i64 0, .slice none 0 0, .slice (some ⟨W.heap.size, 0, none⟩) 1 1, .bool f.fold, .bool f.lines, .bool f.dot, .bool f.lazy] 76)) := ((Below.refl _ W).alloc (Nat.le_refl _) _).alloc (by simp) _
  refine ⟨⟨Nat.zero_le _, hfew, hpl, hr.below hb, hp.below hb, Nat.le_succ _, ?_⟩, rfl, OwnB.nil_ hb.size, ⟨⟨rfl, .inr ⟨W.heap.size, 1, #[.string ⟨#[]⟩], rfl, Nat.le_refl _, ?_, Nat.le_refl _, by decide, rfl, rfl⟩⟩, hb.size⟩, Nat.zero_le _, fun k hk => absurd hk List.not_mem_nil, Nat.le_refl _⟩
  · have := heap_alloc_new (W.alloc (.cells #[.string ⟨#[]⟩] 9)) (.cells #[.int .i64 1, .slice Ar rs.length cr, .slice Ap pl.length cp, .int .i64 bad, .int .i64 0, .slice none 0 0, .slice (some ⟨W.heap.size, 0, none⟩) 1 1, .bool f.fold, .bool f.lines, .bool f.dot, .bool f.lazy] 76)
    rw [World.size_alloc] at this
    exact this
  · exact (Below.heap_alloc _ _ _ (by simp)).trans (heap_alloc_new W _)

set_option maxRecDepth 100000 in
set_option maxHeartbeats 3200000 in
theorem parse_good (d : ByteArray) (f : SynP.Fl) (w : World) (hs : d.size ≤ 1024) (hp : DecP.badAt (patB d) (markN d) = none) (hA : AltsC (4 * (patRs d).length + 8)) :
    Calls Tryz.prog 11 #[.string d, .agg #[.bool f.fold, .bool f.lines, .bool f.dot, .bool f.lazy]] w fun e w' => PatEnd w (resR d (SynP.parse (patRs d) clsT perlT f)) e w' := by
  have hss : ¬ (1024 : Int) < (d.size : Int) := by omega
  have hfew : (patRs d).length ≤ 1024 := by
    have h1 := DecP.runes_len (patB d)
    have h2 : (patB d).length ≤ d.size := by unfold patB; rw [List.length_drop, Array.length_toList]; exact Nat.sub_le _ _
    unfold patRs
    omega
  have hpl : (patPl d).length = (patRs d).length + 1 := by
    unfold patPl patRs
    rw [List.length_append, places_len _ _ _ (Nat.le_refl _)]
    rfl
  have HSc := Lib.hid (runes_Scal d)
  have HA := Lib.hid hA
  have HC : Hid (∀ W, Calls Tryz.prog 29 #[.string d, .int .i64 1, .bool true] W fun e w' => Below W.heap.size W w' ∧ ∃ Ar cr Ap cp bad, e = .returned (.tuple #[.agg #[.int .i64 1, .slice Ar (patRs d).length cr, .slice Ap (patPl d).length cp, .int .i64 bad], .agg #[.int .i64 0, .int .i64 0]]) ∧ SeqAt Eint w' w'.heap.size Ar (patRs d) ∧ SeqAt Eint w' w'.heap.size Ap (patPl d) ∧ (∀ k, (Value.slice Ar (patRs d).length cr).ownBlock = some k → W.heap.size ≤ k) ∧ (∀ k, (Value.slice Ap (patPl d).length cp).ownBlock = some k → W.heap.size ≤ k)) := Lib.hid fun W => by
    refine (decode_pat d W hs).mono fun e w' h => ?_
    rw [hp] at h
    exact h
  have hmf : ∀ (fn : Fn) (first cap : Array Value) (w : World), (Instr.makeFunc fn first cap).run Tryz.prog w = .ok (.func fn first cap) w := fun _ _ _ _ => rfl
  clear hp hA
  obtain ⟨G, hG⟩ : ∃ G, resR d (SynP.parse (patRs d) clsT perlT f) = G := ⟨_, rfl⟩
  rw [hG]
  unfold resR SynP.parse at hG
  obtain ⟨rs, hrs⟩ : ∃ rs, patRs d = rs := ⟨_, rfl⟩
  obtain ⟨pl, hple⟩ : ∃ pl, patPl d = pl := ⟨_, rfl⟩
  rw [hrs] at hfew hpl HSc HA hG
  rw [hple] at hpl hG
  rw [hrs, hple] at HC
  have HPl := Lib.hid hpl
  have HG := Lib.hid hG
  clear hrs hple hpl hG
  obtain ⟨N, hN⟩ : ∃ N, w.heap.size = N := ⟨_, rfl⟩
  have HNe := Lib.hid hN
  have HS0 := Lib.hid (ParS.start (f := f) hN)
  clear hN
  go_enter_defers Tryz.func11, Tryz.ntmps11
  go_upto_region 3 with fail
  rw [HNe.out]
  simp only [zeroP, flA] at HS0
  generalize ((w.alloc (.cells #[.bool f.fold, .bool f.lines, .bool f.dot, .bool f.lazy] 39)).alloc (.cells #[.int .i64 0, .slice none 0 0, .bool false, .int .i64 0, .int .i64 0, .bool false, .int .i64 0, .string ⟨#[]⟩, .slice none 0 0, .slice none 0 0] 32)).alloc (.cells #[.int .i64 0, .int .i64 0] 35) = W0 at HS0 ⊢
  go_upto_region 7 with (go_at_call 29; refine (HC.out _).mono ?_; rintro e w3 ⟨hb3, Ar, cr, Ap, cp, bad, rfl, hr3, hp3, lr3, lp3⟩; have h3 := (HS0.out.below hb3).below ((Below.refl _ w3).alloc (Nat.le_refl _) (.cells #[.int .i64 1, .slice Ar rs.length cr, .slice Ap pl.length cp, .int .i64 bad] 69)); have hcT := fun o => Lib.cell_of_heap h3.flt o; have hzT := fun o => Lib.frozen_of_heap h3.flt o; have H3 := Lib.hid h3; have HR3 := Lib.hid hr3; have HP3 := Lib.hid hp3; have HL3 := Lib.hid (HS0.out.below hb3).lt; have HZ0 := Lib.hid HS0.out.lt; have LR3 := Lib.hid lr3; have LP3 := Lib.hid lp3; clear h3 hb3 hr3 hp3 lr3 lp3)
  have h4 : ParS w _ N #[.int .i64 0, .slice none 0 0, .bool false, .int .i64 0, .int .i64 0, .bool false, .int .i64 0, .string ⟨#[]⟩, .slice none 0 0, .slice none 0 0] #[.int .i64 0, .int .i64 0] f := (H3.out.setT 0 (.int .i64 0)).setT 1 (.int .i64 0)
  have hg4 : (((w3.alloc (.cells #[.int .i64 1, .slice Ar rs.length cr, .slice Ap pl.length cp, .int .i64 bad] 69)).setCell ⟨N + 1 + 1, 0, none⟩ (.int .i64 0)).setCell ⟨N + 1 + 1, 1, none⟩ (.int .i64 0)).heap[w3.heap.size]? = some (.cells #[.int .i64 1, .slice Ar rs.length cr, .slice Ap pl.length cp, .int .i64 bad] 69) := by
    rw [Below.heap_setCell _ ⟨N + 1 + 1, 1, none⟩ _ _ (by show ¬ w3.heap.size = N + 1 + 1; have := HL3.out; omega), Below.heap_setCell _ ⟨N + 1 + 1, 0, none⟩ _ _ (by show ¬ w3.heap.size = N + 1 + 1; have := HL3.out; omega)]
    exact heap_alloc_new w3 _
  have hz4 : (((w3.alloc (.cells #[.int .i64 1, .slice Ar rs.length cr, .slice Ap pl.length cp, .int .i64 bad] 69)).setCell ⟨N + 1 + 1, 0, none⟩ (.int .i64 0)).setCell ⟨N + 1 + 1, 1, none⟩ (.int .i64 0)).heap.size = w3.heap.size + 1 := by simp [World.setCell]
  have hq4 : ∀ (A : Option Addr) (c : Nat) (l : List Int), SeqAt Eint w3 w3.heap.size A l → (∀ k, (Value.slice A l.length c).ownBlock = some k → W0.heap.size ≤ k) → SeqAt Eint (((w3.alloc (.cells #[.int .i64 1, .slice Ar rs.length cr, .slice Ap pl.length cp, .int .i64 bad] 69)).setCell ⟨N + 1 + 1, 0, none⟩ (.int .i64 0)).setCell ⟨N + 1 + 1, 1, none⟩ (.int .i64 0)) (w3.heap.size + 1) A l := fun A c l h hne hn => by
    obtain ⟨b, off, e, hb, hc⟩ := h hn
    subst e
    have hb2 : ¬ b = N + 1 + 1 := by have := hne b rfl; have := HZ0.out; omega
    refine ⟨b, off, rfl, by omega, fun j hj => ?_⟩
    have e1 : (((w3.alloc (.cells #[.int .i64 1, .slice Ar rs.length cr, .slice Ap pl.length cp, .int .i64 bad] 69)).setCell ⟨N + 1 + 1, 0, none⟩ (.int .i64 0)).setCell ⟨N + 1 + 1, 1, none⟩ (.int .i64 0)).heap[b]? = w3.heap[b]? := by
      rw [Below.heap_setCell _ ⟨N + 1 + 1, 1, none⟩ _ _ hb2, Below.heap_setCell _ ⟨N + 1 + 1, 0, none⟩ _ _ hb2]
      exact Below.heap_alloc _ _ _ hb
    exact (World.cell?_of_block e1).trans (hc j hj)
  have hr4 := hq4 Ar cr rs HR3.out LR3.out
  have hp4 := hq4 Ap cp pl HP3.out LP3.out
  rw [← hz4] at hr4 hp4
  generalize ((w3.alloc (.cells #[.int .i64 1, .slice Ar rs.length cr, .slice Ap pl.length cp, .int .i64 bad] 69)).setCell ⟨N + 1 + 1, 0, none⟩ (.int .i64 0)).setCell ⟨N + 1 + 1, 1, none⟩ (.int .i64 0) = W4 at h4 hg4 hz4 hr4 hp4 ⊢
  obtain ⟨Gx, hGx⟩ : ∃ Gx, w3.heap.size = Gx := ⟨_, rfl⟩
  rw [hGx] at hg4 ⊢
  have hcG := fun o => Lib.cell_of_heap hg4 o
  have h4a := h4.below ((Below.refl _ W4).alloc (Nat.le_refl _) (.cells #[.string ⟨#[]⟩] 9))
  have hcF := fun o => Lib.cell_of_heap h4a.flg o
  have HS4 := Lib.hid h4
  have HPS := Lib.hid (PS.start (f := f) (cr := cr) (cp := cp) (bad := bad) hr4 hp4 hfew HPl.out)
  have hb5 : Below W4.heap.size W4 ((W4.alloc (.cells #[.string ⟨#[]⟩] 9)).alloc (.cells #[.int .i64 1, .slice Ar rs.length cr, .slice Ap pl.length cp, .int .i64 bad, .int .i64 0, .slice none 0 0, .slice (some ⟨W4.heap.size, 0, none⟩) 1 1, .bool f.fold, .bool f.lines, .bool f.dot, .bool f.lazy] 76)) := ((Below.refl _ W4).alloc (Nat.le_refl _) _).alloc (by simp) _
  have HS5 := Lib.hid (h4.on hb5 h4.lt)
  have HL4 := Lib.hid h4.lt
  clear hcT hzT H3 HS0 HC HR3 HP3 HL3 HZ0 LR3 LP3 h4a h4 hg4 hz4 hr4 hp4 hq4 hGx hb5
  simp only [flA] at hcF
  go_upto_region 8 with fail
  clear hcG hcF
  obtain ⟨B4, hB4⟩ : ∃ B4, W4.heap.size = B4 := ⟨_, rfl⟩
  rw [hB4] at HPS HS5 HL4 ⊢
  generalize (W4.alloc (.cells #[.string ⟨#[]⟩] 9)).alloc (.cells #[.int .i64 1, .slice Ar rs.length cr, .slice Ap pl.length cp, .int .i64 bad, .int .i64 0, .slice none 0 0, .slice (some ⟨B4, 0, none⟩) 1 1, .bool f.fold, .bool f.lines, .bool f.dot, .bool f.lazy] 76) = W5 at HPS HS5 ⊢
  clear hB4 HS4
  have HC := Lib.hid (HA.out ⟨0, [], [[]], f⟩ W5 ⟨B4, B4 + 1, 1, bad, Ar, cr, Ap, cp, rs, pl⟩ _ HSc.out HPS.out (Nat.zero_le _) (by show 3 * (rs.length - 0) + 2 ≤ _; omega))
  obtain ⟨X, hX⟩ : ∃ X : Cx, (⟨B4, B4 + 1, 1, bad, Ar, cr, Ap, cp, rs, pl⟩ : Cx) = X := ⟨_, rfl⟩
  have hXb : X.b = B4 + 1 := by rw [← hX]
  have hXB : X.B = B4 := by rw [← hX]
  have hXr : X.rs = rs := by rw [← hX]
  have hXp : X.pl = pl := by rw [← hX]
  rw [hX] at HC HPS
  rw [hXr] at HC
  unfold goS at HC
  rw [← hXb]
  have HXB := Lib.hid hXB
  have HXb := Lib.hid hXb
  have HXp := Lib.hid hXp
  clear hX hXb hXB hXr hXp HA
  cases hgo : SynP.go rs clsT perlT (4 * rs.length + 8) (.alts []) ⟨0, [], [[]], f⟩ with
  | bad ec kk =>
    rw [hgo] at HC HG
    obtain rfl := HG.out
    clear HG hgo
    go_wp2_with (go_at_call 31; refine HC.out.mono ?_; rintro e w6 ⟨hpm6, he6⟩; unfold thrown at he6; subst he6; rw [HXp.out]; have HB6 := Lib.hid hpm6.bel; clear hpm6)
    exact parse_panic (HS5.out.on HB6.out (by have := HXB.out; have := HL4.out; omega)) _ rfl rfl
  | ok xs =>
    obtain ⟨x, s1⟩ := xs
    rw [hgo] at HC HG
    clear hgo
    cases x with
    | none => go_wp2_with (go_at_call 31; refine HC.out.mono ?_; rintro e w6 hF; exact False.elim hF)
    | some nd =>
      obtain rfl := HG.out
      clear HG
      go_upto_region 9 with (first
        | (refine wpList_store_new rfl 29 (.tmp 8) (.tmp 31) rfl #[.int .i64 r0, .slice r1 r2 r3, .bool r4, .int .i64 r5, .int .i64 r6, .bool r7, .int .i64 r8, .string r9, .slice ra rb rc] rfl rfl 29 zeroA sizeN rfl (cellsN_one ⟨r0, r1, r2, r3, r4, r5, r6, r7, r8, r9, ra, rb, rc⟩) ?_; have hba := (Below.refl w6.heap.size w6).alloc (Nat.le_refl _) (.cells #[.int .i64 r0, .slice r1 r2 r3, .bool r4, .int .i64 r5, .int .i64 r6, .bool r7, .int .i64 r8, .string r9, .slice ra rb rc] 29); have HP7 := Lib.hid (HPS6.out.below hba); have HS7 := Lib.hid (HS6.out.below hba); have HL7 := Lib.hid (Lies.on (StandN.below hba) _ _ HL6.out); have HB7 := Lib.hid (heap_alloc_new w6 (.cells #[.int .i64 r0, .slice r1 r2 r3, .bool r4, .int .i64 r5, .int .i64 r6, .bool r7, .int .i64 r8, .string r9, .slice ra rb rc] 29)); clear hba)
        | (go_at_call 31; refine HC.out.mono ?_; rintro e w6 ⟨r, p1, rfl, hpm6, hps6, hl6⟩; obtain ⟨r0, r1, r2, r3, r4, r5, r6, r7, r8, r9, ra, rb, rc⟩ := r; simp only [RawN.cells]; have HS6 := Lib.hid (HS5.out.on hpm6.bel (by have := HXB.out; have := HL4.out; omega)); have HPS6 := Lib.hid hps6; have HL6 := Lib.hid hl6; have HZ6 := Lib.hid hpm6.bel.size; clear hpm6 hps6 hl6))
      obtain ⟨An, cn, hnm, hcn1, hcn2⟩ := HPS6.out.nms.form
      rw [List.length_map] at hnm hcn1
      have hF0 : FinS w _ N _ _ f X.B nd ⟨r0, r1, r2, r3, r4, r5, r6, r7, r8, r9, ra, rb, rc⟩ (.slice An s1.names.length cn) s1.names := ⟨HS7.out, Lies.mono (fun k hk _ => by have := HS5.out.lt; omega) _ _ HL7.out, by rw [← hnm]; exact HP7.out.nms, by have := HXB.out; have := HL4.out; omega⟩
      have hK1 : ¬ w6.heap.size = N + 1 := by have := HS6.out.lt; omega
      have hK2 : ¬ w6.heap.size = N + 1 + 1 := by have := HS6.out.lt; omega
      have hb1 : ¬ X.b = N + 1 := by have := HXb.out; have := HL4.out; omega
      have hb2 : ¬ X.b = N + 1 + 1 := by have := HXb.out; have := HL4.out; omega
      obtain ⟨K, hK⟩ : ∃ K, w6.heap.size = K := ⟨_, rfl⟩
      rw [hK] at hK1 hK2 HB7 ⊢
      have hcP := HP7.out.at_.cell
      rw [hnm] at hcP
      generalize w6.alloc (.cells #[.int .i64 r0, .slice r1 r2 r3, .bool r4, .int .i64 r5, .int .i64 r6, .bool r7, .int .i64 r8, .string r9, .slice ra rb rc] 29) = W7 at HP7 HS7 HL7 HB7 hF0 hcP ⊢
      have hcK := fun o => Lib.cell_of_heap HB7.out o
      have hcV := fun o => Lib.cell_of_heap HS7.out.val o
      have hzV := fun o => Lib.frozen_of_heap HS7.out.val o
      have hcT := fun o => Lib.cell_of_heap HS7.out.flt o
      have hzT := fun o => Lib.frozen_of_heap HS7.out.flt o
      have hVT1 : ¬ N + 1 = N + 1 + 1 := by omega
      have hVT2 : ¬ N + 1 + 1 = N + 1 := by omega
      have HF := Lib.hid hF0
      clear hF0 hK HB7 HL7 HP7 HS7 HZ6 HL6 HPS6 HS6 HC HXp HXb HXB HPS HS5 HL4
      refine wp_only ?_
      go_region
      all_goals go_wp2_with fail
      all_goals exact parse_fin (HF.out.all (.int .i64 r0) (.slice r1 r2 r3) (.bool r4) (.int .i64 r5) (.int .i64 r6) (.bool r7) (.int .i64 r8) (.string r9) (.slice ra rb rc) (.slice An s1.names.length cn)).drew hcn1 hcn2 _ rfl rfl

/-- Parse, whatever the text. -/
theorem parse_from (d : ByteArray) (f : SynP.Fl) (w : World) (hA : ∀ n, AltsC n) : Calls Tryz.prog 11 #[.string d, .agg #[.bool f.fold, .bool f.lines, .bool f.dot, .bool f.lazy]] w fun e w' => PatEnd w (parseT d f) e w' := by
  unfold parseT
  by_cases h1 : 1024 < d.size
  · rw [if_pos h1]
    exact parse_long d f w h1
  · rw [if_neg h1]
    cases hp : DecP.badAt (patB d) (markN d) with
    | some p => exact parse_bad17 d f w (by omega) p hp
    | none => exact parse_good d f w (by omega) hp (hA _)

end Go.Proofs.YtblkejnckbeieaaGreatDoor
