/- Chapter 09: the walks of ucd's Class at what is no name, and of Perl at what is no letter.
  Chapter 10: sets in the parser of patterns: a set that stands beside the parser's block; ucd's Class and Perl for every text and byte; one; a class in brackets. -/
import Derived.Test.YtmmmcfflhlkiiaaZc4
import Derived.Test.YtmmmcfflhlkiiaaZc2
namespace Go.Proofs.Ytmmmcfflhlkiiaa
open Go.RowKit SetPure Go.WideShapes

set_option maxHeartbeats 1600000 in
theorem class_none (s : ByteArray) (hany : (s.toList == [65, 110, 121]) = false) (hn : ∀ j, j < 15 → nameC j ≠ s) (hu : ∀ u, u < 2 → nameU u ≠ s) (W w : World) (L : List (Value × (Int → Bool))) (hH : Hold W w L) :
    Calls Try.prog 20 #[.string s] w fun e w' => e = .returned (.tuple #[.slice none 0 0, .bool false]) ∧ Hold W w' L := by
  have HN := Lib.hid hn
  have HU := Lib.hid hu
  clear hn hu
  go_enter Try.func20, Try.ntmps20
  go_wp2_with (go_at_call 35; refine (classes_any _).mono ?_; rintro e w1 ⟨g, rfl, hb1, hg, hT⟩; have HT := Lib.hid hT; clear hT)
  have hH1 := hH.go hb1
  go_loopw [20] (fun k wr => ∃ j : Nat, j ≤ 15 ∧ k = .int .i64 j ∧ Below w1.heap.size w1 wr) (fun k _ => 16 - (intOf k).toNat)
  case atStart => exact ⟨0, by omega, rfl, Below.refl _ _⟩
  case round =>
    obtain ⟨j, hj, rfl, hbw⟩ := hrel
    have hz := hbw.size
    by_cases hlt : j < 15
    · obtain ⟨t0, A, t1, hA⟩ := HT.out j hlt
      have c0 := (hbw.cell (p := ⟨g, j * 2, none⟩) hg).trans t0
      have c1 := (hbw.cell (p := ⟨g, j * 2 + 1, none⟩) hg).trans t1
      clear t0 t1 hA
      have hne := str_ne (HN.out j hlt)
      generalize nameC j = t at *
      go_wp2
      go_roundw
      case rel => exact ⟨j + 1, by omega, by go_num, hbw.alloc hz _⟩
      case measure => simp [intOf]; omega
    · obtain rfl : j = 15 := by omega
      have hH2 := hH1.go hbw
      clear HT HN hH1 hbw hz
      go_wp2_with (go_at_call 37; refine (unions_any _).mono ?_; rintro e w2 ⟨g2, rfl, hb2, hg2, hT2⟩; have HT := Lib.hid hT2; clear hT2)
      have hH3 := hH2.go hb2
      go_loopw [34] (fun k wr => ∃ m : Nat, m ≤ 2 ∧ k = .int .i64 m ∧ Below w2.heap.size w2 wr) (fun k _ => 3 - (intOf k).toNat)
      case atStart => exact ⟨0, by omega, rfl, Below.refl _ _⟩
      case round =>
        obtain ⟨m, hm, rfl, hbw⟩ := hrel
        have hz := hbw.size
        by_cases hlt : m < 2
        · obtain ⟨t0, b, t1, hb, hC⟩ := HT.out m hlt
          have c0 := (hbw.cell (p := ⟨g2, m * 2, none⟩) hg2).trans t0
          have c1 := (hbw.cell (p := ⟨g2, m * 2 + 1, none⟩) hg2).trans t1
          clear t0 t1 hC
          have hne := str_ne (HU.out m hlt)
          have hm2 : (m : Int) < 2 := by omega
          generalize nameU m = t at *
          go_wp2
          go_roundw
          case rel => exact ⟨m + 1, by omega, by go_num, hbw.alloc hz _⟩
          case measure => simp [intOf]; omega
        · obtain rfl : m = 2 := by omega
          go_wp2
          go_ret2
          exact ⟨rfl, hH3.go hbw⟩

/-- Which bytes are Perl's letters. -/
theorem or32 : ∀ i : Fin 256, (bits BinOp.or IntKind.u8 (i.val : Int) 32 = 100 ↔ i.val = 100 ∨ i.val = 68) ∧ (bits BinOp.or IntKind.u8 (i.val : Int) 32 = 115 ↔ i.val = 115 ∨ i.val = 83) ∧ (bits BinOp.or IntKind.u8 (i.val : Int) 32 = 119 ↔ i.val = 119 ∨ i.val = 87) := by decide +kernel

theorem perl_none (c : Int) (h0 : 0 ≤ c) (h1 : c ≤ 255) (hc : c ≠ 100 ∧ c ≠ 68 ∧ c ≠ 115 ∧ c ≠ 83 ∧ c ≠ 119 ∧ c ≠ 87) (w : World) :
    Calls Try.prog 9 #[.int .u8 c] w fun e w' => e = .returned (.tuple #[.slice none 0 0, .bool false]) ∧ Below w.heap.size w w' := by
  obtain ⟨o1, o2, o3⟩ := or32 ⟨c.toNat, by omega⟩
  have hcn : ((c.toNat : Nat) : Int) = c := by omega
  simp only [hcn] at o1 o2 o3
  have e1 : (bits BinOp.or IntKind.u8 c 32 == 100) = false := beq_eq_false_iff_ne.2 fun h => by have := o1.1 h; omega
  have e2 : (bits BinOp.or IntKind.u8 c 32 == 115) = false := beq_eq_false_iff_ne.2 fun h => by have := o2.1 h; omega
  have e3 : (bits BinOp.or IntKind.u8 c 32 == 119) = false := beq_eq_false_iff_ne.2 fun h => by have := o3.1 h; omega
  obtain ⟨v, hv⟩ : ∃ v, bits BinOp.or IntKind.u8 c 32 = v := ⟨_, rfl⟩
  rw [hv] at e1 e2 e3
  clear o1 o2 o3 hcn hc
  go_enter Try.func9, Try.ntmps9
  go_wp2
  go_ret2
  exact ⟨rfl, Below.refl _ _⟩

end Go.Proofs.Ytmmmcfflhlkiiaa

namespace Go.Proofs.Ytmmmcfflhlkiiaa
open Go.RowKit SetPure

/-- The rows of ranges stand. -/
structure KeepR (w w' : World) : Prop where
  size : w.heap.size ≤ w'.heap.size
  row : ∀ (k : Nat) (cs : Array Value) (fz : Nat × Nat), w.heap[k]? = some (.cells cs 44 fz) → w'.heap[k]? = w.heap[k]?
theorem KeepR.rfl_ (w : World) : KeepR w w := ⟨Nat.le_refl _, fun _ _ _ _ => rfl⟩
theorem KeepR.step {a b c : World} (h : KeepR a b) (k : KeepR b c) : KeepR a c :=
  ⟨Nat.le_trans h.size k.size, fun n cs fz e => (k.row n cs fz ((h.row n cs fz e).trans e)).trans (h.row n cs fz e)⟩
theorem KeepR.below {w w' : World} (h : Below w.heap.size w w') : KeepR w w' := ⟨h.size, fun k _ _ e => h.block k (Array.getElem?_eq_some_iff.1 e).1⟩
theorem KeepR.mv {w w' : World} {X : Cx} {p : Pv} {i : Nat} (ha : At w X p i) (h : Mv X.b w w') : KeepR w w' := ⟨h.size, fun k cs fz e => h.heap (Array.getElem?_eq_some_iff.1 e).1 (fun hk => by
  rw [hk, ha.blk] at e
  injection e with e
  injection e with _ e
  exact absurd e (by decide))⟩
theorem KeepR.put {w : World} {X : Cx} {p : Pv} {i : Nat} (ha : At w X p i) (o : Nat) (v : Value) : KeepR w (w.setCell ⟨X.b, o, none⟩ v) := KeepR.mv ha ((Mv.rfl_ X.b w).set ⟨X.b, o, none⟩ (.inl rfl) _)

theorem IsSet.on {w w' : World} {v : Value} {s : List Rg} (h : IsSet w v s) (k : KeepR w w') : IsSet w' v s := by
  obtain ⟨⟨A, c, rfl, h1, h2, h3⟩, hcan, hty⟩ := h
  refine ⟨⟨A, c, rfl, h1, h2, fun hn => ?_⟩, hcan, hty.keep fun a n c e => ?_⟩
  · obtain ⟨b, off, rfl, hb, hc⟩ := h3 hn
    obtain ⟨cs, fz, hh⟩ := hty _ _ _ rfl
    exact ⟨b, off, rfl, Nat.lt_of_lt_of_le hb k.size, fun j hj => (World.cell?_of_block (k.row b cs fz hh)).trans (hc j hj)⟩
  · obtain ⟨cs, fz, hh⟩ := hty _ _ _ e
    exact k.row _ cs fz hh

/-- The value is a set of just those numbers that pass the test. -/
def SetV (w : World) (v : Value) (f : Int → Bool) : Prop := SetF w v fun z => inR z && f z
section
variable {w w' : World} {v u : Value} {f g : Int → Bool}
theorem SetV.on (h : SetV w v f) (k : KeepR w w') : SetV w' v f := by
  obtain ⟨s, h1, h2⟩ := h
  exact ⟨s, h1.on k, h2⟩
theorem SetV.of (h : SetF w v f) : SetV w v f := h.congr fun z => by
  cases hf : f z with
  | false => simp
  | true => rw [h.inR hf]; rfl
theorem SetV.congr (h : SetV w v f) (e : ∀ z, inR z = true → f z = g z) : SetV w v g := SetF.congr h fun z => by
  cases hz : inR z with
  | false => rfl
  | true => rw [e z hz]
theorem SetV.form (h : SetV w v f) : ∃ A n c, v = .slice A n c := by
  obtain ⟨s, ⟨⟨A, c, e, _⟩, _, _⟩, _⟩ := h
  exact ⟨A, _, c, e⟩
theorem SetV.hold (h : SetV w v f) : Hold w w [(v, fun z => inR z && f z)] := (Hold.start w).add (Below.refl _ w) h
theorem SetV.nil_ (w : World) : SetV w (.slice none 0 0) fun _ => false := by
  have := (Hold.nil_ (Hold.start w)).get (List.Mem.head _)
  exact SetV.of this
end
/-- A call's end: a set, and nothing of what was there has turned. -/
def NewSet (w : World) (f : Int → Bool) (e : Ending) (w' : World) : Prop := ∃ v, e = .returned v ∧ SetV w' v f ∧ Below w.heap.size w w'

theorem of_range (a b : Int) (w : World) (g : Nat) (hg : w.heap.size = g) : Calls Try.prog 8 #[.slice (some ⟨g, 0, none⟩) 1 1] (w.alloc (.cells #[.int .i64 a, .int .i64 b] 44)) fun e w' => ∃ v, e = .returned v ∧ SetV w' v (fun z => decide (a ≤ z ∧ z ≤ b)) ∧ Below w.heap.size w w' := by
  subst hg
  have hseq : IsSeq Epair (w.alloc (.cells #[.int .i64 a, .int .i64 b] 44)) (.slice (some ⟨w.heap.size, 0, none⟩) 1 1) [(a, b)] := IsSeq.new w [(a, b)] 44 1 (by simp) (by decide)
  refine (hold_of ((Hold.start w).alloc _) hseq (by simp)).mono ?_
  rintro e w' ⟨x, rfl, hx⟩
  refine ⟨x, rfl, SetV.congr (SetV.of (hx.get (List.Mem.head _))) fun z hz => ?_, hx.1⟩
  simp [inB, hz]
theorem one_any (r : Int) (w : World) : Calls Try.prog 72 #[.int .i64 r] w (NewSet w (SynP.one r)) := by
  go_enter Try.func72, Try.ntmps72
  go_wp2_with (go_at_call 8; refine (of_range r r w _ rfl).mono ?_; rintro e w1 ⟨v, rfl, hv, hb⟩)
  go_ret
  exact ⟨v, rfl, hv.congr (fun z _ => by unfold SynP.one; rw [decide_eq_decide]; omega), hb⟩

/-- The class of a name, if it is one. -/
def clsT (l : List UInt8) : Option (Int → Bool) := ((List.range 18).find? fun n => (nameA n).data.toList == l).map classF
theorem nameA_low (n : Nat) (h : n < 15) : nameA n = nameC n := by unfold nameA; rw [if_pos h]
theorem nameA_u (u : Nat) (h : u < 2) : nameA (15 + u) = nameU u := by
  unfold nameA
  rw [if_neg (by omega), if_neg (by omega)]
  congr 1
  omega
theorem nameA_17 : nameA 17 = ⟨#[65, 110, 121]⟩ := by unfold nameA; simp
theorem class_all (l : List UInt8) (w : World) : Calls Try.prog 20 #[.string ⟨l.toArray⟩] w fun e w' => Below w.heap.size w w' ∧ match clsT l with
    | some f => ∃ v, e = .returned (.tuple #[v, .bool true]) ∧ SetV w' v f
    | none => e = .returned (.tuple #[.slice none 0 0, .bool false]) := by
  cases hn : (List.range 18).find? fun n => (nameA n).data.toList == l with
  | some n =>
    have h1 := List.find?_some hn
    have h2 := List.mem_range.1 (List.mem_of_find?_eq_some hn)
    have e1 : nameA n = ⟨l.toArray⟩ := by
      have := beq_iff_eq.1 h1
      rw [← this]
    have hc : clsT l = some (classF n) := by unfold clsT; rw [hn]; rfl
    rw [hc, ← e1]
    refine (class_named n h2 w w [] (Hold.start w)).mono ?_
    rintro e w' ⟨x, rfl, hx⟩
    exact ⟨hx.1, x, rfl, SetV.of (hx.get (List.Mem.head _))⟩
  | none =>
    have hc : clsT l = none := by unfold clsT; rw [hn]; rfl
    have hne : ∀ n, n < 18 → nameA n ≠ ⟨l.toArray⟩ := fun n hn' e => by
      have := List.find?_eq_none.1 hn n (List.mem_range.2 hn')
      rw [e] at this
      simp at this
    rw [hc]
    refine (class_none ⟨l.toArray⟩ ?_ (fun j hj => by rw [← nameA_low j hj]; exact hne j (by omega)) (fun u hu => by rw [← nameA_u u hu]; exact hne _ (by omega)) w w [] (Hold.start w)).mono ?_
    · have := str_ne (s := ⟨#[65, 110, 121]⟩) (t := ⟨l.toArray⟩) (by rw [← nameA_17]; exact hne 17 (by omega))
      rw [any_list] at this
      rw [beq_eq_false_iff_ne] at this ⊢
      exact fun e => this e.symm
    · rintro e w' ⟨rfl, hx⟩
      exact ⟨hx.1, rfl⟩

/-- What Perl's letters tell. -/
def perlT (c : Int) : Option (Int → Bool) :=
  if c = 100 then some (perlF 0) else if c = 68 then some (fun z => !perlF 0 z) else if c = 115 then some (perlF 1) else if c = 83 then some (fun z => !perlF 1 z) else if c = 119 then some (perlF 2) else if c = 87 then some (fun z => !perlF 2 z) else none
theorem perl_all (c : Int) (h0 : 0 ≤ c) (h1 : c ≤ 255) (w : World) : Calls Try.prog 9 #[.int .u8 c] w fun e w' => Below w.heap.size w w' ∧ match perlT c with
    | some f => ∃ v, e = .returned (.tuple #[v, .bool true]) ∧ SetV w' v f
    | none => e = .returned (.tuple #[.slice none 0 0, .bool false]) := by
  unfold perlT
  by_cases c1 : c = 100
  · subst c1
    refine (perl_d true w w [] (Hold.start w)).mono ?_
    rintro e w' ⟨x, rfl, hx⟩
    exact ⟨hx.1, x, rfl, SetV.of (hx.get (List.Mem.head _))⟩
  by_cases c2 : c = 68
  · subst c2
    refine (perl_d false w w [] (Hold.start w)).mono ?_
    rintro e w' ⟨x, rfl, hx⟩
    exact ⟨hx.1, x, rfl, hx.get (List.Mem.head _)⟩
  by_cases c3 : c = 115
  · subst c3
    refine (perl_s true w w [] (Hold.start w)).mono ?_
    rintro e w' ⟨x, rfl, hx⟩
    exact ⟨hx.1, x, rfl, SetV.of (hx.get (List.Mem.head _))⟩
  by_cases c4 : c = 83
  · subst c4
    refine (perl_s false w w [] (Hold.start w)).mono ?_
    rintro e w' ⟨x, rfl, hx⟩
    exact ⟨hx.1, x, rfl, hx.get (List.Mem.head _)⟩
  by_cases c5 : c = 119
  · subst c5
    refine (perl_w true w w [] (Hold.start w)).mono ?_
    rintro e w' ⟨x, rfl, hx⟩
    exact ⟨hx.1, x, rfl, SetV.of (hx.get (List.Mem.head _))⟩
  by_cases c6 : c = 87
  · subst c6
    refine (perl_w false w w [] (Hold.start w)).mono ?_
    rintro e w' ⟨x, rfl, hx⟩
    exact ⟨hx.1, x, rfl, hx.get (List.Mem.head _)⟩
  simp only [c1, c2, c3, c4, c5, c6, if_false]
  refine (perl_none c h0 h1 ⟨c1, c2, c3, c4, c5, c6⟩ w).mono ?_
  rintro e w' ⟨rfl, hb⟩
  exact ⟨hb, rfl⟩

def NamedEnd (w : World) (X : Cx) (p : Pv) : SynP.R ((Int → Bool) × Nat) → Ending → World → Prop
  | .ok x, e, w' => ∃ v, e = .returned v ∧ Mv X.b w w' ∧ At w' X p x.2 ∧ SetV w' v x.1
  | .bad c k, e, w' => Threw w X c k e w'
theorem word_stop {rs : List Int} {f : Nat} {s : List UInt8} {i : Nat} (h : ¬ (SynP.pk rs i ≠ 125 ∧ 32 < SynP.pk rs i ∧ SynP.pk rs i < 127)) : SynP.word rs f s i = (s, i) := by
  cases f with
  | zero => rfl
  | succ f => unfold SynP.word; rw [if_neg h]
theorem word_next {rs : List Int} {f : Nat} {s : List UInt8} {i : Nat} (h : SynP.pk rs i ≠ 125 ∧ 32 < SynP.pk rs i ∧ SynP.pk rs i < 127) : SynP.word rs (f + 1) s i = SynP.word rs f (s ++ [UInt8.ofNat (SynP.pk rs i).toNat]) (i + 1) := by
  rw [SynP.word, if_pos h]

set_option maxRecDepth 100000 in
set_option maxHeartbeats 1600000 in
theorem named_any (from_ : Nat) (w : World) (X : Cx) (p : Pv) (i : Nat) (h : At w X p i) (hf : from_ ≤ X.rs.length) :
    Calls Try.prog 87 #[.pointer (some ⟨X.b, 0, none⟩), .int .i64 from_] w (NamedEnd w X p (SynP.named X.rs clsT from_ i)) := by
  have HA := Lib.hid h
  have HM := Lib.hid (Mv.rfl_ X.b w)
  have hfew := h.few
  have hc := h.cell
  have hz := h.frozen
  have hbase := h.lt
  obtain ⟨R, hR⟩ : ∃ R, SynP.named X.rs clsT from_ i = R := ⟨_, rfl⟩
  rw [hR]
  by_cases h123 : SynP.pk X.rs i ≠ 123
  · have hR2 : SynP.R.bad 24 from_ = R := by rw [← hR]; unfold SynP.named; rw [if_pos h123]
    have HR := Lib.hid hR2
    clear h hR hR2
    go_enter Try.func87, Try.ntmps87
    go_wp2_with (first | (go_at_call 28; (first | refine (has_no _ _ X p _ HA.out (by simp only [UInt8.reduceToNat]; omega)).mono ?_ | refine (has_yes _ _ X p _ HA.out (by simp only [UInt8.reduceToNat]; omega)).mono ?_); rintro e w1 ⟨rfl, hm1, ha1⟩; replace HM := Lib.hid (HM.out.step hm1); replace HA := Lib.hid ha1; clear hm1 ha1; replace hc := HA.out.cell; replace hz := HA.out.frozen) | (go_at_call 45; refine (fail_any _ _ _ X p _ HA.out (by omega)).mono ?_; rintro e w1 ⟨hm1, he1⟩; unfold thrown at he1; subst he1; replace HM := Lib.hid (HM.out.step hm1); clear hm1))
    rw [← HR.out]; exact ⟨rfl, HM.out, rfl⟩
  have hi1 := pk_in (rs := X.rs) (i := i) (by omega)
  have HR0 : Hid (∀ s j, SynP.word X.rs X.rs.length [] (i + 1) = (s, j) → (match clsT s with | none => SynP.R.bad 24 from_ | some f => if SynP.pk X.rs j ≠ 125 then .bad 24 from_ else .ok (f, j + 1)) = R) := Lib.hid fun s j hw => by
    rw [← hR]
    unfold SynP.named
    rw [if_neg h123]
    simp only [hw]
    cases clsT s <;> rfl
  obtain ⟨B, hB⟩ : ∃ B, w.heap.size = B := ⟨_, rfl⟩
  have HBe := Lib.hid hB
  rw [hB] at hbase
  clear h hR
  go_enter Try.func87, Try.ntmps87
  go_upto_region 4 with (go_at_call 28; (first | refine (has_no _ _ X p _ HA.out (by simp only [UInt8.reduceToNat]; omega)).mono ?_ | refine (has_yes _ _ X p _ HA.out (by simp only [UInt8.reduceToNat]; omega)).mono ?_); rintro e w1 ⟨rfl, hm1, ha1⟩; replace HM := Lib.hid (HM.out.step hm1); replace HA := Lib.hid ha1; clear hm1 ha1; replace hc := HA.out.cell; replace hz := HA.out.frozen)
  go_loopg [5] (X.rs.length + 1) (fun k s5 wr => ∃ (s : List UInt8), k = X.rs.length + 1 - s.length ∧ s.length ≤ X.rs.length ∧ Hid (SynP.word X.rs (X.rs.length - s.length) s (i + 1 + s.length) = SynP.word X.rs X.rs.length [] (i + 1)) ∧ Hid (BRow B wr s5 s) ∧ Hid (Mv X.b w wr) ∧ Hid (At wr X p (i + 1 + s.length)))
  case atStart => exact ⟨[], by simp, by simp, Lib.hid rfl, Lib.hid (OwnB.nil_ (by rw [← HBe.out]; exact HM.out.size)), HM, HA⟩
  case round =>
    clear HM HA
    obtain ⟨s, hk, hsl, HE, HB, HM, HA⟩ := hrel
    have HK := Lib.hid hk
    clear hk
    replace hc := HA.out.cell
    replace hz := HA.out.frozen
    by_cases hgo : SynP.pk X.rs (i + 1 + s.length) ≠ 125 ∧ 32 < SynP.pk X.rs (i + 1 + s.length) ∧ SynP.pk X.rs (i + 1 + s.length) < 127
    · have hin := pk_in (rs := X.rs) (i := i + 1 + s.length) (by omega)
      have hE := HE.out
      rw [show X.rs.length - s.length = X.rs.length - (s.length + 1) + 1 by omega, word_next hgo] at hE
      have HE2 := Lib.hid hE
      have HN := Lib.hid (nI_snoc s (SynP.pk X.rs (i + 1 + s.length)) (by omega) (by omega))
      obtain ⟨g1, g2, g3⟩ := hgo
      clear hE
      have hvf := BRow.form HB.out
      obtain ⟨Av, cv, rfl, _, _⟩ := hvf
      go_upto_region 6 with (first | (go_at_call 44; refine (peek0 _ X p _ HA.out).mono ?_; rintro e w1 ⟨rfl, hm1, ha1⟩; replace HB := Lib.hid (OwnB.mv HB.out hm1 hbase); replace HM := Lib.hid (HM.out.step hm1); replace HA := Lib.hid ha1; clear hm1 ha1; replace hc := HA.out.cell; replace hz := HA.out.frozen) | (at_builtin; (refine wpList_append_seqB _ rfl (.tmp 27) (.tmp 31) 23 rfl 1 elByte rfl (OwnB.alloc HB.out _) 1 rfl (SeqAt.new_at (E := Ebyte) _ [SynP.pk X.rs (i + 1 + s.length)] 5 _ rfl) rfl (by rw [nI_len]; simp only [maxLen]; omega) (by rw [nI_len]; omega) ?_); intro v2 w2 ho2 hg2; replace HM := Lib.hid ((HM.out.alloc _).grown hg2 (fun k hk => by rw [HBe.out]; exact (OwnB.lt HB.out k hk).1)); replace HA := Lib.hid ((HA.out.below ((Below.refl _ _).alloc (Nat.le_refl _) _)).grown hg2 (fun k hk => Nat.lt_of_lt_of_le hbase (OwnB.lt HB.out k hk).1)); clear hg2; replace hc := HA.out.cell; replace hz := HA.out.frozen))
      go_wp2
      go_roundg (gk - 1)
      case measure => have := HK.out; omega
      case rel => exact ⟨s ++ [UInt8.ofNat (SynP.pk X.rs (i + 1 + s.length)).toNat], by have := HK.out; rw [List.length_append, List.length_singleton]; omega, by rw [List.length_append, List.length_singleton]; omega, Lib.hid (by rw [← HE2.out, List.length_append, List.length_singleton, show i + 1 + (s.length + 1) = i + 1 + s.length + 1 by omega]), Lib.hid (by unfold BRow; rw [HN.out]; exact OwnB.setBelow ho2 (a := ⟨X.b, 4, none⟩) hbase _), Lib.hid (HM.out.step (mv_put _ X _)), Lib.hid (HA.out.put _ _ (by rw [List.length_append, List.length_singleton]; omega) (by rw [List.length_append, List.length_singleton]; omega))⟩
    · have hE : SynP.word X.rs X.rs.length [] (i + 1) = (s, i + 1 + s.length) := by rw [← HE.out]; exact word_stop hgo
      have hR := HR0.out _ _ hE
      clear hE HE
      have HCl := Lib.hid (class_all s)
      have hvf := BRow.form HB.out
      obtain ⟨Av, cv, rfl, _, _⟩ := hvf
      have HK3 : Hid (∀ w1 w2, At w1 X p (i + 1 + s.length) → Mv X.b w1 w2 → KeepR w1 w2) := Lib.hid fun _ _ ha hm => KeepR.mv ha hm
      rcases (by omega : SynP.pk X.rs (i + 1 + s.length) = 125 ∨ SynP.pk X.rs (i + 1 + s.length) ≤ 32 ∧ SynP.pk X.rs (i + 1 + s.length) ≠ 125 ∨ 127 ≤ SynP.pk X.rs (i + 1 + s.length) ∧ SynP.pk X.rs (i + 1 + s.length) ≠ 125) with q | q | q

      · go_upto_region 7 with (go_at_call 44; refine (peek0 _ X p _ HA.out).mono ?_; rintro e w1 ⟨rfl, hm1, ha1⟩; replace HB := Lib.hid (OwnB.mv HB.out hm1 hbase); replace HM := Lib.hid (HM.out.step hm1); replace HA := Lib.hid ha1; clear hm1 ha1; replace hc := HA.out.cell; replace hz := HA.out.frozen)
        have hcv := conv_brow HB.out
        cases hcl : clsT s with
        | some f =>
          rw [hcl] at hR
          simp only [q, ne_eq, not_true_eq_false, if_false] at hR
          have HR := Lib.hid hR
          clear hR
          go_wp2_with (first | (go_at_call 20; refine (HCl.out _).mono ?_; rw [hcl]; rintro e w1 ⟨hb1, v, rfl, hv⟩; replace HM := Lib.hid (HM.out.below hb1); replace HA := Lib.hid (HA.out.below hb1); clear hb1; replace hc := HA.out.cell; replace hz := HA.out.frozen; replace hv := Lib.hid hv) | (go_at_call 28; (first | refine (has_no _ _ X p _ HA.out (by simp only [UInt8.reduceToNat]; omega)).mono ?_ | refine (has_yes _ _ X p _ HA.out (by simp only [UInt8.reduceToNat]; omega)).mono ?_); rintro e w1 ⟨rfl, hm1, ha1⟩; replace hv := Lib.hid (hv.out.on (HK3.out _ _ HA.out hm1)); replace HM := Lib.hid (HM.out.step hm1); replace HA := Lib.hid ha1; clear hm1 ha1; replace hc := HA.out.cell; replace hz := HA.out.frozen))
          go_ret
          rw [← HR.out]; exact ⟨v, rfl, HM.out, HA.out, hv.out⟩
        | none =>
          rw [hcl] at hR
          have HR := Lib.hid hR
          clear hR
          go_wp2_with (first | (go_at_call 20; refine (HCl.out _).mono ?_; rw [hcl]; rintro e w1 ⟨hb1, rfl⟩; replace HM := Lib.hid (HM.out.below hb1); replace HA := Lib.hid (HA.out.below hb1); clear hb1; replace hc := HA.out.cell; replace hz := HA.out.frozen) | (go_at_call 28; (first | refine (has_no _ _ X p _ HA.out (by simp only [UInt8.reduceToNat]; omega)).mono ?_ | refine (has_yes _ _ X p _ HA.out (by simp only [UInt8.reduceToNat]; omega)).mono ?_); rintro e w1 ⟨rfl, hm1, ha1⟩; replace HM := Lib.hid (HM.out.step hm1); replace HA := Lib.hid ha1; clear hm1 ha1; replace hc := HA.out.cell; replace hz := HA.out.frozen) | (go_at_call 45; refine (fail_any _ _ _ X p _ HA.out (by omega)).mono ?_; rintro e w1 ⟨hm1, he1⟩; unfold thrown at he1; subst he1; replace HM := Lib.hid (HM.out.step hm1); clear hm1))
          rw [← HR.out]; exact ⟨rfl, HM.out, rfl⟩
      · obtain ⟨q1, q2⟩ := q
        go_upto_region 7 with (go_at_call 44; refine (peek0 _ X p _ HA.out).mono ?_; rintro e w1 ⟨rfl, hm1, ha1⟩; replace HB := Lib.hid (OwnB.mv HB.out hm1 hbase); replace HM := Lib.hid (HM.out.step hm1); replace HA := Lib.hid ha1; clear hm1 ha1; replace hc := HA.out.cell; replace hz := HA.out.frozen)
        have hcv := conv_brow HB.out
        have hR2 : SynP.R.bad 24 from_ = R := by rw [← hR]; cases clsT s with | none => rfl | some f => simp only [ne_eq, q2, not_false_eq_true, if_true]
        have HR := Lib.hid hR2
        clear hR hR2
        cases hcl : clsT s with
        | some f =>
          go_wp2_with (first | (go_at_call 20; refine (HCl.out _).mono ?_; rw [hcl]; rintro e w1 ⟨hb1, v, rfl, hv⟩; replace HM := Lib.hid (HM.out.below hb1); replace HA := Lib.hid (HA.out.below hb1); clear hb1; replace hc := HA.out.cell; replace hz := HA.out.frozen; clear hv) | (go_at_call 28; (first | refine (has_no _ _ X p _ HA.out (by simp only [UInt8.reduceToNat]; omega)).mono ?_ | refine (has_yes _ _ X p _ HA.out (by simp only [UInt8.reduceToNat]; omega)).mono ?_); rintro e w1 ⟨rfl, hm1, ha1⟩; replace HM := Lib.hid (HM.out.step hm1); replace HA := Lib.hid ha1; clear hm1 ha1; replace hc := HA.out.cell; replace hz := HA.out.frozen) | (go_at_call 45; refine (fail_any _ _ _ X p _ HA.out (by omega)).mono ?_; rintro e w1 ⟨hm1, he1⟩; unfold thrown at he1; subst he1; replace HM := Lib.hid (HM.out.step hm1); clear hm1))
          rw [← HR.out]; exact ⟨rfl, HM.out, rfl⟩
        | none =>
          go_wp2_with (first | (go_at_call 20; refine (HCl.out _).mono ?_; rw [hcl]; rintro e w1 ⟨hb1, rfl⟩; replace HM := Lib.hid (HM.out.below hb1); replace HA := Lib.hid (HA.out.below hb1); clear hb1; replace hc := HA.out.cell; replace hz := HA.out.frozen) | (go_at_call 28; (first | refine (has_no _ _ X p _ HA.out (by simp only [UInt8.reduceToNat]; omega)).mono ?_ | refine (has_yes _ _ X p _ HA.out (by simp only [UInt8.reduceToNat]; omega)).mono ?_); rintro e w1 ⟨rfl, hm1, ha1⟩; replace HM := Lib.hid (HM.out.step hm1); replace HA := Lib.hid ha1; clear hm1 ha1; replace hc := HA.out.cell; replace hz := HA.out.frozen) | (go_at_call 45; refine (fail_any _ _ _ X p _ HA.out (by omega)).mono ?_; rintro e w1 ⟨hm1, he1⟩; unfold thrown at he1; subst he1; replace HM := Lib.hid (HM.out.step hm1); clear hm1))
          rw [← HR.out]; exact ⟨rfl, HM.out, rfl⟩
      · obtain ⟨q1, q2⟩ := q
        have q3 : 32 < SynP.pk X.rs (i + 1 + s.length) := by omega
        have q4 : ¬ SynP.pk X.rs (i + 1 + s.length) < 127 := by omega
        go_upto_region 7 with (go_at_call 44; refine (peek0 _ X p _ HA.out).mono ?_; rintro e w1 ⟨rfl, hm1, ha1⟩; replace HB := Lib.hid (OwnB.mv HB.out hm1 hbase); replace HM := Lib.hid (HM.out.step hm1); replace HA := Lib.hid ha1; clear hm1 ha1; replace hc := HA.out.cell; replace hz := HA.out.frozen)
        have hcv := conv_brow HB.out
        have hR2 : SynP.R.bad 24 from_ = R := by rw [← hR]; cases clsT s with | none => rfl | some f => simp only [ne_eq, q2, not_false_eq_true, if_true]
        have HR := Lib.hid hR2
        clear hR hR2
        cases hcl : clsT s with
        | some f =>
          go_wp2_with (first | (go_at_call 20; refine (HCl.out _).mono ?_; rw [hcl]; rintro e w1 ⟨hb1, v, rfl, hv⟩; replace HM := Lib.hid (HM.out.below hb1); replace HA := Lib.hid (HA.out.below hb1); clear hb1; replace hc := HA.out.cell; replace hz := HA.out.frozen; clear hv) | (go_at_call 28; (first | refine (has_no _ _ X p _ HA.out (by simp only [UInt8.reduceToNat]; omega)).mono ?_ | refine (has_yes _ _ X p _ HA.out (by simp only [UInt8.reduceToNat]; omega)).mono ?_); rintro e w1 ⟨rfl, hm1, ha1⟩; replace HM := Lib.hid (HM.out.step hm1); replace HA := Lib.hid ha1; clear hm1 ha1; replace hc := HA.out.cell; replace hz := HA.out.frozen) | (go_at_call 45; refine (fail_any _ _ _ X p _ HA.out (by omega)).mono ?_; rintro e w1 ⟨hm1, he1⟩; unfold thrown at he1; subst he1; replace HM := Lib.hid (HM.out.step hm1); clear hm1))
          rw [← HR.out]; exact ⟨rfl, HM.out, rfl⟩
        | none =>
          go_wp2_with (first | (go_at_call 20; refine (HCl.out _).mono ?_; rw [hcl]; rintro e w1 ⟨hb1, rfl⟩; replace HM := Lib.hid (HM.out.below hb1); replace HA := Lib.hid (HA.out.below hb1); clear hb1; replace hc := HA.out.cell; replace hz := HA.out.frozen) | (go_at_call 28; (first | refine (has_no _ _ X p _ HA.out (by simp only [UInt8.reduceToNat]; omega)).mono ?_ | refine (has_yes _ _ X p _ HA.out (by simp only [UInt8.reduceToNat]; omega)).mono ?_); rintro e w1 ⟨rfl, hm1, ha1⟩; replace HM := Lib.hid (HM.out.step hm1); replace HA := Lib.hid ha1; clear hm1 ha1; replace hc := HA.out.cell; replace hz := HA.out.frozen) | (go_at_call 45; refine (fail_any _ _ _ X p _ HA.out (by omega)).mono ?_; rintro e w1 ⟨hm1, he1⟩; unfold thrown at he1; subst he1; replace HM := Lib.hid (HM.out.step hm1); clear hm1))
          rw [← HR.out]; exact ⟨rfl, HM.out, rfl⟩

end Go.Proofs.Ytmmmcfflhlkiiaa
