/- Chapter 10: the parser of patterns: what stands behind a stroke; an item of a list. -/
import Derived.Test.YtblkejnckbeieaaGreatDoorZk4
import Derived.Test.YtblkejnckbeieaaGreatDoorShelf
namespace Go.Proofs.YtblkejnckbeieaaGreatDoor
open Go.RowKit SetPure

def EscEnd (w : World) (X : Cx) (p : Pv) : SynP.R ((Int → Bool) × Int × Nat) → Ending → World → Prop
  | .ok x, e, w' => ∃ v, e = .returned (.tuple #[v, .int .i64 x.2.1]) ∧ Mv X.b w w' ∧ At w' X p x.2.2 ∧ SetV w' v x.1
  | .bad c k, e, w' => Threw w X c k e w'
/-- The scalar here is c. -/
def PkIs (c : Int) (X : Cx) (p : Pv) (i : Nat) : Prop := Hid (∀ w, At w X p i → Calls Tryz.prog 100 #[.pointer (some ⟨X.b, 0, none⟩), .int .i64 0] w fun e w' => Went w X p (.int .i64 c) i e w')
theorem PkIs.out {c : Int} {X : Cx} {p : Pv} {i : Nat} (h : PkIs c X p i) : ∀ w, At w X p i → Calls Tryz.prog 100 #[.pointer (some ⟨X.b, 0, none⟩), .int .i64 0] w fun e w' => Went w X p (.int .i64 c) i e w' := Hid.out h
theorem pkIs (X : Cx) (p : Pv) (i : Nat) : PkIs (SynP.pk X.rs i) X p i := Lib.hid fun w h => peek0 w X p i h
theorem ors : ∀ k : Fin 128, (97 ≤ bits BinOp.or IntKind.i64 (k.val : Int) 32 ∧ bits BinOp.or IntKind.i64 (k.val : Int) 32 ≤ 122) ↔ (97 ≤ k.val ∧ k.val ≤ 122 ∨ 65 ≤ k.val ∧ k.val ≤ 90) := by decide +kernel
theorem ors_is (c : Int) (h0 : 0 ≤ c) (h1 : c < 128) : (97 ≤ bits BinOp.or IntKind.i64 c 32 ∧ bits BinOp.or IntKind.i64 c 32 ≤ 122) ↔ (97 ≤ c ∧ c ≤ 122 ∨ 65 ≤ c ∧ c ≤ 90) := by
  have := ors ⟨c.toNat, by omega⟩
  have e : ((c.toNat : Nat) : Int) = c := by omega
  simp only [e] at this
  rw [this]
  omega
theorem idx_no : ∀ k : Fin 128, (k.val ≠ 110 ∧ k.val ≠ 116 ∧ k.val ≠ 114 ∧ k.val ≠ 102 ∧ k.val ≠ 118) → Lib.indexByte [110, 116, 114, 102, 118] k.val.toUInt8 = -1 := by decide +kernel
theorem index_esc (c : Int) (k : Int) (hk : Lib.indexByte [110, 116, 114, 102, 118] c.toNat.toUInt8 = k) (w : World) : Calls Tryz.prog 177 #[.string ⟨#[110, 116, 114, 102, 118]⟩, .int .u8 c] w fun e w' => e = .returned (.int .i64 k) ∧ w' = w := by
  have := Tryz.strings_IndexByte ⟨#[110, 116, 114, 102, 118]⟩ c w
  rw [show (ByteArray.mk #[110, 116, 114, 102, 118]).data.toList = [110, 116, 114, 102, 118] from rfl, hk] at this
  exact this

set_option maxRecDepth 100000 in
set_option maxHeartbeats 1600000 in
theorem esc_low (c : Int) (from_ : Nat) (w : World) (X : Cx) (p : Pv) (i : Nat) (HA : Hid (At w X p i)) (hfew : X.rs.length ≤ 1024) (hi : i ≤ X.rs.length) (hf : from_ ≤ X.rs.length) (HPk : PkIs c X p i) (h1 : c < 33) :
    Calls Tryz.prog 144 #[.pointer (some ⟨X.b, 0, none⟩), .int .i64 from_] w (EscEnd w X p (.bad 20 from_)) := by
  have HM := Lib.hid (Mv.rfl_ X.b w)
  have hc := HA.out.cell
  have hz := HA.out.frozen
  go_enter Tryz.func144, Tryz.ntmps144
  go_upto_region 3 with (go_at_call 100; refine (HPk.out _ HA.out).mono ?_; rintro e w1 ⟨rfl, hm1, ha1⟩; replace HM := Lib.hid (HM.out.step hm1); replace HA := Lib.hid ha1; clear hm1 ha1; replace hc := HA.out.cell; replace hz := HA.out.frozen)
  have hput := HA.out.put ((i : Int) + 1) (i + 1) (by omega) (by omega)
  have hmp := HM.out.step (mv_put w1 X (.int .i64 ((i : Int) + 1)))
  generalize w1.setCell ⟨X.b, 4, none⟩ (.int .i64 ((i : Int) + 1)) = W at hput hmp ⊢
  replace HA := Lib.hid hput
  replace HM := Lib.hid hmp
  clear hput hmp hc hz
  have hc := HA.out.cell
  have hz := HA.out.frozen
  go_wp2_with (go_at_call 101; refine (fail_any _ _ _ X p _ HA.out (by omega)).mono ?_; rintro e w1 ⟨hm1, he1⟩; unfold thrown at he1; subst he1; replace HM := Lib.hid (HM.out.step hm1); clear hm1)
  exact ⟨rfl, HM.out, rfl⟩

set_option maxRecDepth 100000 in
set_option maxHeartbeats 1600000 in
theorem esc_high (c : Int) (from_ : Nat) (w : World) (X : Cx) (p : Pv) (i : Nat) (HA : Hid (At w X p i)) (hfew : X.rs.length ≤ 1024) (hi : i ≤ X.rs.length) (hf : from_ ≤ X.rs.length) (HPk : PkIs c X p i) (_h1 : ¬ c < 33) (h2 : 126 < c) :
    Calls Tryz.prog 144 #[.pointer (some ⟨X.b, 0, none⟩), .int .i64 from_] w (EscEnd w X p (.bad 20 from_)) := by
  have HM := Lib.hid (Mv.rfl_ X.b w)
  have hc := HA.out.cell
  have hz := HA.out.frozen
  go_enter Tryz.func144, Tryz.ntmps144
  go_upto_region 3 with (go_at_call 100; refine (HPk.out _ HA.out).mono ?_; rintro e w1 ⟨rfl, hm1, ha1⟩; replace HM := Lib.hid (HM.out.step hm1); replace HA := Lib.hid ha1; clear hm1 ha1; replace hc := HA.out.cell; replace hz := HA.out.frozen)
  have hput := HA.out.put ((i : Int) + 1) (i + 1) (by omega) (by omega)
  have hmp := HM.out.step (mv_put w1 X (.int .i64 ((i : Int) + 1)))
  generalize w1.setCell ⟨X.b, 4, none⟩ (.int .i64 ((i : Int) + 1)) = W at hput hmp ⊢
  replace HA := Lib.hid hput
  replace HM := Lib.hid hmp
  clear hput hmp hc hz
  have hc := HA.out.cell
  have hz := HA.out.frozen
  go_wp2_with (go_at_call 101; refine (fail_any _ _ _ X p _ HA.out (by omega)).mono ?_; rintro e w1 ⟨hm1, he1⟩; unfold thrown at he1; subst he1; replace HM := Lib.hid (HM.out.step hm1); clear hm1)
  exact ⟨rfl, HM.out, rfl⟩

set_option maxRecDepth 100000 in
set_option maxHeartbeats 1600000 in
theorem esc_p_bad (c : Int) (from_ : Nat) (w : World) (X : Cx) (p : Pv) (i : Nat) (HA : Hid (At w X p i)) (hfew : X.rs.length ≤ 1024) (hi : i ≤ X.rs.length) (hf : from_ ≤ X.rs.length) (HPk : PkIs c X p i) (hx : c = 112) (ec : Int) (k : Nat) (hn : SynP.named X.rs clsT from_ (i + 1) = .bad ec k) :
    Calls Tryz.prog 144 #[.pointer (some ⟨X.b, 0, none⟩), .int .i64 from_] w (EscEnd w X p (.bad ec k)) := by
  have HM := Lib.hid (Mv.rfl_ X.b w)
  have hc := HA.out.cell
  have hz := HA.out.frozen
  subst hx
  go_enter Tryz.func144, Tryz.ntmps144
  go_upto_region 3 with (go_at_call 100; refine (HPk.out _ HA.out).mono ?_; rintro e w1 ⟨rfl, hm1, ha1⟩; replace HM := Lib.hid (HM.out.step hm1); replace HA := Lib.hid ha1; clear hm1 ha1; replace hc := HA.out.cell; replace hz := HA.out.frozen)
  have hput := HA.out.put ((i : Int) + 1) (i + 1) (by omega) (by omega)
  have hmp := HM.out.step (mv_put w1 X (.int .i64 ((i : Int) + 1)))
  generalize w1.setCell ⟨X.b, 4, none⟩ (.int .i64 ((i : Int) + 1)) = W at hput hmp ⊢
  replace HA := Lib.hid hput
  replace HM := Lib.hid hmp
  clear hput hmp hc hz
  have hc := HA.out.cell
  have hz := HA.out.frozen
  have HNm : Hid (∀ w, At w X p (i + 1) → Calls Tryz.prog 174 #[.pointer (some ⟨X.b, 0, none⟩), .int .i64 from_] w fun e w' => Threw w X ec k e w') := Lib.hid fun w h => by
    have := named_any from_ w X p (i + 1) h hf
    rw [hn] at this
    exact this
  clear hn
  go_wp2_with (go_at_call 174; refine (HNm.out _ HA.out).mono ?_; rintro e w1 ⟨hm1, he1⟩; unfold thrown at he1; subst he1; replace HM := Lib.hid (HM.out.step hm1); clear hm1)
  exact ⟨rfl, HM.out, rfl⟩

set_option maxRecDepth 100000 in
set_option maxHeartbeats 1600000 in
theorem esc_p_ok (c : Int) (from_ : Nat) (w : World) (X : Cx) (p : Pv) (i : Nat) (HA : Hid (At w X p i)) (hfew : X.rs.length ≤ 1024) (hi : i ≤ X.rs.length) (hf : from_ ≤ X.rs.length) (HPk : PkIs c X p i) (hx : c = 112) (f : Int → Bool) (j : Nat) (hn : SynP.named X.rs clsT from_ (i + 1) = .ok (f, j)) :
    Calls Tryz.prog 144 #[.pointer (some ⟨X.b, 0, none⟩), .int .i64 from_] w (EscEnd w X p (.ok (f, -1, j))) := by
  have HM := Lib.hid (Mv.rfl_ X.b w)
  have hc := HA.out.cell
  have hz := HA.out.frozen
  subst hx
  go_enter Tryz.func144, Tryz.ntmps144
  go_upto_region 3 with (go_at_call 100; refine (HPk.out _ HA.out).mono ?_; rintro e w1 ⟨rfl, hm1, ha1⟩; replace HM := Lib.hid (HM.out.step hm1); replace HA := Lib.hid ha1; clear hm1 ha1; replace hc := HA.out.cell; replace hz := HA.out.frozen)
  have hput := HA.out.put ((i : Int) + 1) (i + 1) (by omega) (by omega)
  have hmp := HM.out.step (mv_put w1 X (.int .i64 ((i : Int) + 1)))
  generalize w1.setCell ⟨X.b, 4, none⟩ (.int .i64 ((i : Int) + 1)) = W at hput hmp ⊢
  replace HA := Lib.hid hput
  replace HM := Lib.hid hmp
  clear hput hmp hc hz
  have hc := HA.out.cell
  have hz := HA.out.frozen
  have HNm : Hid (∀ w, At w X p (i + 1) → Calls Tryz.prog 174 #[.pointer (some ⟨X.b, 0, none⟩), .int .i64 from_] w fun e w' => ∃ v, e = .returned v ∧ Mv X.b w w' ∧ At w' X p j ∧ SetV w' v f) := Lib.hid fun w h => by
    have := named_any from_ w X p (i + 1) h hf
    rw [hn] at this
    exact this
  clear hn
  go_wp2_with (go_at_call 174; refine (HNm.out _ HA.out).mono ?_; rintro e w1 ⟨v, rfl, hm1, ha1, hv⟩; have HV := Lib.hid hv; replace HM := Lib.hid (HM.out.step hm1); replace HA := Lib.hid ha1; clear hm1 ha1 hv; replace hc := HA.out.cell; replace hz := HA.out.frozen)
  go_ret2
  exact ⟨v, rfl, HM.out, HA.out, HV.out⟩

set_option maxRecDepth 100000 in
set_option maxHeartbeats 1600000 in
theorem esc_P_bad (c : Int) (from_ : Nat) (w : World) (X : Cx) (p : Pv) (i : Nat) (HA : Hid (At w X p i)) (hfew : X.rs.length ≤ 1024) (hi : i ≤ X.rs.length) (hf : from_ ≤ X.rs.length) (HPk : PkIs c X p i) (hx : c = 80) (ec : Int) (k : Nat) (hn : SynP.named X.rs clsT from_ (i + 1) = .bad ec k) :
    Calls Tryz.prog 144 #[.pointer (some ⟨X.b, 0, none⟩), .int .i64 from_] w (EscEnd w X p (.bad ec k)) := by
  have HM := Lib.hid (Mv.rfl_ X.b w)
  have hc := HA.out.cell
  have hz := HA.out.frozen
  subst hx
  go_enter Tryz.func144, Tryz.ntmps144
  go_upto_region 3 with (go_at_call 100; refine (HPk.out _ HA.out).mono ?_; rintro e w1 ⟨rfl, hm1, ha1⟩; replace HM := Lib.hid (HM.out.step hm1); replace HA := Lib.hid ha1; clear hm1 ha1; replace hc := HA.out.cell; replace hz := HA.out.frozen)
  have hput := HA.out.put ((i : Int) + 1) (i + 1) (by omega) (by omega)
  have hmp := HM.out.step (mv_put w1 X (.int .i64 ((i : Int) + 1)))
  generalize w1.setCell ⟨X.b, 4, none⟩ (.int .i64 ((i : Int) + 1)) = W at hput hmp ⊢
  replace HA := Lib.hid hput
  replace HM := Lib.hid hmp
  clear hput hmp hc hz
  have hc := HA.out.cell
  have hz := HA.out.frozen
  have HNm : Hid (∀ w, At w X p (i + 1) → Calls Tryz.prog 174 #[.pointer (some ⟨X.b, 0, none⟩), .int .i64 from_] w fun e w' => Threw w X ec k e w') := Lib.hid fun w h => by
    have := named_any from_ w X p (i + 1) h hf
    rw [hn] at this
    exact this
  clear hn
  go_wp2_with (go_at_call 174; refine (HNm.out _ HA.out).mono ?_; rintro e w1 ⟨hm1, he1⟩; unfold thrown at he1; subst he1; replace HM := Lib.hid (HM.out.step hm1); clear hm1)
  exact ⟨rfl, HM.out, rfl⟩

set_option maxRecDepth 100000 in
set_option maxHeartbeats 1600000 in
theorem esc_P_ok (c : Int) (from_ : Nat) (w : World) (X : Cx) (p : Pv) (i : Nat) (HA : Hid (At w X p i)) (hfew : X.rs.length ≤ 1024) (hi : i ≤ X.rs.length) (hf : from_ ≤ X.rs.length) (HPk : PkIs c X p i) (hx : c = 80) (f : Int → Bool) (j : Nat) (hn : SynP.named X.rs clsT from_ (i + 1) = .ok (f, j)) :
    Calls Tryz.prog 144 #[.pointer (some ⟨X.b, 0, none⟩), .int .i64 from_] w (EscEnd w X p (.ok (fun z => !f z, -1, j))) := by
  have HM := Lib.hid (Mv.rfl_ X.b w)
  have hc := HA.out.cell
  have hz := HA.out.frozen
  subst hx
  go_enter Tryz.func144, Tryz.ntmps144
  go_upto_region 3 with (go_at_call 100; refine (HPk.out _ HA.out).mono ?_; rintro e w1 ⟨rfl, hm1, ha1⟩; replace HM := Lib.hid (HM.out.step hm1); replace HA := Lib.hid ha1; clear hm1 ha1; replace hc := HA.out.cell; replace hz := HA.out.frozen)
  have hput := HA.out.put ((i : Int) + 1) (i + 1) (by omega) (by omega)
  have hmp := HM.out.step (mv_put w1 X (.int .i64 ((i : Int) + 1)))
  generalize w1.setCell ⟨X.b, 4, none⟩ (.int .i64 ((i : Int) + 1)) = W at hput hmp ⊢
  replace HA := Lib.hid hput
  replace HM := Lib.hid hmp
  clear hput hmp hc hz
  have hc := HA.out.cell
  have hz := HA.out.frozen
  have HNm : Hid (∀ w, At w X p (i + 1) → Calls Tryz.prog 174 #[.pointer (some ⟨X.b, 0, none⟩), .int .i64 from_] w fun e w' => ∃ v, e = .returned v ∧ Mv X.b w w' ∧ At w' X p j ∧ SetV w' v f) := Lib.hid fun w h => by
    have := named_any from_ w X p (i + 1) h hf
    rw [hn] at this
    exact this
  clear hn
  go_wp2_with (first | (go_at_call 174; refine (HNm.out _ HA.out).mono ?_; rintro e w1 ⟨v, rfl, hm1, ha1, hv⟩; have HV := Lib.hid hv; replace HM := Lib.hid (HM.out.step hm1); replace HA := Lib.hid ha1; clear hm1 ha1 hv; replace hc := HA.out.cell; replace hz := HA.out.frozen) | (go_at_call 57; refine (hold_not HV.out.hold (List.Mem.head _)).mono ?_; rintro e w1 ⟨v2, rfl, hh⟩; have HV2 := Lib.hid (hh.get (List.Mem.head _)); have hb1 := hh.1; replace HM := Lib.hid (HM.out.below hb1); replace HA := Lib.hid (HA.out.below hb1); clear hh hb1; replace hc := HA.out.cell; replace hz := HA.out.frozen))
  go_ret2
  exact ⟨v2, rfl, HM.out, HA.out, SetF.congr HV2.out fun z => by cases inR z <;> simp⟩

set_option maxRecDepth 100000 in
set_option maxHeartbeats 1600000 in
theorem esc_x_bad (c : Int) (from_ : Nat) (w : World) (X : Cx) (p : Pv) (i : Nat) (HA : Hid (At w X p i)) (hfew : X.rs.length ≤ 1024) (hi : i ≤ X.rs.length) (hf : from_ ≤ X.rs.length) (HPk : PkIs c X p i) (hx : c = 120) (hs : Hid (Scal X.rs)) (ec : Int) (k : Nat) (hn : SynP.number X.rs from_ (i + 1) = .bad ec k) :
    Calls Tryz.prog 144 #[.pointer (some ⟨X.b, 0, none⟩), .int .i64 from_] w (EscEnd w X p (.bad ec k)) := by
  have HM := Lib.hid (Mv.rfl_ X.b w)
  have hc := HA.out.cell
  have hz := HA.out.frozen
  subst hx
  go_enter Tryz.func144, Tryz.ntmps144
  go_upto_region 3 with (go_at_call 100; refine (HPk.out _ HA.out).mono ?_; rintro e w1 ⟨rfl, hm1, ha1⟩; replace HM := Lib.hid (HM.out.step hm1); replace HA := Lib.hid ha1; clear hm1 ha1; replace hc := HA.out.cell; replace hz := HA.out.frozen)
  have hput := HA.out.put ((i : Int) + 1) (i + 1) (by omega) (by omega)
  have hmp := HM.out.step (mv_put w1 X (.int .i64 ((i : Int) + 1)))
  generalize w1.setCell ⟨X.b, 4, none⟩ (.int .i64 ((i : Int) + 1)) = W at hput hmp ⊢
  replace HA := Lib.hid hput
  replace HM := Lib.hid hmp
  clear hput hmp hc hz
  have hc := HA.out.cell
  have hz := HA.out.frozen
  have HNm : Hid (∀ w, At w X p (i + 1) → Calls Tryz.prog 175 #[.pointer (some ⟨X.b, 0, none⟩), .int .i64 from_] w fun e w' => Threw w X ec k e w') := Lib.hid fun w h => by
    have := number_any from_ w X p (i + 1) h hs.out hf
    rw [hn] at this
    exact this
  clear hn
  go_wp2_with (go_at_call 175; refine (HNm.out _ HA.out).mono ?_; rintro e w1 ⟨hm1, he1⟩; unfold thrown at he1; subst he1; replace HM := Lib.hid (HM.out.step hm1); clear hm1)
  exact ⟨rfl, HM.out, rfl⟩

set_option maxRecDepth 100000 in
set_option maxHeartbeats 1600000 in
theorem esc_x_ok (c : Int) (from_ : Nat) (w : World) (X : Cx) (p : Pv) (i : Nat) (HA : Hid (At w X p i)) (hfew : X.rs.length ≤ 1024) (hi : i ≤ X.rs.length) (hf : from_ ≤ X.rs.length) (HPk : PkIs c X p i) (hx : c = 120) (hs : Hid (Scal X.rs)) (r : Int) (j : Nat) (hn : SynP.number X.rs from_ (i + 1) = .ok (r, j)) :
    Calls Tryz.prog 144 #[.pointer (some ⟨X.b, 0, none⟩), .int .i64 from_] w (EscEnd w X p (.ok (SynP.one r, r, j))) := by
  have HM := Lib.hid (Mv.rfl_ X.b w)
  have hc := HA.out.cell
  have hz := HA.out.frozen
  subst hx
  go_enter Tryz.func144, Tryz.ntmps144
  go_upto_region 3 with (go_at_call 100; refine (HPk.out _ HA.out).mono ?_; rintro e w1 ⟨rfl, hm1, ha1⟩; replace HM := Lib.hid (HM.out.step hm1); replace HA := Lib.hid ha1; clear hm1 ha1; replace hc := HA.out.cell; replace hz := HA.out.frozen)
  have hput := HA.out.put ((i : Int) + 1) (i + 1) (by omega) (by omega)
  have hmp := HM.out.step (mv_put w1 X (.int .i64 ((i : Int) + 1)))
  generalize w1.setCell ⟨X.b, 4, none⟩ (.int .i64 ((i : Int) + 1)) = W at hput hmp ⊢
  replace HA := Lib.hid hput
  replace HM := Lib.hid hmp
  clear hput hmp hc hz
  have hc := HA.out.cell
  have hz := HA.out.frozen
  have HNm : Hid (∀ w, At w X p (i + 1) → Calls Tryz.prog 175 #[.pointer (some ⟨X.b, 0, none⟩), .int .i64 from_] w fun e w' => Went w X p (.int .i64 r) j e w') := Lib.hid fun w h => by
    have := number_any from_ w X p (i + 1) h hs.out hf
    rw [hn] at this
    exact this
  clear hn
  go_wp2_with (first | (go_at_call 175; refine (HNm.out _ HA.out).mono ?_; rintro e w1 ⟨rfl, hm1, ha1⟩; replace HM := Lib.hid (HM.out.step hm1); replace HA := Lib.hid ha1; clear hm1 ha1; replace hc := HA.out.cell; replace hz := HA.out.frozen) | (go_at_call 140; refine (one_any _ _).mono ?_; rintro e w1 ⟨v, rfl, hv, hb1⟩; have HV := Lib.hid hv; replace HM := Lib.hid (HM.out.below hb1); replace HA := Lib.hid (HA.out.below hb1); clear hv hb1; replace hc := HA.out.cell; replace hz := HA.out.frozen))
  go_ret2
  exact ⟨v, rfl, HM.out, HA.out, HV.out⟩

set_option maxRecDepth 100000 in
set_option maxHeartbeats 1600000 in
theorem esc_perl (c : Int) (from_ : Nat) (w : World) (X : Cx) (p : Pv) (i : Nat) (HA : Hid (At w X p i)) (hfew : X.rs.length ≤ 1024) (hi : i ≤ X.rs.length) (_hf : from_ ≤ X.rs.length) (HPk : PkIs c X p i) (h1 : ¬ c < 33) (h2 : ¬ 126 < c) (h3 : (c == 112) = false) (h4 : (c == 80) = false) (h5 : (c == 120) = false) (f : Int → Bool) (hp : perlT c = some f) :
    Calls Tryz.prog 144 #[.pointer (some ⟨X.b, 0, none⟩), .int .i64 from_] w (EscEnd w X p (.ok (f, -1, i + 1))) := by
  have HM := Lib.hid (Mv.rfl_ X.b w)
  have hc := HA.out.cell
  have hz := HA.out.frozen
  go_enter Tryz.func144, Tryz.ntmps144
  go_upto_region 3 with (go_at_call 100; refine (HPk.out _ HA.out).mono ?_; rintro e w1 ⟨rfl, hm1, ha1⟩; replace HM := Lib.hid (HM.out.step hm1); replace HA := Lib.hid ha1; clear hm1 ha1; replace hc := HA.out.cell; replace hz := HA.out.frozen)
  have hput := HA.out.put ((i : Int) + 1) (i + 1) (by omega) (by omega)
  have hmp := HM.out.step (mv_put w1 X (.int .i64 ((i : Int) + 1)))
  generalize w1.setCell ⟨X.b, 4, none⟩ (.int .i64 ((i : Int) + 1)) = W at hput hmp ⊢
  replace HA := Lib.hid hput
  replace HM := Lib.hid hmp
  clear hput hmp hc hz
  have hc := HA.out.cell
  have hz := HA.out.frozen
  have HP : Hid (∀ w, Calls Tryz.prog 176 #[.int .u8 c] w fun e w' => Below w.heap.size w w' ∧ ∃ v, e = .returned (.tuple #[v, .bool true]) ∧ SetV w' v f) := Lib.hid fun w => by
    have := perl_all c (by omega) (by omega) w
    rw [hp] at this
    exact this
  clear hp
  go_wp2_with (go_at_call 176; refine (HP.out _).mono ?_; rintro e w1 ⟨hb1, v, rfl, hv⟩; have HV := Lib.hid hv; replace HM := Lib.hid (HM.out.below hb1); replace HA := Lib.hid (HA.out.below hb1); clear hb1 hv; replace hc := HA.out.cell; replace hz := HA.out.frozen)
  go_ret2
  exact ⟨v, rfl, HM.out, HA.out, HV.out⟩

set_option maxRecDepth 100000 in
set_option maxHeartbeats 1600000 in
theorem esc_110 (c : Int) (from_ : Nat) (w : World) (X : Cx) (p : Pv) (i : Nat) (HA : Hid (At w X p i)) (hfew : X.rs.length ≤ 1024) (hi : i ≤ X.rs.length) (_hf : from_ ≤ X.rs.length) (HPk : PkIs c X p i) (hx : c = 110) :
    Calls Tryz.prog 144 #[.pointer (some ⟨X.b, 0, none⟩), .int .i64 from_] w (EscEnd w X p (.ok (SynP.one 10, 10, i + 1))) := by
  have HM := Lib.hid (Mv.rfl_ X.b w)
  have hc := HA.out.cell
  have hz := HA.out.frozen
  subst hx
  go_enter Tryz.func144, Tryz.ntmps144
  go_upto_region 3 with (go_at_call 100; refine (HPk.out _ HA.out).mono ?_; rintro e w1 ⟨rfl, hm1, ha1⟩; replace HM := Lib.hid (HM.out.step hm1); replace HA := Lib.hid ha1; clear hm1 ha1; replace hc := HA.out.cell; replace hz := HA.out.frozen)
  have hput := HA.out.put ((i : Int) + 1) (i + 1) (by omega) (by omega)
  have hmp := HM.out.step (mv_put w1 X (.int .i64 ((i : Int) + 1)))
  generalize w1.setCell ⟨X.b, 4, none⟩ (.int .i64 ((i : Int) + 1)) = W at hput hmp ⊢
  replace HA := Lib.hid hput
  replace HM := Lib.hid hmp
  clear hput hmp hc hz
  have hc := HA.out.cell
  have hz := HA.out.frozen
  have hp : perlT 110 = none := by decide
  have HP : Hid (∀ w, Calls Tryz.prog 176 #[.int .u8 110] w fun e w' => Below w.heap.size w w' ∧ e = .returned (.tuple #[.slice none 0 0, .bool false])) := Lib.hid fun w => by
    have := perl_all 110 (by omega) (by omega) w
    rw [hp] at this
    exact this
  clear hp
  have HI := Lib.hid (index_esc 110 0 (by decide))
  have hw : wrap64 ((((ByteArray.mk #[10, 9, 13, 12, 11])[0]'(by decide)).toNat : Nat) : Int) = 10 := by decide +kernel
  go_wp2_with (first | (go_at_call 176; refine (HP.out _).mono ?_; rintro e w1 ⟨hb1, rfl⟩; replace HM := Lib.hid (HM.out.below hb1); replace HA := Lib.hid (HA.out.below hb1); clear hb1; replace hc := HA.out.cell; replace hz := HA.out.frozen) | (go_at_call 177; refine (HI.out _).mono ?_; rintro e w1 ⟨rfl, rfl⟩) | (go_at_call 140; refine (one_any _ _).mono ?_; rintro e w1 ⟨v, rfl, hv, hb1⟩; have HV := Lib.hid hv; replace HM := Lib.hid (HM.out.below hb1); replace HA := Lib.hid (HA.out.below hb1); clear hv hb1; replace hc := HA.out.cell; replace hz := HA.out.frozen))
  go_ret2
  exact ⟨v, rfl, HM.out, HA.out, HV.out⟩

set_option maxRecDepth 100000 in
set_option maxHeartbeats 1600000 in
theorem esc_116 (c : Int) (from_ : Nat) (w : World) (X : Cx) (p : Pv) (i : Nat) (HA : Hid (At w X p i)) (hfew : X.rs.length ≤ 1024) (hi : i ≤ X.rs.length) (_hf : from_ ≤ X.rs.length) (HPk : PkIs c X p i) (hx : c = 116) :
    Calls Tryz.prog 144 #[.pointer (some ⟨X.b, 0, none⟩), .int .i64 from_] w (EscEnd w X p (.ok (SynP.one 9, 9, i + 1))) := by
  have HM := Lib.hid (Mv.rfl_ X.b w)
  have hc := HA.out.cell
  have hz := HA.out.frozen
  subst hx
  go_enter Tryz.func144, Tryz.ntmps144
  go_upto_region 3 with (go_at_call 100; refine (HPk.out _ HA.out).mono ?_; rintro e w1 ⟨rfl, hm1, ha1⟩; replace HM := Lib.hid (HM.out.step hm1); replace HA := Lib.hid ha1; clear hm1 ha1; replace hc := HA.out.cell; replace hz := HA.out.frozen)
  have hput := HA.out.put ((i : Int) + 1) (i + 1) (by omega) (by omega)
  have hmp := HM.out.step (mv_put w1 X (.int .i64 ((i : Int) + 1)))
  generalize w1.setCell ⟨X.b, 4, none⟩ (.int .i64 ((i : Int) + 1)) = W at hput hmp ⊢
  replace HA := Lib.hid hput
  replace HM := Lib.hid hmp
  clear hput hmp hc hz
  have hc := HA.out.cell
  have hz := HA.out.frozen
  have hp : perlT 116 = none := by decide
  have HP : Hid (∀ w, Calls Tryz.prog 176 #[.int .u8 116] w fun e w' => Below w.heap.size w w' ∧ e = .returned (.tuple #[.slice none 0 0, .bool false])) := Lib.hid fun w => by
    have := perl_all 116 (by omega) (by omega) w
    rw [hp] at this
    exact this
  clear hp
  have HI := Lib.hid (index_esc 116 1 (by decide))
  have hw : wrap64 ((((ByteArray.mk #[10, 9, 13, 12, 11])[1]'(by decide)).toNat : Nat) : Int) = 9 := by decide +kernel
  go_wp2_with (first | (go_at_call 176; refine (HP.out _).mono ?_; rintro e w1 ⟨hb1, rfl⟩; replace HM := Lib.hid (HM.out.below hb1); replace HA := Lib.hid (HA.out.below hb1); clear hb1; replace hc := HA.out.cell; replace hz := HA.out.frozen) | (go_at_call 177; refine (HI.out _).mono ?_; rintro e w1 ⟨rfl, rfl⟩) | (go_at_call 140; refine (one_any _ _).mono ?_; rintro e w1 ⟨v, rfl, hv, hb1⟩; have HV := Lib.hid hv; replace HM := Lib.hid (HM.out.below hb1); replace HA := Lib.hid (HA.out.below hb1); clear hv hb1; replace hc := HA.out.cell; replace hz := HA.out.frozen))
  go_ret2
  exact ⟨v, rfl, HM.out, HA.out, HV.out⟩

set_option maxRecDepth 100000 in
set_option maxHeartbeats 1600000 in
theorem esc_114 (c : Int) (from_ : Nat) (w : World) (X : Cx) (p : Pv) (i : Nat) (HA : Hid (At w X p i)) (hfew : X.rs.length ≤ 1024) (hi : i ≤ X.rs.length) (_hf : from_ ≤ X.rs.length) (HPk : PkIs c X p i) (hx : c = 114) :
    Calls Tryz.prog 144 #[.pointer (some ⟨X.b, 0, none⟩), .int .i64 from_] w (EscEnd w X p (.ok (SynP.one 13, 13, i + 1))) := by
  have HM := Lib.hid (Mv.rfl_ X.b w)
  have hc := HA.out.cell
  have hz := HA.out.frozen
  subst hx
  go_enter Tryz.func144, Tryz.ntmps144
  go_upto_region 3 with (go_at_call 100; refine (HPk.out _ HA.out).mono ?_; rintro e w1 ⟨rfl, hm1, ha1⟩; replace HM := Lib.hid (HM.out.step hm1); replace HA := Lib.hid ha1; clear hm1 ha1; replace hc := HA.out.cell; replace hz := HA.out.frozen)
  have hput := HA.out.put ((i : Int) + 1) (i + 1) (by omega) (by omega)
  have hmp := HM.out.step (mv_put w1 X (.int .i64 ((i : Int) + 1)))
  generalize w1.setCell ⟨X.b, 4, none⟩ (.int .i64 ((i : Int) + 1)) = W at hput hmp ⊢
  replace HA := Lib.hid hput
  replace HM := Lib.hid hmp
  clear hput hmp hc hz
  have hc := HA.out.cell
  have hz := HA.out.frozen
  have hp : perlT 114 = none := by decide
  have HP : Hid (∀ w, Calls Tryz.prog 176 #[.int .u8 114] w fun e w' => Below w.heap.size w w' ∧ e = .returned (.tuple #[.slice none 0 0, .bool false])) := Lib.hid fun w => by
    have := perl_all 114 (by omega) (by omega) w
    rw [hp] at this
    exact this
  clear hp
  have HI := Lib.hid (index_esc 114 2 (by decide))
  have hw : wrap64 ((((ByteArray.mk #[10, 9, 13, 12, 11])[2]'(by decide)).toNat : Nat) : Int) = 13 := by decide +kernel
  go_wp2_with (first | (go_at_call 176; refine (HP.out _).mono ?_; rintro e w1 ⟨hb1, rfl⟩; replace HM := Lib.hid (HM.out.below hb1); replace HA := Lib.hid (HA.out.below hb1); clear hb1; replace hc := HA.out.cell; replace hz := HA.out.frozen) | (go_at_call 177; refine (HI.out _).mono ?_; rintro e w1 ⟨rfl, rfl⟩) | (go_at_call 140; refine (one_any _ _).mono ?_; rintro e w1 ⟨v, rfl, hv, hb1⟩; have HV := Lib.hid hv; replace HM := Lib.hid (HM.out.below hb1); replace HA := Lib.hid (HA.out.below hb1); clear hv hb1; replace hc := HA.out.cell; replace hz := HA.out.frozen))
  go_ret2
  exact ⟨v, rfl, HM.out, HA.out, HV.out⟩

set_option maxRecDepth 100000 in
set_option maxHeartbeats 1600000 in
theorem esc_102 (c : Int) (from_ : Nat) (w : World) (X : Cx) (p : Pv) (i : Nat) (HA : Hid (At w X p i)) (hfew : X.rs.length ≤ 1024) (hi : i ≤ X.rs.length) (_hf : from_ ≤ X.rs.length) (HPk : PkIs c X p i) (hx : c = 102) :
    Calls Tryz.prog 144 #[.pointer (some ⟨X.b, 0, none⟩), .int .i64 from_] w (EscEnd w X p (.ok (SynP.one 12, 12, i + 1))) := by
  have HM := Lib.hid (Mv.rfl_ X.b w)
  have hc := HA.out.cell
  have hz := HA.out.frozen
  subst hx
  go_enter Tryz.func144, Tryz.ntmps144
  go_upto_region 3 with (go_at_call 100; refine (HPk.out _ HA.out).mono ?_; rintro e w1 ⟨rfl, hm1, ha1⟩; replace HM := Lib.hid (HM.out.step hm1); replace HA := Lib.hid ha1; clear hm1 ha1; replace hc := HA.out.cell; replace hz := HA.out.frozen)
  have hput := HA.out.put ((i : Int) + 1) (i + 1) (by omega) (by omega)
  have hmp := HM.out.step (mv_put w1 X (.int .i64 ((i : Int) + 1)))
  generalize w1.setCell ⟨X.b, 4, none⟩ (.int .i64 ((i : Int) + 1)) = W at hput hmp ⊢
  replace HA := Lib.hid hput
  replace HM := Lib.hid hmp
  clear hput hmp hc hz
  have hc := HA.out.cell
  have hz := HA.out.frozen
  have hp : perlT 102 = none := by decide
  have HP : Hid (∀ w, Calls Tryz.prog 176 #[.int .u8 102] w fun e w' => Below w.heap.size w w' ∧ e = .returned (.tuple #[.slice none 0 0, .bool false])) := Lib.hid fun w => by
    have := perl_all 102 (by omega) (by omega) w
    rw [hp] at this
    exact this
  clear hp
  have HI := Lib.hid (index_esc 102 3 (by decide))
  have hw : wrap64 ((((ByteArray.mk #[10, 9, 13, 12, 11])[3]'(by decide)).toNat : Nat) : Int) = 12 := by decide +kernel
  go_wp2_with (first | (go_at_call 176; refine (HP.out _).mono ?_; rintro e w1 ⟨hb1, rfl⟩; replace HM := Lib.hid (HM.out.below hb1); replace HA := Lib.hid (HA.out.below hb1); clear hb1; replace hc := HA.out.cell; replace hz := HA.out.frozen) | (go_at_call 177; refine (HI.out _).mono ?_; rintro e w1 ⟨rfl, rfl⟩) | (go_at_call 140; refine (one_any _ _).mono ?_; rintro e w1 ⟨v, rfl, hv, hb1⟩; have HV := Lib.hid hv; replace HM := Lib.hid (HM.out.below hb1); replace HA := Lib.hid (HA.out.below hb1); clear hv hb1; replace hc := HA.out.cell; replace hz := HA.out.frozen))
  go_ret2
  exact ⟨v, rfl, HM.out, HA.out, HV.out⟩

set_option maxRecDepth 100000 in
set_option maxHeartbeats 1600000 in
theorem esc_118 (c : Int) (from_ : Nat) (w : World) (X : Cx) (p : Pv) (i : Nat) (HA : Hid (At w X p i)) (hfew : X.rs.length ≤ 1024) (hi : i ≤ X.rs.length) (_hf : from_ ≤ X.rs.length) (HPk : PkIs c X p i) (hx : c = 118) :
    Calls Tryz.prog 144 #[.pointer (some ⟨X.b, 0, none⟩), .int .i64 from_] w (EscEnd w X p (.ok (SynP.one 11, 11, i + 1))) := by
  have HM := Lib.hid (Mv.rfl_ X.b w)
  have hc := HA.out.cell
  have hz := HA.out.frozen
  subst hx
  go_enter Tryz.func144, Tryz.ntmps144
  go_upto_region 3 with (go_at_call 100; refine (HPk.out _ HA.out).mono ?_; rintro e w1 ⟨rfl, hm1, ha1⟩; replace HM := Lib.hid (HM.out.step hm1); replace HA := Lib.hid ha1; clear hm1 ha1; replace hc := HA.out.cell; replace hz := HA.out.frozen)
  have hput := HA.out.put ((i : Int) + 1) (i + 1) (by omega) (by omega)
  have hmp := HM.out.step (mv_put w1 X (.int .i64 ((i : Int) + 1)))
  generalize w1.setCell ⟨X.b, 4, none⟩ (.int .i64 ((i : Int) + 1)) = W at hput hmp ⊢
  replace HA := Lib.hid hput
  replace HM := Lib.hid hmp
  clear hput hmp hc hz
  have hc := HA.out.cell
  have hz := HA.out.frozen
  have hp : perlT 118 = none := by decide
  have HP : Hid (∀ w, Calls Tryz.prog 176 #[.int .u8 118] w fun e w' => Below w.heap.size w w' ∧ e = .returned (.tuple #[.slice none 0 0, .bool false])) := Lib.hid fun w => by
    have := perl_all 118 (by omega) (by omega) w
    rw [hp] at this
    exact this
  clear hp
  have HI := Lib.hid (index_esc 118 4 (by decide))
  have hw : wrap64 ((((ByteArray.mk #[10, 9, 13, 12, 11])[4]'(by decide)).toNat : Nat) : Int) = 11 := by decide +kernel
  go_wp2_with (first | (go_at_call 176; refine (HP.out _).mono ?_; rintro e w1 ⟨hb1, rfl⟩; replace HM := Lib.hid (HM.out.below hb1); replace HA := Lib.hid (HA.out.below hb1); clear hb1; replace hc := HA.out.cell; replace hz := HA.out.frozen) | (go_at_call 177; refine (HI.out _).mono ?_; rintro e w1 ⟨rfl, rfl⟩) | (go_at_call 140; refine (one_any _ _).mono ?_; rintro e w1 ⟨v, rfl, hv, hb1⟩; have HV := Lib.hid hv; replace HM := Lib.hid (HM.out.below hb1); replace HA := Lib.hid (HA.out.below hb1); clear hv hb1; replace hc := HA.out.cell; replace hz := HA.out.frozen))
  go_ret2
  exact ⟨v, rfl, HM.out, HA.out, HV.out⟩

set_option maxRecDepth 100000 in
set_option maxHeartbeats 1600000 in
theorem esc_digit (c : Int) (from_ : Nat) (w : World) (X : Cx) (p : Pv) (i : Nat) (HA : Hid (At w X p i)) (hfew : X.rs.length ≤ 1024) (hi : i ≤ X.rs.length) (hf : from_ ≤ X.rs.length) (HPk : PkIs c X p i) (_h1 : ¬ c < 33) (_h2 : ¬ 126 < c) (h3 : (c == 112) = false) (h4 : (c == 80) = false) (h5 : (c == 120) = false) (hp : perlT c = none) (_hq : c ≠ 110 ∧ c ≠ 116 ∧ c ≠ 114 ∧ c ≠ 102 ∧ c ≠ 118) (g1 : 48 ≤ c) (g2 : c ≤ 57) :
    Calls Tryz.prog 144 #[.pointer (some ⟨X.b, 0, none⟩), .int .i64 from_] w (EscEnd w X p (.bad 20 from_)) := by
  have HM := Lib.hid (Mv.rfl_ X.b w)
  have hc := HA.out.cell
  have hz := HA.out.frozen
  go_enter Tryz.func144, Tryz.ntmps144
  go_upto_region 3 with (go_at_call 100; refine (HPk.out _ HA.out).mono ?_; rintro e w1 ⟨rfl, hm1, ha1⟩; replace HM := Lib.hid (HM.out.step hm1); replace HA := Lib.hid ha1; clear hm1 ha1; replace hc := HA.out.cell; replace hz := HA.out.frozen)
  have hput := HA.out.put ((i : Int) + 1) (i + 1) (by omega) (by omega)
  have hmp := HM.out.step (mv_put w1 X (.int .i64 ((i : Int) + 1)))
  generalize w1.setCell ⟨X.b, 4, none⟩ (.int .i64 ((i : Int) + 1)) = W at hput hmp ⊢
  replace HA := Lib.hid hput
  replace HM := Lib.hid hmp
  clear hput hmp hc hz
  have hc := HA.out.cell
  have hz := HA.out.frozen
  have HP : Hid (∀ w, Calls Tryz.prog 176 #[.int .u8 c] w fun e w' => Below w.heap.size w w' ∧ e = .returned (.tuple #[.slice none 0 0, .bool false])) := Lib.hid fun w => by
    have := perl_all c (by omega) (by omega) w
    rw [hp] at this
    exact this
  have HI := Lib.hid (index_esc c (-1) (by
    have := idx_no ⟨c.toNat, by omega⟩ (by simp only; omega)
    exact this))
  clear hp
  go_wp2_with (first | (go_at_call 176; refine (HP.out _).mono ?_; rintro e w1 ⟨hb1, rfl⟩; replace HM := Lib.hid (HM.out.below hb1); replace HA := Lib.hid (HA.out.below hb1); clear hb1; replace hc := HA.out.cell; replace hz := HA.out.frozen) | (go_at_call 177; refine (HI.out _).mono ?_; rintro e w1 ⟨rfl, rfl⟩) | (go_at_call 101; refine (fail_any _ _ _ X p _ HA.out (by omega)).mono ?_; rintro e w1 ⟨hm1, he1⟩; unfold thrown at he1; subst he1; replace HM := Lib.hid (HM.out.step hm1); clear hm1))
  exact ⟨rfl, HM.out, rfl⟩

set_option maxRecDepth 100000 in
set_option maxHeartbeats 1600000 in
theorem esc_letter (c : Int) (from_ : Nat) (w : World) (X : Cx) (p : Pv) (i : Nat) (HA : Hid (At w X p i)) (hfew : X.rs.length ≤ 1024) (hi : i ≤ X.rs.length) (hf : from_ ≤ X.rs.length) (HPk : PkIs c X p i) (_h1 : ¬ c < 33) (h2 : ¬ 126 < c) (h3 : (c == 112) = false) (h4 : (c == 80) = false) (h5 : (c == 120) = false) (hp : perlT c = none) (hq : c ≠ 110 ∧ c ≠ 116 ∧ c ≠ 114 ∧ c ≠ 102 ∧ c ≠ 118) (g1 : 48 ≤ c) (g2 : ¬ c ≤ 57) (v : Int) (hv : bits BinOp.or IntKind.i64 c 32 = v) (g3 : 97 ≤ v) (g4 : v ≤ 122) :
    Calls Tryz.prog 144 #[.pointer (some ⟨X.b, 0, none⟩), .int .i64 from_] w (EscEnd w X p (.bad 20 from_)) := by
  have HM := Lib.hid (Mv.rfl_ X.b w)
  have hc := HA.out.cell
  have hz := HA.out.frozen
  go_enter Tryz.func144, Tryz.ntmps144
  go_upto_region 3 with (go_at_call 100; refine (HPk.out _ HA.out).mono ?_; rintro e w1 ⟨rfl, hm1, ha1⟩; replace HM := Lib.hid (HM.out.step hm1); replace HA := Lib.hid ha1; clear hm1 ha1; replace hc := HA.out.cell; replace hz := HA.out.frozen)
  have hput := HA.out.put ((i : Int) + 1) (i + 1) (by omega) (by omega)
  have hmp := HM.out.step (mv_put w1 X (.int .i64 ((i : Int) + 1)))
  generalize w1.setCell ⟨X.b, 4, none⟩ (.int .i64 ((i : Int) + 1)) = W at hput hmp ⊢
  replace HA := Lib.hid hput
  replace HM := Lib.hid hmp
  clear hput hmp hc hz
  have hc := HA.out.cell
  have hz := HA.out.frozen
  have HP : Hid (∀ w, Calls Tryz.prog 176 #[.int .u8 c] w fun e w' => Below w.heap.size w w' ∧ e = .returned (.tuple #[.slice none 0 0, .bool false])) := Lib.hid fun w => by
    have := perl_all c (by omega) (by omega) w
    rw [hp] at this
    exact this
  have HI := Lib.hid (index_esc c (-1) (by
    have := idx_no ⟨c.toNat, by omega⟩ (by simp only; omega)
    exact this))
  clear hp
  go_wp2_with (first | (go_at_call 176; refine (HP.out _).mono ?_; rintro e w1 ⟨hb1, rfl⟩; replace HM := Lib.hid (HM.out.below hb1); replace HA := Lib.hid (HA.out.below hb1); clear hb1; replace hc := HA.out.cell; replace hz := HA.out.frozen) | (go_at_call 177; refine (HI.out _).mono ?_; rintro e w1 ⟨rfl, rfl⟩) | (go_at_call 101; refine (fail_any _ _ _ X p _ HA.out (by omega)).mono ?_; rintro e w1 ⟨hm1, he1⟩; unfold thrown at he1; subst he1; replace HM := Lib.hid (HM.out.step hm1); clear hm1))
  exact ⟨rfl, HM.out, rfl⟩

set_option maxRecDepth 100000 in
set_option maxHeartbeats 1600000 in
theorem esc_sign_aa (c : Int) (from_ : Nat) (w : World) (X : Cx) (p : Pv) (i : Nat) (HA : Hid (At w X p i)) (hfew : X.rs.length ≤ 1024) (hi : i ≤ X.rs.length) (_hf : from_ ≤ X.rs.length) (HPk : PkIs c X p i) (h1 : ¬ c < 33) (h2 : ¬ 126 < c) (h3 : (c == 112) = false) (h4 : (c == 80) = false) (h5 : (c == 120) = false) (hp : perlT c = none) (_hq : c ≠ 110 ∧ c ≠ 116 ∧ c ≠ 114 ∧ c ≠ 102 ∧ c ≠ 118) (g1 : ¬ 48 ≤ c) (v : Int) (hv : bits BinOp.or IntKind.i64 c 32 = v) (g3 : ¬ 97 ≤ v) :
    Calls Tryz.prog 144 #[.pointer (some ⟨X.b, 0, none⟩), .int .i64 from_] w (EscEnd w X p (.ok (SynP.one c, c, i + 1))) := by
  have HM := Lib.hid (Mv.rfl_ X.b w)
  have hc := HA.out.cell
  have hz := HA.out.frozen
  go_enter Tryz.func144, Tryz.ntmps144
  go_upto_region 3 with (go_at_call 100; refine (HPk.out _ HA.out).mono ?_; rintro e w1 ⟨rfl, hm1, ha1⟩; replace HM := Lib.hid (HM.out.step hm1); replace HA := Lib.hid ha1; clear hm1 ha1; replace hc := HA.out.cell; replace hz := HA.out.frozen)
  have hput := HA.out.put ((i : Int) + 1) (i + 1) (by omega) (by omega)
  have hmp := HM.out.step (mv_put w1 X (.int .i64 ((i : Int) + 1)))
  generalize w1.setCell ⟨X.b, 4, none⟩ (.int .i64 ((i : Int) + 1)) = W at hput hmp ⊢
  replace HA := Lib.hid hput
  replace HM := Lib.hid hmp
  clear hput hmp hc hz
  have hc := HA.out.cell
  have hz := HA.out.frozen
  have HP : Hid (∀ w, Calls Tryz.prog 176 #[.int .u8 c] w fun e w' => Below w.heap.size w w' ∧ e = .returned (.tuple #[.slice none 0 0, .bool false])) := Lib.hid fun w => by
    have := perl_all c (by omega) (by omega) w
    rw [hp] at this
    exact this
  have HI := Lib.hid (index_esc c (-1) (by
    have := idx_no ⟨c.toNat, by omega⟩ (by simp only; omega)
    exact this))
  clear hp
  have e1 : decide (c < 33) = false := decide_eq_false (by omega)
  have e2 : decide (126 < c) = false := decide_eq_false (by omega)
  have d1 : decide (48 ≤ c) = false := decide_eq_false (by omega)
  have d2 : decide (97 ≤ v) = false := decide_eq_false (by omega)
  clear g1 g3
  go_wp2_with (first | (go_at_call 176; refine (HP.out _).mono ?_; rintro e w1 ⟨hb1, rfl⟩; replace HM := Lib.hid (HM.out.below hb1); replace HA := Lib.hid (HA.out.below hb1); clear hb1; replace hc := HA.out.cell; replace hz := HA.out.frozen) | (go_at_call 177; refine (HI.out _).mono ?_; rintro e w1 ⟨rfl, rfl⟩) | (go_at_call 140; refine (one_any _ _).mono ?_; rintro e w1 ⟨v, rfl, hv, hb1⟩; have HV := Lib.hid hv; replace HM := Lib.hid (HM.out.below hb1); replace HA := Lib.hid (HA.out.below hb1); clear hv hb1; replace hc := HA.out.cell; replace hz := HA.out.frozen))
  go_ret2
  exact ⟨_, rfl, HM.out, HA.out, HV.out⟩

set_option maxRecDepth 100000 in
set_option maxHeartbeats 1600000 in
theorem esc_sign_ab (c : Int) (from_ : Nat) (w : World) (X : Cx) (p : Pv) (i : Nat) (HA : Hid (At w X p i)) (hfew : X.rs.length ≤ 1024) (hi : i ≤ X.rs.length) (_hf : from_ ≤ X.rs.length) (HPk : PkIs c X p i) (h1 : ¬ c < 33) (h2 : ¬ 126 < c) (h3 : (c == 112) = false) (h4 : (c == 80) = false) (h5 : (c == 120) = false) (hp : perlT c = none) (_hq : c ≠ 110 ∧ c ≠ 116 ∧ c ≠ 114 ∧ c ≠ 102 ∧ c ≠ 118) (g1 : ¬ 48 ≤ c) (v : Int) (hv : bits BinOp.or IntKind.i64 c 32 = v) (g3 : 97 ≤ v) (g4 : ¬ v ≤ 122) :
    Calls Tryz.prog 144 #[.pointer (some ⟨X.b, 0, none⟩), .int .i64 from_] w (EscEnd w X p (.ok (SynP.one c, c, i + 1))) := by
  have HM := Lib.hid (Mv.rfl_ X.b w)
  have hc := HA.out.cell
  have hz := HA.out.frozen
  go_enter Tryz.func144, Tryz.ntmps144
  go_upto_region 3 with (go_at_call 100; refine (HPk.out _ HA.out).mono ?_; rintro e w1 ⟨rfl, hm1, ha1⟩; replace HM := Lib.hid (HM.out.step hm1); replace HA := Lib.hid ha1; clear hm1 ha1; replace hc := HA.out.cell; replace hz := HA.out.frozen)
  have hput := HA.out.put ((i : Int) + 1) (i + 1) (by omega) (by omega)
  have hmp := HM.out.step (mv_put w1 X (.int .i64 ((i : Int) + 1)))
  generalize w1.setCell ⟨X.b, 4, none⟩ (.int .i64 ((i : Int) + 1)) = W at hput hmp ⊢
  replace HA := Lib.hid hput
  replace HM := Lib.hid hmp
  clear hput hmp hc hz
  have hc := HA.out.cell
  have hz := HA.out.frozen
  have HP : Hid (∀ w, Calls Tryz.prog 176 #[.int .u8 c] w fun e w' => Below w.heap.size w w' ∧ e = .returned (.tuple #[.slice none 0 0, .bool false])) := Lib.hid fun w => by
    have := perl_all c (by omega) (by omega) w
    rw [hp] at this
    exact this
  have HI := Lib.hid (index_esc c (-1) (by
    have := idx_no ⟨c.toNat, by omega⟩ (by simp only; omega)
    exact this))
  clear hp
  have e1 : decide (c < 33) = false := decide_eq_false (by omega)
  have e2 : decide (126 < c) = false := decide_eq_false (by omega)
  have d1 : decide (48 ≤ c) = false := decide_eq_false (by omega)
  have d2 : decide (v ≤ 122) = false := decide_eq_false (by omega)
  clear g1 g4
  go_wp2_with (first | (go_at_call 176; refine (HP.out _).mono ?_; rintro e w1 ⟨hb1, rfl⟩; replace HM := Lib.hid (HM.out.below hb1); replace HA := Lib.hid (HA.out.below hb1); clear hb1; replace hc := HA.out.cell; replace hz := HA.out.frozen) | (go_at_call 177; refine (HI.out _).mono ?_; rintro e w1 ⟨rfl, rfl⟩) | (go_at_call 140; refine (one_any _ _).mono ?_; rintro e w1 ⟨v, rfl, hv, hb1⟩; have HV := Lib.hid hv; replace HM := Lib.hid (HM.out.below hb1); replace HA := Lib.hid (HA.out.below hb1); clear hv hb1; replace hc := HA.out.cell; replace hz := HA.out.frozen))
  go_ret2
  exact ⟨_, rfl, HM.out, HA.out, HV.out⟩

set_option maxRecDepth 100000 in
set_option maxHeartbeats 1600000 in
theorem esc_sign_ba (c : Int) (from_ : Nat) (w : World) (X : Cx) (p : Pv) (i : Nat) (HA : Hid (At w X p i)) (hfew : X.rs.length ≤ 1024) (hi : i ≤ X.rs.length) (_hf : from_ ≤ X.rs.length) (HPk : PkIs c X p i) (_h1 : ¬ c < 33) (h2 : ¬ 126 < c) (h3 : (c == 112) = false) (h4 : (c == 80) = false) (h5 : (c == 120) = false) (hp : perlT c = none) (hq : c ≠ 110 ∧ c ≠ 116 ∧ c ≠ 114 ∧ c ≠ 102 ∧ c ≠ 118) (g1 : 48 ≤ c) (g2 : ¬ c ≤ 57) (v : Int) (hv : bits BinOp.or IntKind.i64 c 32 = v) (g3 : ¬ 97 ≤ v) :
    Calls Tryz.prog 144 #[.pointer (some ⟨X.b, 0, none⟩), .int .i64 from_] w (EscEnd w X p (.ok (SynP.one c, c, i + 1))) := by
  have HM := Lib.hid (Mv.rfl_ X.b w)
  have hc := HA.out.cell
  have hz := HA.out.frozen
  go_enter Tryz.func144, Tryz.ntmps144
  go_upto_region 3 with (go_at_call 100; refine (HPk.out _ HA.out).mono ?_; rintro e w1 ⟨rfl, hm1, ha1⟩; replace HM := Lib.hid (HM.out.step hm1); replace HA := Lib.hid ha1; clear hm1 ha1; replace hc := HA.out.cell; replace hz := HA.out.frozen)
  have hput := HA.out.put ((i : Int) + 1) (i + 1) (by omega) (by omega)
  have hmp := HM.out.step (mv_put w1 X (.int .i64 ((i : Int) + 1)))
  generalize w1.setCell ⟨X.b, 4, none⟩ (.int .i64 ((i : Int) + 1)) = W at hput hmp ⊢
  replace HA := Lib.hid hput
  replace HM := Lib.hid hmp
  clear hput hmp hc hz
  have hc := HA.out.cell
  have hz := HA.out.frozen
  have HP : Hid (∀ w, Calls Tryz.prog 176 #[.int .u8 c] w fun e w' => Below w.heap.size w w' ∧ e = .returned (.tuple #[.slice none 0 0, .bool false])) := Lib.hid fun w => by
    have := perl_all c (by omega) (by omega) w
    rw [hp] at this
    exact this
  have HI := Lib.hid (index_esc c (-1) (by
    have := idx_no ⟨c.toNat, by omega⟩ (by simp only; omega)
    exact this))
  clear hp
  have e1 : decide (c < 33) = false := decide_eq_false (by omega)
  have e2 : decide (126 < c) = false := decide_eq_false (by omega)
  have d1 : decide (c ≤ 57) = false := decide_eq_false (by omega)
  have d2 : decide (97 ≤ v) = false := decide_eq_false (by omega)
  clear g2 g3
  go_wp2_with (first | (go_at_call 176; refine (HP.out _).mono ?_; rintro e w1 ⟨hb1, rfl⟩; replace HM := Lib.hid (HM.out.below hb1); replace HA := Lib.hid (HA.out.below hb1); clear hb1; replace hc := HA.out.cell; replace hz := HA.out.frozen) | (go_at_call 177; refine (HI.out _).mono ?_; rintro e w1 ⟨rfl, rfl⟩) | (go_at_call 140; refine (one_any _ _).mono ?_; rintro e w1 ⟨v, rfl, hv, hb1⟩; have HV := Lib.hid hv; replace HM := Lib.hid (HM.out.below hb1); replace HA := Lib.hid (HA.out.below hb1); clear hv hb1; replace hc := HA.out.cell; replace hz := HA.out.frozen))
  go_ret2
  exact ⟨_, rfl, HM.out, HA.out, HV.out⟩

set_option maxRecDepth 100000 in
set_option maxHeartbeats 1600000 in
theorem esc_sign_bb (c : Int) (from_ : Nat) (w : World) (X : Cx) (p : Pv) (i : Nat) (HA : Hid (At w X p i)) (hfew : X.rs.length ≤ 1024) (hi : i ≤ X.rs.length) (_hf : from_ ≤ X.rs.length) (HPk : PkIs c X p i) (_h1 : ¬ c < 33) (h2 : ¬ 126 < c) (h3 : (c == 112) = false) (h4 : (c == 80) = false) (h5 : (c == 120) = false) (hp : perlT c = none) (hq : c ≠ 110 ∧ c ≠ 116 ∧ c ≠ 114 ∧ c ≠ 102 ∧ c ≠ 118) (g1 : 48 ≤ c) (g2 : ¬ c ≤ 57) (v : Int) (hv : bits BinOp.or IntKind.i64 c 32 = v) (g3 : 97 ≤ v) (g4 : ¬ v ≤ 122) :
    Calls Tryz.prog 144 #[.pointer (some ⟨X.b, 0, none⟩), .int .i64 from_] w (EscEnd w X p (.ok (SynP.one c, c, i + 1))) := by
  have HM := Lib.hid (Mv.rfl_ X.b w)
  have hc := HA.out.cell
  have hz := HA.out.frozen
  go_enter Tryz.func144, Tryz.ntmps144
  go_upto_region 3 with (go_at_call 100; refine (HPk.out _ HA.out).mono ?_; rintro e w1 ⟨rfl, hm1, ha1⟩; replace HM := Lib.hid (HM.out.step hm1); replace HA := Lib.hid ha1; clear hm1 ha1; replace hc := HA.out.cell; replace hz := HA.out.frozen)
  have hput := HA.out.put ((i : Int) + 1) (i + 1) (by omega) (by omega)
  have hmp := HM.out.step (mv_put w1 X (.int .i64 ((i : Int) + 1)))
  generalize w1.setCell ⟨X.b, 4, none⟩ (.int .i64 ((i : Int) + 1)) = W at hput hmp ⊢
  replace HA := Lib.hid hput
  replace HM := Lib.hid hmp
  clear hput hmp hc hz
  have hc := HA.out.cell
  have hz := HA.out.frozen
  have HP : Hid (∀ w, Calls Tryz.prog 176 #[.int .u8 c] w fun e w' => Below w.heap.size w w' ∧ e = .returned (.tuple #[.slice none 0 0, .bool false])) := Lib.hid fun w => by
    have := perl_all c (by omega) (by omega) w
    rw [hp] at this
    exact this
  have HI := Lib.hid (index_esc c (-1) (by
    have := idx_no ⟨c.toNat, by omega⟩ (by simp only; omega)
    exact this))
  clear hp
  have e1 : decide (c < 33) = false := decide_eq_false (by omega)
  have e2 : decide (126 < c) = false := decide_eq_false (by omega)
  have d1 : decide (c ≤ 57) = false := decide_eq_false (by omega)
  have d2 : decide (v ≤ 122) = false := decide_eq_false (by omega)
  clear g2 g4
  go_wp2_with (first | (go_at_call 176; refine (HP.out _).mono ?_; rintro e w1 ⟨hb1, rfl⟩; replace HM := Lib.hid (HM.out.below hb1); replace HA := Lib.hid (HA.out.below hb1); clear hb1; replace hc := HA.out.cell; replace hz := HA.out.frozen) | (go_at_call 177; refine (HI.out _).mono ?_; rintro e w1 ⟨rfl, rfl⟩) | (go_at_call 140; refine (one_any _ _).mono ?_; rintro e w1 ⟨v, rfl, hv, hb1⟩; have HV := Lib.hid hv; replace HM := Lib.hid (HM.out.below hb1); replace HA := Lib.hid (HA.out.below hb1); clear hv hb1; replace hc := HA.out.cell; replace hz := HA.out.frozen))
  go_ret2
  exact ⟨_, rfl, HM.out, HA.out, HV.out⟩

theorem escape_any (from_ : Nat) (w : World) (X : Cx) (p : Pv) (i : Nat) (h : At w X p i) (hs : Scal X.rs) (hi : i ≤ X.rs.length) (hf : from_ ≤ X.rs.length) :
    Calls Tryz.prog 144 #[.pointer (some ⟨X.b, 0, none⟩), .int .i64 from_] w (EscEnd w X p (SynP.escape X.rs clsT perlT from_ i)) := by
  have HA := Lib.hid h
  have hfew := h.few
  have HPk := pkIs X p i
  unfold SynP.escape
  simp only []
  obtain ⟨c, hc⟩ : ∃ c, SynP.pk X.rs i = c := ⟨_, rfl⟩
  rw [hc] at HPk ⊢
  clear hc
  by_cases h1 : c < 33
  · rw [if_pos (.inl h1)]
    exact esc_low c from_ w X p i HA hfew hi hf HPk h1
  by_cases h2 : 126 < c
  · rw [if_pos (.inr h2)]
    exact esc_high c from_ w X p i HA hfew hi hf HPk h1 h2
  rw [if_neg (by omega)]
  by_cases h3 : c = 112
  · rw [if_pos (.inl h3)]
    cases hn : SynP.named X.rs clsT from_ (i + 1) with
    | bad ec k => exact esc_p_bad c from_ w X p i HA hfew hi hf HPk h3 ec k hn
    | ok x =>
      have := esc_p_ok c from_ w X p i HA hfew hi hf HPk h3 x.1 x.2 hn
      subst h3
      exact this
  by_cases h4 : c = 80
  · rw [if_pos (.inr h4)]
    cases hn : SynP.named X.rs clsT from_ (i + 1) with
    | bad ec k => exact esc_P_bad c from_ w X p i HA hfew hi hf HPk h4 ec k hn
    | ok x =>
      have := esc_P_ok c from_ w X p i HA hfew hi hf HPk h4 x.1 x.2 hn
      subst h4
      exact this
  rw [if_neg (by omega)]
  by_cases h5 : c = 120
  · rw [if_pos h5]
    cases hn : SynP.number X.rs from_ (i + 1) with
    | bad ec k => exact esc_x_bad c from_ w X p i HA hfew hi hf HPk h5 (Lib.hid hs) ec k hn
    | ok x => exact esc_x_ok c from_ w X p i HA hfew hi hf HPk h5 (Lib.hid hs) x.1 x.2 hn
  rw [if_neg h5]
  have k3 : (c == 112) = false := beq_eq_false_iff_ne.2 h3
  have k4 : (c == 80) = false := beq_eq_false_iff_ne.2 h4
  have k5 : (c == 120) = false := beq_eq_false_iff_ne.2 h5
  cases hp : perlT c with
  | some f => exact esc_perl c from_ w X p i HA hfew hi hf HPk h1 h2 k3 k4 k5 f hp
  | none =>
    simp only []
    unfold SynP.plainEsc
    by_cases a1 : c = 110
    · rw [if_pos a1]; exact esc_110 c from_ w X p i HA hfew hi hf HPk a1
    by_cases a2 : c = 116
    · rw [if_neg a1, if_pos a2]; exact esc_116 c from_ w X p i HA hfew hi hf HPk a2
    by_cases a3 : c = 114
    · rw [if_neg a1, if_neg a2, if_pos a3]; exact esc_114 c from_ w X p i HA hfew hi hf HPk a3
    by_cases a4 : c = 102
    · rw [if_neg a1, if_neg a2, if_neg a3, if_pos a4]; exact esc_102 c from_ w X p i HA hfew hi hf HPk a4
    by_cases a5 : c = 118
    · rw [if_neg a1, if_neg a2, if_neg a3, if_neg a4, if_pos a5]; exact esc_118 c from_ w X p i HA hfew hi hf HPk a5
    rw [if_neg a1, if_neg a2, if_neg a3, if_neg a4, if_neg a5]
    simp only []
    have hor := ors_is c (by omega) (by omega)
    obtain ⟨v, hv⟩ : ∃ v, bits BinOp.or IntKind.i64 c 32 = v := ⟨_, rfl⟩
    rw [hv] at hor
    by_cases b1 : 48 ≤ c ∧ c ≤ 57
    · rw [if_pos (.inl b1)]
      exact esc_digit c from_ w X p i HA hfew hi hf HPk h1 h2 k3 k4 k5 hp ⟨a1, a2, a3, a4, a5⟩ b1.1 b1.2
    by_cases b2 : 97 ≤ c ∧ c ≤ 122 ∨ 65 ≤ c ∧ c ≤ 90
    · rw [if_pos (.inr b2)]
      have := hor.2 b2
      exact esc_letter c from_ w X p i HA hfew hi hf HPk h1 h2 k3 k4 k5 hp ⟨a1, a2, a3, a4, a5⟩ (by omega) (by omega) v hv this.1 this.2
    rw [if_neg (by omega)]
    have b3 : ¬ (97 ≤ v ∧ v ≤ 122) := fun h => b2 (hor.1 h)
    by_cases b4 : 48 ≤ c
    · by_cases b5 : 97 ≤ v
      · exact esc_sign_bb c from_ w X p i HA hfew hi hf HPk h1 h2 k3 k4 k5 hp ⟨a1, a2, a3, a4, a5⟩ b4 (by omega) v hv b5 (by omega)
      · exact esc_sign_ba c from_ w X p i HA hfew hi hf HPk h1 h2 k3 k4 k5 hp ⟨a1, a2, a3, a4, a5⟩ b4 (by omega) v hv b5
    · by_cases b5 : 97 ≤ v
      · exact esc_sign_ab c from_ w X p i HA hfew hi hf HPk h1 h2 k3 k4 k5 hp ⟨a1, a2, a3, a4, a5⟩ b4 v hv b5 (by omega)
      · exact esc_sign_aa c from_ w X p i HA hfew hi hf HPk h1 h2 k3 k4 k5 hp ⟨a1, a2, a3, a4, a5⟩ b4 v hv b5

end Go.Proofs.YtblkejnckbeieaaGreatDoor
