/- Chapter 10: the parser of patterns: names and flags over the parser's state.
  Chapter 10: the parser of patterns: brackets that are refused, and flags alone. -/
import Derived.Test.YtblkejnckbeieaaGreatDoorZk14
import Derived.Test.YtblkejnckbeieaaGreatDoorZk15
namespace Go.Proofs.YtblkejnckbeieaaGreatDoor
open Go.RowKit SetPure

section
variable {w w' : World} {X : Cx} {p : Pv} {s : SynP.St}
theorem PS.name_ (h : PS w X p s) (from_ : Nat) (hf : from_ ≤ X.rs.length) :
    Calls Tryz.prog 169 #[.pointer (some ⟨X.b, 0, none⟩), .int .i64 from_] w fun e w' => REnd w X p (fun x => .string (str x.1)) (fun x => x.2) (SynP.name X.rs s.names from_ s.at_) e w' := by
  obtain ⟨An, cn, hnm, _, _⟩ := h.nms.form
  have hfew := h.at_.few
  have hle := h.at_.le
  have hnl := h.nml
  rw [List.length_map] at hnm
  refine name_any from_ w X p s.at_ s.names An cn h.at_ hf hnm (by omega) fun w' k => ?_
  have h2 := h.nms.mvT h.at_ k (by decide)
  rw [hnm, show s.names.length = (s.names.map str).length by rw [List.length_map]] at h2
  exact OwnB.seq h2
theorem PS.flags_ (h : PS w X p s) (from_ : Nat) (hf : from_ ≤ X.rs.length) (hs : Scal X.rs) (hi : s.at_ ≤ X.rs.length) :
    Calls Tryz.prog 171 #[.pointer (some ⟨X.b, 0, none⟩), .int .i64 from_] w (FlagsEnd w X p (SynP.flags X.rs from_ (X.rs.length + 1) true false s.fl [] [] s.at_)) := by
  have := flags_any from_ w X p s.at_ h.at_ hs hf hi
  rw [h.fl] at this
  exact this
theorem PS.flagged (h : PS w X p s) (k : Mv X.b w w') {f : SynP.Fl} {j : Nat} (ha : At w' X { p with f := f } j) (hj : s.at_ ≤ j) : PS w' X { p with f := f } { s with at_ := j, fl := f } :=
  ⟨ha, rfl, h.opn.mvT h.at_ k (by decide), h.nms.mvT h.at_ k (by decide), h.opl, h.opk, by have := h.nml; show s.names.length ≤ j + 1; omega⟩
end

end Go.Proofs.YtblkejnckbeieaaGreatDoor

namespace Go.Proofs.YtblkejnckbeieaaGreatDoor
open Go.RowKit SetPure

set_option maxRecDepth 100000 in
set_option maxHeartbeats 6400000 in
theorem brk_full (s : SynP.St) (w : World) (X : Cx) (p : Pv) (_hsc : Hid (Scal X.rs)) (hps : PS w X p { s with at_ := s.at_ + 1 }) (hat : s.at_ < X.rs.length) (_hn : s.names.length ≤ s.at_ + 1) (h32 : 32 ≤ s.opn.length) :
    Calls Tryz.prog 139 #[.pointer (some ⟨X.b, 0, none⟩), .int .i64 s.at_] w (AtomEnd w X (.bad 21 s.at_)) := by
  have hfew := hps.at_.few
  obtain ⟨V, hV⟩ : ∃ V, w.heap.size = V := ⟨_, rfl⟩
  have HVe := Lib.hid hV
  have HS := Lib.hid (BrkS.start hps hV)
  have hc := hps.at_.cell
  have hopf := hps.opn.form
  obtain ⟨Ao, co, hop, _, _⟩ := hopf
  rw [List.length_map] at hop
  rw [hop] at hc
  have HPf := Lib.hid hps.fl
  clear hV
  have HP0 := Lib.hid hps
  clear hps
  have h33 : (32 : Int) ≤ (s.opn.length : Int) := by omega
  have hlo := HP0.out.lo
  go_enter Tryz.func139, Tryz.ntmps139
  go_upto_region 1 with fail
  have ha := HP0.out.below ((Below.refl _ w).alloc (Nat.le_refl _) (.cells zeroA 29))
  have hpm := Pm.below hlo ((Below.refl _ w).alloc (Nat.le_refl _) (.cells zeroA 29))
  unfold zeroA at ha hpm
  generalize w.alloc (.cells #[.int .i64 0, .slice none 0 0, .bool false, .int .i64 0, .int .i64 0, .bool false, .int .i64 0, .string ⟨#[]⟩, .slice none 0 0] 29) = W at ha hpm ⊢
  have hc := ha.at_.cell
  rw [hop] at hc
  go_wp2_with (go_at_call 101; refine (fail_any _ s.at_ _ X p _ ha.at_ (by omega)).mono ?_; rintro e w1 ⟨hm1, he1⟩; unfold thrown at he1; subst he1; have HP := Lib.hid (hpm.step (Pm.mv ha.at_ hm1)); clear hm1)
  exact ⟨rfl, HP.out, rfl⟩

set_option maxRecDepth 100000 in
set_option maxHeartbeats 6400000 in
theorem brk_name_bad (s : SynP.St) (w : World) (X : Cx) (p : Pv) (_hsc : Hid (Scal X.rs)) (hps : PS w X p { s with at_ := s.at_ + 1 }) (_hat : s.at_ < X.rs.length) (_hn : s.names.length ≤ s.at_ + 1) (h32 : ¬ 32 ≤ s.opn.length) (h63 : SynP.pk X.rs (s.at_ + 1) = 63) (h80 : SynP.pk X.rs (s.at_ + 1 + 1) = 80) (ec : Int) (kk : Nat) (hnm : SynP.name X.rs s.names s.at_ (s.at_ + 1 + 2) = .bad ec kk) :
    Calls Tryz.prog 139 #[.pointer (some ⟨X.b, 0, none⟩), .int .i64 s.at_] w (AtomEnd w X (.bad ec kk)) := by
  have hfew := hps.at_.few
  obtain ⟨V, hV⟩ : ∃ V, w.heap.size = V := ⟨_, rfl⟩
  have HVe := Lib.hid hV
  have HS := Lib.hid (BrkS.start hps hV)
  have hc := hps.at_.cell
  have hopf := hps.opn.form
  obtain ⟨Ao, co, hop, _, _⟩ := hopf
  rw [List.length_map] at hop
  rw [hop] at hc
  have HPf := Lib.hid hps.fl
  clear hV
  have hb63 := SynP.pk_lt0 (rs := X.rs) (i := s.at_ + 1) (by omega)
  have hb80 := SynP.pk_lt0 (rs := X.rs) (i := s.at_ + 1 + 1) (by omega)
  have hxb := hps.at_.lt
  clear hps
  have h33 : ¬ (32 : Int) ≤ (s.opn.length : Int) := by omega
  go_enter Tryz.func139, Tryz.ntmps139
  go_upto_region 6 with fail
  rw [HVe.out]
  simp only [zeroA, flA, leafN, RawN.cells] at HS
  generalize ((w.alloc (.cells #[.int .i64 0, .slice none 0 0, .bool false, .int .i64 0, .int .i64 0, .bool false, .int .i64 0, .string ⟨#[]⟩, .slice none 0 0] 29)).alloc (.cells #[.bool p.f.fold, .bool p.f.lines, .bool p.f.dot, .bool p.f.lazy] 39)).alloc (.cells #[.int .i64 11, .slice none 0 0, .bool false, .int .i64 0, .int .i64 0, .bool false, .int .i64 0, .string ⟨#[]⟩, .slice none 0 0] 29) = W0 at HS ⊢
  clear hc
  have hc := HS.out.ps.at_.cell
  have hz := HS.out.ps.at_.frozen
  have T0 : Hid True := Lib.hid trivial
  go_upto_region 7 with (go_at_call 66; clear T0; refine (has2_yes _ X p _ HS.out.ps.at_ (by omega) (by omega)).mono ?_; rintro e w1 ⟨rfl, hm1, ha1⟩; replace HS := Lib.hid (HS.out.mv hm1 ha1 (by omega)); clear hm1 ha1; replace hc := HS.out.ps.at_.cell; replace hz := HS.out.ps.at_.frozen)
  have HN := Lib.hid (HS.out.ps.name_ s.at_ (by omega))
  simp only [hnm] at HN
  go_wp2_with (go_at_call 169; refine HN.out.mono ?_; rintro e w2 ⟨hm2, he2⟩; unfold thrown at he2; subst he2; have HP := Lib.hid (HS.out.pm.step (Pm.mv HS.out.ps.at_ hm2)); clear hm2)
  exact ⟨rfl, HP.out, rfl⟩

set_option maxRecDepth 100000 in
set_option maxHeartbeats 6400000 in
theorem brk_flags_bad (s : SynP.St) (w : World) (X : Cx) (p : Pv) (hsc : Hid (Scal X.rs)) (hps : PS w X p { s with at_ := s.at_ + 1 }) (_hat : s.at_ < X.rs.length) (_hn : s.names.length ≤ s.at_ + 1) (h32 : ¬ 32 ≤ s.opn.length) (h63 : SynP.pk X.rs (s.at_ + 1) = 63) (h80 : SynP.pk X.rs (s.at_ + 1 + 1) ≠ 80) (ec : Int) (kk : Nat) (hfl : SynP.flags X.rs s.at_ (X.rs.length + 1) true false s.fl [] [] (s.at_ + 1 + 1) = .bad ec kk) :
    Calls Tryz.prog 139 #[.pointer (some ⟨X.b, 0, none⟩), .int .i64 s.at_] w (AtomEnd w X (.bad ec kk)) := by
  have hfew := hps.at_.few
  obtain ⟨V, hV⟩ : ∃ V, w.heap.size = V := ⟨_, rfl⟩
  have HVe := Lib.hid hV
  have HS := Lib.hid (BrkS.start hps hV)
  have hc := hps.at_.cell
  have hopf := hps.opn.form
  obtain ⟨Ao, co, hop, _, _⟩ := hopf
  rw [List.length_map] at hop
  rw [hop] at hc
  have HPf := Lib.hid hps.fl
  clear hV
  have hb63 := SynP.pk_lt0 (rs := X.rs) (i := s.at_ + 1) (by omega)
  have hxb := hps.at_.lt
  clear hps
  have h33 : ¬ (32 : Int) ≤ (s.opn.length : Int) := by omega
  go_enter Tryz.func139, Tryz.ntmps139
  go_upto_region 6 with fail
  rw [HVe.out]
  simp only [zeroA, flA, leafN, RawN.cells] at HS
  generalize ((w.alloc (.cells #[.int .i64 0, .slice none 0 0, .bool false, .int .i64 0, .int .i64 0, .bool false, .int .i64 0, .string ⟨#[]⟩, .slice none 0 0] 29)).alloc (.cells #[.bool p.f.fold, .bool p.f.lines, .bool p.f.dot, .bool p.f.lazy] 39)).alloc (.cells #[.int .i64 11, .slice none 0 0, .bool false, .int .i64 0, .int .i64 0, .bool false, .int .i64 0, .string ⟨#[]⟩, .slice none 0 0] 29) = W0 at HS ⊢
  clear hc
  have hc := HS.out.ps.at_.cell
  have hz := HS.out.ps.at_.frozen
  have T0 : Hid True := Lib.hid trivial
  go_upto_region 11 with (first | (refine wpList_store_row rfl 29 (.tmp 7) (.tmp 41) rfl (V + 2) zeroA rfl rfl 29 (leafN 11).cells.toArray HS.out.nb sizeN rfl (cellsN_one zeroN) ?_) | (first | (go_at_call 66; clear T0; refine (has2_half _ X p _ HS.out.ps.at_ (by omega) (by omega)).mono ?_; rintro e w1 ⟨rfl, hm1, ha1⟩; replace HS := Lib.hid (HS.out.mv hm1 ha1 (by omega)); clear hm1 ha1; replace hc := HS.out.ps.at_.cell; replace hz := HS.out.ps.at_.frozen) | (go_at_call 66; refine (has_yes _ _ X p _ HS.out.ps.at_ (by simp only [UInt8.reduceToNat]; omega)).mono ?_; rintro e w1 ⟨rfl, hm1, ha1⟩; replace HS := Lib.hid (HS.out.mv hm1 ha1 (by omega)); clear hm1 ha1; replace hc := HS.out.ps.at_.cell; replace hz := HS.out.ps.at_.frozen)))
  have hwh := HS.out.whole zeroA
  rw [HPf.out] at hwh
  replace HS := Lib.hid hwh
  simp only [zeroA] at HS
  clear hwh hc hz
  generalize World.setRow _ (V + 2) #[.int .i64 0, .slice none 0 0, .bool false, .int .i64 0, .int .i64 0, .bool false, .int .i64 0, .string ⟨#[]⟩, .slice none 0 0] = W1 at HS ⊢
  have hc := HS.out.ps.at_.cell
  have hz := HS.out.ps.at_.frozen
  have HF := Lib.hid (HS.out.ps.flags_ s.at_ (by omega) hsc.out (by show s.at_ + 1 + 1 ≤ _; omega))
  simp only [hfl] at HF
  go_wp2_with (go_at_call 171; refine HF.out.mono ?_; rintro e w2 ⟨hm2, he2⟩; unfold thrown at he2; subst he2; have HP := Lib.hid (HS.out.pm.step (Pm.mv HS.out.ps.at_ hm2)); clear hm2)
  exact ⟨rfl, HP.out, rfl⟩

set_option maxRecDepth 100000 in
set_option maxHeartbeats 6400000 in
theorem brk_flags_no (s : SynP.St) (w : World) (X : Cx) (p : Pv) (hsc : Hid (Scal X.rs)) (hps : PS w X p { s with at_ := s.at_ + 1 }) (_hat : s.at_ < X.rs.length) (_hn : s.names.length ≤ s.at_ + 1) (h32 : ¬ 32 ≤ s.opn.length) (h63 : SynP.pk X.rs (s.at_ + 1) = 63) (h80 : SynP.pk X.rs (s.at_ + 1 + 1) ≠ 80) (f : SynP.Fl) (j : Nat) (hfl : SynP.flags X.rs s.at_ (X.rs.length + 1) true false s.fl [] [] (s.at_ + 1 + 1) = .ok (false, f, j)) (hj1 : s.at_ + 2 < j) :
    Calls Tryz.prog 139 #[.pointer (some ⟨X.b, 0, none⟩), .int .i64 s.at_] w (AtomEnd w X (.ok (none, { s with at_ := j, fl := f }))) := by
  have hfew := hps.at_.few
  obtain ⟨V, hV⟩ : ∃ V, w.heap.size = V := ⟨_, rfl⟩
  have HVe := Lib.hid hV
  have HS := Lib.hid (BrkS.start hps hV)
  have hc := hps.at_.cell
  have hopf := hps.opn.form
  obtain ⟨Ao, co, hop, _, _⟩ := hopf
  rw [List.length_map] at hop
  rw [hop] at hc
  have HPf := Lib.hid hps.fl
  clear hV
  have hb63 := SynP.pk_lt0 (rs := X.rs) (i := s.at_ + 1) (by omega)
  have hxb := hps.at_.lt
  clear hps
  have h33 : ¬ (32 : Int) ≤ (s.opn.length : Int) := by omega
  go_enter Tryz.func139, Tryz.ntmps139
  go_upto_region 6 with fail
  rw [HVe.out]
  simp only [zeroA, flA, leafN, RawN.cells] at HS
  generalize ((w.alloc (.cells #[.int .i64 0, .slice none 0 0, .bool false, .int .i64 0, .int .i64 0, .bool false, .int .i64 0, .string ⟨#[]⟩, .slice none 0 0] 29)).alloc (.cells #[.bool p.f.fold, .bool p.f.lines, .bool p.f.dot, .bool p.f.lazy] 39)).alloc (.cells #[.int .i64 11, .slice none 0 0, .bool false, .int .i64 0, .int .i64 0, .bool false, .int .i64 0, .string ⟨#[]⟩, .slice none 0 0] 29) = W0 at HS ⊢
  clear hc
  have hc := HS.out.ps.at_.cell
  have hz := HS.out.ps.at_.frozen
  have T0 : Hid True := Lib.hid trivial
  go_upto_region 11 with (first | (refine wpList_store_row rfl 29 (.tmp 7) (.tmp 41) rfl (V + 2) zeroA rfl rfl 29 (leafN 11).cells.toArray HS.out.nb sizeN rfl (cellsN_one zeroN) ?_) | (first | (go_at_call 66; clear T0; refine (has2_half _ X p _ HS.out.ps.at_ (by omega) (by omega)).mono ?_; rintro e w1 ⟨rfl, hm1, ha1⟩; replace HS := Lib.hid (HS.out.mv hm1 ha1 (by omega)); clear hm1 ha1; replace hc := HS.out.ps.at_.cell; replace hz := HS.out.ps.at_.frozen) | (go_at_call 66; refine (has_yes _ _ X p _ HS.out.ps.at_ (by simp only [UInt8.reduceToNat]; omega)).mono ?_; rintro e w1 ⟨rfl, hm1, ha1⟩; replace HS := Lib.hid (HS.out.mv hm1 ha1 (by omega)); clear hm1 ha1; replace hc := HS.out.ps.at_.cell; replace hz := HS.out.ps.at_.frozen)))
  have hwh := HS.out.whole zeroA
  rw [HPf.out] at hwh
  replace HS := Lib.hid hwh
  simp only [zeroA] at HS
  clear hwh hc hz
  generalize World.setRow _ (V + 2) #[.int .i64 0, .slice none 0 0, .bool false, .int .i64 0, .int .i64 0, .bool false, .int .i64 0, .string ⟨#[]⟩, .slice none 0 0] = W1 at HS ⊢
  have hc := HS.out.ps.at_.cell
  have hz := HS.out.ps.at_.frozen
  have HF := Lib.hid (HS.out.ps.flags_ s.at_ (by omega) hsc.out (by show s.at_ + 1 + 1 ≤ _; omega))
  simp only [hfl] at HF
  have hj2 : s.at_ + 1 + 1 ≤ j := by omega
  go_wp2_with (first | (refine wpList_store_row rfl 29 (.tmp 4) (.tmp 46) rfl V zeroA rfl rfl 29 zeroA HS.out.box sizeN rfl (cellsN_one zeroN) ?_) | (go_at_call 171; refine HF.out.mono ?_; rintro e w2 ⟨rfl, hm2, ha2⟩; have hs2 := HS.out.step (Pm.mv HS.out.ps.at_ hm2) (HS.out.ps.flagged hm2 ha2 hj2); replace HS := Lib.hid hs2; clear hm2 ha2 hs2))
  refine retN2 rfl zeroN false rfl rfl (setRow_heap _ _ _ _ _ _ HS.out.box) rfl ?_
  obtain ⟨e1, e2, _⟩ := HS.out.ret0 zeroN.cells.toArray
  exact ⟨zeroN, _, rfl, e1, e2, trivial⟩

end Go.Proofs.YtblkejnckbeieaaGreatDoor
