/- Chapter 10: the parser of patterns: an atom, by the contract of brackets. -/
import Derived.Test.YtblkejnckbeieaaGreatDoorZk10
namespace Go.Proofs.YtblkejnckbeieaaGreatDoor
open Go.RowKit SetPure

theorem retN2 {fn : Func} {Q : Ending → World → Prop} {p q : Tmp} (h : fn.results = #[.cell p 29, .tmp q]) {a : Act} {w : World} {g : Nat} {fz : Nat × Nat} (r : RawN) (b : Bool) (hp : a.tmps.getD p undef = .pointer (some ⟨g, 0, none⟩)) (hq : a.tmps.getD q undef = .bool b) (hg : w.heap[g]? = some (.cells r.cells.toArray 29 fz)) (hd : a.defers = [])
    (hQ : Q (.returned (.tuple #[.agg r.cells.toArray, .bool b])) w) : bodyPost Tryz.prog fn Q .ret a w := by
  refine bodyPost_ret (v := .tuple #[.agg r.cells.toArray, .bool b]) ?_ hd hQ
  have hp' : a.tmps[p]?.getD undef = .pointer (some ⟨g, 0, none⟩) := by simpa using hp
  have hq' : a.tmps[q]?.getD undef = .bool b := by simpa using hq
  simp [results, h, hp', hq', asAddr, run_loadVar_row w g _ 29 _ fz _ hg Tryz.underlying29 rfl sizeN]

/-- Brackets, behind their first sign. -/
def BrkC (n : Nat) : Prop := ∀ (s : SynP.St) (w : World) (X : Cx) (p : Pv), Scal X.rs → PS w X p { s with at_ := s.at_ + 1 } → s.at_ < X.rs.length → SynP.pk X.rs s.at_ = 40 → s.names.length ≤ s.at_ + 1 → 3 * (X.rs.length - s.at_) ≤ n →
  Calls Tryz.prog 139 #[.pointer (some ⟨X.b, 0, none⟩), .int .i64 s.at_] w (AtomEnd w X (goS X.rs n .atom s))
theorem less_new {w : World} {v u : Value} {f g : Int → Bool} (h : SetV w v f) (k : SetV w u g) : Calls Tryz.prog 27 #[v, u] w (NewSet w fun z => f z && !g z) := by
  refine (hold_less (h.hold.add (Below.refl _ w) k) (List.Mem.tail _ (List.Mem.head _)) (List.Mem.head _)).mono ?_
  rintro e w' ⟨x, rfl, hx⟩
  exact ⟨x, rfl, SetF.congr (hx.get (List.Mem.head _)) fun z => by cases inR z <;> simp, hx.1⟩
theorem goS_plain (rs : List Int) (n : Nat) (s : SynP.St) (h : SynP.pk rs s.at_ ≠ 40) : goS rs (n + 1) .atom s =
    (if SynP.pk rs s.at_ = 46 then .ok (some (.cls (fun z => s.fl.dot || decide (z ≠ 10)) s.fl.fold), { s with at_ := s.at_ + 1 })
    else if SynP.pk rs s.at_ = 94 then .ok (some (.leaf (if s.fl.lines then 4 else 2)), { s with at_ := s.at_ + 1 })
    else if SynP.pk rs s.at_ = 36 then .ok (some (.leaf (if s.fl.lines then 5 else 3)), { s with at_ := s.at_ + 1 })
    else if SynP.pk rs s.at_ = 91 then
      match SynP.list rs clsT perlT s.at_ (s.at_ + 1) with
      | .bad e k => .bad e k
      | .ok (f, j) => .ok (some (.cls f s.fl.fold), { s with at_ := j })
    else if SynP.pk rs s.at_ = 92 then
      match SynP.signs (SynP.pk rs (s.at_ + 1)) with
      | some k => .ok (some (.leaf k), { s with at_ := s.at_ + 2 })
      | none =>
        match SynP.escape rs clsT perlT s.at_ (s.at_ + 1) with
        | .bad e k => .bad e k
        | .ok (f, _, j) => .ok (some (.cls f s.fl.fold), { s with at_ := j })
    else .ok (some (.cls (SynP.one (SynP.pk rs s.at_)) s.fl.fold), { s with at_ := s.at_ + 1 })) := by
  unfold goS
  rw [SynP.go]
  simp only [h, if_false]
  rfl

set_option maxRecDepth 100000 in
set_option maxHeartbeats 3200000 in
theorem atom_begin_t (_n : Nat) (s : SynP.St) (w : World) (X : Cx) (p : Pv) (_hsc : Hid (Scal X.rs)) (hps : PS w X p s) (_hat : s.at_ < X.rs.length) (hcE : SynP.pk X.rs s.at_ = 94) (hln : p.f.lines = true) :
    Calls Tryz.prog 103 #[.pointer (some ⟨X.b, 0, none⟩)] w (AtomEnd w X (.ok (some (SynP.Nd.leaf 4), { s with at_ := s.at_ + 1 }))) := by
  have hfew := hps.at_.few
  obtain ⟨V, hV⟩ : ∃ V, w.heap.size = V := ⟨_, rfl⟩
  have HVe := Lib.hid hV
  have HK := Lib.hid (NdS.start hps hV)
  have HPf := Lib.hid hps.fl
  have HPr := Lib.hid hps.at_.ru
  clear hV hps
  unfold zeroA at HK
  go_enter Tryz.func103, Tryz.ntmps103
  go_upto_region 1 with fail
  rw [HVe.out]
  generalize w.alloc (.cells #[.int .i64 0, .slice none 0 0, .bool false, .int .i64 0, .int .i64 0, .bool false, .int .i64 0, .string ⟨#[]⟩, .slice none 0 0] 29) = W0 at HK ⊢
  have hc := HK.out.ps.at_.cell
  have hz := HK.out.ps.at_.frozen
  rw [hln] at hc
  go_upto_region 10 with (go_at_call 66; (first | refine (has_no _ _ X p _ HK.out.ps.at_ (by simp only [UInt8.reduceToNat]; omega)).mono ?_ | refine (has_yes _ _ X p _ HK.out.ps.at_ (by simp only [UInt8.reduceToNat]; omega)).mono ?_); rintro e w1 ⟨rfl, hm1, ha1⟩; replace HK := Lib.hid (HK.out.mv hm1 ha1 (by first | exact Nat.le_refl _ | exact Nat.le_succ _)); clear hm1 ha1; replace hc := HK.out.ps.at_.cell; replace hz := HK.out.ps.at_.frozen)
  rw [hln] at hc
  go_wp2_with (first | (go_at_call 142; refine (pick_t _ _ _).mono ?_; rintro e w1 ⟨rfl, rfl⟩) | (refine wpList_store_row rfl 29 (.tmp 2) (.tmp 49) rfl V (leafN 4).cells.toArray rfl rfl 29 zeroA (HK.out).box sizeN rfl (cellsN_one _) ?_))
  refine retN2 rfl (leafN 4) true rfl rfl (setRow_heap _ _ _ _ _ _ (HK.out.below (Below.refl _ _)).box) rfl ?_
  obtain ⟨e1, e2, e3⟩ := HK.out.ret (nd := _) (r := (leafN 4)) (Below.refl _ _) (Lies.leaf _ _ 4)
  exact ⟨(leafN 4), p, rfl, e1, e2, e3⟩

set_option maxRecDepth 100000 in
set_option maxHeartbeats 3200000 in
theorem atom_begin_f (_n : Nat) (s : SynP.St) (w : World) (X : Cx) (p : Pv) (_hsc : Hid (Scal X.rs)) (hps : PS w X p s) (_hat : s.at_ < X.rs.length) (hcE : SynP.pk X.rs s.at_ = 94) (hln : p.f.lines = false) :
    Calls Tryz.prog 103 #[.pointer (some ⟨X.b, 0, none⟩)] w (AtomEnd w X (.ok (some (SynP.Nd.leaf 2), { s with at_ := s.at_ + 1 }))) := by
  have hfew := hps.at_.few
  obtain ⟨V, hV⟩ : ∃ V, w.heap.size = V := ⟨_, rfl⟩
  have HVe := Lib.hid hV
  have HK := Lib.hid (NdS.start hps hV)
  have HPf := Lib.hid hps.fl
  have HPr := Lib.hid hps.at_.ru
  clear hV hps
  unfold zeroA at HK
  go_enter Tryz.func103, Tryz.ntmps103
  go_upto_region 1 with fail
  rw [HVe.out]
  generalize w.alloc (.cells #[.int .i64 0, .slice none 0 0, .bool false, .int .i64 0, .int .i64 0, .bool false, .int .i64 0, .string ⟨#[]⟩, .slice none 0 0] 29) = W0 at HK ⊢
  have hc := HK.out.ps.at_.cell
  have hz := HK.out.ps.at_.frozen
  rw [hln] at hc
  go_upto_region 10 with (go_at_call 66; (first | refine (has_no _ _ X p _ HK.out.ps.at_ (by simp only [UInt8.reduceToNat]; omega)).mono ?_ | refine (has_yes _ _ X p _ HK.out.ps.at_ (by simp only [UInt8.reduceToNat]; omega)).mono ?_); rintro e w1 ⟨rfl, hm1, ha1⟩; replace HK := Lib.hid (HK.out.mv hm1 ha1 (by first | exact Nat.le_refl _ | exact Nat.le_succ _)); clear hm1 ha1; replace hc := HK.out.ps.at_.cell; replace hz := HK.out.ps.at_.frozen)
  rw [hln] at hc
  go_wp2_with (first | (go_at_call 142; refine (pick_f _ _ _).mono ?_; rintro e w1 ⟨rfl, rfl⟩) | (refine wpList_store_row rfl 29 (.tmp 2) (.tmp 49) rfl V (leafN 2).cells.toArray rfl rfl 29 zeroA (HK.out).box sizeN rfl (cellsN_one _) ?_))
  refine retN2 rfl (leafN 2) true rfl rfl (setRow_heap _ _ _ _ _ _ (HK.out.below (Below.refl _ _)).box) rfl ?_
  obtain ⟨e1, e2, e3⟩ := HK.out.ret (nd := _) (r := (leafN 2)) (Below.refl _ _) (Lies.leaf _ _ 2)
  exact ⟨(leafN 2), p, rfl, e1, e2, e3⟩

set_option maxRecDepth 100000 in
set_option maxHeartbeats 3200000 in
theorem atom_end_t (_n : Nat) (s : SynP.St) (w : World) (X : Cx) (p : Pv) (_hsc : Hid (Scal X.rs)) (hps : PS w X p s) (_hat : s.at_ < X.rs.length) (hcE : SynP.pk X.rs s.at_ = 36) (hln : p.f.lines = true) :
    Calls Tryz.prog 103 #[.pointer (some ⟨X.b, 0, none⟩)] w (AtomEnd w X (.ok (some (SynP.Nd.leaf 5), { s with at_ := s.at_ + 1 }))) := by
  have hfew := hps.at_.few
  obtain ⟨V, hV⟩ : ∃ V, w.heap.size = V := ⟨_, rfl⟩
  have HVe := Lib.hid hV
  have HK := Lib.hid (NdS.start hps hV)
  have HPf := Lib.hid hps.fl
  have HPr := Lib.hid hps.at_.ru
  clear hV hps
  unfold zeroA at HK
  go_enter Tryz.func103, Tryz.ntmps103
  go_upto_region 1 with fail
  rw [HVe.out]
  generalize w.alloc (.cells #[.int .i64 0, .slice none 0 0, .bool false, .int .i64 0, .int .i64 0, .bool false, .int .i64 0, .string ⟨#[]⟩, .slice none 0 0] 29) = W0 at HK ⊢
  have hc := HK.out.ps.at_.cell
  have hz := HK.out.ps.at_.frozen
  rw [hln] at hc
  go_upto_region 12 with (go_at_call 66; (first | refine (has_no _ _ X p _ HK.out.ps.at_ (by simp only [UInt8.reduceToNat]; omega)).mono ?_ | refine (has_yes _ _ X p _ HK.out.ps.at_ (by simp only [UInt8.reduceToNat]; omega)).mono ?_); rintro e w1 ⟨rfl, hm1, ha1⟩; replace HK := Lib.hid (HK.out.mv hm1 ha1 (by first | exact Nat.le_refl _ | exact Nat.le_succ _)); clear hm1 ha1; replace hc := HK.out.ps.at_.cell; replace hz := HK.out.ps.at_.frozen)
  rw [hln] at hc
  go_wp2_with (first | (go_at_call 142; refine (pick_t _ _ _).mono ?_; rintro e w1 ⟨rfl, rfl⟩) | (refine wpList_store_row rfl 29 (.tmp 2) (.tmp 59) rfl V (leafN 5).cells.toArray rfl rfl 29 zeroA (HK.out).box sizeN rfl (cellsN_one _) ?_))
  refine retN2 rfl (leafN 5) true rfl rfl (setRow_heap _ _ _ _ _ _ (HK.out.below (Below.refl _ _)).box) rfl ?_
  obtain ⟨e1, e2, e3⟩ := HK.out.ret (nd := _) (r := (leafN 5)) (Below.refl _ _) (Lies.leaf _ _ 5)
  exact ⟨(leafN 5), p, rfl, e1, e2, e3⟩

set_option maxRecDepth 100000 in
set_option maxHeartbeats 3200000 in
theorem atom_end_f (_n : Nat) (s : SynP.St) (w : World) (X : Cx) (p : Pv) (_hsc : Hid (Scal X.rs)) (hps : PS w X p s) (_hat : s.at_ < X.rs.length) (hcE : SynP.pk X.rs s.at_ = 36) (hln : p.f.lines = false) :
    Calls Tryz.prog 103 #[.pointer (some ⟨X.b, 0, none⟩)] w (AtomEnd w X (.ok (some (SynP.Nd.leaf 3), { s with at_ := s.at_ + 1 }))) := by
  have hfew := hps.at_.few
  obtain ⟨V, hV⟩ : ∃ V, w.heap.size = V := ⟨_, rfl⟩
  have HVe := Lib.hid hV
  have HK := Lib.hid (NdS.start hps hV)
  have HPf := Lib.hid hps.fl
  have HPr := Lib.hid hps.at_.ru
  clear hV hps
  unfold zeroA at HK
  go_enter Tryz.func103, Tryz.ntmps103
  go_upto_region 1 with fail
  rw [HVe.out]
  generalize w.alloc (.cells #[.int .i64 0, .slice none 0 0, .bool false, .int .i64 0, .int .i64 0, .bool false, .int .i64 0, .string ⟨#[]⟩, .slice none 0 0] 29) = W0 at HK ⊢
  have hc := HK.out.ps.at_.cell
  have hz := HK.out.ps.at_.frozen
  rw [hln] at hc
  go_upto_region 12 with (go_at_call 66; (first | refine (has_no _ _ X p _ HK.out.ps.at_ (by simp only [UInt8.reduceToNat]; omega)).mono ?_ | refine (has_yes _ _ X p _ HK.out.ps.at_ (by simp only [UInt8.reduceToNat]; omega)).mono ?_); rintro e w1 ⟨rfl, hm1, ha1⟩; replace HK := Lib.hid (HK.out.mv hm1 ha1 (by first | exact Nat.le_refl _ | exact Nat.le_succ _)); clear hm1 ha1; replace hc := HK.out.ps.at_.cell; replace hz := HK.out.ps.at_.frozen)
  rw [hln] at hc
  go_wp2_with (first | (go_at_call 142; refine (pick_f _ _ _).mono ?_; rintro e w1 ⟨rfl, rfl⟩) | (refine wpList_store_row rfl 29 (.tmp 2) (.tmp 59) rfl V (leafN 3).cells.toArray rfl rfl 29 zeroA (HK.out).box sizeN rfl (cellsN_one _) ?_))
  refine retN2 rfl (leafN 3) true rfl rfl (setRow_heap _ _ _ _ _ _ (HK.out.below (Below.refl _ _)).box) rfl ?_
  obtain ⟨e1, e2, e3⟩ := HK.out.ret (nd := _) (r := (leafN 3)) (Below.refl _ _) (Lies.leaf _ _ 3)
  exact ⟨(leafN 3), p, rfl, e1, e2, e3⟩

set_option maxRecDepth 100000 in
set_option maxHeartbeats 3200000 in
theorem atom_other (_n : Nat) (s : SynP.St) (w : World) (X : Cx) (p : Pv) (_hsc : Hid (Scal X.rs)) (hps : PS w X p s) (hat : s.at_ < X.rs.length) (c : Int) (hcE : SynP.pk X.rs s.at_ = c) (h1 : c ≠ 40) (h2 : c ≠ 46) (h3 : c ≠ 94) (h4 : c ≠ 36) (h5 : c ≠ 91) (h6 : c ≠ 92) :
    Calls Tryz.prog 103 #[.pointer (some ⟨X.b, 0, none⟩)] w (AtomEnd w X (.ok (some (SynP.Nd.cls (SynP.one c) p.f.fold), { s with at_ := s.at_ + 1 }))) := by
  have hfew := hps.at_.few
  obtain ⟨V, hV⟩ : ∃ V, w.heap.size = V := ⟨_, rfl⟩
  have HVe := Lib.hid hV
  have HK := Lib.hid (NdS.start hps hV)
  have HPf := Lib.hid hps.fl
  have HPr := Lib.hid hps.at_.ru
  clear hV hps
  unfold zeroA at HK
  go_enter Tryz.func103, Tryz.ntmps103
  go_upto_region 1 with fail
  rw [HVe.out]
  generalize w.alloc (.cells #[.int .i64 0, .slice none 0 0, .bool false, .int .i64 0, .int .i64 0, .bool false, .int .i64 0, .string ⟨#[]⟩, .slice none 0 0] 29) = W0 at HK ⊢
  have hc := HK.out.ps.at_.cell
  have hz := HK.out.ps.at_.frozen
  go_upto_region 24 with (go_at_call 66; (first | refine (has_no _ _ X p _ HK.out.ps.at_ (by simp only [UInt8.reduceToNat]; omega)).mono ?_ | refine (has_yes _ _ X p _ HK.out.ps.at_ (by simp only [UInt8.reduceToNat]; omega)).mono ?_); rintro e w1 ⟨rfl, hm1, ha1⟩; replace HK := Lib.hid (HK.out.mv hm1 ha1 (by first | exact Nat.le_refl _ | exact Nat.le_succ _)); clear hm1 ha1; replace hc := HK.out.ps.at_.cell; replace hz := HK.out.ps.at_.frozen)
  go_upto_region 25 with fail
  have hk2 := HK.out.mv (mv_put w1 X (.int .i64 ((s.at_ : Int) + 1))) (HK.out.ps.at_.put ((s.at_ : Int) + 1) (s.at_ + 1) (by omega) (by omega)) (Nat.le_succ _)
  generalize w1.setCell ⟨X.b, 4, none⟩ (.int .i64 ((s.at_ : Int) + 1)) = W at hk2 ⊢
  replace HK := Lib.hid hk2
  clear hk2 hc hz
  have hc := HK.out.ps.at_.cell
  obtain ⟨br, off, hAr, hb, hcell⟩ := HK.out.ps.at_.ru.int_ hat
  have hp : X.rs[s.at_] = c := by rw [← hcE]; unfold SynP.pk; rw [List.getD_eq_getElem?_getD, List.getElem?_eq_getElem hat]; rfl
  rw [hp] at hcell
  rw [hAr] at hc
  have hii : (s.at_ : Int) < (X.rs.length : Int) := by omega
  have hi0 : (0 : Int) ≤ (s.at_ : Int) := by omega
  have hz := HK.out.ps.at_.frozen
  clear hp hAr hcE h1 h2 h3 h4 h5 h6
  go_wp2_with (first | (go_at_call 140; refine (one_any _ _).mono ?_; rintro e w1 ⟨v, rfl, hv, hb1⟩; obtain ⟨sa, sn, sc, rfl⟩ := hv.form; have HS := Lib.hid hv; replace HK := Lib.hid (HK.out.below hb1); clear hb1 hv; replace hc := HK.out.ps.at_.cell; replace hz := HK.out.ps.at_.frozen) | (go_at_call 141; refine (class_any _ X p _ HK.out.ps.at_ _ _ _).mono ?_; rintro e w1 ⟨rfl, hb1⟩; have HBc := Lib.hid hb1; have HSc2 := Lib.hid (HS.out.on (KeepR.below hb1)); clear hb1) | (refine wpList_store_row rfl 29 (.tmp 2) (.tmp 115) rfl V (clsN (sa, sn, sc) p.f.fold).cells.toArray rfl rfl 29 zeroA (HK.out.below HBc.out).box sizeN rfl (cellsN_one _) ?_))
  refine retN2 rfl (clsN (sa, sn, sc) p.f.fold) true rfl rfl (setRow_heap _ _ _ _ _ _ (HK.out.below (HBc.out)).box) rfl ?_
  obtain ⟨e1, e2, e3⟩ := HK.out.ret (nd := _) (r := (clsN (sa, sn, sc) p.f.fold)) (HBc.out) (Lies.cls HSc2.out)
  exact ⟨(clsN (sa, sn, sc) p.f.fold), p, rfl, e1, e2, e3⟩

set_option maxRecDepth 100000 in
set_option maxHeartbeats 3200000 in
theorem atom_list_bad (_n : Nat) (s : SynP.St) (w : World) (X : Cx) (p : Pv) (hsc : Hid (Scal X.rs)) (hps : PS w X p s) (hat : s.at_ < X.rs.length) (hcE : SynP.pk X.rs s.at_ = 91) (ec : Int) (kk : Nat) (hl : SynP.list X.rs clsT perlT s.at_ (s.at_ + 1) = .bad ec kk) :
    Calls Tryz.prog 103 #[.pointer (some ⟨X.b, 0, none⟩)] w (AtomEnd w X (.bad ec kk)) := by
  have hfew := hps.at_.few
  obtain ⟨V, hV⟩ : ∃ V, w.heap.size = V := ⟨_, rfl⟩
  have HVe := Lib.hid hV
  have HK := Lib.hid (NdS.start hps hV)
  have HPf := Lib.hid hps.fl
  have HPr := Lib.hid hps.at_.ru
  clear hV hps
  unfold zeroA at HK
  have HL : Hid (∀ w, At w X p (s.at_ + 1) → Calls Tryz.prog 143 #[.pointer (some ⟨X.b, 0, none⟩), .int .i64 s.at_] w fun e w' => Threw w X ec kk e w') := Lib.hid fun w h => by
    have := list_any s.at_ w X p (s.at_ + 1) h hsc.out (by omega) (by omega)
    rw [hl] at this
    exact this
  clear hl
  go_enter Tryz.func103, Tryz.ntmps103
  go_upto_region 1 with fail
  rw [HVe.out]
  generalize w.alloc (.cells #[.int .i64 0, .slice none 0 0, .bool false, .int .i64 0, .int .i64 0, .bool false, .int .i64 0, .string ⟨#[]⟩, .slice none 0 0] 29) = W0 at HK ⊢
  have hc := HK.out.ps.at_.cell
  have hz := HK.out.ps.at_.frozen
  go_wp2_with (first | (go_at_call 66; (first | refine (has_no _ _ X p _ HK.out.ps.at_ (by simp only [UInt8.reduceToNat]; omega)).mono ?_ | refine (has_yes _ _ X p _ HK.out.ps.at_ (by simp only [UInt8.reduceToNat]; omega)).mono ?_); rintro e w1 ⟨rfl, hm1, ha1⟩; replace HK := Lib.hid (HK.out.mv hm1 ha1 (by first | exact Nat.le_refl _ | exact Nat.le_succ _)); clear hm1 ha1; replace hc := HK.out.ps.at_.cell; replace hz := HK.out.ps.at_.frozen) | (go_at_call 143; refine (HL.out _ HK.out.ps.at_).mono ?_; rintro e w1 ⟨hm1, he1⟩; unfold thrown at he1; subst he1; have HP := Lib.hid (HK.out.pm.step (Pm.mv HK.out.ps.at_ hm1)); clear hm1))
  exact ⟨rfl, HP.out, rfl⟩

set_option maxRecDepth 100000 in
set_option maxHeartbeats 3200000 in
theorem atom_list_ok (_n : Nat) (s : SynP.St) (w : World) (X : Cx) (p : Pv) (hsc : Hid (Scal X.rs)) (hps : PS w X p s) (hat : s.at_ < X.rs.length) (hcE : SynP.pk X.rs s.at_ = 91) (f : Int → Bool) (j : Nat) (hl : SynP.list X.rs clsT perlT s.at_ (s.at_ + 1) = .ok (f, j)) :
    Calls Tryz.prog 103 #[.pointer (some ⟨X.b, 0, none⟩)] w (AtomEnd w X (.ok (some (SynP.Nd.cls f p.f.fold), { s with at_ := j }))) := by
  have hfew := hps.at_.few
  obtain ⟨V, hV⟩ : ∃ V, w.heap.size = V := ⟨_, rfl⟩
  have HVe := Lib.hid hV
  have HK := Lib.hid (NdS.start hps hV)
  have HPf := Lib.hid hps.fl
  have HPr := Lib.hid hps.at_.ru
  clear hV hps
  unfold zeroA at HK
  have HL : Hid (∀ w, At w X p (s.at_ + 1) → Calls Tryz.prog 143 #[.pointer (some ⟨X.b, 0, none⟩), .int .i64 s.at_] w fun e w' => ∃ v, e = .returned v ∧ Mv X.b w w' ∧ At w' X p j ∧ SetV w' v f) := Lib.hid fun w h => by
    have := list_any s.at_ w X p (s.at_ + 1) h hsc.out (by omega) (by omega)
    rw [hl] at this
    exact this
  have hj := SynP.list_at hl
  have HJ : Hid (s.at_ + 1 ≤ j) := Lib.hid (by omega)
  clear hl hj
  go_enter Tryz.func103, Tryz.ntmps103
  go_upto_region 1 with fail
  rw [HVe.out]
  generalize w.alloc (.cells #[.int .i64 0, .slice none 0 0, .bool false, .int .i64 0, .int .i64 0, .bool false, .int .i64 0, .string ⟨#[]⟩, .slice none 0 0] 29) = W0 at HK ⊢
  have hc := HK.out.ps.at_.cell
  have hz := HK.out.ps.at_.frozen
  go_wp2_with (first | (go_at_call 66; (first | refine (has_no _ _ X p _ HK.out.ps.at_ (by simp only [UInt8.reduceToNat]; omega)).mono ?_ | refine (has_yes _ _ X p _ HK.out.ps.at_ (by simp only [UInt8.reduceToNat]; omega)).mono ?_); rintro e w1 ⟨rfl, hm1, ha1⟩; replace HK := Lib.hid (HK.out.mv hm1 ha1 (by first | exact Nat.le_refl _ | exact Nat.le_succ _)); clear hm1 ha1; replace hc := HK.out.ps.at_.cell; replace hz := HK.out.ps.at_.frozen) | (go_at_call 143; refine (HL.out _ HK.out.ps.at_).mono ?_; rintro e w1 ⟨v, rfl, hm1, ha1, hv⟩; obtain ⟨sa, sn, sc, rfl⟩ := hv.form; have HS := Lib.hid hv; replace HK := Lib.hid (HK.out.mv hm1 ha1 HJ.out); clear hm1 ha1 hv; replace hc := HK.out.ps.at_.cell; replace hz := HK.out.ps.at_.frozen) | (go_at_call 141; refine (class_any _ X p _ HK.out.ps.at_ _ _ _).mono ?_; rintro e w1 ⟨rfl, hb1⟩; have HBc := Lib.hid hb1; have HSc2 := Lib.hid (HS.out.on (KeepR.below hb1)); clear hb1) | (refine wpList_store_row rfl 29 (.tmp 2) (.tmp 67) rfl V (clsN (sa, sn, sc) p.f.fold).cells.toArray rfl rfl 29 zeroA (HK.out.below HBc.out).box sizeN rfl (cellsN_one _) ?_))
  refine retN2 rfl (clsN (sa, sn, sc) p.f.fold) true rfl rfl (setRow_heap _ _ _ _ _ _ (HK.out.below (HBc.out)).box) rfl ?_
  obtain ⟨e1, e2, e3⟩ := HK.out.ret (nd := _) (r := (clsN (sa, sn, sc) p.f.fold)) (HBc.out) (Lies.cls HSc2.out)
  exact ⟨(clsN (sa, sn, sc) p.f.fold), p, rfl, e1, e2, e3⟩

set_option maxRecDepth 100000 in
set_option maxHeartbeats 3200000 in
theorem atom_dot_t (_n : Nat) (s : SynP.St) (w : World) (X : Cx) (p : Pv) (_hsc : Hid (Scal X.rs)) (hps : PS w X p s) (_hat : s.at_ < X.rs.length) (hcE : SynP.pk X.rs s.at_ = 46) (hdt : p.f.dot = true) :
    Calls Tryz.prog 103 #[.pointer (some ⟨X.b, 0, none⟩)] w (AtomEnd w X (.ok (some (SynP.Nd.cls (fun z => p.f.dot || decide (z ≠ 10)) p.f.fold), { s with at_ := s.at_ + 1 }))) := by
  have hfew := hps.at_.few
  obtain ⟨V, hV⟩ : ∃ V, w.heap.size = V := ⟨_, rfl⟩
  have HVe := Lib.hid hV
  have HK := Lib.hid (NdS.start hps hV)
  have HPf := Lib.hid hps.fl
  have HPr := Lib.hid hps.at_.ru
  clear hV hps
  unfold zeroA at HK
  go_enter Tryz.func103, Tryz.ntmps103
  go_upto_region 1 with fail
  rw [HVe.out]
  generalize w.alloc (.cells #[.int .i64 0, .slice none 0 0, .bool false, .int .i64 0, .int .i64 0, .bool false, .int .i64 0, .string ⟨#[]⟩, .slice none 0 0] 29) = W0 at HK ⊢
  have hc := HK.out.ps.at_.cell
  have hz := HK.out.ps.at_.frozen
  go_upto_region 6 with (first | (go_at_call 66; (first | refine (has_no _ _ X p _ HK.out.ps.at_ (by simp only [UInt8.reduceToNat]; omega)).mono ?_ | refine (has_yes _ _ X p _ HK.out.ps.at_ (by simp only [UInt8.reduceToNat]; omega)).mono ?_); rintro e w1 ⟨rfl, hm1, ha1⟩; replace HK := Lib.hid (HK.out.mv hm1 ha1 (by first | exact Nat.le_refl _ | exact Nat.le_succ _)); clear hm1 ha1; replace hc := HK.out.ps.at_.cell; replace hz := HK.out.ps.at_.frozen) | (go_at_call 16; refine (of_range 0 1114111 w1 _ rfl).mono ?_; rintro e w2 ⟨v, rfl, hv, hb1⟩; obtain ⟨sa, sn, sc, rfl⟩ := hv.form; have HS := Lib.hid hv; replace HK := Lib.hid (HK.out.below hb1); clear hb1 hv; replace hc := HK.out.ps.at_.cell; replace hz := HK.out.ps.at_.frozen))
  rw [hdt] at hc
  go_wp2_with (first | (go_at_call 141; refine (class_any _ X p _ HK.out.ps.at_ _ _ _).mono ?_; rintro e w1 ⟨rfl, hb1⟩; have HBc := Lib.hid hb1; have HSc2 := Lib.hid (HS.out.on (KeepR.below hb1)); clear hb1) | (refine wpList_store_row rfl 29 (.tmp 2) (.tmp 39) rfl V (clsN (sa, sn, sc) p.f.fold).cells.toArray rfl rfl 29 zeroA (HK.out.below HBc.out).box sizeN rfl (cellsN_one _) ?_))
  refine retN2 rfl (clsN (sa, sn, sc) p.f.fold) true rfl rfl (setRow_heap _ _ _ _ _ _ (HK.out.below (HBc.out)).box) rfl ?_
  obtain ⟨e1, e2, e3⟩ := HK.out.ret (nd := _) (r := (clsN (sa, sn, sc) p.f.fold)) (HBc.out) (Lies.cls (HSc2.out.congr (g := fun z => p.f.dot || decide (z ≠ 10)) fun z hz => by rw [hdt]; rw [inR_iff] at hz; simp; omega))
  exact ⟨(clsN (sa, sn, sc) p.f.fold), p, rfl, e1, e2, e3⟩

set_option maxRecDepth 100000 in
set_option maxHeartbeats 3200000 in
theorem atom_dot_f (_n : Nat) (s : SynP.St) (w : World) (X : Cx) (p : Pv) (_hsc : Hid (Scal X.rs)) (hps : PS w X p s) (_hat : s.at_ < X.rs.length) (hcE : SynP.pk X.rs s.at_ = 46) (hdt : p.f.dot = false) :
    Calls Tryz.prog 103 #[.pointer (some ⟨X.b, 0, none⟩)] w (AtomEnd w X (.ok (some (SynP.Nd.cls (fun z => p.f.dot || decide (z ≠ 10)) p.f.fold), { s with at_ := s.at_ + 1 }))) := by
  have hfew := hps.at_.few
  obtain ⟨V, hV⟩ : ∃ V, w.heap.size = V := ⟨_, rfl⟩
  have HVe := Lib.hid hV
  have HK := Lib.hid (NdS.start hps hV)
  have HPf := Lib.hid hps.fl
  have HPr := Lib.hid hps.at_.ru
  clear hV hps
  unfold zeroA at HK
  go_enter Tryz.func103, Tryz.ntmps103
  go_upto_region 1 with fail
  rw [HVe.out]
  generalize w.alloc (.cells #[.int .i64 0, .slice none 0 0, .bool false, .int .i64 0, .int .i64 0, .bool false, .int .i64 0, .string ⟨#[]⟩, .slice none 0 0] 29) = W0 at HK ⊢
  have hc := HK.out.ps.at_.cell
  have hz := HK.out.ps.at_.frozen
  go_upto_region 6 with (first | (go_at_call 66; (first | refine (has_no _ _ X p _ HK.out.ps.at_ (by simp only [UInt8.reduceToNat]; omega)).mono ?_ | refine (has_yes _ _ X p _ HK.out.ps.at_ (by simp only [UInt8.reduceToNat]; omega)).mono ?_); rintro e w1 ⟨rfl, hm1, ha1⟩; replace HK := Lib.hid (HK.out.mv hm1 ha1 (by first | exact Nat.le_refl _ | exact Nat.le_succ _)); clear hm1 ha1; replace hc := HK.out.ps.at_.cell; replace hz := HK.out.ps.at_.frozen) | (go_at_call 16; refine (of_range 0 1114111 w1 _ rfl).mono ?_; rintro e w2 ⟨v, rfl, hv, hb1⟩; obtain ⟨sa, sn, sc, rfl⟩ := hv.form; have HS0 := Lib.hid hv; replace HK := Lib.hid (HK.out.below hb1); clear hb1 hv; replace hc := HK.out.ps.at_.cell; replace hz := HK.out.ps.at_.frozen))
  rw [hdt] at hc
  go_upto_region 8 with (first | (go_at_call 140; refine (one_any _ _).mono ?_; rintro e w1 ⟨v, rfl, hv, hb1⟩; obtain ⟨sb, sm, sd, rfl⟩ := hv.form; have HS := Lib.hid hv; replace HS0 := Lib.hid (HS0.out.on (KeepR.below hb1)); replace HK := Lib.hid (HK.out.below hb1); clear hb1 hv; replace hc := HK.out.ps.at_.cell; replace hz := HK.out.ps.at_.frozen) | (go_at_call 27; refine (less_new HS0.out HS.out).mono ?_; rintro e w1 ⟨v, rfl, hv, hb1⟩; obtain ⟨sa, sn, sc, rfl⟩ := hv.form; replace HS := Lib.hid hv; replace HK := Lib.hid (HK.out.below hb1); clear hb1 hv; replace hc := HK.out.ps.at_.cell; replace hz := HK.out.ps.at_.frozen))
  go_wp2_with (first | (go_at_call 141; refine (class_any _ X p _ HK.out.ps.at_ _ _ _).mono ?_; rintro e w1 ⟨rfl, hb1⟩; have HBc := Lib.hid hb1; have HSc2 := Lib.hid (HS.out.on (KeepR.below hb1)); clear hb1) | (refine wpList_store_row rfl 29 (.tmp 2) (.tmp 39) rfl V (clsN (sa, sn, sc) p.f.fold).cells.toArray rfl rfl 29 zeroA (HK.out.below HBc.out).box sizeN rfl (cellsN_one _) ?_))
  refine retN2 rfl (clsN (sa, sn, sc) p.f.fold) true rfl rfl (setRow_heap _ _ _ _ _ _ (HK.out.below (HBc.out)).box) rfl ?_
  obtain ⟨e1, e2, e3⟩ := HK.out.ret (nd := _) (r := (clsN (sa, sn, sc) p.f.fold)) (HBc.out) (Lies.cls (HSc2.out.congr (g := fun z => p.f.dot || decide (z ≠ 10)) fun z hz => by rw [hdt]; rw [inR_iff] at hz; unfold SynP.one; simp; omega))
  exact ⟨(clsN (sa, sn, sc) p.f.fold), p, rfl, e1, e2, e3⟩

def sgn (k : Nat) : Int := if k = 0 then 65 else if k = 1 then 122 else if k = 2 then 98 else 66
def tabS : Array Value := #[.string ⟨#[65]⟩, .int .i64 2, .string ⟨#[122]⟩, .int .i64 3, .string ⟨#[98]⟩, .int .i64 6, .string ⟨#[66]⟩, .int .i64 7]
def strokeR (X : Cx) (p : Pv) (s : SynP.St) : SynP.R (Option SynP.Nd × SynP.St) :=
  match SynP.signs (SynP.pk X.rs (s.at_ + 1)) with
  | some k => .ok (some (.leaf k), { s with at_ := s.at_ + 2 })
  | none => match SynP.escape X.rs clsT perlT s.at_ (s.at_ + 1) with
    | .bad e k => .bad e k
    | .ok (f, _, j) => .ok (some (.cls f p.f.fold), { s with at_ := j })

set_option maxRecDepth 100000 in
set_option maxHeartbeats 3200000 in
theorem atom_stroke (_n : Nat) (s : SynP.St) (w : World) (X : Cx) (p : Pv) (hsc : Hid (Scal X.rs)) (hps : PS w X p s) (hat : s.at_ < X.rs.length) (hcE : SynP.pk X.rs s.at_ = 92) :
    Calls Tryz.prog 103 #[.pointer (some ⟨X.b, 0, none⟩)] w (AtomEnd w X (strokeR X p s)) := by
  have hfew := hps.at_.few
  obtain ⟨V, hV⟩ : ∃ V, w.heap.size = V := ⟨_, rfl⟩
  have HVe := Lib.hid hV
  have HK := Lib.hid (NdS.start hps hV)
  have HPf := Lib.hid hps.fl
  have HPr := Lib.hid hps.at_.ru
  clear hV hps
  unfold zeroA at HK
  have HEs0 := Lib.hid (fun w (h : At w X p (s.at_ + 1)) => escape_any s.at_ w X p (s.at_ + 1) h hsc.out (by omega) (by omega))
  obtain ⟨R, hR⟩ : ∃ R, strokeR X p s = R := ⟨_, rfl⟩
  have HR0 := Lib.hid hR
  rw [hR]
  clear hR
  go_enter Tryz.func103, Tryz.ntmps103
  go_upto_region 1 with fail
  rw [HVe.out]
  generalize w.alloc (.cells #[.int .i64 0, .slice none 0 0, .bool false, .int .i64 0, .int .i64 0, .bool false, .int .i64 0, .string ⟨#[]⟩, .slice none 0 0] 29) = W0 at HK ⊢
  have hc := HK.out.ps.at_.cell
  have hz := HK.out.ps.at_.frozen
  go_upto_region 16 with (go_at_call 66; (first | refine (has_no _ _ X p _ HK.out.ps.at_ (by simp only [UInt8.reduceToNat]; omega)).mono ?_ | refine (has_yes _ _ X p _ HK.out.ps.at_ (by simp only [UInt8.reduceToNat]; omega)).mono ?_); rintro e w1 ⟨rfl, hm1, ha1⟩; replace HK := Lib.hid (HK.out.mv hm1 ha1 (by first | exact Nat.le_refl _ | exact Nat.le_succ _)); clear hm1 ha1; replace hc := HK.out.ps.at_.cell; replace hz := HK.out.ps.at_.frozen)
  go_upto_region 17 with fail
  have hba := (Below.refl w1.heap.size w1).alloc (Nat.le_refl _) (.cells tabS 185)
  have hk2 := HK.out.below hba
  have ht0 : ∀ o, o < 8 → (w1.alloc (.cells tabS 185)).cell? ⟨w1.heap.size, o, none⟩ = tabS[o]? := fun o _ => Lib.cell_of_heap (heap_alloc_new w1 _) o
  have hgw0 : w1.heap.size < (w1.alloc (.cells tabS 185)).heap.size := by simp
  have hgb0 : w1.heap.size ≠ X.b := by have := HK.out.ps.at_.lt; omega
  unfold tabS at hk2 ht0 hgw0
  generalize w1.alloc (.cells #[.string ⟨#[65]⟩, .int .i64 2, .string ⟨#[122]⟩, .int .i64 3, .string ⟨#[98]⟩, .int .i64 6, .string ⟨#[66]⟩, .int .i64 7] 185) = W2 at hk2 ht0 hgw0 ⊢
  obtain ⟨g, hg⟩ : ∃ g, w1.heap.size = g := ⟨_, rfl⟩
  rw [hg] at ht0 hgw0 hgb0 ⊢
  replace HK := Lib.hid hk2
  have HT0 := Lib.hid ht0
  clear hk2 ht0 hba hg hc hz
  go_loopg [77] 5 (fun k s77 wr => ∃ q : Nat, s77 = .int .i64 q ∧ q ≤ 4 ∧ k = 5 - q ∧ Hid (∀ t, t < q → SynP.pk X.rs (s.at_ + 1) ≠ sgn t) ∧ Hid (NdS w wr V X p { s with at_ := s.at_ + 1 } [] [] (.slice none 0 0)) ∧ g < wr.heap.size ∧ Hid (∀ o, o < 8 → wr.cell? ⟨g, o, none⟩ = (#[.string ⟨#[65]⟩, .int .i64 2, .string ⟨#[122]⟩, .int .i64 3, .string ⟨#[98]⟩, .int .i64 6, .string ⟨#[66]⟩, .int .i64 7] : Array Value)[o]?))
  case atStart => exact ⟨0, rfl, by omega, by omega, Lib.hid (fun t ht => by omega), HK, hgw0, HT0⟩
  case round =>
    clear HK HT0
    obtain ⟨q, rfl, hq, hkk, HN, HK, hgw, HTt⟩ := hrel
    have HKk := Lib.hid hkk
    clear hkk
    have hgb := hgb0
    rcases (by omega : q = 0 ∨ q = 1 ∨ q = 2 ∨ q = 3 ∨ q = 4) with rfl | rfl | rfl | rfl | rfl
    · have k0 := HTt.out 0 (by omega)
      have k1 := HTt.out 1 (by omega)
      simp at k0 k1
      go_upto_region 19 with fail
      have hbk := (Below.refl wr.heap.size wr).alloc (Nat.le_refl _) (.cells #[.string ⟨#[65]⟩, .int .i64 2] 185)
      have hkA := HK.out.below hbk
      have htA := Lib.hid (fun o (ho : o < 8) => (hbk.cell (p := ⟨g, o, none⟩) hgw).trans (HTt.out o ho))
      have hgA : g < (wr.alloc (.cells #[.string ⟨#[65]⟩, .int .i64 2] 185)).heap.size := by simp; omega
      have b0 : (wr.alloc (.cells #[.string ⟨#[65]⟩, .int .i64 2] 185)).cell? ⟨wr.heap.size, 0, none⟩ = some (.string ⟨#[65]⟩) := Lib.cell_of_heap (heap_alloc_new wr _) 0
      have b1 : (wr.alloc (.cells #[.string ⟨#[65]⟩, .int .i64 2] 185)).cell? ⟨wr.heap.size, 1, none⟩ = some (.int .i64 2) := Lib.cell_of_heap (heap_alloc_new wr _) 1
      have hg3 : wr.heap.size < (wr.alloc (.cells #[.string ⟨#[65]⟩, .int .i64 2] 185)).heap.size := by simp
      have hg3b : wr.heap.size ≠ X.b := by have := HK.out.ps.at_.lt; omega
      generalize wr.alloc (.cells #[.string ⟨#[65]⟩, .int .i64 2] 185) = W3 at hkA htA hgA b0 b1 hg3 ⊢
      obtain ⟨g3, hg3e⟩ : ∃ g3, wr.heap.size = g3 := ⟨_, rfl⟩
      rw [hg3e] at b0 b1 hg3 hg3b ⊢
      replace HK := Lib.hid hkA
      replace HTt := htA
      replace hgw := hgA
      clear hkA htA hgA hbk k0 k1 hg3e
      by_cases hy : SynP.pk X.rs (s.at_ + 1) = 65
      · have hR := HR0.out
        unfold strokeR at hR
        rw [hy] at hR
        have hR2 : SynP.R.ok (some (SynP.Nd.leaf 2), { s with at_ := s.at_ + 2 }) = R := by rw [← hR]; rfl
        have HR := Lib.hid hR2
        clear hR hR2
        go_wp2_with (first | (go_at_call 66; (first | refine (has_no _ _ X p _ HK.out.ps.at_ (by simp only [UInt8.reduceToNat]; omega)).mono ?_ | refine (has_yes _ _ X p _ HK.out.ps.at_ (by simp only [UInt8.reduceToNat]; omega)).mono ?_); rintro e w1 ⟨rfl, hm1, ha1⟩; have HT1 := Lib.hid (fun o (ho : o < 8) => (World.cell?_of_block (hm1.heap hgw hgb)).trans (HTt.out o ho)); have hgw1 := Nat.lt_of_lt_of_le hgw hm1.size; have k3 := (World.cell?_of_block (hm1.heap hg3 hg3b)).trans b1; replace HK := Lib.hid (HK.out.mv hm1 ha1 (by first | exact Nat.le_refl _ | exact Nat.le_succ _)); clear hm1 ha1; replace hc := HK.out.ps.at_.cell) | (refine wpList_store_row rfl 29 (.tmp 2) (.tmp 87) rfl V (leafN 2).cells.toArray rfl rfl 29 zeroA (HK.out).box sizeN rfl (cellsN_one _) ?_))
        rw [← HR.out]
        refine retN2 rfl (leafN 2) true rfl rfl (setRow_heap _ _ _ _ _ _ (HK.out.below (Below.refl _ _)).box) rfl ?_
        obtain ⟨e1, e2, e3⟩ := HK.out.ret (nd := SynP.Nd.leaf 2) (r := (leafN 2)) (Below.refl _ _) (Lies.leaf _ _ 2)
        exact ⟨(leafN 2), p, rfl, e1, e2, e3⟩
      · go_wp2_with (go_at_call 66; (first | refine (has_no _ _ X p _ HK.out.ps.at_ (by simp only [UInt8.reduceToNat]; omega)).mono ?_ | refine (has_yes _ _ X p _ HK.out.ps.at_ (by simp only [UInt8.reduceToNat]; omega)).mono ?_); rintro e w1 ⟨rfl, hm1, ha1⟩; have HT1 := Lib.hid (fun o (ho : o < 8) => (World.cell?_of_block (hm1.heap hgw hgb)).trans (HTt.out o ho)); have hgw1 := Nat.lt_of_lt_of_le hgw hm1.size; have k3 := (World.cell?_of_block (hm1.heap hg3 hg3b)).trans b1; replace HK := Lib.hid (HK.out.mv hm1 ha1 (by first | exact Nat.le_refl _ | exact Nat.le_succ _)); clear hm1 ha1; replace hc := HK.out.ps.at_.cell)
        go_roundg (gk - 1)
        case measure => have := HKk.out; omega
        case rel => exact ⟨1, rfl, by omega, by have := HKk.out; omega, Lib.hid (fun t ht => by rcases (by omega : t < 0 ∨ t = 0) with h | rfl <;> first | exact HN.out t h | exact hy), HK, by omega, HT1⟩
    · have k0 := HTt.out 2 (by omega)
      have k1 := HTt.out 3 (by omega)
      simp at k0 k1
      go_upto_region 19 with fail
      have hbk := (Below.refl wr.heap.size wr).alloc (Nat.le_refl _) (.cells #[.string ⟨#[122]⟩, .int .i64 3] 185)
      have hkA := HK.out.below hbk
      have htA := Lib.hid (fun o (ho : o < 8) => (hbk.cell (p := ⟨g, o, none⟩) hgw).trans (HTt.out o ho))
      have hgA : g < (wr.alloc (.cells #[.string ⟨#[122]⟩, .int .i64 3] 185)).heap.size := by simp; omega
      have b0 : (wr.alloc (.cells #[.string ⟨#[122]⟩, .int .i64 3] 185)).cell? ⟨wr.heap.size, 0, none⟩ = some (.string ⟨#[122]⟩) := Lib.cell_of_heap (heap_alloc_new wr _) 0
      have b1 : (wr.alloc (.cells #[.string ⟨#[122]⟩, .int .i64 3] 185)).cell? ⟨wr.heap.size, 1, none⟩ = some (.int .i64 3) := Lib.cell_of_heap (heap_alloc_new wr _) 1
      have hg3 : wr.heap.size < (wr.alloc (.cells #[.string ⟨#[122]⟩, .int .i64 3] 185)).heap.size := by simp
      have hg3b : wr.heap.size ≠ X.b := by have := HK.out.ps.at_.lt; omega
      generalize wr.alloc (.cells #[.string ⟨#[122]⟩, .int .i64 3] 185) = W3 at hkA htA hgA b0 b1 hg3 ⊢
      obtain ⟨g3, hg3e⟩ : ∃ g3, wr.heap.size = g3 := ⟨_, rfl⟩
      rw [hg3e] at b0 b1 hg3 hg3b ⊢
      replace HK := Lib.hid hkA
      replace HTt := htA
      replace hgw := hgA
      clear hkA htA hgA hbk k0 k1 hg3e
      by_cases hy : SynP.pk X.rs (s.at_ + 1) = 122
      · have hR := HR0.out
        unfold strokeR at hR
        rw [hy] at hR
        have hR2 : SynP.R.ok (some (SynP.Nd.leaf 3), { s with at_ := s.at_ + 2 }) = R := by rw [← hR]; rfl
        have HR := Lib.hid hR2
        clear hR hR2
        go_wp2_with (first | (go_at_call 66; (first | refine (has_no _ _ X p _ HK.out.ps.at_ (by simp only [UInt8.reduceToNat]; omega)).mono ?_ | refine (has_yes _ _ X p _ HK.out.ps.at_ (by simp only [UInt8.reduceToNat]; omega)).mono ?_); rintro e w1 ⟨rfl, hm1, ha1⟩; have HT1 := Lib.hid (fun o (ho : o < 8) => (World.cell?_of_block (hm1.heap hgw hgb)).trans (HTt.out o ho)); have hgw1 := Nat.lt_of_lt_of_le hgw hm1.size; have k3 := (World.cell?_of_block (hm1.heap hg3 hg3b)).trans b1; replace HK := Lib.hid (HK.out.mv hm1 ha1 (by first | exact Nat.le_refl _ | exact Nat.le_succ _)); clear hm1 ha1; replace hc := HK.out.ps.at_.cell) | (refine wpList_store_row rfl 29 (.tmp 2) (.tmp 87) rfl V (leafN 3).cells.toArray rfl rfl 29 zeroA (HK.out).box sizeN rfl (cellsN_one _) ?_))
        rw [← HR.out]
        refine retN2 rfl (leafN 3) true rfl rfl (setRow_heap _ _ _ _ _ _ (HK.out.below (Below.refl _ _)).box) rfl ?_
        obtain ⟨e1, e2, e3⟩ := HK.out.ret (nd := SynP.Nd.leaf 3) (r := (leafN 3)) (Below.refl _ _) (Lies.leaf _ _ 3)
        exact ⟨(leafN 3), p, rfl, e1, e2, e3⟩
      · go_wp2_with (go_at_call 66; (first | refine (has_no _ _ X p _ HK.out.ps.at_ (by simp only [UInt8.reduceToNat]; omega)).mono ?_ | refine (has_yes _ _ X p _ HK.out.ps.at_ (by simp only [UInt8.reduceToNat]; omega)).mono ?_); rintro e w1 ⟨rfl, hm1, ha1⟩; have HT1 := Lib.hid (fun o (ho : o < 8) => (World.cell?_of_block (hm1.heap hgw hgb)).trans (HTt.out o ho)); have hgw1 := Nat.lt_of_lt_of_le hgw hm1.size; have k3 := (World.cell?_of_block (hm1.heap hg3 hg3b)).trans b1; replace HK := Lib.hid (HK.out.mv hm1 ha1 (by first | exact Nat.le_refl _ | exact Nat.le_succ _)); clear hm1 ha1; replace hc := HK.out.ps.at_.cell)
        go_roundg (gk - 1)
        case measure => have := HKk.out; omega
        case rel => exact ⟨2, rfl, by omega, by have := HKk.out; omega, Lib.hid (fun t ht => by rcases (by omega : t < 1 ∨ t = 1) with h | rfl <;> first | exact HN.out t h | exact hy), HK, by omega, HT1⟩
    · have k0 := HTt.out 4 (by omega)
      have k1 := HTt.out 5 (by omega)
      simp at k0 k1
      go_upto_region 19 with fail
      have hbk := (Below.refl wr.heap.size wr).alloc (Nat.le_refl _) (.cells #[.string ⟨#[98]⟩, .int .i64 6] 185)
      have hkA := HK.out.below hbk
      have htA := Lib.hid (fun o (ho : o < 8) => (hbk.cell (p := ⟨g, o, none⟩) hgw).trans (HTt.out o ho))
      have hgA : g < (wr.alloc (.cells #[.string ⟨#[98]⟩, .int .i64 6] 185)).heap.size := by simp; omega
      have b0 : (wr.alloc (.cells #[.string ⟨#[98]⟩, .int .i64 6] 185)).cell? ⟨wr.heap.size, 0, none⟩ = some (.string ⟨#[98]⟩) := Lib.cell_of_heap (heap_alloc_new wr _) 0
      have b1 : (wr.alloc (.cells #[.string ⟨#[98]⟩, .int .i64 6] 185)).cell? ⟨wr.heap.size, 1, none⟩ = some (.int .i64 6) := Lib.cell_of_heap (heap_alloc_new wr _) 1
      have hg3 : wr.heap.size < (wr.alloc (.cells #[.string ⟨#[98]⟩, .int .i64 6] 185)).heap.size := by simp
      have hg3b : wr.heap.size ≠ X.b := by have := HK.out.ps.at_.lt; omega
      generalize wr.alloc (.cells #[.string ⟨#[98]⟩, .int .i64 6] 185) = W3 at hkA htA hgA b0 b1 hg3 ⊢
      obtain ⟨g3, hg3e⟩ : ∃ g3, wr.heap.size = g3 := ⟨_, rfl⟩
      rw [hg3e] at b0 b1 hg3 hg3b ⊢
      replace HK := Lib.hid hkA
      replace HTt := htA
      replace hgw := hgA
      clear hkA htA hgA hbk k0 k1 hg3e
      by_cases hy : SynP.pk X.rs (s.at_ + 1) = 98
      · have hR := HR0.out
        unfold strokeR at hR
        rw [hy] at hR
        have hR2 : SynP.R.ok (some (SynP.Nd.leaf 6), { s with at_ := s.at_ + 2 }) = R := by rw [← hR]; rfl
        have HR := Lib.hid hR2
        clear hR hR2
        go_wp2_with (first | (go_at_call 66; (first | refine (has_no _ _ X p _ HK.out.ps.at_ (by simp only [UInt8.reduceToNat]; omega)).mono ?_ | refine (has_yes _ _ X p _ HK.out.ps.at_ (by simp only [UInt8.reduceToNat]; omega)).mono ?_); rintro e w1 ⟨rfl, hm1, ha1⟩; have HT1 := Lib.hid (fun o (ho : o < 8) => (World.cell?_of_block (hm1.heap hgw hgb)).trans (HTt.out o ho)); have hgw1 := Nat.lt_of_lt_of_le hgw hm1.size; have k3 := (World.cell?_of_block (hm1.heap hg3 hg3b)).trans b1; replace HK := Lib.hid (HK.out.mv hm1 ha1 (by first | exact Nat.le_refl _ | exact Nat.le_succ _)); clear hm1 ha1; replace hc := HK.out.ps.at_.cell) | (refine wpList_store_row rfl 29 (.tmp 2) (.tmp 87) rfl V (leafN 6).cells.toArray rfl rfl 29 zeroA (HK.out).box sizeN rfl (cellsN_one _) ?_))
        rw [← HR.out]
        refine retN2 rfl (leafN 6) true rfl rfl (setRow_heap _ _ _ _ _ _ (HK.out.below (Below.refl _ _)).box) rfl ?_
        obtain ⟨e1, e2, e3⟩ := HK.out.ret (nd := SynP.Nd.leaf 6) (r := (leafN 6)) (Below.refl _ _) (Lies.leaf _ _ 6)
        exact ⟨(leafN 6), p, rfl, e1, e2, e3⟩
      · go_wp2_with (go_at_call 66; (first | refine (has_no _ _ X p _ HK.out.ps.at_ (by simp only [UInt8.reduceToNat]; omega)).mono ?_ | refine (has_yes _ _ X p _ HK.out.ps.at_ (by simp only [UInt8.reduceToNat]; omega)).mono ?_); rintro e w1 ⟨rfl, hm1, ha1⟩; have HT1 := Lib.hid (fun o (ho : o < 8) => (World.cell?_of_block (hm1.heap hgw hgb)).trans (HTt.out o ho)); have hgw1 := Nat.lt_of_lt_of_le hgw hm1.size; have k3 := (World.cell?_of_block (hm1.heap hg3 hg3b)).trans b1; replace HK := Lib.hid (HK.out.mv hm1 ha1 (by first | exact Nat.le_refl _ | exact Nat.le_succ _)); clear hm1 ha1; replace hc := HK.out.ps.at_.cell)
        go_roundg (gk - 1)
        case measure => have := HKk.out; omega
        case rel => exact ⟨3, rfl, by omega, by have := HKk.out; omega, Lib.hid (fun t ht => by rcases (by omega : t < 2 ∨ t = 2) with h | rfl <;> first | exact HN.out t h | exact hy), HK, by omega, HT1⟩
    · have k0 := HTt.out 6 (by omega)
      have k1 := HTt.out 7 (by omega)
      simp at k0 k1
      go_upto_region 19 with fail
      have hbk := (Below.refl wr.heap.size wr).alloc (Nat.le_refl _) (.cells #[.string ⟨#[66]⟩, .int .i64 7] 185)
      have hkA := HK.out.below hbk
      have htA := Lib.hid (fun o (ho : o < 8) => (hbk.cell (p := ⟨g, o, none⟩) hgw).trans (HTt.out o ho))
      have hgA : g < (wr.alloc (.cells #[.string ⟨#[66]⟩, .int .i64 7] 185)).heap.size := by simp; omega
      have b0 : (wr.alloc (.cells #[.string ⟨#[66]⟩, .int .i64 7] 185)).cell? ⟨wr.heap.size, 0, none⟩ = some (.string ⟨#[66]⟩) := Lib.cell_of_heap (heap_alloc_new wr _) 0
      have b1 : (wr.alloc (.cells #[.string ⟨#[66]⟩, .int .i64 7] 185)).cell? ⟨wr.heap.size, 1, none⟩ = some (.int .i64 7) := Lib.cell_of_heap (heap_alloc_new wr _) 1
      have hg3 : wr.heap.size < (wr.alloc (.cells #[.string ⟨#[66]⟩, .int .i64 7] 185)).heap.size := by simp
      have hg3b : wr.heap.size ≠ X.b := by have := HK.out.ps.at_.lt; omega
      generalize wr.alloc (.cells #[.string ⟨#[66]⟩, .int .i64 7] 185) = W3 at hkA htA hgA b0 b1 hg3 ⊢
      obtain ⟨g3, hg3e⟩ : ∃ g3, wr.heap.size = g3 := ⟨_, rfl⟩
      rw [hg3e] at b0 b1 hg3 hg3b ⊢
      replace HK := Lib.hid hkA
      replace HTt := htA
      replace hgw := hgA
      clear hkA htA hgA hbk k0 k1 hg3e
      by_cases hy : SynP.pk X.rs (s.at_ + 1) = 66
      · have hR := HR0.out
        unfold strokeR at hR
        rw [hy] at hR
        have hR2 : SynP.R.ok (some (SynP.Nd.leaf 7), { s with at_ := s.at_ + 2 }) = R := by rw [← hR]; rfl
        have HR := Lib.hid hR2
        clear hR hR2
        go_wp2_with (first | (go_at_call 66; (first | refine (has_no _ _ X p _ HK.out.ps.at_ (by simp only [UInt8.reduceToNat]; omega)).mono ?_ | refine (has_yes _ _ X p _ HK.out.ps.at_ (by simp only [UInt8.reduceToNat]; omega)).mono ?_); rintro e w1 ⟨rfl, hm1, ha1⟩; have HT1 := Lib.hid (fun o (ho : o < 8) => (World.cell?_of_block (hm1.heap hgw hgb)).trans (HTt.out o ho)); have hgw1 := Nat.lt_of_lt_of_le hgw hm1.size; have k3 := (World.cell?_of_block (hm1.heap hg3 hg3b)).trans b1; replace HK := Lib.hid (HK.out.mv hm1 ha1 (by first | exact Nat.le_refl _ | exact Nat.le_succ _)); clear hm1 ha1; replace hc := HK.out.ps.at_.cell) | (refine wpList_store_row rfl 29 (.tmp 2) (.tmp 87) rfl V (leafN 7).cells.toArray rfl rfl 29 zeroA (HK.out).box sizeN rfl (cellsN_one _) ?_))
        rw [← HR.out]
        refine retN2 rfl (leafN 7) true rfl rfl (setRow_heap _ _ _ _ _ _ (HK.out.below (Below.refl _ _)).box) rfl ?_
        obtain ⟨e1, e2, e3⟩ := HK.out.ret (nd := SynP.Nd.leaf 7) (r := (leafN 7)) (Below.refl _ _) (Lies.leaf _ _ 7)
        exact ⟨(leafN 7), p, rfl, e1, e2, e3⟩
      · go_wp2_with (go_at_call 66; (first | refine (has_no _ _ X p _ HK.out.ps.at_ (by simp only [UInt8.reduceToNat]; omega)).mono ?_ | refine (has_yes _ _ X p _ HK.out.ps.at_ (by simp only [UInt8.reduceToNat]; omega)).mono ?_); rintro e w1 ⟨rfl, hm1, ha1⟩; have HT1 := Lib.hid (fun o (ho : o < 8) => (World.cell?_of_block (hm1.heap hgw hgb)).trans (HTt.out o ho)); have hgw1 := Nat.lt_of_lt_of_le hgw hm1.size; have k3 := (World.cell?_of_block (hm1.heap hg3 hg3b)).trans b1; replace HK := Lib.hid (HK.out.mv hm1 ha1 (by first | exact Nat.le_refl _ | exact Nat.le_succ _)); clear hm1 ha1; replace hc := HK.out.ps.at_.cell)
        go_roundg (gk - 1)
        case measure => have := HKk.out; omega
        case rel => exact ⟨4, rfl, by omega, by have := HKk.out; omega, Lib.hid (fun t ht => by rcases (by omega : t < 3 ∨ t = 3) with h | rfl <;> first | exact HN.out t h | exact hy), HK, by omega, HT1⟩
    · have p0 : SynP.pk X.rs (s.at_ + 1) ≠ 65 := HN.out 0 (by omega)
      have p1 : SynP.pk X.rs (s.at_ + 1) ≠ 122 := HN.out 1 (by omega)
      have p2 : SynP.pk X.rs (s.at_ + 1) ≠ 98 := HN.out 2 (by omega)
      have p3 : SynP.pk X.rs (s.at_ + 1) ≠ 66 := HN.out 3 (by omega)
      have hR := HR0.out
      unfold strokeR SynP.signs at hR
      rw [if_neg p0, if_neg p1, if_neg p2, if_neg p3] at hR
      simp only at hR
      have hc := HK.out.ps.at_.cell
      have hz := HK.out.ps.at_.frozen
      clear p0 p1 p2 p3
      cases hes : SynP.escape X.rs clsT perlT s.at_ (s.at_ + 1) with
      | bad ec kk =>
        rw [hes] at hR
        have HR := Lib.hid hR
        have HEs : Hid (∀ w, At w X p (s.at_ + 1) → Calls Tryz.prog 144 #[.pointer (some ⟨X.b, 0, none⟩), .int .i64 s.at_] w fun e w' => Threw w X ec kk e w') := Lib.hid fun w h => by
          have := HEs0.out w h
          rw [hes] at this
          exact this
        clear hR hes
        go_wp2_with (go_at_call 144; refine (HEs.out _ HK.out.ps.at_).mono ?_; rintro e w1 ⟨hm1, he1⟩; unfold thrown at he1; subst he1; have HP := Lib.hid (HK.out.pm.step (Pm.mv HK.out.ps.at_ hm1)); clear hm1)
        rw [← HR.out]; exact ⟨rfl, HP.out, rfl⟩
      | ok x =>
        obtain ⟨f, r, j⟩ := x
        rw [hes] at hR
        have HR := Lib.hid hR
        have hj := SynP.escape_at hes
        have HJ : Hid (s.at_ + 1 ≤ j) := Lib.hid (by omega)
        have HEs : Hid (∀ w, At w X p (s.at_ + 1) → Calls Tryz.prog 144 #[.pointer (some ⟨X.b, 0, none⟩), .int .i64 s.at_] w fun e w' => ∃ v, e = .returned (.tuple #[v, .int .i64 r]) ∧ Mv X.b w w' ∧ At w' X p j ∧ SetV w' v f) := Lib.hid fun w h => by
          have := HEs0.out w h
          rw [hes] at this
          exact this
        clear hR hes hj
        go_wp2_with (first | (go_at_call 144; refine (HEs.out _ HK.out.ps.at_).mono ?_; rintro e w1 ⟨v, rfl, hm1, ha1, hv⟩; obtain ⟨sa, sn, sc, rfl⟩ := hv.form; have HS := Lib.hid hv; replace HK := Lib.hid (HK.out.mv hm1 ha1 HJ.out); clear hm1 ha1 hv; replace hc := HK.out.ps.at_.cell; replace hz := HK.out.ps.at_.frozen) | (go_at_call 141; refine (class_any _ X p _ HK.out.ps.at_ _ _ _).mono ?_; rintro e w1 ⟨rfl, hb1⟩; have HBc := Lib.hid hb1; have HSc2 := Lib.hid (HS.out.on (KeepR.below hb1)); clear hb1) | (refine wpList_store_row rfl 29 (.tmp 2) (.tmp 97) rfl V (clsN (sa, sn, sc) p.f.fold).cells.toArray rfl rfl 29 zeroA (HK.out.below HBc.out).box sizeN rfl (cellsN_one _) ?_))
        rw [← HR.out]
        refine retN2 rfl (clsN (sa, sn, sc) p.f.fold) true rfl rfl (setRow_heap _ _ _ _ _ _ (HK.out.below (HBc.out)).box) rfl ?_
        obtain ⟨e1, e2, e3⟩ := HK.out.ret (nd := _) (r := (clsN (sa, sn, sc) p.f.fold)) (HBc.out) (Lies.cls HSc2.out)
        exact ⟨(clsN (sa, sn, sc) p.f.fold), p, rfl, e1, e2, e3⟩

/-- Behind the store of the result's box, whatever is stored. -/
theorem NdS.ret0 {w wr wy : World} {V : Nat} {X : Cx} {p : Pv} {s : SynP.St} {l : List SynP.Nd} {rs : List RawN} {v : Value} (h : NdS w wr V X p s l rs v) (hb : Below wr.heap.size wr wy) (cs : Array Value) :
    Pm w (wy.setRow V cs) X ∧ PS (wy.setRow V cs) X p s ∧ StandN (fun k => V + 1 ≤ k) wy (wy.setRow V cs) := by
  have hV := h.hV
  have hB := h.hB
  have h2 := h.below hb
  have hbel : Below V wy (wy.setRow V cs) := below_setRow_ (Below.refl _ _) (Nat.le_refl _) _
  have hne : X.b ≠ V := by
    rintro rfl
    have := h2.ps.at_.blk
    rw [h2.box] at this
    injection this with this
    injection this with _ this
    exact absurd this (by decide)
  have hpb : (wy.setRow V cs).heap[X.b]? = wy.heap[X.b]? := setRow_other _ _ _ _ hne
  have hown : ∀ {α : Type} {E : Enc α} {e : TypeId} {v : Value} {l : List α}, OwnB E e X.B wy v l → 29 ≠ e → OwnB E e X.B (wy.setRow V cs) v l := fun ho he => by
    have hg : wy.grownBy (wy.setRow V cs) (some V) := ⟨rfl, rfl, rfl, by simp, fun k _ hk => setRow_other _ _ _ _ (fun e => hk (by rw [e]))⟩
    exact ho.kept_ hg (.inr (ho.ne_ h2.box he))
  exact ⟨h2.pm.of_new (by rw [hV]; exact hbel) (by omega), ⟨h2.ps.at_.mv_ (hbel.mono hB) hpb, h2.ps.fl, hown h2.ps.opn (by decide), hown h2.ps.nms (by decide), h2.ps.opl, h2.ps.opk, h2.ps.nml⟩, StandN.setRow _ h2.box (by omega)⟩
theorem LiesO.on {w w' : World} {A : Nat → Prop} (hm : StandN A w w') : ∀ (x : Option SynP.Nd) (r : RawN), LiesO w A x r → LiesO w' A x r
  | none, _, _ => trivial
  | some nd, r, h => Lies.on hm nd r h
theorem LiesO.mono {w : World} {A A' : Nat → Prop} (hm : ∀ b, A b → b < w.heap.size → A' b) : ∀ (x : Option SynP.Nd) (r : RawN), LiesO w A x r → LiesO w A' x r
  | none, _, _ => trivial
  | some nd, r, h => Lies.mono hm nd r h

set_option maxRecDepth 100000 in
set_option maxHeartbeats 3200000 in
theorem atom_brk (n : Nat) (s : SynP.St) (w : World) (X : Cx) (p : Pv) (hsc : Hid (Scal X.rs)) (hps : PS w X p s) (hat : s.at_ < X.rs.length) (hn : s.names.length ≤ s.at_ + 1) (hnn : 3 * (X.rs.length - s.at_) ≤ n) (hcE : SynP.pk X.rs s.at_ = 40) (hbk : BrkC n) :
    Calls Tryz.prog 103 #[.pointer (some ⟨X.b, 0, none⟩)] w (AtomEnd w X (goS X.rs n .atom s)) := by
  have hfew := hps.at_.few
  obtain ⟨V, hV⟩ : ∃ V, w.heap.size = V := ⟨_, rfl⟩
  have HVe := Lib.hid hV
  have HK := Lib.hid (NdS.start hps hV)
  have HPf := Lib.hid hps.fl
  have HPr := Lib.hid hps.at_.ru
  clear hV hps
  unfold zeroA at HK
  have HB := Lib.hid (fun (w : World) (h : PS w X p { s with at_ := s.at_ + 1 }) => hbk s w X p hsc.out h hat hcE hn hnn)
  clear hbk
  obtain ⟨R, hR⟩ : ∃ R, goS X.rs n .atom s = R := ⟨_, rfl⟩
  rw [hR] at HB ⊢
  clear hR
  go_enter Tryz.func103, Tryz.ntmps103
  go_upto_region 1 with fail
  rw [HVe.out]
  generalize w.alloc (.cells #[.int .i64 0, .slice none 0 0, .bool false, .int .i64 0, .int .i64 0, .bool false, .int .i64 0, .string ⟨#[]⟩, .slice none 0 0] 29) = W0 at HK ⊢
  have hc := HK.out.ps.at_.cell
  have hz := HK.out.ps.at_.frozen
  cases R with
  | bad ec kk =>
    go_wp2_with (first | (go_at_call 66; (first | refine (has_no _ _ X p _ HK.out.ps.at_ (by simp only [UInt8.reduceToNat]; omega)).mono ?_ | refine (has_yes _ _ X p _ HK.out.ps.at_ (by simp only [UInt8.reduceToNat]; omega)).mono ?_); rintro e w1 ⟨rfl, hm1, ha1⟩; replace HK := Lib.hid (HK.out.mv hm1 ha1 (by first | exact Nat.le_refl _ | exact Nat.le_succ _)); clear hm1 ha1; replace hc := HK.out.ps.at_.cell; replace hz := HK.out.ps.at_.frozen) | (go_at_call 139; refine (HB.out _ HK.out.ps).mono ?_; rintro e w1 ⟨hpm, he1⟩; unfold thrown at he1; subst he1; have HP := Lib.hid (HK.out.pm.step hpm); clear hpm))
    exact ⟨rfl, HP.out, rfl⟩
  | ok x =>
    obtain ⟨x, s1⟩ := x
    go_wp2_with (first | (go_at_call 66; (first | refine (has_no _ _ X p _ HK.out.ps.at_ (by simp only [UInt8.reduceToNat]; omega)).mono ?_ | refine (has_yes _ _ X p _ HK.out.ps.at_ (by simp only [UInt8.reduceToNat]; omega)).mono ?_); rintro e w1 ⟨rfl, hm1, ha1⟩; replace HK := Lib.hid (HK.out.mv hm1 ha1 (by first | exact Nat.le_refl _ | exact Nat.le_succ _)); clear hm1 ha1; replace hc := HK.out.ps.at_.cell; replace hz := HK.out.ps.at_.frozen) | (go_at_call 139; refine (HB.out _ HK.out.ps).mono ?_; rintro e w2 ⟨r, p1, rfl, hpm, hps1, hl1⟩; have HK1 := Lib.hid (HK.out.step hpm hps1); have HL1 := Lib.hid hl1; have HV1 := Lib.hid HK.out.lt; clear hpm hps1 hl1) | (refine wpList_store_row rfl 29 (.tmp 2) (.tmp 20) rfl V r.cells.toArray rfl rfl 29 zeroA (HK1.out).box sizeN rfl (cellsN_one _) ?_))
    refine retN2 rfl r x.isSome rfl rfl (setRow_heap _ _ _ _ _ _ HK1.out.box) rfl ?_
    obtain ⟨e1, e2, e3⟩ := HK1.out.ret0 (Below.refl _ _) r.cells.toArray
    have hv1 := HV1.out
    have hve := HVe.out
    exact ⟨r, p1, rfl, e1, e2, LiesO.mono (fun b hb _ => by omega) _ _ (LiesO.on e3 _ _ (LiesO.mono (fun b hb _ => by omega) _ _ HL1.out))⟩

theorem atom_any (n : Nat) (hb : BrkC (n + 1)) : AtomC (n + 1) := by
  intro s w X p hsc hps hat hn
  by_cases h40 : SynP.pk X.rs s.at_ = 40
  · exact atom_brk (n + 1) s w X p (Lib.hid hsc) hps hat hps.nml hn h40 hb
  rw [goS_plain _ _ _ h40]
  have hfl := hps.fl
  by_cases h46 : SynP.pk X.rs s.at_ = 46
  · rw [if_pos h46]
    cases hd : p.f.dot with
    | true => have := atom_dot_t n s w X p (Lib.hid hsc) hps hat h46 hd; rw [hfl] at this; exact this
    | false => have := atom_dot_f n s w X p (Lib.hid hsc) hps hat h46 hd; rw [hfl] at this; exact this
  rw [if_neg h46]
  by_cases h94 : SynP.pk X.rs s.at_ = 94
  · rw [if_pos h94]
    cases hd : s.fl.lines with
    | true => exact atom_begin_t n s w X p (Lib.hid hsc) hps hat h94 (by rw [hfl]; exact hd)
    | false => exact atom_begin_f n s w X p (Lib.hid hsc) hps hat h94 (by rw [hfl]; exact hd)
  rw [if_neg h94]
  by_cases h36 : SynP.pk X.rs s.at_ = 36
  · rw [if_pos h36]
    cases hd : s.fl.lines with
    | true => exact atom_end_t n s w X p (Lib.hid hsc) hps hat h36 (by rw [hfl]; exact hd)
    | false => exact atom_end_f n s w X p (Lib.hid hsc) hps hat h36 (by rw [hfl]; exact hd)
  rw [if_neg h36]
  by_cases h91 : SynP.pk X.rs s.at_ = 91
  · rw [if_pos h91]
    cases hl : SynP.list X.rs clsT perlT s.at_ (s.at_ + 1) with
    | bad ec kk => exact atom_list_bad n s w X p (Lib.hid hsc) hps hat h91 ec kk hl
    | ok x => have := atom_list_ok n s w X p (Lib.hid hsc) hps hat h91 x.1 x.2 hl; rw [hfl] at this; exact this
  rw [if_neg h91]
  by_cases h92 : SynP.pk X.rs s.at_ = 92
  · rw [if_pos h92]
    have := atom_stroke n s w X p (Lib.hid hsc) hps hat h92
    unfold strokeR at this
    rw [hfl] at this
    exact this
  rw [if_neg h92]
  have := atom_other n s w X p (Lib.hid hsc) hps hat _ rfl h40 h46 h94 h36 h91 h92
  rw [hfl] at this
  exact this


end Go.Proofs.YtblkejnckbeieaaGreatDoor
