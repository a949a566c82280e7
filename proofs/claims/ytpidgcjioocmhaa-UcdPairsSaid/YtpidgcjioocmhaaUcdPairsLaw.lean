/- Chapter 09, the walk of UcdPairs. -/
import Derived.Test.YtpidgcjioocmhaaUcdGrowsLaw
namespace Go.Proofs.Ytpidgcjioocmhaa
open Go.RowKit SetPure OrbPure

theorem pair_orbits : ∀ k : Fin 26, ∃ t, orbAll (65 + (k.val : Int)) = (65 + (k.val : Int)) :: (65 + (k.val : Int) + 32) :: t ∧ ((65 + (k.val : Int)) :: (65 + (k.val : Int) + 32) :: t).Nodup := by
  have h : ∀ k : Fin 26, ((orbAll (65 + (k.val : Int))).take 2 = [65 + (k.val : Int), 65 + (k.val : Int) + 32]) ∧ (orbAll (65 + (k.val : Int))).Nodup := by decide +kernel
  intro k
  obtain ⟨h1, h2⟩ := h k
  match hl : orbAll (65 + (k.val : Int)), h1, h2 with
  | a :: b :: t, h1, h2 =>
    simp only [List.take_succ_cons, List.take_zero, List.cons.injEq, and_true] at h1
    obtain ⟨rfl, rfl⟩ := h1
    exact ⟨t, rfl, h2⟩
theorem pair_classes : ∀ k : Fin 26, classF 0 (65 + (k.val : Int)) = true ∧ classF 1 (65 + (k.val : Int) + 32) = true ∧ classF 0 (65 + (k.val : Int) + 32) = false := by decide +kernel

/-- The one number's closed set is its orbit. -/
theorem closeF_dot {r : Int} (h0 : 0 ≤ r) (h1 : r ≤ 1114111) (z : Int) : closeF (fun z => inB [(r, r)] z && inR z) z = decide (z ∈ orbAll r) := by
  rw [Bool.eq_iff_iff, closeF_iff, decide_eq_true_eq]
  have e : ∀ m, (inB [(r, r)] m && inR m) = true ↔ m = r := fun m => by
    rw [Bool.and_eq_true, inR_iff, inB_iff]
    simp only [InS, List.mem_cons, List.not_mem_nil, or_false, exists_eq_left]
    omega
  constructor
  · rintro ⟨m, hm, h⟩
    obtain rfl := (e m).1 h
    exact (orbAll_in hm).2.2
  · intro h
    exact ⟨r, (orbAll_in h).2.2, (e r).2 rfl⟩
theorem cnt_dot {r : Int} (h0 : 0 ≤ r) (h1 : r ≤ 1114111) (hn : (orbAll r).Nodup) : cntF (closeF (fun z => inB [(r, r)] z && inR z)) = (orbAll r).length := by
  rw [show closeF (fun z => inB [(r, r)] z && inR z) = fun z => decide (z ∈ orbAll r) from funext fun z => closeF_dot h0 h1 z]
  unfold cntF
  rw [← lst_len]
  refine Nat.le_antisymm (nodup_len _ _ (lst_nodup _ _ _) fun x hx => ?_) (nodup_len _ _ hn fun x hx => ?_)
  · exact of_decide_eq_true ((lst_mem _ _ _ _).1 hx).1
  · have := (orbAll_in hx).2.1
    exact (lst_mem _ _ _ _).2 ⟨decide_eq_true hx, this.1, by omega⟩

/-- What is asked of a great letter of the first table. -/
theorem pair_facts (x : Int) (h0 : 65 ≤ x) (h1 : x ≤ 90) : ∃ o : List Int, orbAll x = o ∧ 2 ≤ o.length ∧ o.length ≤ 3 ∧ o.getD 0 0 = x ∧ o.getD 1 0 = x + 32 ∧
    classF 0 x = true ∧ classF 1 (x + 32) = true ∧ classF 0 (x + 32) = false ∧ closeF (fun z => inB [(x, x)] z && inR z) (x + 32) = true ∧ cntF (closeF (fun z => inB [(x, x)] z && inR z)) = o.length := by
  obtain ⟨k, rfl⟩ : ∃ k : Nat, x = 65 + (k : Int) := ⟨(x - 65).toNat, by omega⟩
  obtain ⟨t, h2, h3⟩ := pair_orbits ⟨k, by omega⟩
  obtain ⟨c1, c2, c3⟩ := pair_classes ⟨k, by omega⟩
  simp only at h2 h3 c1 c2 c3
  have hc := cnt_dot (r := 65 + (k : Int)) (by omega) (by omega) (h2 ▸ h3)
  have hl := orbAll_len (65 + (k : Int))
  have hm := closeF_dot (r := 65 + (k : Int)) (by omega) (by omega) (65 + (k : Int) + 32)
  rw [h2] at hc hl hm
  exact ⟨_, h2, by simp, hl, rfl, rfl, c1, c2, c3, by rw [hm]; simp, hc⟩

set_option maxHeartbeats 4000000 in
set_option maxRecDepth 100000 in
theorem pairs_any (r : Int) (w : World) : Calls Try.prog 6 #[.int .i64 r] w fun e w' => e = .returned (.bool true) ∧ Below w.heap.size w w' := by
  have hm1 : -26 < r.tmod 26 := by have := Int.lt_tmod_of_pos r (show (0 : Int) < 26 by omega); omega
  have hm2 : r.tmod 26 < 26 := Int.tmod_lt_of_pos r (by omega)
  obtain ⟨x, hx⟩ : ∃ x, 65 + r.tmod 26 % 26 = x := ⟨_, rfl⟩
  have hx0 : 65 ≤ x := by omega
  have hx1 : x ≤ 90 := by omega
  obtain ⟨o, p1, p2, p3, p4, p5, p6, p7, p8, p9, p10⟩ := pair_facts x hx0 hx1
  have HO := Lib.hid (orbit_any x)
  rw [p1] at HO
  have HP4 := Lib.hid p4
  have HP5 := Lib.hid p5
  have HP6 := Lib.hid p6
  have HP7 := Lib.hid p7
  have HP8 := Lib.hid p8
  have HP9 := Lib.hid p9
  have HP10 := Lib.hid p10
  clear p1 p4 p5 p6 p7 p8 p9 p10
  have p2i : (2 : Int) ≤ (o.length : Int) := by omega
  have p0i : (0 : Int) < (o.length : Int) := by omega
  have p1i : (1 : Int) < (o.length : Int) := by omega
  have HU := Lib.hid (fun wx L (h : Hold w wx L) => class_named 0 (by decide) w wx L h)
  have HL := Lib.hid (fun wx L (h : Hold w wx L) => class_named 1 (by decide) w wx L h)
  rw [show nameA 0 = ⟨#[76, 117]⟩ by decide +kernel] at HU
  rw [show nameA 1 = ⟨#[76, 108]⟩ by decide +kernel] at HL
  go_enter Try.func6, Try.ntmps6
  go_wp2_with (first
    | (go_at_call 10; refine (speaks_any _).mono ?_; rintro e w1 ⟨rfl, hb1⟩; have hH := (Hold.start w).go hb1)
    | (go_at_call 21; refine (HU.out _ _ hH).mono ?_; clear HU; rintro e w1 ⟨xu, rfl, hH⟩)
    | (go_at_call 21; refine (HL.out _ _ hH).mono ?_; clear HL; rintro e w1 ⟨xl, rfl, hH⟩)
    | (go_at_call 11; refine (HO.out _).mono ?_; rintro e w5 ⟨vo, rfl, ⟨A, c, rfl, _, _, hA⟩, hb5⟩; obtain ⟨b, off, rfl, hbb, hc⟩ := hA.ints_ (by omega); have HC0 := Lib.hid (hc 0 (by omega)); have HC1 := Lib.hid (hc 1 (by omega)); rw [HP4.out] at HC0; rw [HP5.out] at HC1; clear hc hA; have hW5 := (hH.go hb5).1; have hH := (hH.go hb5).base (Below.refl _ _))
    | (go_at_call 13; refine (hold_of (hH.alloc _) (l := [(x, x)]) (IsSeq.new (E := Epair) _ [(x, x)] 29 1 (by simp) (by simp [maxLen])) (by simp)).mono ?_; rintro e w6 ⟨xs, rfl, hH⟩)
    | (go_at_call 14; refine (hold_close hH (by repeat (first | exact List.Mem.head _ | apply List.Mem.tail))).mono ?_; rintro e w6 ⟨xc, rfl, hH⟩)
    | (go_at_call 15; refine (hold_has_eq hH (by repeat (first | exact List.Mem.head _ | apply List.Mem.tail)) _ _ HP6.out).mono ?_; clear HP6; rintro e w7 ⟨rfl, hH⟩)
    | (go_at_call 15; refine (hold_has_eq hH (by repeat (first | exact List.Mem.head _ | apply List.Mem.tail)) _ _ HP7.out).mono ?_; clear HP7; rintro e w7 ⟨rfl, hH⟩)
    | (go_at_call 15; refine (hold_has_eq hH (by repeat (first | exact List.Mem.head _ | apply List.Mem.tail)) _ _ HP8.out).mono ?_; clear HP8; rintro e w7 ⟨rfl, hH⟩; have d0 := (hH.1.cell (p := ⟨b, off + 0, none⟩) hbb).trans HC0.out; have d1 := (hH.1.cell (p := ⟨b, off + 1, none⟩) hbb).trans HC1.out; rw [Nat.add_zero] at d0)
    | (go_at_call 15; refine (hold_has_eq hH (by repeat (first | exact List.Mem.head _ | apply List.Mem.tail)) _ _ HP9.out).mono ?_; clear HP9; rintro e w7 ⟨rfl, hH⟩)
    | (go_at_call 18; refine (hold_size_eq hH (by repeat (first | exact List.Mem.head _ | apply List.Mem.tail)) HP10.out).mono ?_; rintro e w7 ⟨rfl, hH⟩))
  go_ret
  exact ⟨rfl, (Hold.rebase hW5 hH).1⟩

end Go.Proofs.Ytpidgcjioocmhaa
