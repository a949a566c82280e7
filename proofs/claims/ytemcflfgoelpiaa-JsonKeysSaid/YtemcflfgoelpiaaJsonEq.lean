/- The walk of the law's 'equal': the same value, read twice, is equal. -/
import Derived.Test.YtemcflfgoelpiaaJsonV
import Derived.BigQuiet
namespace Go.Proofs.Ytemcflfgoelpiaa
open Go.RowKit

theorem SeqP.strs_ {w : World} {A : Nat → Prop} {ad : Option Addr} {ks : List (List UInt8)} (h : SeqP Estr w A ad (ks.map str)) (hn : 0 < ks.length) :
    ∃ b off, ad = some ⟨b, off, none⟩ ∧ b < w.heap.size ∧ ∀ i (hi : i < ks.length), w.cell? ⟨b, off + i, none⟩ = some (.string (str ks[i])) := by
  obtain ⟨b, off, e, hb, hc⟩ := h.seq.at_ (i := 0) (by simpa using hn)
  refine ⟨b, off, e, hb, fun i hi => ?_⟩
  obtain ⟨b', off', e', _, hc'⟩ := h.seq.at_ (i := i) (by simpa using hi)
  rw [e] at e'
  injection e' with e'
  injection e' with e1 e2
  subst e1; subst e2
  have := hc' 0 (by decide)
  simpa [Estr] using this
theorem SeqP.raws_ {w : World} {A : Nat → Prop} {ad : Option Addr} {rs : List Raw} (h : SeqP Eval w A ad rs) (hn : 0 < rs.length) :
    ∃ b off, ad = some ⟨b, off, none⟩ ∧ b < w.heap.size ∧ ∀ i (hi : i < rs.length), ∀ o, o < 4 → w.cell? ⟨b, off + (i * 4 + o), none⟩ = some (rs[i].cells.getD o undef) := by
  obtain ⟨b, off, e, hb, hc⟩ := h.seq.at_ (i := 0) hn
  refine ⟨b, off, e, hb, fun i hi o ho => ?_⟩
  obtain ⟨b', off', e', _, hc'⟩ := h.seq.at_ (i := i) hi
  rw [e] at e'
  injection e' with e'
  injection e' with e1 e2
  subst e1; subst e2
  exact hc' o ho

/-- What 'equal' holds: its two boxes, and what lies behind them. -/
structure EqS (w wr : World) (N : Nat) (A1 A2 : Nat → Prop) (j : JsonP.J) (r1 r2 : Raw) : Prop where
  bel : Below w.heap.size w wr
  b1 : wr.heap[N]? = some (.cells r1.cells.toArray 37)
  b2 : wr.heap[N + 1]? = some (.cells r2.cells.toArray 37)
  l1 : Lies wr A1 j r1
  l2 : Lies wr A2 j r2
theorem EqS.below {w wr wx : World} {N : Nat} {A1 A2 : Nat → Prop} {j : JsonP.J} {r1 r2 : Raw} (h : EqS w wr N A1 A2 j r1 r2) (k : Below wr.heap.size wr wx) : EqS w wx N A1 A2 j r1 r2 :=
  ⟨h.bel.trans (k.mono h.bel.size), (k.block _ (Array.getElem?_eq_some_iff.1 h.b1).1).trans h.b1, (k.block _ (Array.getElem?_eq_some_iff.1 h.b2).1).trans h.b2, Lies.on (Stand.below k) _ _ h.l1, Lies.on (Stand.below k) _ _ h.l2⟩
theorem EqS.start {w : World} {A1 A2 : Nat → Prop} {j : JsonP.J} {r1 r2 : Raw} (h1 : Lies w A1 j r1) (h2 : Lies w A2 j r2) :
    EqS w ((w.alloc (.cells r1.cells.toArray 37)).alloc (.cells r2.cells.toArray 37)) w.heap.size A1 A2 j r1 r2 := by
  have hb : Below w.heap.size w ((w.alloc (.cells r1.cells.toArray 37)).alloc (.cells r2.cells.toArray 37)) := ((Below.refl _ w).alloc (Nat.le_refl _) _).alloc (by simp) _
  refine ⟨hb, (Below.heap_alloc _ _ _ (by simp)).trans (heap_alloc_new w _), ?_, Lies.on (Stand.below hb) _ _ h1, Lies.on (Stand.below hb) _ _ h2⟩
  have := heap_alloc_new (w.alloc (.cells r1.cells.toArray 37)) (.cells r2.cells.toArray 37)
  simpa using this

set_option maxRecDepth 100000 in
set_option maxHeartbeats 6400000 in
theorem equal_all (n : Nat) : ∀ (j : JsonP.J), SizeOf.sizeOf j ≤ n → ∀ (r1 r2 : Raw) (A1 A2 : Nat → Prop) (w : World), Lies w A1 j r1 → Lies w A2 j r2 →
    Calls Try.prog 13 #[.agg r1.cells.toArray, .agg r2.cells.toArray] w fun e w' => e = .returned (.bool true) ∧ Below w.heap.size w w' := by
  induction n with
  | zero => intro j hj; cases j; simp at hj
  | succ n ih =>
    intro j hj r1 r2 A1 A2 w h1 h2
    have IH := Lib.hid ih
    clear ih
    obtain ⟨k, t, ks, js⟩ := j
    obtain ⟨rk1, rt1, ra1, rn1, rc1, rb1, rm1, rd1⟩ := r1
    obtain ⟨rk2, rt2, ra2, rn2, rc2, rb2, rm2, rd2⟩ := r2
    have HS0 := Lib.hid (EqS.start h1 h2)
    have HJ : Hid (∀ x ∈ js, SizeOf.sizeOf x ≤ n) := Lib.hid fun x hx => by
      have := List.sizeOf_lt_of_mem hx
      simp at hj
      omega
    unfold Lies at h1 h2
    obtain ⟨e1, e2, e3, e5, e6, _, e4, e7, e8, _⟩ := h1
    obtain ⟨g1, g2, g3, _, _, _, g4, _⟩ := h2
    simp only at e1 e2 e3 e4 g1 g2 g3 g4 e5 e6 e7 e8
    subst e1; subst e2; subst e3; subst e4; subst g1; subst g2; subst g3; subst g4
    obtain ⟨tt, htt⟩ : ∃ tt, str t = tt := ⟨_, rfl⟩
    rw [htt] at HS0 ⊢
    obtain ⟨kn, hkn⟩ : ∃ kn, ks.length = kn := ⟨_, rfl⟩
    obtain ⟨jn, hjn⟩ : ∃ jn, js.length = jn := ⟨_, rfl⟩
    have HKn := Lib.hid hkn
    have HJn := Lib.hid hjn
    rw [hkn, hjn] at HS0 ⊢
    have hkb : (kn : Int) ≤ 9223372036854775807 := by unfold maxLen at *; omega
    have hjb : (jn : Int) ≤ 9223372036854775807 := by unfold maxLen at *; omega
    simp only [Raw.cells] at HS0 ⊢
    clear hj htt hkn hjn e5 e6 e7 e8
    go_enter Try.func13, Try.ntmps13
    go_upto_region 3 with fail
    generalize (w.alloc (.cells #[.int .i64 (k : Int), .string tt, .slice ra1 kn rc1, .slice rb1 jn rd1] 37)).alloc (.cells #[.int .i64 (k : Int), .string tt, .slice ra2 kn rc2, .slice rb2 jn rd2] 37) = W at HS0 ⊢
    obtain ⟨N, hN⟩ : ∃ N, w.heap.size = N := ⟨_, rfl⟩
    rw [hN] at HS0 ⊢
    have HN := Lib.hid hN
    clear hN
    go_wp2_with fail
    go_loopw [5] (fun s5 wr => ∃ i : Nat, i ≤ kn ∧ s5 = .int .i64 i ∧ Hid (EqS w wr N A1 A2 (.mk k t ks js) ⟨k, tt, ra1, kn, rc1, rb1, jn, rd1⟩ ⟨k, tt, ra2, kn, rc2, rb2, jn, rd2⟩)) (fun s5 _ => kn + 1 - (intOf s5).toNat)
    case atStart => exact ⟨0, Nat.zero_le _, rfl, HS0⟩
    case round =>
      obtain ⟨i, hi, rfl, HS⟩ := hrel
      have c2 : ∀ o, wr.cell? ⟨N + 1, o, none⟩ = #[Value.int .i64 k, .string tt, .slice ra2 kn rc2, .slice rb2 jn rd2][o]? := fun o => Lib.cell_of_heap HS.out.b2 o
      by_cases hlt : i < kn
      · have hii : (i : Int) < (kn : Int) := by omega
        have hi0 : (0 : Int) ≤ (i : Int) := by omega
        have hl1 := HS.out.l1
        have hl2 := HS.out.l2
        unfold Lies at hl1 hl2
        obtain ⟨-, -, -, -, -, s1, -⟩ := hl1
        obtain ⟨-, -, -, -, -, s2, -⟩ := hl2
        obtain ⟨p1, o1, rfl, q1, x1⟩ := s1.strs_ (by rw [HKn.out]; omega)
        obtain ⟨p2, o2, rfl, q2, x2⟩ := s2.strs_ (by rw [HKn.out]; omega)
        have y1 := x1 i (by rw [HKn.out]; exact hlt)
        have y2 := x2 i (by rw [HKn.out]; exact hlt)
        obtain ⟨y, hy⟩ : ∃ y, str (ks[i]'(by rw [HKn.out]; exact hlt)) = y := ⟨_, rfl⟩
        rw [hy] at y1 y2
        have zN := (Array.getElem?_eq_some_iff.1 HS.out.b2).1
        clear hy x1 x2 s1 s2
        go_upto_region 6 with fail
        go_cut [54] (fun s54 wx => s54 = .bool false ∧ Below wr.heap.size wr wx)
        case first =>
          have l1 : ∀ (x : Later wr) o, x.here.cell? ⟨N, o, none⟩ = #[Value.int .i64 k, .string tt, .slice (some ⟨p1, o1, none⟩) kn rc1, .slice rb1 jn rd1][o]? := fun x o => (x.below.cell (p := ⟨N, o, none⟩) (by show N < _; omega)).trans (Lib.cell_of_heap HS.out.b1 o)
          have l2 : ∀ (x : Later wr) o, x.here.cell? ⟨N + 1, o, none⟩ = #[Value.int .i64 k, .string tt, .slice (some ⟨p2, o2, none⟩) kn rc2, .slice rb2 jn rd2][o]? := fun x o => (x.below.cell (p := ⟨N + 1, o, none⟩) zN).trans (Lib.cell_of_heap HS.out.b2 o)
          have l3 : ∀ (x : Later wr), x.here.cell? ⟨p1, o1 + i, none⟩ = some (.string y) := fun x => (x.below.cell (p := ⟨p1, o1 + i, none⟩) q1).trans y1
          have l4 : ∀ (x : Later wr), x.here.cell? ⟨p2, o2 + i, none⟩ = some (.string y) := fun x => (x.below.cell (p := ⟨p2, o2 + i, none⟩) q2).trans y2
          clear y1 y2 c2
          refine wp_region_later (by kernel_rfl) (by kernel_rfl) ?_
          repeat (any_goals (first
            | go_big_quiet_step (fail)
            | quiet_step (fail)))
          all_goals
            refine wpQuiet_nil ?_
            first | rintro _ ⟨⟨wx, hbx⟩, rfl⟩ | (rintro ⟨wx, hbx⟩)
            go_wp2
            go_meet
            exact ⟨rfl, hbx⟩
        case rest =>
          obtain ⟨rfl, hbx⟩ := hcut
          have HS2 := Lib.hid (HS.out.below hbx)
          clear hbx y1 y2 c2
          go_wp2
          exact ⟨⟨i + 1, by omega, by simp, HS2⟩, by simp only [intOf]; omega⟩
      · obtain rfl : i = kn := by omega
        have hii : ¬ (i : Int) < (i : Int) := by omega
        have HJE : Hid (EqS w wr N A1 A2 (.mk k t ks js) ⟨k, tt, ra1, i, rc1, rb1, jn, rd1⟩ ⟨k, tt, ra2, i, rc2, rb2, jn, rd2⟩) := HS
        clear HS
        go_upto_region 8 with fail
        clear c2 hii hi
        go_wp2_with fail
        go_loopw [6] (fun s6 wr => ∃ l : Nat, l ≤ jn ∧ s6 = .int .i64 l ∧ Hid (EqS w wr N A1 A2 (.mk k t ks js) ⟨k, tt, ra1, i, rc1, rb1, jn, rd1⟩ ⟨k, tt, ra2, i, rc2, rb2, jn, rd2⟩)) (fun s6 _ => jn + 1 - (intOf s6).toNat)
        case atStart => exact ⟨0, Nat.zero_le _, rfl, HJE⟩
        case round =>
          obtain ⟨l, hl, rfl, HS⟩ := hrel
          clear HJE
          have c2 : ∀ o, wr.cell? ⟨N + 1, o, none⟩ = #[Value.int .i64 k, .string tt, .slice ra2 i rc2, .slice rb2 jn rd2][o]? := fun o => Lib.cell_of_heap HS.out.b2 o
          by_cases hlt : l < jn
          · have hii : (l : Int) < (jn : Int) := by omega
            have hi0 : (0 : Int) ≤ (l : Int) := by omega
            have hl1 := HS.out.l1
            have hl2 := HS.out.l2
            unfold Lies at hl1 hl2
            obtain ⟨-, -, -, -, -, -, -, -, -, rs1, n1, s1, m1⟩ := hl1
            obtain ⟨-, -, -, -, -, -, -, -, -, rs2, n2, s2, m2⟩ := hl2
            have hlj : l < js.length := by rw [HJn.out]; exact hlt
            obtain ⟨p1, o1, rfl, q1, x1⟩ := s1.raws_ (by rw [n1]; omega)
            obtain ⟨p2, o2, rfl, q2, x2⟩ := s2.raws_ (by rw [n2]; omega)
            have y1 := x1 l (by rw [n1]; exact hlj)
            have y2 := x2 l (by rw [n2]; exact hlj)
            have k1 := LiesL.at_ js rs1 l hlj (by rw [n1]; exact hlj) m1
            have k2 := LiesL.at_ js rs2 l hlj (by rw [n2]; exact hlj) m2
            obtain ⟨z1, hz1⟩ : ∃ z, rs1[l]'(by rw [n1]; exact hlj) = z := ⟨_, rfl⟩
            obtain ⟨z2, hz2⟩ : ∃ z, rs2[l]'(by rw [n2]; exact hlj) = z := ⟨_, rfl⟩
            rw [hz1] at y1 k1
            rw [hz2] at y2 k2
            have HC : Hid (∀ wx, Below wr.heap.size wr wx → Calls Try.prog 13 #[.agg z1.cells.toArray, .agg z2.cells.toArray] wx fun e w' => e = .returned (.bool true) ∧ Below wx.heap.size wx w') := Lib.hid fun wx hb =>
              IH.out _ (HJ.out _ (List.getElem_mem hlj)) z1 z2 A1 A2 wx (Lies.on (Stand.below hb) _ _ k1) (Lies.on (Stand.below hb) _ _ k2)
            obtain ⟨a1, a2, a3, a4, a5, a6, a7, a8⟩ := z1
            obtain ⟨d1, d2, d3, d4, d5, d6, d7, d8⟩ := z2
            have zN := (Array.getElem?_eq_some_iff.1 HS.out.b2).1
            simp only [Raw.cells] at HC
            clear x1 x2 s1 s2 m1 m2 k1 k2 hz1 hz2 hlj n1 n2
            go_upto_region 11 with fail
            go_cut [73] (fun s73 wx => s73 = .bool false ∧ Below wr.heap.size wr wx)
            case first =>
              have l1 : ∀ (x : Later wr) o, x.here.cell? ⟨N, o, none⟩ = #[Value.int .i64 k, .string tt, .slice ra1 i rc1, .slice (some ⟨p1, o1, none⟩) jn rd1][o]? := fun x o => (x.below.cell (p := ⟨N, o, none⟩) (by show N < _; omega)).trans (Lib.cell_of_heap HS.out.b1 o)
              have l2 : ∀ (x : Later wr) o, x.here.cell? ⟨N + 1, o, none⟩ = #[Value.int .i64 k, .string tt, .slice ra2 i rc2, .slice (some ⟨p2, o2, none⟩) jn rd2][o]? := fun x o => (x.below.cell (p := ⟨N + 1, o, none⟩) zN).trans (Lib.cell_of_heap HS.out.b2 o)
              have l3 : ∀ (x : Later wr), x.here.cell? ⟨p1, o1 + l * 4, none⟩ = some (.int .i64 a1) := fun x => (x.below.cell (p := ⟨p1, o1 + l * 4, none⟩) q1).trans (y1 0 (by decide))
              have l4 : ∀ (x : Later wr), x.here.cell? ⟨p1, o1 + l * 4 + 1, none⟩ = some (.string a2) := fun x => (x.below.cell (p := ⟨p1, o1 + l * 4 + 1, none⟩) q1).trans (y1 1 (by decide))
              have l5 : ∀ (x : Later wr), x.here.cell? ⟨p1, o1 + l * 4 + 2, none⟩ = some (.slice a3 a4 a5) := fun x => (x.below.cell (p := ⟨p1, o1 + l * 4 + 2, none⟩) q1).trans (y1 2 (by decide))
              have l6 : ∀ (x : Later wr), x.here.cell? ⟨p1, o1 + l * 4 + 3, none⟩ = some (.slice a6 a7 a8) := fun x => (x.below.cell (p := ⟨p1, o1 + l * 4 + 3, none⟩) q1).trans (y1 3 (by decide))
              have m3 : ∀ (x : Later wr), x.here.cell? ⟨p2, o2 + l * 4, none⟩ = some (.int .i64 d1) := fun x => (x.below.cell (p := ⟨p2, o2 + l * 4, none⟩) q2).trans (y2 0 (by decide))
              have m4 : ∀ (x : Later wr), x.here.cell? ⟨p2, o2 + l * 4 + 1, none⟩ = some (.string d2) := fun x => (x.below.cell (p := ⟨p2, o2 + l * 4 + 1, none⟩) q2).trans (y2 1 (by decide))
              have m5 : ∀ (x : Later wr), x.here.cell? ⟨p2, o2 + l * 4 + 2, none⟩ = some (.slice d3 d4 d5) := fun x => (x.below.cell (p := ⟨p2, o2 + l * 4 + 2, none⟩) q2).trans (y2 2 (by decide))
              have m6 : ∀ (x : Later wr), x.here.cell? ⟨p2, o2 + l * 4 + 3, none⟩ = some (.slice d6 d7 d8) := fun x => (x.below.cell (p := ⟨p2, o2 + l * 4 + 3, none⟩) q2).trans (y2 3 (by decide))
              clear y1 y2 c2
              refine wp_region_later (by kernel_rfl) (by kernel_rfl) ?_
              repeat (any_goals (first
                | go_big_quiet_step ((go_at_call 13; exact later_of (HC.out _ (Later.below _))))
                | quiet_step ((go_at_call 13; exact later_of (HC.out _ (Later.below _))))))
              all_goals
                refine wpQuiet_nil ?_
                first | rintro _ ⟨⟨wx, hbx⟩, rfl⟩ | (rintro ⟨wx, hbx⟩)
                go_wp2
                go_meet
                exact ⟨rfl, hbx⟩
            case rest =>
              obtain ⟨rfl, hbx⟩ := hcut
              have HS2 := Lib.hid (HS.out.below hbx)
              clear hbx y1 y2 c2
              go_wp2
              exact ⟨⟨l + 1, by omega, by simp, HS2⟩, by simp only [intOf]; omega⟩
          · obtain rfl : l = jn := by omega
            have hii : ¬ (l : Int) < (l : Int) := by omega
            go_wp2
            go_ret
            exact ⟨rfl, HS.out.bel⟩

end Go.Proofs.Ytemcflfgoelpiaa
