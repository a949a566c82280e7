/- The tops: the walk of the law TopClasses. -/
import Derived.Test.YtmmmcfflhlkiiaaZc26
import Derived.Test.YtmmmcfflhlkiiaaZc27
import Derived.Test.YtmmmcfflhlkiiaaZc2
import Derived.Deep.RegionWith
namespace Go.Proofs.Ytmmmcfflhlkiiaa
open Go.Shelf Go.RowKit SetPure

set_option maxRecDepth 100000 in
set_option maxHeartbeats 1600000 in
theorem topHex_any (f : Nat) : f ≤ 5 → ∀ (n : Nat), n < 16 ^ (f + 1) → n ≤ 1114111 → ∀ w : World, Calls Try.prog 6 #[.int .i64 n] w fun e w' => e = .returned (.string (str (hexB f n))) ∧ Below w.heap.size w w' := by
  induction f with
  | zero =>
    intro _ n hn hn2 w
    have h16 : n < 16 := by simpa using hn
    have hx := d16_at n h16
    unfold D16 at hx
    have hz1 : (n : Int) < 16 := by omega
    have hz0 : (0 : Int) ≤ (n : Int) := by omega
    show Calls _ _ _ _ fun e w' => e = .returned (.string (str [hexDB n])) ∧ _
    obtain ⟨S, hS⟩ : ∃ S, str [hexDB n] = S := ⟨_, rfl⟩
    rw [hS] at hx ⊢
    clear hS hn hn2
    go_enter Try.func6, Try.ntmps6
    go_wp2_with fail
    go_ret
    exact ⟨rfl, Below.refl _ _⟩
  | succ f ih =>
    intro hf n hn hn2 w
    by_cases h16 : n < 16
    · have hx := d16_at n h16
      unfold D16 at hx
      have hz1 : (n : Int) < 16 := by omega
      have hz0 : (0 : Int) ≤ (n : Int) := by omega
      unfold hexB
      rw [if_pos h16]
      obtain ⟨S, hS⟩ : ∃ S, str [hexDB n] = S := ⟨_, rfl⟩
      rw [hS] at hx ⊢
      clear hS hn hn2 ih
      go_enter Try.func6, Try.ntmps6
      go_wp2_with fail
      go_ret
      exact ⟨rfl, Below.refl _ _⟩
    · unfold hexB
      rw [if_neg h16, ← str_app_]
      have HQ := Lib.hid (fun w => ih (by omega) (n / 16) (by rw [Nat.div_lt_iff_lt_mul (by decide)]; exact hn) (by omega) w)
      have hl := hexB_len f (n / 16)
      obtain ⟨z, hz⟩ : ∃ z : Int, (n : Int) = z := ⟨_, rfl⟩
      obtain ⟨q, hq⟩ : ∃ q : Nat, n / 16 = q := ⟨_, rfl⟩
      obtain ⟨m, hm⟩ : ∃ m : Nat, n % 16 = m := ⟨_, rfl⟩
      have hm1 : m < 16 := by omega
      have hx := d16_at m hm1
      unfold D16 at hx
      rw [hq] at HQ hl ⊢
      rw [hm]
      obtain ⟨S1, hS1⟩ : ∃ S1, str (hexB f q) = S1 := ⟨_, rfl⟩
      obtain ⟨S2, hS2⟩ : ∃ S2, str [hexDB m] = S2 := ⟨_, rfl⟩
      have hs1 : S1.size ≤ 6 := by rw [← hS1, str_size_]; omega
      have hs2 : S2.size = 1 := by rw [← hS2, str_size_]; rfl
      rw [hS1] at HQ ⊢
      rw [hS2] at hx ⊢
      rw [hz]
      have e1 : IntKind.i64.wrap (z.tdiv 16) = (q : Int) := by rw [IntWalk.i64_quo z 16 (by omega)]; omega
      have e3 : z.tmod 16 = (m : Int) := by rw [IntWalk.rem_in z 16 (by omega)]; omega
      have hz16 : 16 ≤ z := by omega
      have hm0 : (0 : Int) ≤ (m : Int) := by omega
      have hm2 : (m : Int) < 16 := by omega
      have hs3 : S1.size + S2.size ≤ 9223372036854775807 := by omega
      have w1 : IntKind.i64.wrap ((m : Int) + 1) = (m : Int) + 1 := by rw [IntKind.wrap_i64]; omega
      have w2 : (m : Int) + 1 ≤ 16 := by omega
      have w3 : (m : Int) ≤ (m : Int) + 1 := by omega
      have w4 : (0 : Int) ≤ (m : Int) + 1 := by omega
      have w5 : ((m : Int) + 1).toNat = m + 1 := by omega
      clear ih hf hn hn2 h16 hl hz hq hm hS1 hS2 hs2
      go_enter Try.func6, Try.ntmps6
      go_wp2_with fail
      go_region_with (go_at_call 6; refine (HQ.out _).mono ?_; rintro e w1 ⟨rfl, hb1⟩)
      all_goals
        go_wp2
        go_ret
        exact ⟨rfl, below_of_drew_ hb1⟩


/-- An item's bytes. -/
def itB : SynP.It → List UInt8
  | .num r => [92, 120, 123] ++ hexB 5 r ++ [125]
  | .per c => [92, UInt8.ofNat c.toNat]
def itsB (l : List SynP.It) : List UInt8 := l.flatMap itB
theorem nat_it (x : SynP.It) (h : x.good perlT) : nat_ (itB x) = x.text ∧ (∀ c ∈ itB x, c.toNat < 128) ∧ (itB x).length ≤ 10 := by
  cases x with
  | num r =>
    have hr : r ≤ 1114111 := h
    refine ⟨?_, ?_, ?_⟩
    · show nat_ ([92, 120, 123] ++ hexB 5 r ++ [125]) = _
      rw [nat_app_, nat_app_, nat_hexB 5 r (by omega)]
      rfl
    · intro c hc
      rcases List.mem_append.1 hc with hc | hc
      · rcases List.mem_append.1 hc with hc | hc
        · exact (by decide : ∀ c ∈ ([92, 120, 123] : List UInt8), c.toNat < 128) c hc
        · exact hexB_asc 5 r (by omega) c hc
      · exact (by decide : ∀ c ∈ ([125] : List UInt8), c.toNat < 128) c hc
    · have := hexB_len 5 r
      show ([92, 120, 123] ++ hexB 5 r ++ [125]).length ≤ 10
      simp only [List.length_append, List.length_cons, List.length_nil]
      omega
  | per c =>
    obtain ⟨h1, h2, _⟩ := h
    refine ⟨?_, ?_, by show 2 ≤ 10; decide⟩
    · show nat_ [92, UInt8.ofNat c.toNat] = [92, c]
      unfold nat_
      simp only [List.map_cons, List.map_nil, UInt8.toNat_ofNat']
      congr 1
      congr 1
      omega
    · intro d hd
      have hd2 : d = 92 ∨ d = UInt8.ofNat c.toNat := by simpa [itB] using hd
      rcases hd2 with rfl | rfl
      · decide
      · rw [UInt8.toNat_ofNat']; omega
theorem nat_its : ∀ (l : List SynP.It), (∀ x ∈ l, x.good perlT) → nat_ (itsB l) = SynP.itsT l ∧ (∀ c ∈ itsB l, c.toNat < 128) ∧ (itsB l).length ≤ 10 * l.length
  | [], _ => ⟨rfl, (fun c hc => by cases hc), Nat.le_refl _⟩
  | x :: l, h => by
    obtain ⟨a1, a2, a3⟩ := nat_it x (h x List.mem_cons_self)
    obtain ⟨b1, b2, b3⟩ := nat_its l fun y hy => h y (List.mem_cons_of_mem _ hy)
    refine ⟨?_, ?_, ?_⟩
    · show nat_ (itB x ++ itsB l) = x.text ++ SynP.itsT l
      rw [nat_app_, a1, b1]
    · intro c hc
      rcases List.mem_append.1 (show c ∈ itB x ++ itsB l from hc) with hc | hc
      · exact a2 c hc
      · exact b2 c hc
    · show (itB x ++ itsB l).length ≤ _
      rw [List.length_append, List.length_cons]
      omega
/-- The text so far. -/
def tcB (no : Bool) (l : List SynP.It) : List UInt8 := (if no then [91, 94] else [91]) ++ itsB l
theorem tcB_add (no : Bool) (l : List SynP.It) (x : SynP.It) : str (tcB no l) ++ str (itB x) = str (tcB no (l ++ [x])) := by
  rw [str_app_]
  unfold tcB itsB
  rw [List.flatMap_append, List.append_assoc]
  simp
theorem itsF_add (l : List SynP.It) (x : SynP.It) (z : Int) : SynP.itsF perlT (l ++ [x]) z = (SynP.itsF perlT l z || x.test perlT z) := by
  unfold SynP.itsF
  simp
theorem tcB_len (no : Bool) (l : List SynP.It) (h : ∀ x ∈ l, x.good perlT) : (str (tcB no l)).size ≤ 2 + 10 * l.length := by
  rw [str_size_]
  unfold tcB
  have := (nat_its l h).2.2
  cases no <;> simp <;> omega
theorem perl_good (c : Int) (h : (perlT c).isSome = true) : (SynP.It.per c).good perlT := by
  have h6 : c = 100 ∨ c = 68 ∨ c = 115 ∨ c = 83 ∨ c = 119 ∨ c = 87 := by
    unfold perlT at h
    by_cases h1 : c = 100; · exact .inl h1
    by_cases h2 : c = 68; · exact .inr (.inl h2)
    by_cases h3 : c = 115; · exact .inr (.inr (.inl h3))
    by_cases h4 : c = 83; · exact .inr (.inr (.inr (.inl h4)))
    by_cases h5 : c = 119; · exact .inr (.inr (.inr (.inr (.inl h5))))
    by_cases h7 : c = 87; · exact .inr (.inr (.inr (.inr (.inr h7))))
    rw [if_neg h1, if_neg h2, if_neg h3, if_neg h4, if_neg h5, if_neg h7] at h
    cases h
  exact ⟨by omega, by omega, by omega, by omega, by omega, h⟩

theorem tc_parse : SynP.parse (nat_ [91, 97, 98, 93]) clsT perlT f0 = .ok (some (.cls (fun z => (false || SynP.one 97 z) || SynP.one 98 z) false), ⟨4, [], [[]], f0⟩) := by kernel_rfl
/-- What Parse tells of a class' text. -/
def ClsEnd (f : Int → Bool) (w : World) (e : Ending) (w' : World) : Prop := Below w.heap.size w w' ∧
  ∃ (x : Option Addr) (n c : Nat) (r4 : Bool) (r5 r6 : Int) (r7 : Bool) (r8 : Int) (r9 : ByteArray) (ra : Option Addr) (rb rc : Nat) (A : Option Addr) (k : Nat), e = .returned (.tuple #[.agg #[.int .i64 1, .slice x n c, .bool r4, .int .i64 r5, .int .i64 r6, .bool r7, .int .i64 r8, .string r9, .slice ra rb rc, .slice A 1 k], .agg #[.int .i64 0, .int .i64 0]]) ∧ SetV w' (.slice x n c) f
theorem cls_end (l : List UInt8) (f : Int → Bool) (m : Nat) (ha : ∀ c ∈ l, c.toNat < 128) (hl : l.length ≤ 1024) (hp : SynP.parse (nat_ l) clsT perlT f0 = .ok (some (.cls f false), ⟨m, [], [[]], f0⟩)) (w : World) :
    Calls Try.prog 4 #[.string (str l), .agg #[.bool false, .bool false, .bool false, .bool false]] w (ClsEnd f w) := by
  refine (parse_any (str l) f0 w).mono fun e w' h => ?_
  rw [parseT_asc _ _ ha hl, hp] at h
  obtain ⟨hb, r, A, c, rfl, hl, _, _, _⟩ := h
  refine ⟨hb, ?_⟩
  unfold SynP.Nd.cls Lies at hl
  obtain ⟨e1, e2, _⟩ := hl
  obtain ⟨r0, r1, r2, r3, r4, r5, r6, r7, r8, r9, ra, rb, rc⟩ := r
  simp only at e1 e2
  subst e1
  exact ⟨_, _, _, _, _, _, _, _, _, _, _, _, _, _, rfl, e2⟩
theorem tc_call (no : Bool) (l : List SynP.It) (hl : l ≠ []) (hg : ∀ x ∈ l, x.good perlT) (hn : l.length ≤ 50) (w : World) :
    Calls Try.prog 4 #[.string (str (tcB no l) ++ ⟨#[93]⟩), .agg #[.bool false, .bool false, .bool false, .bool false]] w (ClsEnd (fun z => SynP.itsF perlT l z != no) w) := by
  obtain ⟨h1, h2, h3⟩ := nat_its l hg
  have e : str (tcB no l) ++ ⟨#[93]⟩ = str (tcB no l ++ [93]) := str_app_ _ _
  have hrs : nat_ (tcB no l ++ [93]) = SynP.clsText no l := by
    unfold tcB SynP.clsText
    rw [nat_app_, nat_app_, h1]
    cases no <;> simp [nat_]
  rw [e]
  refine cls_end _ _ _ ?_ ?_ (SynP.class_parse no l hl hg hrs) w
  · intro c hc
    unfold tcB at hc
    rcases List.mem_append.1 hc with hc | hc
    · rcases List.mem_append.1 hc with hc | hc
      · cases no with
        | true => exact (by decide : ∀ c ∈ ([91, 94] : List UInt8), c.toNat < 128) c hc
        | false => exact (by decide : ∀ c ∈ ([91] : List UInt8), c.toNat < 128) c hc
      · exact h2 c hc
    · exact (by decide : ∀ c ∈ ([93] : List UInt8), c.toNat < 128) c hc
  · unfold tcB
    simp only [List.length_append, List.length_cons, List.length_nil]
    cases no <;> simp <;> omega

theorem its_num (no : Bool) (l : List SynP.It) (r : Nat) : str (tcB no l) ++ (⟨#[92, 120, 123]⟩ ++ str (hexB 5 r) ++ ⟨#[125]⟩) = str (tcB no (l ++ [.num r])) := by
  rw [← tcB_add]
  have e : (⟨#[92, 120, 123]⟩ ++ str (hexB 5 r) ++ ⟨#[125]⟩ : ByteArray) = str (itB (.num r)) := by
    show str [92, 120, 123] ++ str (hexB 5 r) ++ str [125] = str ([92, 120, 123] ++ hexB 5 r ++ [125])
    rw [str_app_, str_app_]
  rw [e]
theorem its_per (no : Bool) (l : List SynP.It) (c : Int) : str (tcB no l) ++ (⟨#[92]⟩ ++ strOfNums [c]) = str (tcB no (l ++ [.per c])) := by
  rw [← tcB_add]
  have e : (⟨#[92]⟩ ++ strOfNums [c] : ByteArray) = str (itB (.per c)) := by
    show str [92] ++ str [UInt8.ofNat c.toNat] = str [92, UInt8.ofNat c.toNat]
    rw [str_app_]
    rfl
  rw [e]
theorem good_add {l : List SynP.It} {x : SynP.It} (h : ∀ y ∈ l, y.good perlT) (hx : x.good perlT) : ∀ y ∈ l ++ [x], y.good perlT := by
  intro y hy
  rcases List.mem_append.1 hy with hy | hy
  · exact h y hy
  · rw [List.mem_singleton.1 hy]; exact hx
theorem same_new {w : World} {v u : Value} {f g : Int → Bool} (h : SetV w v f) (k : SetV w u g) (e : ∀ z, f z = g z) : Calls Try.prog 11 #[v, u] w fun e w' => e = .returned (.bool true) ∧ Below w.heap.size w w' :=
  (hold_same (h.hold.add (Below.refl _ w) k) (List.Mem.tail _ (List.Mem.head _)) (List.Mem.head _) (fun z _ => by rw [e z])).mono fun _ _ h => ⟨h.1, h.2.1⟩

theorem PatS.all_ {w W : World} {P : Nat} {a0 a1 a2 a3 a4 a5 a6 a7 a8 a9 c0 c1 : Value} (h : PatS w W P #[a0, a1, a2, a3, a4, a5, a6, a7, a8, a9] #[c0, c1]) (b0 b1 b2 b3 b4 b5 b6 b7 b8 b9 d0 d1 : Value) :
    ∃ W', W' = ((((((((((((W.setCell ⟨P, 0, none⟩ b0).setCell ⟨P, 1, none⟩ b1).setCell ⟨P, 2, none⟩ b2).setCell ⟨P, 3, none⟩ b3).setCell ⟨P, 4, none⟩ b4).setCell ⟨P, 5, none⟩ b5).setCell ⟨P, 6, none⟩ b6).setCell ⟨P, 7, none⟩ b7).setCell ⟨P, 8, none⟩ b8).setCell ⟨P, 9, none⟩ b9).setCell ⟨P + 1, 0, none⟩ d0).setCell ⟨P + 1, 1, none⟩ d1) ∧ PatS w W' P #[b0, b1, b2, b3, b4, b5, b6, b7, b8, b9] #[d0, d1] ∧ KeepR W W' :=
  ⟨_, rfl, h.all b0 b1 b2 b3 b4 b5 b6 b7 b8 b9 d0 d1⟩
set_option maxRecDepth 100000 in
set_option maxHeartbeats 6400000 in
theorem law_classes (A0 A1 : Option Addr) (c0 c1 : Nat) (l0 l1 : List Int) (no : Bool) (w : World) (_n0 : l0.length ≤ 9223372036854775807) (_n1 : l1.length ≤ 9223372036854775807) (h0 : SeqAt Eint w w.heap.size A0 l0) (h1 : SeqAt Ebyte w w.heap.size A1 l1) (hb : ∀ x ∈ l1, 0 ≤ x ∧ x ≤ 255) :
    Calls Try.prog 3 #[.slice A0 l0.length c0, .slice A1 l1.length c1, .bool no] w fun e w' => e = .returned (.bool true) ∧ Below w.heap.size w w' := by
  have H0 := Lib.hid h0
  have H1 := Lib.hid h1
  have HB := Lib.hid hb
  have HP1 : Hid (∀ w, Calls Try.prog 4 #[.string ⟨#[91, 97, 98, 93]⟩, .agg #[.bool false, .bool false, .bool false, .bool false]] w (ClsEnd (fun z => (false || SynP.one 97 z) || SynP.one 98 z) w)) := Lib.hid fun w => cls_end [91, 97, 98, 93] _ 4 (by decide) (by decide) tc_parse w
  have hfe := faultEq_same 0 0
  have T0 : Hid True := Lib.hid trivial
  clear h0 h1 hb
  go_enter Try.func3, Try.ntmps3
  go_upto_region 2 with (go_at_call 4; refine (HP1.out _).mono ?_; rintro e w2 ⟨hb2, x, n, c, r4, r5, r6, r7, r8, r9, ra, rb, rc, A, k, rfl, hv2⟩; have HB2 := Lib.hid hb2; have HV2 := Lib.hid hv2; clear hb2 hv2)
  obtain ⟨P, hP⟩ : ∃ P, w2.heap.size = P := ⟨_, rfl⟩
  have hps := PatS.start (pc := #[.int .i64 1, .slice x n c, .bool r4, .int .i64 r5, .int .i64 r6, .bool r7, .int .i64 r8, .string r9, .slice ra rb rc, .slice A 1 k]) (fc := #[.int .i64 0, .int .i64 0]) HB2.out hP
  have hv3 := HV2.out.on (KeepR.below (below_two w2 (.cells #[.int .i64 1, .slice x n c, .bool r4, .int .i64 r5, .int .i64 r6, .bool r7, .int .i64 r8, .string r9, .slice ra rb rc, .slice A 1 k] 31) (.cells #[.int .i64 0, .int .i64 0] 34)))
  rw [hP]
  generalize (w2.alloc (.cells #[.int .i64 1, .slice x n c, .bool r4, .int .i64 r5, .int .i64 r6, .bool r7, .int .i64 r8, .string r9, .slice ra rb rc, .slice A 1 k] 31)).alloc (.cells #[.int .i64 0, .int .i64 0] 34) = W3 at hps hv3 ⊢
  have HS3 := Lib.hid hps
  have HV3 := Lib.hid hv3
  have hcP := HS3.out.pcell
  have hcF := HS3.out.fcell
  clear hps hv3 hP HB2 HV2 HP1
  go_upto_region 4 with (go_at_call 5; first
    | (clear T0; refine (HV3.out.has_ 98 true (by decide)).mono ?_; rintro e w4 ⟨rfl, hb4⟩; have HS4 := Lib.hid (HS3.out.below hb4); have HV4 := Lib.hid (HV3.out.on (KeepR.below hb4)); clear hb4; replace hcP := HS4.out.pcell)
    | (refine (HV4.out.has_ 99 false (by decide)).mono ?_; rintro e w5 ⟨rfl, hb5⟩; have HS2 := Lib.hid (HS4.out.below hb5); clear hb5))
  clear hcP hcF HS3 HV3 HS4 HV4
  cases no with
  | false =>
      go_wp2_with fail
      go_loopw [9, 10, 11, 12] (fun s9 s10 s11 s12 wr => ∃ (i : Nat) (its : List SynP.It), i ≤ 40 ∧ its.length ≤ i ∧ s12 = .int .i64 i ∧ s11 = .int .i64 its.length ∧ s9 = .string (str (tcB false its)) ∧ Hid (∀ x ∈ its, x.good perlT) ∧ Hid (SetV wr s10 (SynP.itsF perlT its)) ∧ Hid (PatS w wr P #[.int .i64 1, .slice x n c, .bool r4, .int .i64 r5, .int .i64 r6, .bool r7, .int .i64 r8, .string r9, .slice ra rb rc, .slice A 1 k] #[.int .i64 0, .int .i64 0])) (fun _ _ _ s12 _ => 41 - (intOf s12).toNat)
      case atStart => exact ⟨0, [], by omega, Nat.le_refl _, rfl, rfl, rfl, Lib.hid (fun x hx => by cases hx), Lib.hid (SetV.nil_ _), HS2⟩
      case round =>
        obtain ⟨i, its, hi, hil, rfl, rfl, rfl, HG, HV, HS⟩ := hrel
        have hlen := tcB_len false its HG.out
        by_cases hc : i < l0.length ∧ i < 40
        · obtain ⟨hc1, hc2⟩ := hc
          obtain ⟨b, off, hA, hlb, hcell⟩ := (H0.out.below HS.out.bel).int_ hc1
          have hii : decide ((i : Int) < (l0.length : Int)) = true := decide_eq_true (by omega)
          have hii1 : (i : Int) < (l0.length : Int) := by omega
          have hi40 : decide ((i : Int) < 40) = true := decide_eq_true (by omega)
          have hi0 : (0 : Int) ≤ (i : Int) := by omega
          subst hA
          obtain ⟨r, hr⟩ : ∃ r, l0[i] = r := ⟨_, rfl⟩
          rw [hr] at hcell
          clear hr
          by_cases hr0 : r < 0
          · have d1 : decide (r < 0) = true := decide_eq_true hr0
            go_wp2_with fail
            go_roundw
            case rel => exact ⟨i + 1, its, by omega, by omega, by go_num, rfl, rfl, HG, HV, HS⟩
            case measure => simp only [intOf]; omega
          have d1 : decide (r < 0) = false := decide_eq_false hr0
          by_cases hr1 : 1114111 < r
          · have d2 : decide (1114111 < r) = true := decide_eq_true hr1
            go_wp2_with fail
            go_roundw
            case rel => exact ⟨i + 1, its, by omega, by omega, by go_num, rfl, rfl, HG, HV, HS⟩
            case measure => simp only [intOf]; omega
          have d2 : decide (1114111 < r) = false := decide_eq_false hr1
          obtain ⟨q, hq⟩ : ∃ q : Nat, r = q := ⟨r.toNat, by omega⟩
          have hx := fun w => topHex_any 5 (Nat.le_refl _) q (by omega) (by omega) w
          rw [← hq] at hx
          have hxl := hexB_len 5 q
          have HE := Lib.hid (its_num false its q)
          obtain ⟨sh, hsh⟩ : ∃ sh, str (hexB 5 q) = sh := ⟨_, rfl⟩
          have hzs : sh.size ≤ 6 := by rw [← hsh, str_size_]; exact hxl
          rw [hsh] at hx HE
          obtain ⟨st, hst⟩ : ∃ st, str (tcB false its) = st := ⟨_, rfl⟩
          rw [hst] at hlen HE ⊢
          have HX := Lib.hid hx
          have HQ := Lib.hid hq
          have z1 : 3 + sh.size ≤ 9223372036854775807 := by omega
          have z2 : 3 + sh.size + 1 ≤ 9223372036854775807 := by omega
          have z3 : st.size + (3 + sh.size + 1) ≤ 9223372036854775807 := by omega
          have hwl : IntKind.i64.wrap ((its.length : Int) + 1) = (its.length : Int) + 1 := by rw [IntKind.wrap_i64]; omega
          clear hx hxl hsh hst hq
          go_wp2_with (first
            | (go_at_call 6; refine (HX.out _).mono ?_; rintro e w4 ⟨rfl, hb4⟩; have HS4 := Lib.hid (HS.out.below hb4); have HV4 := Lib.hid (HV.out.on (KeepR.below hb4)); clear hb4)
            | (go_at_call 8; refine (of_range r r w4 _ rfl).mono ?_; rintro e w5 ⟨v5, rfl, hv5, hb5⟩; have HS5 := Lib.hid (HS4.out.below hb5); have HV5 := Lib.hid (HV4.out.on (KeepR.below hb5)); have HW5 := Lib.hid hv5; clear hb5 hv5)
            | (go_at_call 7; refine (or_new HV5.out HW5.out).mono ?_; rintro e w6 ⟨v6, rfl, hv6, hb6⟩; have HS6 := Lib.hid (HS5.out.below hb6); have HV6 := Lib.hid hv6; clear hb6 hv6))
          go_roundw
          case rel =>
            refine ⟨i + 1, its ++ [.num q], by omega, by simp; omega, by go_num, by rw [List.length_append]; go_num, by rw [← HE.out], Lib.hid (good_add HG.out (by show q ≤ 1114111; have := HQ.out; omega)), Lib.hid (HV6.out.congr fun z _ => ?_), HS6⟩
            rw [itsF_add]
            congr 1
            show decide (r ≤ z ∧ z ≤ r) = decide (z = (q : Int))
            rw [decide_eq_decide]
            have := HQ.out
            omega
          case measure => simp only [intOf]; omega
        · have hnot : decide (i < l0.length) = false ∨ decide (i < l0.length) = true ∧ decide ((i : Int) < 40) = false := by
            by_cases h1 : i < l0.length
            · exact .inr ⟨decide_eq_true (by omega), decide_eq_false (by omega)⟩
            · exact .inl (decide_eq_false (by omega))
          have hlen40 : its.length ≤ 40 := by omega
          clear hi hil hc HS2 hlen
          rcases hnot with k1 | ⟨k1, k2⟩
          all_goals
            go_wp2_with fail
            go_loopw [9, 10, 11, 14] (fun s9 s10 s11 s14 wx => ∃ (j : Nat) (its : List SynP.It), j ≤ 10 ∧ its.length ≤ 40 + j ∧ s14 = .int .i64 j ∧ s11 = .int .i64 its.length ∧ s9 = .string (str (tcB false its)) ∧ Hid (∀ x ∈ its, x.good perlT) ∧ Hid (SetV wx s10 (SynP.itsF perlT its)) ∧ Hid (PatS w wx P #[.int .i64 1, .slice x n c, .bool r4, .int .i64 r5, .int .i64 r6, .bool r7, .int .i64 r8, .string r9, .slice ra rb rc, .slice A 1 k] #[.int .i64 0, .int .i64 0])) (fun _ _ _ s14 _ => 11 - (intOf s14).toNat)
            case atStart => exact ⟨0, its, by omega, by omega, rfl, rfl, rfl, HG, HV, HS⟩
            case round =>
              clear HG HV HS hlen40
              obtain ⟨j, its, hj, hjl, rfl, rfl, rfl, HG, HV, HS⟩ := hrel
              have hlen := tcB_len false its HG.out
              by_cases hc : j < l1.length ∧ j < 10
              · obtain ⟨hc1, hc2⟩ := hc
                obtain ⟨b, off, hA, hlb, hcells⟩ := (H1.out.below HS.out.bel).at_ hc1
                have hcell0 := hcells 0 (by decide)
                have hbb := HB.out l1[j] (List.getElem_mem hc1)
                have hjj : decide ((j : Int) < (l1.length : Int)) = true := decide_eq_true (by omega)
                have hjj1 : (j : Int) < (l1.length : Int) := by omega
                have hj10 : decide ((j : Int) < 10) = true := decide_eq_true (by omega)
                have hj0 : (0 : Int) ≤ (j : Int) := by omega
                subst hA
                obtain ⟨r, hr⟩ : ∃ r, l1[j] = r := ⟨_, rfl⟩
                rw [hr] at hcell0 hbb
                have hcell : wr.cell? ⟨b, off + j, none⟩ = some (.int .u8 r) := by
                  rw [show off + j = off + (j * Ebyte.k + 0) by show _ = off + (j * 1 + 0); omega]
                  exact hcell0
                clear hr hcells hcell0
                have hpr := perl_all r hbb.1 hbb.2
                cases hpt : perlT r with
                | none =>
                  rw [hpt] at hpr
                  have HPr := Lib.hid hpr
                  clear hpr
                  go_wp2_with (go_at_call 9; refine (HPr.out _).mono ?_; rintro e w4 ⟨hb4, rfl⟩; have HS4 := Lib.hid (HS.out.below hb4); have HV4 := Lib.hid (HV.out.on (KeepR.below hb4)); clear hb4)
                  go_roundw
                  case rel => exact ⟨j + 1, its, by omega, by omega, by go_num, rfl, rfl, HG, HV4, HS4⟩
                  case measure => simp only [intOf]; omega
                | some g =>
                  rw [hpt] at hpr
                  have HPr := Lib.hid hpr
                  have HGd := Lib.hid (perl_good r (by rw [hpt]; rfl))
                  have HTe : Hid (∀ z, (SynP.It.per r).test perlT z = g z) := Lib.hid fun z => by
                    show ((perlT r).getD fun _ => false) z = g z
                    rw [hpt]
                    rfl
                  have hconv := fun w : World => conv_one w r
                  have HE := Lib.hid (its_per false its r)
                  obtain ⟨sh, hsh⟩ : ∃ sh, strOfNums [r] = sh := ⟨_, rfl⟩
                  have hzs : sh.size = 1 := by rw [← hsh, nums_size]; rfl
                  rw [hsh] at hconv HE
                  obtain ⟨st, hst⟩ : ∃ st, str (tcB false its) = st := ⟨_, rfl⟩
                  rw [hst] at hlen HE ⊢
                  have hwl : IntKind.i64.wrap ((its.length : Int) + 1) = (its.length : Int) + 1 := by rw [IntKind.wrap_i64]; omega
                  have z1 : 1 + sh.size ≤ 9223372036854775807 := by omega
                  have z2 : st.size + (1 + sh.size) ≤ 9223372036854775807 := by omega
                  clear hpr hsh hst hpt hzs
                  go_upto_region 22 with (go_at_call 9; refine (HPr.out _).mono ?_; rintro e w4 ⟨hb4, v4, rfl, hv4⟩; have HS4 := Lib.hid (HS.out.below hb4); have HV4 := Lib.hid (HV.out.on (KeepR.below hb4)); have HW4 := Lib.hid hv4; have hcell4 := (hb4.cell (p := ⟨b, off + j, none⟩) (Nat.lt_of_lt_of_le hlb HS.out.bel.size)).trans hcell; clear hb4 hv4)
                  go_wp2_with (go_at_call 7; refine (or_new (HV4.out.on (KeepR.below ((Below.refl _ w4).alloc (Nat.le_refl _) _))) (HW4.out.on (KeepR.below ((Below.refl _ w4).alloc (Nat.le_refl _) _)))).mono ?_; rintro e w6 ⟨v6, rfl, hv6, hb6⟩; have HS6 := Lib.hid ((HS4.out.below ((Below.refl _ w4).alloc (Nat.le_refl _) _)).below hb6); have HV6 := Lib.hid hv6; clear hb6 hv6)
                  go_roundw
                  case rel =>
                    refine ⟨j + 1, its ++ [.per r], by omega, by simp; omega, by go_num, by rw [List.length_append]; go_num, by rw [← HE.out], Lib.hid (good_add HG.out HGd.out), Lib.hid (HV6.out.congr fun z _ => ?_), HS6⟩
                    rw [itsF_add, HTe.out]
                  case measure => simp only [intOf]; omega
              · have hnot : decide (j < l1.length) = false ∨ decide (j < l1.length) = true ∧ decide ((j : Int) < 10) = false := by
                  by_cases h1 : j < l1.length
                  · exact .inr ⟨decide_eq_true (by omega), decide_eq_false (by omega)⟩
                  · exact .inl (decide_eq_false (by omega))
                have hn50 : its.length ≤ 50 := by omega
                clear hj hjl hc
                by_cases hne : its = []
                · subst hne
                  rcases hnot with k1 | ⟨k1, k2⟩
                  all_goals
                    go_wp2_with fail
                    go_ret
                    exact ⟨rfl, HS.out.bel⟩
                · have hnz : (((its.length : Nat) : Int) == 0) = false := by
                    rw [beq_eq_false_iff_ne]
                    intro h
                    exact hne (List.eq_nil_of_length_eq_zero (by omega))
                  have HCl := Lib.hid (fun w => tc_call false its hne HG.out hn50 w)
                  obtain ⟨st, hst⟩ : ∃ st, str (tcB false its) = st := ⟨_, rfl⟩
                  rw [hst] at HCl hlen ⊢
                  have z1 : st.size + 1 ≤ 9223372036854775807 := by omega
                  clear hne hst
                  rcases hnot with k1 | ⟨k1, k2⟩
                  all_goals
                    go_upto_region 29 with fail
                    go_upto_region 30 with (go_at_call 4; refine (HCl.out _).mono ?_; rintro e w8 ⟨hb8, x', n', c', s4, s5, s6, s7, s8, s9, sa, sb, sc, A', k', rfl, hv8⟩; have HS8 := Lib.hid (HS.out.below hb8); have HV8 := Lib.hid (HV.out.on (KeepR.below hb8)); have HW8 := Lib.hid hv8; clear hb8 hv8; have hcP := HS8.out.pcell; have hcF := HS8.out.fcell; have hzP := fun o => Lib.frozen_of_heap HS8.out.pat o; have hzF := fun o => Lib.frozen_of_heap HS8.out.flt o; have hPP : ¬ P = P + 1 := (by omega); have hPP2 : ¬ P + 1 = P := (by omega))
                    obtain ⟨W9, hW9, hs9, hk9⟩ := HS8.out.all_ (.int .i64 1) (.slice x' n' c') (.bool s4) (.int .i64 s5) (.int .i64 s6) (.bool s7) (.int .i64 s8) (.string s9) (.slice sa sb sc) (.slice A' 1 k') (.int .i64 0) (.int .i64 0)
                    rw [← hW9]
                    have HS9 := Lib.hid hs9
                    have HV9 := Lib.hid (HV8.out.on hk9)
                    have HW9 := Lib.hid (HW8.out.on hk9)
                    clear hcP hcF hzP hzF hs9 hk9 hW9 HS8 HV8 HW8
                    have hcP := HS9.out.pcell
                    have hcF := HS9.out.fcell
                    go_wp2_with (go_at_call 11; refine (same_new HW9.out HV9.out (fun z => by simp)).mono ?_; rintro e w10 ⟨rfl, hb10⟩; have HS10 := Lib.hid (HS9.out.below hb10); clear hb10)
                    go_ret
                    exact ⟨rfl, HS10.out.bel⟩
  | true =>
      go_wp2_with fail
      go_loopw [9, 10, 11, 12] (fun s9 s10 s11 s12 wr => ∃ (i : Nat) (its : List SynP.It), i ≤ 40 ∧ its.length ≤ i ∧ s12 = .int .i64 i ∧ s11 = .int .i64 its.length ∧ s9 = .string (str (tcB true its)) ∧ Hid (∀ x ∈ its, x.good perlT) ∧ Hid (SetV wr s10 (SynP.itsF perlT its)) ∧ Hid (PatS w wr P #[.int .i64 1, .slice x n c, .bool r4, .int .i64 r5, .int .i64 r6, .bool r7, .int .i64 r8, .string r9, .slice ra rb rc, .slice A 1 k] #[.int .i64 0, .int .i64 0])) (fun _ _ _ s12 _ => 41 - (intOf s12).toNat)
      case atStart => exact ⟨0, [], by omega, Nat.le_refl _, rfl, rfl, rfl, Lib.hid (fun x hx => by cases hx), Lib.hid (SetV.nil_ _), HS2⟩
      case round =>
        obtain ⟨i, its, hi, hil, rfl, rfl, rfl, HG, HV, HS⟩ := hrel
        have hlen := tcB_len true its HG.out
        by_cases hc : i < l0.length ∧ i < 40
        · obtain ⟨hc1, hc2⟩ := hc
          obtain ⟨b, off, hA, hlb, hcell⟩ := (H0.out.below HS.out.bel).int_ hc1
          have hii : decide ((i : Int) < (l0.length : Int)) = true := decide_eq_true (by omega)
          have hii1 : (i : Int) < (l0.length : Int) := by omega
          have hi40 : decide ((i : Int) < 40) = true := decide_eq_true (by omega)
          have hi0 : (0 : Int) ≤ (i : Int) := by omega
          subst hA
          obtain ⟨r, hr⟩ : ∃ r, l0[i] = r := ⟨_, rfl⟩
          rw [hr] at hcell
          clear hr
          by_cases hr0 : r < 0
          · have d1 : decide (r < 0) = true := decide_eq_true hr0
            go_wp2_with fail
            go_roundw
            case rel => exact ⟨i + 1, its, by omega, by omega, by go_num, rfl, rfl, HG, HV, HS⟩
            case measure => simp only [intOf]; omega
          have d1 : decide (r < 0) = false := decide_eq_false hr0
          by_cases hr1 : 1114111 < r
          · have d2 : decide (1114111 < r) = true := decide_eq_true hr1
            go_wp2_with fail
            go_roundw
            case rel => exact ⟨i + 1, its, by omega, by omega, by go_num, rfl, rfl, HG, HV, HS⟩
            case measure => simp only [intOf]; omega
          have d2 : decide (1114111 < r) = false := decide_eq_false hr1
          obtain ⟨q, hq⟩ : ∃ q : Nat, r = q := ⟨r.toNat, by omega⟩
          have hx := fun w => topHex_any 5 (Nat.le_refl _) q (by omega) (by omega) w
          rw [← hq] at hx
          have hxl := hexB_len 5 q
          have HE := Lib.hid (its_num true its q)
          obtain ⟨sh, hsh⟩ : ∃ sh, str (hexB 5 q) = sh := ⟨_, rfl⟩
          have hzs : sh.size ≤ 6 := by rw [← hsh, str_size_]; exact hxl
          rw [hsh] at hx HE
          obtain ⟨st, hst⟩ : ∃ st, str (tcB true its) = st := ⟨_, rfl⟩
          rw [hst] at hlen HE ⊢
          have HX := Lib.hid hx
          have HQ := Lib.hid hq
          have z1 : 3 + sh.size ≤ 9223372036854775807 := by omega
          have z2 : 3 + sh.size + 1 ≤ 9223372036854775807 := by omega
          have z3 : st.size + (3 + sh.size + 1) ≤ 9223372036854775807 := by omega
          have hwl : IntKind.i64.wrap ((its.length : Int) + 1) = (its.length : Int) + 1 := by rw [IntKind.wrap_i64]; omega
          clear hx hxl hsh hst hq
          go_wp2_with (first
            | (go_at_call 6; refine (HX.out _).mono ?_; rintro e w4 ⟨rfl, hb4⟩; have HS4 := Lib.hid (HS.out.below hb4); have HV4 := Lib.hid (HV.out.on (KeepR.below hb4)); clear hb4)
            | (go_at_call 8; refine (of_range r r w4 _ rfl).mono ?_; rintro e w5 ⟨v5, rfl, hv5, hb5⟩; have HS5 := Lib.hid (HS4.out.below hb5); have HV5 := Lib.hid (HV4.out.on (KeepR.below hb5)); have HW5 := Lib.hid hv5; clear hb5 hv5)
            | (go_at_call 7; refine (or_new HV5.out HW5.out).mono ?_; rintro e w6 ⟨v6, rfl, hv6, hb6⟩; have HS6 := Lib.hid (HS5.out.below hb6); have HV6 := Lib.hid hv6; clear hb6 hv6))
          go_roundw
          case rel =>
            refine ⟨i + 1, its ++ [.num q], by omega, by simp; omega, by go_num, by rw [List.length_append]; go_num, by rw [← HE.out], Lib.hid (good_add HG.out (by show q ≤ 1114111; have := HQ.out; omega)), Lib.hid (HV6.out.congr fun z _ => ?_), HS6⟩
            rw [itsF_add]
            congr 1
            show decide (r ≤ z ∧ z ≤ r) = decide (z = (q : Int))
            rw [decide_eq_decide]
            have := HQ.out
            omega
          case measure => simp only [intOf]; omega
        · have hnot : decide (i < l0.length) = false ∨ decide (i < l0.length) = true ∧ decide ((i : Int) < 40) = false := by
            by_cases h1 : i < l0.length
            · exact .inr ⟨decide_eq_true (by omega), decide_eq_false (by omega)⟩
            · exact .inl (decide_eq_false (by omega))
          have hlen40 : its.length ≤ 40 := by omega
          clear hi hil hc HS2 hlen
          rcases hnot with k1 | ⟨k1, k2⟩
          all_goals
            go_wp2_with fail
            go_loopw [9, 10, 11, 14] (fun s9 s10 s11 s14 wx => ∃ (j : Nat) (its : List SynP.It), j ≤ 10 ∧ its.length ≤ 40 + j ∧ s14 = .int .i64 j ∧ s11 = .int .i64 its.length ∧ s9 = .string (str (tcB true its)) ∧ Hid (∀ x ∈ its, x.good perlT) ∧ Hid (SetV wx s10 (SynP.itsF perlT its)) ∧ Hid (PatS w wx P #[.int .i64 1, .slice x n c, .bool r4, .int .i64 r5, .int .i64 r6, .bool r7, .int .i64 r8, .string r9, .slice ra rb rc, .slice A 1 k] #[.int .i64 0, .int .i64 0])) (fun _ _ _ s14 _ => 11 - (intOf s14).toNat)
            case atStart => exact ⟨0, its, by omega, by omega, rfl, rfl, rfl, HG, HV, HS⟩
            case round =>
              clear HG HV HS hlen40
              obtain ⟨j, its, hj, hjl, rfl, rfl, rfl, HG, HV, HS⟩ := hrel
              have hlen := tcB_len true its HG.out
              by_cases hc : j < l1.length ∧ j < 10
              · obtain ⟨hc1, hc2⟩ := hc
                obtain ⟨b, off, hA, hlb, hcells⟩ := (H1.out.below HS.out.bel).at_ hc1
                have hcell0 := hcells 0 (by decide)
                have hbb := HB.out l1[j] (List.getElem_mem hc1)
                have hjj : decide ((j : Int) < (l1.length : Int)) = true := decide_eq_true (by omega)
                have hjj1 : (j : Int) < (l1.length : Int) := by omega
                have hj10 : decide ((j : Int) < 10) = true := decide_eq_true (by omega)
                have hj0 : (0 : Int) ≤ (j : Int) := by omega
                subst hA
                obtain ⟨r, hr⟩ : ∃ r, l1[j] = r := ⟨_, rfl⟩
                rw [hr] at hcell0 hbb
                have hcell : wr.cell? ⟨b, off + j, none⟩ = some (.int .u8 r) := by
                  rw [show off + j = off + (j * Ebyte.k + 0) by show _ = off + (j * 1 + 0); omega]
                  exact hcell0
                clear hr hcells hcell0
                have hpr := perl_all r hbb.1 hbb.2
                cases hpt : perlT r with
                | none =>
                  rw [hpt] at hpr
                  have HPr := Lib.hid hpr
                  clear hpr
                  go_wp2_with (go_at_call 9; refine (HPr.out _).mono ?_; rintro e w4 ⟨hb4, rfl⟩; have HS4 := Lib.hid (HS.out.below hb4); have HV4 := Lib.hid (HV.out.on (KeepR.below hb4)); clear hb4)
                  go_roundw
                  case rel => exact ⟨j + 1, its, by omega, by omega, by go_num, rfl, rfl, HG, HV4, HS4⟩
                  case measure => simp only [intOf]; omega
                | some g =>
                  rw [hpt] at hpr
                  have HPr := Lib.hid hpr
                  have HGd := Lib.hid (perl_good r (by rw [hpt]; rfl))
                  have HTe : Hid (∀ z, (SynP.It.per r).test perlT z = g z) := Lib.hid fun z => by
                    show ((perlT r).getD fun _ => false) z = g z
                    rw [hpt]
                    rfl
                  have hconv := fun w : World => conv_one w r
                  have HE := Lib.hid (its_per true its r)
                  obtain ⟨sh, hsh⟩ : ∃ sh, strOfNums [r] = sh := ⟨_, rfl⟩
                  have hzs : sh.size = 1 := by rw [← hsh, nums_size]; rfl
                  rw [hsh] at hconv HE
                  obtain ⟨st, hst⟩ : ∃ st, str (tcB true its) = st := ⟨_, rfl⟩
                  rw [hst] at hlen HE ⊢
                  have hwl : IntKind.i64.wrap ((its.length : Int) + 1) = (its.length : Int) + 1 := by rw [IntKind.wrap_i64]; omega
                  have z1 : 1 + sh.size ≤ 9223372036854775807 := by omega
                  have z2 : st.size + (1 + sh.size) ≤ 9223372036854775807 := by omega
                  clear hpr hsh hst hpt hzs
                  go_upto_region 22 with (go_at_call 9; refine (HPr.out _).mono ?_; rintro e w4 ⟨hb4, v4, rfl, hv4⟩; have HS4 := Lib.hid (HS.out.below hb4); have HV4 := Lib.hid (HV.out.on (KeepR.below hb4)); have HW4 := Lib.hid hv4; have hcell4 := (hb4.cell (p := ⟨b, off + j, none⟩) (Nat.lt_of_lt_of_le hlb HS.out.bel.size)).trans hcell; clear hb4 hv4)
                  go_wp2_with (go_at_call 7; refine (or_new (HV4.out.on (KeepR.below ((Below.refl _ w4).alloc (Nat.le_refl _) _))) (HW4.out.on (KeepR.below ((Below.refl _ w4).alloc (Nat.le_refl _) _)))).mono ?_; rintro e w6 ⟨v6, rfl, hv6, hb6⟩; have HS6 := Lib.hid ((HS4.out.below ((Below.refl _ w4).alloc (Nat.le_refl _) _)).below hb6); have HV6 := Lib.hid hv6; clear hb6 hv6)
                  go_roundw
                  case rel =>
                    refine ⟨j + 1, its ++ [.per r], by omega, by simp; omega, by go_num, by rw [List.length_append]; go_num, by rw [← HE.out], Lib.hid (good_add HG.out HGd.out), Lib.hid (HV6.out.congr fun z _ => ?_), HS6⟩
                    rw [itsF_add, HTe.out]
                  case measure => simp only [intOf]; omega
              · have hnot : decide (j < l1.length) = false ∨ decide (j < l1.length) = true ∧ decide ((j : Int) < 10) = false := by
                  by_cases h1 : j < l1.length
                  · exact .inr ⟨decide_eq_true (by omega), decide_eq_false (by omega)⟩
                  · exact .inl (decide_eq_false (by omega))
                have hn50 : its.length ≤ 50 := by omega
                clear hj hjl hc
                by_cases hne : its = []
                · subst hne
                  rcases hnot with k1 | ⟨k1, k2⟩
                  all_goals
                    go_wp2_with fail
                    go_ret
                    exact ⟨rfl, HS.out.bel⟩
                · have hnz : (((its.length : Nat) : Int) == 0) = false := by
                    rw [beq_eq_false_iff_ne]
                    intro h
                    exact hne (List.eq_nil_of_length_eq_zero (by omega))
                  have HCl := Lib.hid (fun w => tc_call true its hne HG.out hn50 w)
                  obtain ⟨st, hst⟩ : ∃ st, str (tcB true its) = st := ⟨_, rfl⟩
                  rw [hst] at HCl hlen ⊢
                  have z1 : st.size + 1 ≤ 9223372036854775807 := by omega
                  clear hne hst
                  rcases hnot with k1 | ⟨k1, k2⟩
                  all_goals
                    go_upto_region 29 with (go_at_call 10; refine (not_new HV.out).mono ?_; rintro e w7 ⟨v7, rfl, hv7, hb7⟩; have HS7 := Lib.hid (HS.out.below hb7); have HV7 := Lib.hid hv7; clear hb7 hv7)
                    go_upto_region 30 with (go_at_call 4; refine (HCl.out _).mono ?_; rintro e w8 ⟨hb8, x', n', c', s4, s5, s6, s7, s8, s9, sa, sb, sc, A', k', rfl, hv8⟩; have HS8 := Lib.hid (HS7.out.below hb8); have HV8 := Lib.hid (HV7.out.on (KeepR.below hb8)); have HW8 := Lib.hid hv8; clear hb8 hv8; have hcP := HS8.out.pcell; have hcF := HS8.out.fcell; have hzP := fun o => Lib.frozen_of_heap HS8.out.pat o; have hzF := fun o => Lib.frozen_of_heap HS8.out.flt o; have hPP : ¬ P = P + 1 := (by omega); have hPP2 : ¬ P + 1 = P := (by omega))
                    obtain ⟨W9, hW9, hs9, hk9⟩ := HS8.out.all_ (.int .i64 1) (.slice x' n' c') (.bool s4) (.int .i64 s5) (.int .i64 s6) (.bool s7) (.int .i64 s8) (.string s9) (.slice sa sb sc) (.slice A' 1 k') (.int .i64 0) (.int .i64 0)
                    rw [← hW9]
                    have HS9 := Lib.hid hs9
                    have HV9 := Lib.hid (HV8.out.on hk9)
                    have HW9 := Lib.hid (HW8.out.on hk9)
                    clear hcP hcF hzP hzF hs9 hk9 hW9 HS8 HV8 HW8
                    have hcP := HS9.out.pcell
                    have hcF := HS9.out.fcell
                    go_wp2_with (go_at_call 11; refine (same_new HW9.out HV9.out (fun z => by simp)).mono ?_; rintro e w10 ⟨rfl, hb10⟩; have HS10 := Lib.hid (HS9.out.below hb10); clear hb10)
                    go_ret
                    exact ⟨rfl, HS10.out.bel⟩

theorem row_classes (A0 A1 : Option Addr) (c0 c1 : Nat) (l0 l1 : List Int) (no : Bool) (w : World) (n0 : l0.length ≤ 17592186044416) (n1 : l1.length ≤ 140737488355328) (h0 : SeqAt Eint w w.heap.size A0 l0) (h1 : SeqAt Ebyte w w.heap.size A1 l1) (hb : ∀ x ∈ l1, (Lit.int .u8 x).wf = true) :
    Calls Try.prog 3 #[.slice A0 l0.length c0, .slice A1 l1.length c1, .bool no] w fun e w' => e = .returned (.bool true) ∧ Below w.heap.size w w' :=
  law_classes A0 A1 c0 c1 l0 l1 no w (by omega) (by omega) h0 h1 fun x hx => by
    have h2 : (decide ((0 : Int) ≤ x) && decide (x ≤ (255 : Int))) = true := hb x hx
    simpa using h2

end Go.Proofs.Ytmmmcfflhlkiiaa
