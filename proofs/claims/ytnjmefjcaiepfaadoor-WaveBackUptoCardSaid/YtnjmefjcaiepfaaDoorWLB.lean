/- The law WaveBack: the numbers that come in as points. -/
import Derived.Test.YtnjmefjcaiepfaaDoorWLw
import Derived.Test.YtnjmefjcaiepfaaDoorWLP
import Derived.Deep.RegionLaw
namespace Go.Proofs.YtnjmefjcaiepfaaDoor
open Go.RowKit WaveP WaveP.Cx

def npB (n : Nat) : Bool := Nat.beq n 0 || (!(Nat.beq (n &&& (n - 1)) 0) || Nat.beq n (2 ^ n.log2))
theorem npB_all : allR npB 12 0 = true := by decide +kernel
theorem no_pow_all (n : Nat) (h : n < 4097) : n = 0 ∨ n &&& (n - 1) ≠ 0 ∨ n = 2 ^ n.log2 := by
  by_cases e : n = 4096
  · subst e; right; right; decide +kernel
  · have hb := allR_get npB 12 0 npB_all n (Nat.zero_le _) (show n < 0 + 4096 by omega)
    unfold npB at hb
    rw [Bool.or_eq_true, Bool.or_eq_true] at hb
    rcases hb with hb | hb | hb
    · exact .inl (Nat.eq_of_beq_eq_true hb)
    · right; left
      intro hc
      rw [hc] at hb
      exact absurd hb (by decide)
    · exact .inr (.inr (Nat.eq_of_beq_eq_true hb))
theorem and_not {n : Nat} (h0 : 0 < n) (h : n ≤ 4096) (hp : ∀ L, L ≤ 12 → n ≠ 2 ^ L) : ∃ m : Nat, 0 < m ∧ bits .and .i64 (n : Int) ((n : Int) - 1) = (m : Int) := by
  have h1 := no_pow_all n (by omega)
  have hl : n.log2 ≤ 12 := by
    rcases Nat.lt_or_ge 12 n.log2 with h2 | h2
    · have := (Nat.le_log2 (n := n) (k := 13) (by omega)).1 h2
      omega
    · exact h2
  have hne : n &&& (n - 1) ≠ 0 := by
    rcases h1 with h1 | h1 | h1
    · omega
    · exact h1
    · exact absurd h1 (hp _ hl)
  refine ⟨n &&& (n - 1), by omega, ?_⟩
  have e : (n : Int) - 1 = ((n - 1 : Nat) : Int) := by omega
  rw [e]
  have hle : n &&& (n - 1) ≤ n := Nat.and_le_left
  show IntKind.i64.wrap ((BitVec.ofInt 64 (n : Int) &&& BitVec.ofInt 64 ((n - 1 : Nat) : Int)).toNat : Int) = _
  rw [BitVec.toNat_and, BitVec.toNat_ofInt, BitVec.toNat_ofInt, show ((n : Int) % ((2 ^ 64 : Nat) : Int)).toNat = n by omega, show (((n - 1 : Nat) : Int) % ((2 ^ 64 : Nat) : Int)).toNat = n - 1 by omega, IntKind.wrap_i64]
  omega

set_option maxRecDepth 100000 in
theorem none_any (A : Option Addr) (n c : Nat) (back : Bool) (w : World) (hn : n ≤ maxLen) (h : n = 0 ∨ 4096 < n ∨ ∀ L, L ≤ 12 → n ≠ 2 ^ L) :
    Calls Tryd.prog 11 #[.slice A n c, .bool back] w fun e w' => e = .returned (.slice none 0 0) ∧ w = w' := by
  unfold maxLen at hn
  by_cases h0 : n = 0
  · subst h0
    clear h
    go_enter Tryd.func11, Tryd.ntmps11
    go_wp2
    go_ret
    exact ⟨rfl, rfl⟩
  · by_cases h1 : 4096 < n
    · clear h
      go_enter Tryd.func11, Tryd.ntmps11
      go_wp2
      go_ret
      exact ⟨rfl, rfl⟩
    · obtain ⟨m, hm0, hm⟩ := and_not (n := n) (by omega) (by omega) (by rcases h with h | h | h <;> first | omega | exact h)
      clear h
      go_enter Tryd.func11, Tryd.ntmps11
      go_wp2
      go_ret
      exact ⟨rfl, rfl⟩

def EB : Rat := 4096 * (396 * (384 * uu))
def V21 : Rat := 2097152
theorem el_bk {L : Nat} (hL : L ≤ 12) : El 0 384 L ≤ EB := by
  have h := el_le (E0 := 0) (V0 := 384) hL (by decide +kernel)
  have hn : ((2 ^ L : Nat) : Rat) ≤ 4096 := by exact_mod_cast pow_le12 hL
  have h2 := Rat.mul_le_mul_of_nonneg_right hn (show (0 : Rat) ≤ 0 + 396 * (384 * uu) by decide +kernel)
  unfold EB
  grind
theorem bd_bk {L : Nat} (hL : L ≤ 12) {X : Nat → Cx} (hX : ∀ j, Bd (X j) 384) (p : Nat) : Bd (F (Zn true) L X p) V21 := by
  have := F_bd (Zn_roots true) L X p hL (V := 384) (fun j _ => hX j)
  refine this.mono ?_
  have hn : ((2 ^ L : Nat) : Rat) ≤ 4096 := by exact_mod_cast pow_le12 hL
  have h2 := Rat.mul_le_mul_of_nonneg_right hn (show (0 : Rat) ≤ 384 by decide +kernel)
  have h3 : 4096 * 384 ≤ V21 := by decide +kernel
  grind
/-- A word near a number: a 4096th. -/
def NrB (r : Nat) (T : Rat) : Prop := Nr r T (1 / 4096)
theorem back_quo {L n m a b : Nat} {X : Nat → Cx} (hL : L ≤ 12) (hn : n = 2 ^ L) (hm : m < n) (hX : ∀ j, Bd (X j) 384) (hN : Nc a b (F (Zn false) L (F (Zn true) L X) m) (El EB V21 L)) :
    ∃ q : Nat × Nat, quoN n (a, b) = some q ∧ NrB q.1 (X m).re ∧ NrB q.2 (X m).im := by
  obtain ⟨r, r0, r1, hr⟩ := inv_pow L
  rw [← zn_conj] at hN
  have hb := back_of (Zn_roots true) (V := 384) hL (by omega) (by decide +kernel) (fun j _ => hX j) hN
  obtain ⟨⟨p1, p2⟩, ⟨p3, p4⟩, ⟨p5, p6⟩, p7, p8⟩ := back_parts (V := 384) (T := 600000000000 * 384 * tau) hL (by decide +kernel) r0 r1 hr (hX m) (by decide +kernel) hb rfl (by decide +kernel)
  have hD : EB + 396 * (V21 * uu) + 600000000000 * 384 * tau ≤ 1 / 8192 := by decide +kernel
  have hV : 4096 * (384 + (EB + 396 * (V21 * uu) + 600000000000 * 384 * tau)) ≤ V21 := by decide +kernel
  have hs : 22 * (V21 * uu) ≤ 1 / 8192 := by decide +kernel
  generalize EB + 396 * (V21 * uu) + 600000000000 * 384 * tau = D at *
  obtain ⟨e, f, hq, ⟨e1, e2, e3⟩, f1, f2, f3⟩ := Go.Proofs.YtnjmefjcaiepfaaDoor.quo_near (M := V21) hL hn hN.1 hN.2.1 (by grind) (by grind) (by grind) (by grind) (by decide +kernel) (by decide +kernel) r0 r1 hr
  exact ⟨(e, f), hq, ⟨e1, by grind, by grind⟩, f1, by grind, by grind⟩
/-- One number alone: its transform. -/
theorem delta_F {L : Nat} (hL : L ≤ 12) (c : Cx) (p : Nat) : F (Zn true) L (fun j => if j = 0 then c else Cx.zero) p = c := by
  rw [F_sum (Zn_roots true) L _ p hL, sm_one (m := 0) (Nat.two_pow_pos L) _ (fun j _ hj => by show (if j = 0 then c else Cx.zero) * _ = _; rw [if_neg hj, Cx.zero_mul])]
  show c * _ = _
  rw [Nat.zero_mul, Cx.pow_zero, Cx.mul_one]
theorem near_words {a b : Nat} {T : Rat} (ha : NrB a T) (hb : fin b = true) (hv : val b = T) :
    ∃ r s, fmt.sub a b = some r ∧ fmt.sub b a = some s ∧ fmt.order r 4562146422526312448 = some .lt ∧ fmt.order s 4562146422526312448 = some .lt := by
  obtain ⟨f, h1, h2⟩ := ha
  have hk : fin 4562146422526312448 = true ∧ val 4562146422526312448 = 1 / 1024 := by decide +kernel
  have he : e0 ≤ 1 / 8192 := by decide +kernel
  have key : ∀ x y, fin x = true → fin y = true → val x - val y ≤ 1 / 4096 → val y - val x ≤ 1 / 4096 → ∃ r, fmt.sub x y = some r ∧ fmt.order r 4562146422526312448 = some .lt := fun x y hx hy g1 g2 => by
    obtain ⟨s1, s2, s3, s4⟩ := sub_near (M := 1) hx hy (by grind) (by grind) (by decide +kernel)
    refine ⟨_, s1, order_lt s2 hk.1 ?_⟩
    have hv1 := sval_val (subN x y)
    have hv2 := sval_val 4562146422526312448
    rw [hk.2] at hv2
    have hlt : val (subN x y) < 1 / 1024 := by
      have : (1 : Rat) / 9007199254740992 ≤ 1 / 8192 := by decide +kernel
      grind
    rw [hv1, hv2] at hlt
    have h0 := e0_pos
    refine Int.lt_of_not_ge fun hc => ?_
    have hc2 : ((sval 4562146422526312448 : Int) : Rat) ≤ ((sval (subN x y) : Int) : Rat) := by exact_mod_cast hc
    have := Rat.mul_le_mul_of_nonneg_right hc2 (Rat.le_of_lt h0)
    grind
  obtain ⟨r, r1, r2⟩ := key a b f hb (by grind) (by grind)
  obtain ⟨s, s1, s2⟩ := key b a hb f (by grind) (by grind)
  exact ⟨r, s, r1, s1, r2, s2⟩
set_option maxRecDepth 100000 in
theorem near_any {a b : Nat} {T : Rat} (w : World) (ha : NrB a T) (hb : fin b = true) (hv : val b = T) :
    Calls Tryd.prog 12 #[.float .f64 a, .float .f64 b] w fun e w' => e = .returned (.bool true) ∧ w = w' := by
  obtain ⟨r, s, r1, s1, r2, s2⟩ := near_words ha hb hv
  have f1 : ∀ t w, (binOp .sub t (.float .f64 a) (.float .f64 b)).run Tryd.prog w = .ok (.float .f64 r) w := fun t w => run_float_arith w .sub t .f64 a b r r1
  have f2 : ∀ t w, (binOp .sub t (.float .f64 b) (.float .f64 a)).run Tryd.prog w = .ok (.float .f64 s) w := fun t w => run_float_arith w .sub t .f64 b a s s1
  have g1 : (FloatKind.f64.format.order r 4562146422526312448 == some Ordering.lt) = true := by rw [show FloatKind.f64.format.order r 4562146422526312448 = some .lt from r2]; rfl
  have g2 : (FloatKind.f64.format.order s 4562146422526312448 == some Ordering.lt) = true := by rw [show FloatKind.f64.format.order s 4562146422526312448 = some .lt from s2]; rfl
  clear ha hb hv r1 s1 r2 s2
  go_enter Tryd.func12, Tryd.ntmps12
  go_wp2
  go_ret
  exact ⟨rfl, rfl⟩
end Go.Proofs.YtnjmefjcaiepfaaDoor
namespace Go.Proofs.YtnjmefjcaiepfaaDoor
open Go.RowKit WaveP WaveP.Cx

theorem step_append_seq {P : Program} {ops : Array Oper} {α : Type} {E : Enc α} {w0 : World} {e : TypeId} {v : Value} {l l' : List α} {B : Nat} {A : Option Addr} {c : Nat} {o : Oper} {a : Act} {w : World} {K : Act → World → Prop} {Q : Exit → Act → World → Prop} {F : Prop} (hgd : o.guard = none) (s x : Operand) (t : TypeId)
    (ho : o.op = .call { callee := .builtin .append, args := #[s, x], argTypes := #[t, t] }) (bytes : Nat) (he : ElemOf P t e E.k bytes)
    (hs : a.eval s = v) (hown : Own E e w0 w v l) (m : Nat) (hx : a.eval x = .slice A m c) (hr : SeqAt E w B A l') (hm : l'.length = m)
    (h63 : l.length + m ≤ maxLen) (hbytes : (l.length + m) * bytes ≤ 140737488355328)
    (h : ∀ v' w', Own E e w0 w' v' (l ++ l') → w.grownBy w' v.ownBlock → K (a.put o.dst v') w') : if Region.wanted o (yielded ops a.tmps) = true then Oper.wp P o a w K Q else F := by
  rw [if_pos (by simp [Region.wanted, hgd])]
  exact wp_append_seq w s x t ho bytes he hs hown m hx hr hm h63 hbytes h

def Ecx : Enc (Nat × Nat) := ⟨fun a => [.complex .f64 a.1 a.2], 1, by decide, fun _ => rfl, fun a u hu => by simp at hu; subst hu; rfl⟩
theorem elCx : ElemOf Tryd.prog 24 25 Ecx.k 16 := by
  have h : (Tryd.prog.info? 25).map (fun i => (i.zero, i.size, i.bytes)) = some (some (.complex .f64 0 0), 1, 16) := by kernel_rfl
  rcases hi : Tryd.prog.info? 25 with _ | i
  · rw [hi] at h; cases h
  · rw [hi] at h
    injection h with h
    injection h with h1 h2
    injection h2 with h2 h3
    exact ⟨i, _, Tryd.underlying24, hi, h1, h2, h3, rfl⟩

/-- A number's low bits, about nought. -/
def low9 (x : Int) : Int := bits .and .i64 x 511 - 255
theorem low9_range (x : Int) : -255 ≤ low9 x ∧ low9 x ≤ 256 := by
  have h : ∃ m : Nat, m ≤ 511 ∧ bits .and .i64 x 511 = (m : Int) := by
    refine ⟨(BitVec.ofInt 64 x).toNat &&& 511, Nat.and_le_right, ?_⟩
    show IntKind.i64.wrap ((BitVec.ofInt 64 x &&& BitVec.ofInt 64 511).toNat : Int) = _
    have e : (BitVec.ofInt 64 511).toNat = 511 := by decide
    rw [BitVec.toNat_and, e]
    have := Nat.and_le_right (n := (BitVec.ofInt 64 x).toNat) (m := 511)
    rw [IntKind.wrap_i64]; omega
  obtain ⟨m, hm, e⟩ := h
  unfold low9
  rw [e]; omega
/-- The words of the points, and the points. -/
def gwB (re im : List Int) (k i : Nat) : Nat × Nat := if i < k then (wI (low9 (atL re i)), wI (low9 (atL im i))) else (0, 0)
def pxB (re im : List Int) (k i : Nat) : Cx := if i < k then ⟨(low9 (atL re i) : Rat), (low9 (atL im i) : Rat)⟩ else Cx.zero
theorem low9_word (x : Int) : fin (wI (low9 x)) = true ∧ val (wI (low9 x)) = (low9 x : Rat) := wI_val (by have := low9_range x; omega)
theorem int_le_rat {a b : Int} (h : a ≤ b) : (a : Rat) ≤ (b : Rat) := by exact_mod_cast h
theorem low9_rat (x : Int) : -256 ≤ (low9 x : Rat) ∧ (low9 x : Rat) ≤ 256 := by
  obtain ⟨h1, h2⟩ := low9_range x
  have a1 : ((-256 : Int) : Rat) ≤ ((low9 x : Int) : Rat) := int_le_rat (by omega)
  have a2 : ((low9 x : Int) : Rat) ≤ ((256 : Int) : Rat) := int_le_rat h2
  exact ⟨a1, a2⟩
theorem gwB_near (re im : List Int) (k i : Nat) : Nc (gwB re im k i).1 (gwB re im k i).2 (pxB re im k i) 0 := by
  have z : fin 0 = true ∧ val 0 = 0 := by decide +kernel
  unfold gwB pxB
  by_cases h : i < k
  · rw [if_pos h, if_pos h]
    obtain ⟨h1, h2⟩ := low9_word (atL re i)
    obtain ⟨h3, h4⟩ := low9_word (atL im i)
    refine ⟨h1, h3, Rat.le_refl, ?_⟩
    simp only [Cx.sub_re, Cx.sub_im, cv2, h2, h4]
    grind
  · rw [if_neg h, if_neg h]
    refine ⟨z.1, z.1, Rat.le_refl, ?_⟩
    simp only [Cx.sub_re, Cx.sub_im, cv2, Cx.zero, z.2]
    decide +kernel
theorem pxB_bd (re im : List Int) (k i : Nat) : Bd (pxB re im k i) 384 := by
  unfold pxB
  by_cases h : i < k
  · rw [if_pos h]
    obtain ⟨a1, a2⟩ := low9_rat (atL re i)
    obtain ⟨b1, b2⟩ := low9_rat (atL im i)
    exact (Bd.of_parts (d := 256) (by decide +kernel) a1 a2 b1 b2).mono (by decide +kernel)
  · rw [if_neg h]; exact Bd.zero_.mono (by decide +kernel)
theorem SeqAt.cx_ {w : World} {B : Nat} {A : Option Addr} {g : Nat → Nat × Nat} {n : Nat} (h : SeqAt Ecx w B A ((List.range n).map g)) (hn : 0 < n) :
    ∃ b off, A = some ⟨b, off, none⟩ ∧ b < B ∧ ∀ i, i < n → w.cell? ⟨b, off + i, none⟩ = some (cpx (g i)) := by
  obtain ⟨b, off, e, hb, _⟩ := h.at_ (i := 0) (by simpa using hn)
  refine ⟨b, off, e, hb, fun i hi => ?_⟩
  obtain ⟨b', off', e', _, hc'⟩ := h.at_ (i := i) (by simpa using hi)
  rw [e] at e'
  injection e' with e'
  injection e' with e1 e2
  subst e1; subst e2
  have := hc' 0 (by decide)
  have hk : i * Ecx.k + 0 = i := by show i * 1 + 0 = i; omega
  rw [hk] at this
  rw [this]
  simp [Ecx, cpx]
theorem range_cx (g : Nat → Nat × Nat) (p : Nat) : (List.range p).map g ++ [g p] = (List.range (p + 1)).map g := by rw [List.range_succ, List.map_append]; rfl

theorem SeqAt.on' {w w' : World} {A : Option Addr} {l : List Int} (h : SeqAt Eint w w.heap.size A l) (hb : Below w.heap.size w w') : SeqAt Eint w' w'.heap.size A l := (h.below hb).more hb.size
/-- Words that are near points of size 384, transformed either way, have as many places. -/
theorem trans_len (gb go c n L : Nat) (g : Nat → Nat × Nat) (X : Nat → Cx) (back : Bool) (w : World) (hL : L ≤ 12) (hn : n = 2 ^ L) (hx : ∀ i, i < n → w.cell? ⟨gb, go + i, none⟩ = some (cpx (g i))) (hN : ∀ i, i < n → Nc (g i).1 (g i).2 (X i) 0) (hX : ∀ j, Bd (X j) 384)
    (hT : ∀ w', Below w.heap.size w w' → TabsW w') :
    Calls Tryd.prog 11 #[.slice (some ⟨gb, go, none⟩) n c, .bool back] w fun e w' => ∃ A : Option Addr, e = .returned (.slice A n n) ∧ Below w.heap.size w w' := by
  cases back
  · refine (forth_any gb go c n L g X 0 384 w hL hn hx hN hX (by decide +kernel) (by decide +kernel) (by decide +kernel) hT).mono ?_
    rintro e w' ⟨_, rfl, hb, _, _⟩
    exact ⟨_, rfl, hb⟩
  · refine (back_any gb go c n L g X 0 384 w hL hn hx hN hX (by decide +kernel) (by decide +kernel) (by decide +kernel) (fun p i hi hp => ?_) hT).mono ?_
    · obtain ⟨r, r0, r1, hr⟩ := inv_pow L
      have hF := F_bd (Zn_roots false) L X i hL (V := 384) (fun j _ => hX j)
      have hb := hp.2.2.near hF
      have he := el_bk hL
      have hn2 : ((2 ^ L : Nat) : Rat) ≤ 4096 := by exact_mod_cast pow_le12 hL
      have h2 := Rat.mul_le_mul_of_nonneg_right hn2 (show (0 : Rat) ≤ 384 by decide +kernel)
      have h3 : 4096 * 384 + EB ≤ V21 := by decide +kernel
      have hb2 := hb.mono (show _ ≤ V21 by grind)
      obtain ⟨e, f, hq, _, _⟩ := Go.Proofs.YtnjmefjcaiepfaaDoor.quo_near (M := V21) hL hn hp.1 hp.2.1 hb2.re.1 hb2.re.2 hb2.im.1 hb2.im.2 (by decide +kernel) (by decide +kernel) r0 r1 hr
      exact ⟨(e, f), hq⟩
    · rintro e w' ⟨_, _, rfl, hb, _, _⟩
      exact ⟨_, rfl, hb⟩
theorem between_pow {k l L : Nat} (h1 : 2 ^ l < k) (h2 : k < 2 ^ (l + 1)) : k ≠ 2 ^ L := by
  rintro rfl
  have a1 : l < L := (Nat.pow_lt_pow_iff_right (by decide)).1 h1
  have a2 : L < l + 1 := (Nat.pow_lt_pow_iff_right (by decide)).1 h2
  omega
theorem own_emptyC (w : World) : Own Ecx 25 w (w.alloc (.cells #[] 25)) (.slice (some ⟨w.heap.size, 0, none⟩) 0 0) [] :=
  ⟨⟨rfl, .inr ⟨w.heap.size, 0, #[], rfl, Nat.le_refl _, heap_alloc_new w _, Nat.le_refl _, by simp [maxLen], rfl, rfl⟩⟩, (Below.refl _ w).alloc (Nat.le_refl _) _⟩
/-- 'append([]complex128{}, x...)'. -/
theorem copy_stepC {ops : Array Oper} {rest : List Oper} {o : Oper} {a : Act} {Q : Exit → Act → World → Prop} {w : World} {A : Option Addr} {c n : Nat} {l : List (Nat × Nat)} (hgd : o.guard = none) (s x : Operand)
    (ho : o.op = .call { callee := .builtin .append, args := #[s, x], argTypes := #[24, 24] }) (hs : a.eval s = .slice (some ⟨w.heap.size, 0, none⟩) 0 0) (hx : a.eval x = .slice A n c) (hr : SeqAt Ecx w w.heap.size A l) (hn : l.length = n) (hle : n ≤ 8192)
    (h : ∀ A' c' w', Below w.heap.size w w' → SeqAt Ecx w' w'.heap.size A' l → wpList Tryd.prog ops Q rest (a.put o.dst (.slice A' n c')) w') : wpList Tryd.prog ops Q (o :: rest) a (w.alloc (.cells #[] 25)) := by
  refine wpList_append_seq _ hgd s x 24 ho 16 elCx hs (own_emptyC w) n hx (hr.alloc (Nat.le_refl _) _) hn (by simp only [maxLen, List.length_nil]; omega) (by simp only [List.length_nil]; omega) ?_
  intro v1 w2 hO _
  have hb2 := hO.2
  rw [List.nil_append] at hO
  obtain ⟨A1, c1, rfl, _, _, hS1⟩ := hO.isSeq
  rw [hn]
  exact h A1 c1 w2 hb2 hS1
theorem ne_cx {a b : Nat} (ha : fin a = true) (hb : fin b = true) (t : TypeId) (w : World) : (binOp .neq t (.complex .f64 a b) (.complex .f64 a b)).run Tryd.prog w = .ok (.bool false) w := by
  have h1 : FloatKind.f64.format.order a a = some .eq := order_same ha ha rfl
  have h2 : FloatKind.f64.format.order b b = some .eq := order_same hb hb rfl
  simp [binOp, Op.complexOp, Op.Complex.cmp, Op.floatCmp, h1, h2, asBool]
theorem gwB_val (re im : List Int) (k i : Nat) : (fin (gwB re im k i).1 = true ∧ val (gwB re im k i).1 = (pxB re im k i).re) ∧ (fin (gwB re im k i).2 = true ∧ val (gwB re im k i).2 = (pxB re im k i).im) := by
  unfold gwB pxB
  by_cases h : i < k
  · rw [if_pos h, if_pos h]
    exact ⟨low9_word _, low9_word _⟩
  · rw [if_neg h, if_neg h]
    have z : fin 0 = true ∧ val 0 = 0 := by decide +kernel
    exact ⟨z, z⟩
theorem near_of {a b : Nat} {z : Cx} {E : Rat} (h : Nc a b z E) (hE : E ≤ 1 / 4096) : NrB a z.re ∧ NrB b z.im := by
  obtain ⟨h1, h2, h3⟩ := h
  have r := h3.re
  have i := h3.im
  have e1 : (cv2 a b - z).re = val a - z.re := rfl
  have e2 : (cv2 a b - z).im = val b - z.im := rfl
  rw [e1] at r
  rw [e2] at i
  exact ⟨⟨h1, by grind, by grind⟩, h2, by grind, by grind⟩
def lenV : Value → Nat
  | .slice _ n _ => n
  | _ => 0
theorem wI_of (x : Int) : floatOfInt .f64 x = wI x := rfl

/-- The first part: the points. -/
def XsB (re im : List Int) (k : Nat) (w0 w : World) (v : Value) (n : Nat) : Prop := Own Ecx 25 w0 w v ((List.range n).map (gwB re im k))
end Go.Proofs.YtnjmefjcaiepfaaDoor
