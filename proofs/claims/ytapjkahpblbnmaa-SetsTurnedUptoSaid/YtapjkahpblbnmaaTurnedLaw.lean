/- Chapter 08, the walk of SetsTurned, for lists that are no longer than a million. -/
import Derived.Test.YtapjkahpblbnmaaMade
import Derived.StillTailTactics
namespace Go.Proofs.Ytapjkahpblbnmaa
open Go.RowKit SetPure

theorem info_lrange : (Try.prog.info? 30).map (fun i => (i.zero, i.size, i.bytes)) = some (some (.agg #[.int .i64 0, .int .i64 0]), 2, 16) := by kernel_rfl
theorem elLRanges : ElemOf Try.prog 22 30 Epair.k 16 := by
  obtain ⟨i, hi, hz0, hz1, hz2⟩ := info_parts info_lrange
  exact ⟨i, _, Try.underlying22, hi, hz0, hz1, hz2, rfl⟩

theorem step_append_seq {P : Program} (w : World) {α : Type} {E : Enc α} {w0 : World} {e : TypeId} {v : Value} {l l' : List α} {B : Nat} {A : Option Addr} {c : Nat}
    {ops : Array Oper} {o : Oper} {a : Act} {K : Act → World → Prop} {Q : Exit → Act → World → Prop} {F : Prop} (hgd : o.guard = none) (s x : Operand) (t : TypeId)
    (ho : o.op = .call { callee := .builtin .append, args := #[s, x], argTypes := #[t, t] }) (bytes : Nat) (he : ElemOf P t e E.k bytes)
    (hs : a.eval s = v) (hown : Own E e w0 w v l) (m : Nat) (hx : a.eval x = .slice A m c) (hr : SeqAt E w B A l') (hm : l'.length = m)
    (h63 : l.length + m ≤ maxLen) (hbytes : (l.length + m) * bytes ≤ 140737488355328)
    (h : ∀ v' w', Own E e w0 w' v' (l ++ l') → w.grownBy w' v.ownBlock → K (a.put o.dst v') w') :
    if Region.wanted o (yielded ops a.tmps) = true then Oper.wp P o a w K Q else F := by
  have hw : Region.wanted o (yielded ops a.tmps) = true := by simp [Region.wanted, hgd]
  rw [if_pos hw]
  exact wp_append_seq w s x t ho bytes he hs hown m hx hr hm h63 hbytes h

/-- Each twice. -/
def dup (l : List Rg) : List Rg := l.flatMap fun r => [r, r]
theorem dup_snoc (l : List Rg) (r : Rg) : dup (l ++ [r]) = dup l ++ [r, r] := by simp [dup]
theorem dup_len (l : List Rg) : (dup l).length = 2 * l.length := by
  induction l with
  | nil => rfl
  | cons r l ih => show (r :: r :: dup l).length = _; simp only [List.length_cons, ih]; omega
theorem dup_in (l : List Rg) (z : Int) : inB (dup l.reverse) z = inB l z := by
  rw [Bool.eq_iff_iff, inB_iff, inB_iff]
  simp only [InS, dup, List.mem_flatMap, List.mem_reverse]
  constructor
  · rintro ⟨r, ⟨q, hq, hr⟩, h⟩
    have : r = q := by simpa using hr
    subst this
    exact ⟨r, hq, h⟩
  · rintro ⟨r, hr, h⟩
    exact ⟨r, ⟨r, hr, by simp⟩, h⟩
theorem back_step {l : List Rg} {j : Nat} {r : Rg} (hj : j < l.length) (hr : l.getD j (0, 0) = r) : dup (l.drop j).reverse = dup (l.drop (j + 1)).reverse ++ [r, r] := by
  rw [drop_next' hj hr, List.reverse_cons, dup_snoc]

theorem hold_of_set {W w : World} {L : List (Value × (Int → Bool))} {v : Value} {f : Int → Bool} (h : Hold W w L) (hv : (v, f) ∈ L) : Calls Try.prog 10 #[v] w fun e w' => ∃ x, e = .returned x ∧ Hold W w' ((x, fun z => f z && inR z) :: L) := by
  obtain ⟨s, h1, h2⟩ := h.get hv
  have := hold_of h h1.seq (by have := h1.canon.len; omega)
  rw [show inB s = f from funext h2] at this
  exact this
theorem hold_of_nil {W w : World} {L : List (Value × (Int → Bool))} (h : Hold W w L) : Calls Try.prog 10 #[.slice none 0 0] w fun e w' => (∃ A c, e = .returned (.slice A 0 c)) ∧ Hold W w' L := by
  have hs : IsSeq Epair w (.slice none 0 0) ([] : List Rg) := ⟨none, 0, rfl, by simp, by simp [maxLen], SeqAt.nil_⟩
  refine (set_of hs (by simp)).mono ?_
  rintro e w' ⟨x, o, rfl, ho, hp, hb⟩
  obtain rfl : o = [] := Canon.unique ho.canon trivial fun z => by rw [hp]; simp [InS]
  obtain ⟨A, c, rfl, _⟩ := ho.seq
  exact ⟨⟨A, c, rfl⟩, h.go hb⟩

set_option maxHeartbeats 4000000 in
set_option maxRecDepth 100000 in
theorem turned_any (A : Option Addr) (c : Nat) (l : List Rg) (w : World) (hl : l.length ≤ 1048576) (hA : SeqAt Epair w w.heap.size A l) :
    Calls Try.prog 3 #[.slice A l.length c] w fun e w' => e = .returned (.bool true) ∧ Below w.heap.size w w' := by
  have HA := Lib.hid hA
  have HD := Lib.hid (fun z => dup_in l z)
  clear hA
  have HM1 : Hid True := trivial
  have HM2 : Hid True := trivial
  go_enter Try.func3, Try.ntmps3
  go_wp2_with (first
    | (go_at_call 8; refine (speaks_any _).mono ?_; rintro e w1 ⟨rfl, hb1⟩; have hH := (Hold.start w).go hb1)
    | (go_at_call 9; refine (made_any A c l _ (by omega) ((HA.out.below hH.1).more hH.1.size)).mono ?_; rintro e w1 ⟨v1, vb1, rfl, hs1, _, hb1⟩; have hH := hH.add hb1 hs1))
  obtain ⟨ws, hws⟩ : ∃ ws : World, ws = w1 := ⟨_, rfl⟩
  rw [← hws] at hH ⊢
  clear hws
  have hzs := hH.1.size
  go_loopw [5, 6] (fun vb i wr => ∃ (k : Nat) (x : Int), k ≤ l.length ∧ i = .int .i64 x ∧ x + 1 = (k : Int) ∧ Own Epair 30 ws wr vb (dup (l.drop k).reverse))
    (fun _ i _ => (intOf i + 1).toNat)
  case atStart => exact ⟨l.length, (l.length : Int) - 1, Nat.le_refl _, rfl, by omega, by rw [List.drop_length]; exact Own.nil_ _⟩
  case round =>
    obtain ⟨k, x, hk, rfl, hx, hown⟩ := hrel
    have hz := hown.size
    cases k with
    | zero =>
      obtain rfl : x = -1 := by omega
      rw [List.drop_zero] at hown
      have hlen : (dup l.reverse).length ≤ 2097152 := by rw [dup_len, List.length_reverse]; omega
      have hH := hH.go hown.2
      have hI := Lib.hid hown.isSeq
      go_wp2_with (first
        | (go_at_call 9; (obtain ⟨A2, c2, rfl, _, _, hA2⟩ := hI.out); refine (made_any A2 c2 (dup l.reverse) _ (by omega) hA2).mono ?_; rintro e w2 ⟨v2, vb2, rfl, hs2, _, hb2⟩; have hH := hH.add hb2 hs2)
        | (go_at_call 10; clear HM1; refine (hold_of_set hH (by repeat (first | exact List.Mem.head _ | apply List.Mem.tail))).mono ?_; rintro e w3 ⟨x3, rfl, hH⟩)
        | (go_at_call 10; clear HM2; refine (hold_of_nil hH).mono ?_; rintro e w3 ⟨⟨A3, c3, rfl⟩, hH⟩)
        | (go_at_call 11; refine (hold_same hH (by repeat (first | exact List.Mem.head _ | apply List.Mem.tail)) (by repeat (first | exact List.Mem.head _ | apply List.Mem.tail)) (by intro z hz; simp only [HD.out, hz, Bool.and_true])).mono ?_; rintro e w1 ⟨rfl, hH⟩))
      go_ret
      exact ⟨rfl, hH.1⟩
    | succ j =>
      obtain rfl : x = (j : Int) := by omega
      have hlt : j < l.length := by omega
      obtain ⟨b, off, rfl, hb, hc⟩ := ((HA.out.below hH.1).more hzs |>.below hown.2).pairs_ (by omega)
      obtain ⟨h0, h1⟩ := hc j hlt
      clear hc
      obtain ⟨⟨x, y⟩, hr⟩ : ∃ r, l.getD j (0, 0) = r := ⟨_, rfl⟩
      rw [hr] at h0 h1
      simp only at h0 h1
      have HS := Lib.hid (back_step hlt hr)
      clear hr
      have hjk : (j : Int) < (l.length : Int) := by omega
      have hdl : (dup (l.drop (j + 1)).reverse).length ≤ 2097152 := by rw [dup_len, List.length_reverse, List.length_drop]; omega
      have hbs : (⟨b, off + j * 2, none⟩ : Addr).block < ws.heap.size := hb
      have E0 := Lib.hid ((hown.2.cell (p := ⟨b, off + j * 2, none⟩) hbs).symm.trans h0)
      have E1 := Lib.hid ((hown.2.cell (p := ⟨b, off + j * 2 + 1, none⟩) hbs).symm.trans h1)
      go_upto_region 8 with (fail)
      go_region_held3 (fun w' => w'.cell? ⟨b, off + j * 2, none⟩ = some (.int .i64 x) ∧ w'.cell? ⟨b, off + j * 2 + 1, none⟩ = some (.int .i64 y)) (first | exact ⟨(hown1.2.cell (p := ⟨b, off + j * 2, none⟩) hbs).trans E0.out, (hown1.2.cell (p := ⟨b, off + j * 2 + 1, none⟩) hbs).trans E1.out⟩ | go_keep)
        ((refine step_append_seq _ (by rfl) (.tmp 24) (.tmp 33) 22 (by rfl) 16 elLRanges (by rfl) ((hown.alloc _).drew) 2 (by rfl) (SeqAt.new (E := Epair) wr [(x, y), (x, y)] 30).drew (by rfl) (by simp only [maxLen]; omega) (by omega) ?_; intro v1 w1 hown1 hgrow))
      go_wp2
      go_roundw
      case rel => exact ⟨j, (j : Int) - 1, by omega, by go_num, by omega, by rw [HS.out]; exact hown1⟩
      case measure => simp [intOf]

end Go.Proofs.Ytapjkahpblbnmaa
