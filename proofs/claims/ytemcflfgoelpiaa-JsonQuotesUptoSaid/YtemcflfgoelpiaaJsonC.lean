/- The walks of the JSON parser's small methods: run, want. -/
import Derived.Test.YtemcflfgoelpiaaJsonB
import Derived.Laws.IdiomStrings
namespace Go.Proofs.Ytemcflfgoelpiaa
open Go.RowKit

/-- A method without a result that may throw. -/
def RunEnd (w : World) (b : Nat) (s : ByteArray) : Option (List UInt8) → Ending → World → Prop
  | some t, e, w' => Went w b s unitV t e w'
  | none, e, w' => Threw w b 20 e w'

def hd (l : List UInt8) : UInt8 := l.headD 0
theorem pk_hd (l : List UInt8) : pk l = (hd l).toNat := by cases l <;> rfl
theorem peek_hd (w : World) (b : Nat) (s : ByteArray) (l : List UInt8) (hs : s.size ≤ 1048576) (h : At w b s l) :
    Calls Try.prog 45 #[.pointer (some ⟨b, 0, none⟩)] w fun e w' => e = .returned (.int .u8 (hd l).toNat) ∧ Mv b w w' ∧ At w' b s l :=
  (peek_any w b s l hs h).mono fun e w' ⟨he, n, hn⟩ => ⟨by rw [he, pk_hd], by rw [hn]; exact (Mv.rfl_ b w).drewN n, by rw [hn]; exact h⟩

/-- 'p.at++'. -/
theorem At.cells {w : World} {b : Nat} {s : ByteArray} {l : List UInt8} (h : At w b s l) : ∃ i : Nat, i ≤ s.size ∧ s.data.toList.drop i = l ∧ (∀ o, w.cell? ⟨b, o, none⟩ = #[Value.string s, .int .i64 i][o]?) ∧ (∀ o, w.frozen? ⟨b, o, none⟩ = false) ∧
    ∀ (j : Nat) (x : Int), x = j → j ≤ s.size → At (w.setCell ⟨b, 1, none⟩ (.int .i64 x)) b s (s.data.toList.drop j) := by
  obtain ⟨i, h1, h2, h3⟩ := h
  exact ⟨i, h1, h2, fun o => Lib.cell_of_heap h3 o, fun o => Lib.frozen_of_heap h3 o, fun j x hx hj => At.mk_ h3 j x hx hj⟩
theorem lt_of_cons {s : ByteArray} {i : Nat} {c : UInt8} {t : List UInt8} (h : s.data.toList.drop i = c :: t) : i < s.size ∧ s.data.toList.drop (i + 1) = t := by
  have hi : i < s.size := by
    rcases Nat.lt_or_ge i s.size with h1 | h1
    · exact h1
    · rw [drop_none h1] at h; cases h
  rw [drop_cons hi] at h
  injection h with _ h
  exact ⟨hi, h⟩

set_option maxHeartbeats 400000 in
theorem run_any (w : World) (b : Nat) (s : ByteArray) (l : List UInt8) (hs : s.size ≤ 1048576) (h : At w b s l) :
    Calls Try.prog 60 #[.pointer (some ⟨b, 0, none⟩)] w fun e w' => RunEnd w b s (JsonP.run l) e w' := by
  have HA := Lib.hid h
  clear h
  cases hd0 : JsonP.isDg (hd l) with
  | false =>
    have hr : JsonP.run l = none := by
      cases l with
      | nil => rfl
      | cons c t => show (if JsonP.isDg c = true then _ else _) = _; rw [show JsonP.isDg c = false from hd0]; rfl
    rw [hr]
    clear hr
    have HD := Lib.hid hd0
    clear hd0
    go_enter Try.func60, Try.ntmps60
    go_wp2_with (first
      | (go_at_call 45; refine (peek_hd _ b s l hs HA.out).mono ?_; rintro e w1 ⟨rfl, hm1, ha1⟩; have HM1 := Lib.hid hm1; have HA1 := Lib.hid ha1; clear hm1 ha1)
      | (go_at_call 48; refine (isDigit_any _ _).mono ?_; rintro e w2 ⟨rfl, rfl⟩; rw [HD.out])
      | (go_at_call 31; refine (fail_any 20 _ b s l HA1.out).mono ?_; rintro e w3 ⟨hm3, i3, rfl⟩))
    exact ⟨rfl, HM1.out.step hm3, i3, rfl⟩
  | true =>
    obtain ⟨c, t, rfl⟩ : ∃ c t, l = c :: t := by
      cases l with
      | nil => cases hd0
      | cons c t => exact ⟨c, t, rfl⟩
    have hr : JsonP.run (c :: t) = some (t.dropWhile JsonP.isDg) := by show (if JsonP.isDg c = true then _ else _) = _; rw [show JsonP.isDg c = true from hd0]; rfl
    have hrw : (c :: t).dropWhile JsonP.isDg = t.dropWhile JsonP.isDg := by rw [List.dropWhile_cons, show JsonP.isDg c = true from hd0]; rfl
    obtain ⟨l, hL⟩ : ∃ l, c :: t = l := ⟨_, rfl⟩
    rw [hr, ← hrw, hL]
    rw [hL] at hd0 HA
    clear hr hrw hL
    have HD := Lib.hid hd0
    clear hd0
    go_enter Try.func60, Try.ntmps60
    go_wp2_with (first
      | (go_at_call 45; refine (peek_hd _ b s l hs HA.out).mono ?_; rintro e w1 ⟨rfl, hm1, ha1⟩; have HM1 := Lib.hid hm1; have HA1 := Lib.hid ha1; clear hm1 ha1)
      | (go_at_call 48; refine (isDigit_any _ _).mono ?_; rintro e w2 ⟨rfl, rfl⟩; rw [HD.out]))
    clear HA HD
    have hlen : l.length ≤ s.size := by
      obtain ⟨i, h1, h2, h3⟩ := HA1.out
      rw [← h2, List.length_drop, Array.length_toList]
      exact Nat.sub_le _ _
    go_loopg [] (s.size + 1) (fun k wr => ∃ t, t.length + 1 ≤ k ∧ Hid (t.dropWhile JsonP.isDg = l.dropWhile JsonP.isDg) ∧ Mv b w wr ∧ Hid (At wr b s t))
    case atStart => exact ⟨l, by omega, Lib.hid rfl, HM1.out, HA1⟩
    case round =>
      obtain ⟨t, hk, HE, hm, HAt⟩ := hrel
      have HM := Lib.hid hm
      clear hm
      cases hd0 : JsonP.isDg (hd t) with
      | false =>
        have HE2 : Hid (t = l.dropWhile JsonP.isDg) := Lib.hid (by
          rw [← HE.out]
          cases t with
          | nil => rfl
          | cons c t => rw [List.dropWhile_cons, show JsonP.isDg c = false from hd0]; rfl)
        have HD := Lib.hid hd0
        clear hd0
        go_wp2_with (first
          | (go_at_call 45; refine (peek_hd _ b s t hs HAt.out).mono ?_; rintro e w5 ⟨rfl, hm5, ha5⟩; have HM5 := Lib.hid hm5; have HA5 := Lib.hid ha5; clear hm5 ha5)
          | (go_at_call 48; refine (isDigit_any _ _).mono ?_; rintro e w6 ⟨rfl, rfl⟩; rw [HD.out]))
        go_end0
        exact ⟨rfl, HM.out.step HM5.out, by rw [← HE2.out]; exact HA5.out⟩
      | true =>
        obtain ⟨c, u, rfl⟩ : ∃ c u, t = c :: u := by
          cases t with
          | nil => cases hd0
          | cons c t => exact ⟨c, t, rfl⟩
        have HE2 : Hid (u.dropWhile JsonP.isDg = l.dropWhile JsonP.isDg) := Lib.hid (by rw [← HE.out, List.dropWhile_cons, show JsonP.isDg c = true from hd0]; rfl)
        have HD := Lib.hid hd0
        have hlu : u.length + 2 ≤ gk := by rw [List.length_cons] at hk; omega
        clear hd0 hk
        go_upto_region 3 with (first
          | (go_at_call 45; refine (peek_hd _ b s (c :: u) hs HAt.out).mono ?_; rintro e w5 ⟨rfl, hm5, ha5⟩; have HM5 := Lib.hid hm5; have HA5 := Lib.hid ha5; clear hm5 ha5)
          | (go_at_call 48; refine (isDigit_any _ _).mono ?_; rintro e w6 ⟨rfl, rfl⟩; rw [HD.out]))
        obtain ⟨i, h1, h2, hc, hz, hn⟩ := HA5.out.cells
        obtain ⟨h3, h4⟩ := lt_of_cons h2
        have HN := Lib.hid hn
        have H4 := Lib.hid h4
        clear h2 h4 hn
        go_wp2
        go_roundg (gk - 1)
        case measure => omega
        case rel => exact ⟨u, by omega, HE2, (HM.out.step HM5.out).set ⟨b, 1, none⟩ (.inl rfl) _, Lib.hid (by rw [← H4.out]; exact HN.out (i + 1) _ (by omega) (by omega))⟩

theorem want_cons (x : UInt8) (w : List UInt8) (y : UInt8) (l : List UInt8) : JsonP.want (x :: w) (y :: l) = if y = x then JsonP.want w l else none := rfl
theorem want_none (x : UInt8) (w : List UInt8) : JsonP.want (x :: w) [] = none := rfl
theorem bytesRow_at (w : World) (wd : ByteArray) (cap : Nat) (e : TypeId) (fz : Nat × Nat) (j : Nat) (hj : j < wd.size) :
    (w.alloc (.cells (bytesRow wd cap) e fz)).cell? ⟨w.heap.size, j, none⟩ = some (.int .u8 wd[j].toNat) := by
  rw [Lib.cell_of_heap (heap_alloc_new w _) j]
  have h1 : j < (wd.data.map (fun b => Value.int .u8 b.toNat)).size := by rw [Array.size_map]; exact hj
  unfold bytesRow
  rw [Array.getElem?_append_left h1, Array.getElem?_map]
  have : wd.data[j]? = some wd[j] := Array.getElem?_eq_getElem hj
  rw [this]
  rfl
set_option maxHeartbeats 800000 in
theorem want_any (wd : ByteArray) (hw : wd.size ≤ 100) (w : World) (b : Nat) (s : ByteArray) (l : List UInt8) (hs : s.size ≤ 1048576) (h : At w b s l) :
    Calls Try.prog 46 #[.pointer (some ⟨b, 0, none⟩), .string wd] w fun e w' => RunEnd w b s (JsonP.want wd.data.toList l) e w' := by
  have HA := Lib.hid h
  have hbg := h.lt
  clear h
  have hcv := fun w => run_bytes_of_string (P := Try.prog) w 9 46 5 wd Try.underlying9 Try.underlying46 Try.underlying5
  go_enter Try.func46, Try.ntmps46
  go_upto_region 1 with fail
  obtain ⟨W, hW⟩ : ∃ W, W = (w.alloc (.cells (bytesRow wd (grownCap w wd.size 0 5)) 5 ((bytesRow wd (grownCap w wd.size 0 5)).size, (bytesRow wd (grownCap w wd.size 0 5)).size + 1))).drew := ⟨_, rfl⟩
  obtain ⟨g, hg⟩ : ∃ g, w.heap.size = g := ⟨_, rfl⟩
  have hrow : ∀ j (hj : j < wd.size), W.cell? ⟨g, j, none⟩ = some (.int .u8 wd[j].toNat) := fun j hj => by
    rw [hW, ← hg]; exact bytesRow_at w wd _ _ _ j hj
  have hm0 : Mv b w W := by rw [hW]; exact ((Mv.rfl_ b w).alloc _).drew
  have ha0 : At W b s l := HA.out.far (by rw [hW]; exact Below.heap_alloc w _ b hbg)
  have hgW : g < W.heap.size := by rw [hW, ← hg]; simp
  rw [← hW, hg]
  generalize grownCap w wd.size 0 5 = cap at *
  have hgb : g ≠ b := by omega
  have HM0 := Lib.hid hm0
  have HA0 := Lib.hid ha0
  have HR0 := Lib.hid hrow
  clear hm0 ha0 hrow hW hg hcv hbg HA
  go_loopg [9] (wd.size + 1) (fun k s9 wr => ∃ (j : Nat) (t : List UInt8), s9 = .int .i64 j ∧ j ≤ wd.size ∧ k = wd.size + 1 - j ∧ Hid (JsonP.want (wd.data.toList.drop j) t = JsonP.want wd.data.toList l) ∧ Mv b w wr ∧ Hid (At wr b s t) ∧ g < wr.heap.size ∧ Hid (∀ j (hj : j < wd.size), wr.cell? ⟨g, j, none⟩ = some (.int .u8 wd[j].toNat)))
  case atStart => exact ⟨0, l, rfl, by omega, by omega, Lib.hid rfl, HM0.out, HA0, hgW, HR0⟩
  case round =>
    obtain ⟨j, t, rfl, hj, hk, HE, hm, HAt, hgr, HR⟩ := hrel
    have HM := Lib.hid hm
    clear hm HA0 HM0 HR0
    have HK := Lib.hid hk
    clear hk
    by_cases hlt : j < wd.size
    · have hjj : (j : Int) < (wd.size : Int) := by omega
      have hj0 : (0 : Int) ≤ (j : Int) := by omega
      have cj := HR.out j hlt
      obtain ⟨i, h1, h2, hc, hz, hn⟩ := HAt.out.cells
      have hE := HE.out
      rw [drop_cons hlt] at hE
      obtain ⟨x, hx⟩ : ∃ x : Int, (wd[j].toNat : Int) = x := ⟨_, rfl⟩
      by_cases hi : i < s.size
      · rw [← h2, drop_cons hi, want_cons] at hE
        obtain ⟨y, hy⟩ : ∃ y : Int, (s[i].toNat : Int) = y := ⟨_, rfl⟩
        have hii : (i : Int) < (s.size : Int) := by omega
        have hid : decide ((s.size : Int) ≤ (i : Int)) = false := decide_eq_false (by omega)
        have hi0 : (0 : Int) ≤ (i : Int) := by omega
        by_cases hxy : s[i] = wd[j]
        · rw [if_pos hxy] at hE
          have hq : (y != x) = false := by rw [← hx, ← hy, hxy]; simp
          have HE2 := Lib.hid hE
          have HN := Lib.hid hn
          clear hE h2 hn hxy
          go_wp2
          go_quiet (fail)
          go_wp2
          go_roundg (gk - 1)
          case measure => have := HK.out; omega
          case rel => exact ⟨j + 1, _, by go_num, by omega, by have := HK.out; omega, HE2, (HM.out.drewN _).set ⟨b, 1, none⟩ (.inl rfl) _, Lib.hid (HN.out (i + 1) _ (by omega) (by omega)), by simpa [World.setCell] using hgr, Lib.hid fun j' hj' => by
            rw [World.cell?_setCell_other _ _ _ _ (by intro e; first | exact hgb (congrArg Addr.block e) | exact hgb (congrArg Addr.block e).symm)]; exact HR.out j' hj'⟩
        · rw [if_neg hxy] at hE
          have hq : (y != x) = true := by
            rw [← hx, ← hy, bne_iff_ne]
            intro e
            exact hxy (UInt8.toNat_inj.1 (by omega))
          have HE2 := Lib.hid hE
          clear hE h2 hn hxy
          go_wp2
          go_quiet (fail)
          go_wp2_with (go_at_call 31; refine (fail_any 20 _ b s t (HAt.out.drewN _)).mono ?_; rintro e w3 ⟨hm3, i3, rfl⟩)
          rw [← HE2.out]
          exact ⟨rfl, (HM.out.drewN _).step hm3, i3, rfl⟩
      · rw [← h2, drop_none (s := s) (i := i) (by omega), want_none] at hE
        have hid : decide ((s.size : Int) ≤ (i : Int)) = true := decide_eq_true (by omega)
        have HE2 := Lib.hid hE
        clear hE h2 hn
        go_wp2
        go_quiet (fail)
        go_wp2_with (go_at_call 31; refine (fail_any 20 _ b s t (HAt.out.drewN _)).mono ?_; rintro e w3 ⟨hm3, i3, rfl⟩)
        rw [← HE2.out]
        exact ⟨rfl, (HM.out.drewN _).step hm3, i3, rfl⟩
    · have hjj : ¬ (j : Int) < (wd.size : Int) := by omega
      have hE := HE.out
      rw [drop_none (by omega)] at hE
      have HE2 := Lib.hid hE
      clear hE
      go_wp2
      go_end0
      rw [← HE2.out]
      exact ⟨rfl, HM.out, HAt.out⟩

end Go.Proofs.Ytemcflfgoelpiaa
