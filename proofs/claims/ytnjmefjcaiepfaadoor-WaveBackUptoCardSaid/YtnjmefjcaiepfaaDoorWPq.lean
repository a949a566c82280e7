/- The walk of the document's Product. -/
import Derived.Test.YtnjmefjcaiepfaaDoorWPd
namespace Go.Proofs.YtnjmefjcaiepfaaDoor
open Go.RowKit WaveP

def pv (a b : Nat → Int) (i m : Nat) : Int := smI (min i (m + 1)) fun j => a j * b (m - j)
def pvk (a b : Nat → Int) (i k m : Nat) : Int := pv a b i m + (if i ≤ m ∧ m < i + k then a i * b (m - i) else 0)
section
variable {a b : Nat → Int}
theorem pv_zero (m : Nat) : pv a b 0 m = 0 := by unfold pv; rw [Nat.zero_min]; rfl
theorem pvk_zero (i m : Nat) : pvk a b i 0 m = pv a b i m := by unfold pvk; rw [if_neg (by omega), Int.add_zero]
theorem pvk_set (i k m : Nat) : (if m = i + k then pvk a b i k (i + k) + a i * b k else pvk a b i k m) = pvk a b i (k + 1) m := by
  unfold pvk
  by_cases e : m = i + k
  · subst e
    rw [if_pos rfl, if_neg (by omega), if_pos ⟨by omega, by omega⟩, show i + k - i = k by omega, Int.add_zero]
  · rw [if_neg e]
    by_cases h : i ≤ m ∧ m < i + k
    · rw [if_pos h, if_pos ⟨h.1, by omega⟩]
    · rw [if_neg h, if_neg (by omega)]
theorem pvk_end {lb : Nat} (hb : ∀ j, lb ≤ j → b j = 0) (i m : Nat) : pvk a b i lb m = pv a b (i + 1) m := by
  unfold pvk pv
  by_cases h : i ≤ m
  · rw [show min (i + 1) (m + 1) = i + 1 by omega, show min i (m + 1) = i by omega]
    show _ = smI i _ + a i * b (m - i)
    by_cases h2 : m < i + lb
    · rw [if_pos ⟨h, h2⟩]
    · rw [if_neg (by omega), hb (m - i) (by omega), Int.mul_zero]
  · rw [if_neg (by omega), show min (i + 1) (m + 1) = m + 1 by omega, show min i (m + 1) = m + 1 by omega, Int.add_zero]
theorem pv_end {la : Nat} (ha : ∀ j, la ≤ j → a j = 0) (m : Nat) : pv a b la m = cvI a b m := by
  unfold pv cvI
  rcases Nat.le_total (m + 1) la with h | h
  · rw [Nat.min_eq_right h]
  · rw [Nat.min_eq_left h]
    obtain ⟨d, hd⟩ : ∃ d, m + 1 = la + d := ⟨m + 1 - la, by omega⟩
    rw [hd, smI_add, smI_none (n := d) fun i _ => by show a (la + i) * _ = 0; rw [ha _ (by omega), Int.zero_mul], Int.add_zero]
theorem smI_le {f : Nat → Int} {B : Nat} (h : ∀ i, (f i).natAbs ≤ B) (n : Nat) : (smI n f).natAbs ≤ n * B := by
  induction n with
  | zero => exact Nat.zero_le _
  | succ n ih =>
    show (smI n f + f n).natAbs ≤ _
    have := h n
    rw [Nat.add_mul, Nat.one_mul]
    omega
theorem prod_abs (ha : ∀ i, (a i).natAbs ≤ 256) (hb : ∀ i, (b i).natAbs ≤ 256) (i j : Nat) : (a i * b j).natAbs ≤ 65536 := by
  rw [Int.natAbs_mul]
  exact Nat.mul_le_mul (ha i) (hb j)
theorem pvk_abs (ha : ∀ i, (a i).natAbs ≤ 256) (hb : ∀ i, (b i).natAbs ≤ 256) (i k m : Nat) (hi : i ≤ 4096) : (pvk a b i k m).natAbs ≤ 536870912 := by
  unfold pvk pv
  have h1 := smI_le (f := fun j => a j * b (m - j)) (fun j => prod_abs ha hb j _) (min i (m + 1))
  have h2 : min i (m + 1) * 65536 ≤ 4096 * 65536 := Nat.mul_le_mul_right _ (by omega)
  have h3 := prod_abs ha hb i (m - i)
  split <;> omega
end

set_option maxHeartbeats 1600000 in
set_option maxRecDepth 100000 in
theorem refProduct_all (A A' : Option Addr) (c c' : Nat) (a b : List Int) (w : World) (ha : a.length ≤ 17592186044416) (hb : b.length ≤ 17592186044416) (hA : SeqAt Eint w w.heap.size A a) (hA' : SeqAt Eint w w.heap.size A' b) :
    Calls Tryd.prog 18 #[.slice A a.length c, .slice A' b.length c'] w (RetP a b w) := by
  have HA := Lib.hid hA
  have HB := Lib.hid hA'
  obtain ⟨la, hla⟩ : ∃ la, la = a.length := ⟨_, rfl⟩
  obtain ⟨lb, hlb⟩ : ∃ lb, lb = b.length := ⟨_, rfl⟩
  have HLA := Lib.hid hla
  have HLB := Lib.hid hlb
  rw [← hla] at ha ⊢
  rw [← hlb] at hb ⊢
  clear hla hlb hA hA'
  by_cases hbig : la + lb ≤ 4096
  · go_enter Tryd.func18, Tryd.ntmps18
    go_wp2
    go_loopw [6] (fun i wr => ∃ k : Nat, k ≤ la ∧ i = .int .i64 k ∧ wr = w ∧ Hid (∀ i, i < k → -256 ≤ atL a i ∧ atL a i ≤ 256)) (fun i _ => la + 1 - (intOf i).toNat)
    case atStart => exact ⟨0, by omega, rfl, rfl, Lib.hid fun i hi => absurd hi (Nat.not_lt_zero _)⟩
    case round =>
      obtain ⟨k, hk, rfl, hw, HK⟩ := hrel
      obtain rfl : w = wr := hw.symm
      by_cases hkl : k < la
      · obtain ⟨b0, o0, rfl, _, hc⟩ := HA.out.ints_ (by have := HLA.out; omega)
        have hc0 := hc k (by rw [← HLA.out]; exact hkl)
        obtain ⟨x, hx⟩ : ∃ x, x = atL a k := ⟨_, rfl⟩
        have hc1 : w.cell? ⟨b0, o0 + k, none⟩ = some (.int .i64 x) := by rw [hx]; exact hc0
        have HX := Lib.hid hx
        clear hc hc0 hx
        by_cases hx1 : -256 ≤ x
        · have hd0 : decide (x < -256) = false := decide_eq_false (by omega)
          by_cases hx2 : x ≤ 256
          · have hd : decide (256 < x) = false := decide_eq_false (by omega)
            have HK2 := Lib.hid (show ∀ i, i < k + 1 → -256 ≤ atL a i ∧ atL a i ≤ 256 from fun i hi => by
              by_cases e : i = k
              · subst e; rw [← HX.out]; exact ⟨hx1, hx2⟩
              · exact HK.out i (by omega))
            go_wp2
            go_roundw
            case rel => exact ⟨k + 1, by omega, by go_num, trivial, HK2⟩
            case measure => simp [intOf]; omega
          · have hd : decide (256 < x) = true := decide_eq_true (by omega)
            have HBD := Lib.hid (show badP a b = true by unfold badP; rw [fitsL_not (l := a) (i := k) (by rw [← HLA.out]; exact hkl) (by rw [← HX.out]; omega)]; simp)
            go_wp2
            go_ret2
            exact ret_bad HBD.out (Below.refl _ _)
        · have hd0 : decide (x < -256) = true := decide_eq_true (by omega)
          have HBD := Lib.hid (show badP a b = true by unfold badP; rw [fitsL_not (l := a) (i := k) (by rw [← HLA.out]; exact hkl) (by rw [← HX.out]; omega)]; simp)
          go_wp2
          go_ret2
          exact ret_bad HBD.out (Below.refl _ _)
      · obtain rfl : k = la := by omega
        have HF1 := Lib.hid (show fitsL a = true from fitsL_of fun i hi => HK.out i (by rw [HLA.out]; exact hi))
        go_wp2
        go_loopw [7] (fun i wr => ∃ j : Nat, j ≤ lb ∧ i = .int .i64 j ∧ wr = w ∧ Hid (∀ i, i < j → -256 ≤ atL b i ∧ atL b i ≤ 256)) (fun i _ => lb + 1 - (intOf i).toNat)
        case atStart => exact ⟨0, by omega, rfl, rfl, Lib.hid fun i hi => absurd hi (Nat.not_lt_zero _)⟩
        case round =>
          obtain ⟨j, hj, rfl, hw, HK⟩ := hrel
          obtain rfl : w = wr := hw.symm
          by_cases hjl : j < lb
          · obtain ⟨b0, o0, rfl, _, hc⟩ := HB.out.ints_ (by have := HLB.out; omega)
            have hc0 := hc j (by rw [← HLB.out]; exact hjl)
            obtain ⟨x, hx⟩ : ∃ x, x = atL b j := ⟨_, rfl⟩
            have hc1 : w.cell? ⟨b0, o0 + j, none⟩ = some (.int .i64 x) := by rw [hx]; exact hc0
            have HX := Lib.hid hx
            clear hc hc0 hx
            by_cases hx1 : -256 ≤ x
            · have hd0 : decide (x < -256) = false := decide_eq_false (by omega)
              by_cases hx2 : x ≤ 256
              · have hd : decide (256 < x) = false := decide_eq_false (by omega)
                have HK2 := Lib.hid (show ∀ i, i < j + 1 → -256 ≤ atL b i ∧ atL b i ≤ 256 from fun i hi => by
                  by_cases e : i = j
                  · subst e; rw [← HX.out]; exact ⟨hx1, hx2⟩
                  · exact HK.out i (by omega))
                go_wp2
                go_roundw
                case rel => exact ⟨j + 1, by omega, by go_num, trivial, HK2⟩
                case measure => simp [intOf]; omega
              · have hd : decide (256 < x) = true := decide_eq_true (by omega)
                have HBD := Lib.hid (show badP a b = true by unfold badP; rw [fitsL_not (l := b) (i := j) (by rw [← HLB.out]; exact hjl) (by rw [← HX.out]; omega)]; simp)
                go_wp2
                go_ret2
                exact ret_bad HBD.out (Below.refl _ _)
            · have hd0 : decide (x < -256) = true := decide_eq_true (by omega)
              have HBD := Lib.hid (show badP a b = true by unfold badP; rw [fitsL_not (l := b) (i := j) (by rw [← HLB.out]; exact hjl) (by rw [← HX.out]; omega)]; simp)
              go_wp2
              go_ret2
              exact ret_bad HBD.out (Below.refl _ _)
          · obtain rfl : j = lb := by omega
            have HF2 := Lib.hid (show fitsL b = true from fitsL_of fun i hi => HK.out i (by rw [HLB.out]; exact hi))
            have HBD := Lib.hid (show badP a b = false by unfold badP; rw [← HLA.out, ← HLB.out, decide_eq_false (by omega), HF1.out, HF2.out]; rfl)
            by_cases h0 : k = 0
            · go_wp2
              go_ret2
              exact ret_none HBD.out (.inl (by rw [← HLA.out]; exact h0)) (Below.refl _ _)
            · by_cases h1 : j = 0
              · go_wp2
                go_ret2
                exact ret_none HBD.out (.inr (by rw [← HLB.out]; exact h1)) (Below.refl _ _)
              · obtain ⟨all, hall⟩ : ∃ all, k + j = all + 1 := ⟨k + j - 1, by omega⟩
                have hal : (k : Int) + (j : Int) - 1 = (all : Int) := by omega
                have hmk := run_make_row' (P := Tryd.prog) 22 3 (.int .i64 0) 8 Tryd.underlying22 (by kernel_rfl) rfl .i64 .i64 all (by omega) (by omega)
                have HALL := Lib.hid hall
                have hro := World.rowIs_made w (.int .i64 0) all 3
                have hbe0 := (Below.refl w.heap.size w).alloc (Nat.le_refl _) (.cells (madeCells #[Value.int .i64 0] all) 3)
                obtain ⟨ba, oa, rfl, hba, hca⟩ := HA.out.ints_ (by have := HLA.out; omega)
                obtain ⟨bb, ob, rfl, hbb, hcb⟩ := HB.out.ints_ (by have := HLB.out; omega)
                have HCA := Lib.hid (show ∀ i, i < k → w.cell? ⟨ba, oa + i, none⟩ = some (.int .i64 (atL a i)) from fun i hi => hca i (by rw [← HLA.out]; exact hi))
                have HCB := Lib.hid (show ∀ i, i < j → w.cell? ⟨bb, ob + i, none⟩ = some (.int .i64 (atL b i)) from fun i hi => hcb i (by rw [← HLB.out]; exact hi))
                have FA := fitsL_at HF1.out
                have FB := fitsL_at HF2.out
                have ZA : ∀ i, k ≤ i → atL a i = 0 := fun i hi => atL_far (by rw [← HLA.out]; exact hi)
                have ZB : ∀ i, j ≤ i → atL b i = 0 := fun i hi => atL_far (by rw [← HLB.out]; exact hi)
                have HFA := Lib.hid FA
                have HFB := Lib.hid FB
                have HZA := Lib.hid ZA
                have HZB := Lib.hid ZB
                clear hca hcb FA FB ZA ZB
                have hro2 := hro.congr (g := fun m => .int .i64 (pv (atL a) (atL b) 0 m)) (fun m _ => by rw [pv_zero])
                clear hro hall
                go_wp2
                clear hmk hal
                obtain ⟨bo, hbo⟩ : ∃ bo, bo = w.heap.size := ⟨_, rfl⟩
                have hba2 : ba < bo := by rw [hbo]; exact hba
                have hbb2 : bb < bo := by rw [hbo]; exact hbb
                have hleb : w.heap.size ≤ bo := by omega
                rw [← hbo] at hro2 ⊢
                clear hbo
                go_loopw [9] (fun i wr => ∃ x : Nat, x ≤ k ∧ i = .int .i64 x ∧ wr.rowIs bo 3 all (fun m => .int .i64 (pv (atL a) (atL b) x m)) ∧ Below w.heap.size w wr) (fun i _ => k + 1 - (intOf i).toNat)
                case atStart => exact ⟨0, by omega, rfl, hro2, hbe0⟩
                case round =>
                  obtain ⟨x, hx, rfl, hrow, hbe⟩ := hrel
                  clear hro2 hbe0
                  by_cases hxk : x < k
                  · have hr2 := hrow.congr (g := fun m => .int .i64 (pvk (atL a) (atL b) x 0 m)) (fun m _ => by rw [pvk_zero])
                    clear hrow
                    go_wp2
                    go_loopw [10] (fun i wr => ∃ y : Nat, y ≤ j ∧ i = .int .i64 y ∧ wr.rowIs bo 3 all (fun m => .int .i64 (pvk (atL a) (atL b) x y m)) ∧ Below w.heap.size w wr) (fun i _ => j + 1 - (intOf i).toNat)
                    case atStart => exact ⟨0, by omega, rfl, hr2, hbe⟩
                    case round =>
                      obtain ⟨y, hy, rfl, hrow, hbe3⟩ := hrel
                      clear hr2 hbe
                      by_cases hyj : y < j
                      · obtain ⟨q, hq⟩ : ∃ q, q = x + y := ⟨_, rfl⟩
                        have hqa : q < all := by have := HALL.out; omega
                        have hwq : IntKind.i64.wrap ((x : Int) + (y : Int)) = (q : Int) := by rw [IntWalk.i64_in _ (by omega)]; omega
                        have hqi : (x : Int) + (y : Int) = (q : Int) := by omega
                        have c0 := hrow.cell hqa
                        have z0 := hrow.frozen q
                        have c1 := (hbe3.cell (p := ⟨ba, oa + x, none⟩) hba).trans (HCA.out x hxk)
                        have c2 := (hbe3.cell (p := ⟨bb, ob + y, none⟩) hbb).trans (HCB.out y hyj)
                        have b0 := pvk_abs HFA.out HFB.out x y q (by omega)
                        have b1 := prod_abs HFA.out HFB.out x y
                        have HST := Lib.hid (fun m => pvk_set (a := atL a) (b := atL b) x y m)
                        rw [← hq] at HST
                        obtain ⟨P, hP⟩ : ∃ P, P = pvk (atL a) (atL b) x y q := ⟨_, rfl⟩
                        obtain ⟨T, hT2⟩ : ∃ T, T = atL a x * atL b y := ⟨_, rfl⟩
                        obtain ⟨va, hva⟩ : ∃ va, va = atL a x := ⟨_, rfl⟩
                        obtain ⟨vb, hvb⟩ : ∃ vb, vb = atL b y := ⟨_, rfl⟩
                        rw [← hP] at c0 b0 HST
                        rw [← hT2] at b1 HST
                        rw [← hva] at c1 hT2
                        rw [← hvb] at c2 hT2
                        have hm1 : va * vb = T := hT2.symm
                        have hw1 : IntKind.i64.wrap T = T := IntWalk.i64_in _ (by omega)
                        have hw2 : IntKind.i64.wrap (P + T) = P + T := IntWalk.i64_in _ (by omega)
                        have hset := (hrow.set q (.int .i64 (P + T))).congr (g := fun m => .int .i64 (pvk (atL a) (atL b) x (y + 1) m)) (fun m _ => by
                          rw [← HST.out m]
                          by_cases e : m = q
                          · rw [if_pos e, if_pos e]
                          · rw [if_neg e, if_neg e])
                        have hbe4 := hbe3.setCell (p := ⟨bo, q, none⟩) hleb (.int .i64 (P + T))
                        have HS4 := Lib.hid hset
                        clear hq hP hT2 hva hvb hset hrow HST
                        go_wp2
                        go_region
                        go_wp2
                        exact ⟨⟨y + 1, by omega, by go_num, HS4.out, hbe4.drew⟩, by simp [intOf]; omega⟩
                      · obtain rfl : y = j := by omega
                        have hr5 := hrow.congr (g := fun m => .int .i64 (pv (atL a) (atL b) (x + 1) m)) (fun m _ => by rw [pvk_end HZB.out])
                        clear hrow
                        go_wp2
                        exact ⟨⟨x + 1, by omega, by go_num, hr5, hbe3⟩, by simp [intOf]; omega⟩
                  · obtain rfl : x = k := by omega
                    have hr6 := hrow.congr (g := fun m => .int .i64 (cvI (atL a) (atL b) m)) (fun m _ => by rw [pv_end HZA.out])
                    clear hrow
                    go_wp2
                    go_ret2
                    exact ret_row HBD.out (by rw [← HLA.out]; omega) (by rw [← HLB.out]; omega) (by rw [← HLA.out, ← HLB.out]; exact HALL.out) (by have := HALL.out; unfold maxLen; omega) hr6 hbe
  · have HBD := Lib.hid (show badP a b = true by unfold badP; rw [← HLA.out, ← HLB.out, decide_eq_true (by omega)]; rfl)
    go_enter Tryd.func18, Tryd.ntmps18
    go_wp2
    go_ret2
    exact ret_bad HBD.out (Below.refl _ _)
end Go.Proofs.YtnjmefjcaiepfaaDoor
