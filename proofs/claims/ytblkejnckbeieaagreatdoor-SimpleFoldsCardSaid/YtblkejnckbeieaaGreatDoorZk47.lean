/- Chapter 12: made of every tree of the kinds that are met.
  Chapter 12: a sign so many times, and perhaps so many more: the text of what is made, in plain Lean.
  Chapter 12: the law's number: a number's digits.
  Chapter 12: the walk of the law SimpleTimes.
  The walk of sets.Set's Has, by the library's sort.Search.
  The walks of sets.Set's Has, Or, Less, Same, and of slices.Clone.
  A set's members.
  The reference's and the program's orbits as plain functions, and that they are one.
  The orbits at the numbers that have one of their own, reckoned; elsewhere each number is alone: so both orbits are one, and each number in it has the same.
  The walks of the program's 'rings', 'shifts' and 'Orbit'. -/
import Derived.Test.YtblkejnckbeieaaGreatDoorZk28
import Derived.Test.YtblkejnckbeieaaGreatDoorZk46
import Derived.Test.YtblkejnckbeieaaGreatDoorZk25
import Derived.Test.YtblkejnckbeieaaGreatDoorZk39
import Derived.Test.YtblkejnckbeieaaGreatDoorZk2
import Derived.Test.YtblkejnckbeieaaGreatDoorZk44
import Derived.Test.YtblkejnckbeieaaGreatDoorZk3
import Derived.Test.YtblkejnckbeieaaGreatDoorZk1
import Derived.Deep.RegionWith
import Derived.Lib.ItoaNum
namespace Go.Proofs.YtblkejnckbeieaaGreatDoor
open Go.RowKit SetPure

section
variable (cl : (Int → Bool) → Int → Bool)
variable (set : Option (Int → Bool)) (fold : Bool) (lazy : Bool) (cap : Nat) (name : List UInt8) (kids : List SynP.Nd)
set_option maxRecDepth 100000 in
set_option maxHeartbeats 3200000 in
theorem made_zero : MadeC cl (.mk 10 set fold 0 0 lazy cap name kids) := by
  have hE : SynP.mkN cl (.mk 10 set fold 0 0 lazy cap name kids) = .leaf 0 := by rw [SynP.mkN, if_pos ⟨rfl, rfl, rfl⟩]
  have HE := Lib.hid hE
  clear hE
  intro r P w hl
  have hn := hl.kids.1
  have hmax := hl.roomS
  have hrk := hl.kind_z
  have hrm := hl.nums
  obtain ⟨N, hN⟩ : ∃ N, w.heap.size = N := ⟨_, rfl⟩
  have HNe := Lib.hid hN
  obtain ⟨r0, r1, r2, r3, r4, r5, r6, r7, r8, r9, ra, rb, rc⟩ := r
  simp only at hn hmax hrk hrm
  obtain ⟨rfl, rfl⟩ := hrm
  have hrk' : r0 = 10 := hrk
  subst hrk'
  obtain ⟨W0, hW0⟩ : ∃ W0, (w.alloc (.cells #[.int .i64 10, .slice r1 r2 r3, .bool r4, .int .i64 0, .int .i64 0, .bool r7, .int .i64 r8, .string r9, .slice ra rb rc] 29)).alloc (.cells zeroA 29) = W0 := ⟨_, rfl⟩
  have HS0 : Hid (W0.heap.size = N + 2) := Lib.hid (by rw [← hW0]; simp [hN])
  have HB : Hid (Below N w W0) := Lib.hid (by rw [← hW0, ← hN]; exact below_two w _ _)
  have HBx : Hid (BoxN W0 N #[.int .i64 10, .slice r1 r2 r3, .bool r4, .int .i64 0, .int .i64 0, .bool r7, .int .i64 r8, .string r9, .slice ra rb rc]) := Lib.hid (by rw [← hW0, ← hN]; exact (Below.heap_alloc _ _ _ (by simp)).trans (heap_alloc_new w _))
  have HBv : Hid (BoxN W0 (N + 1) zeroA) := Lib.hid (by
    rw [← hW0, ← hN]
    have := heap_alloc_new (w.alloc (.cells #[.int .i64 10, .slice r1 r2 r3, .bool r4, .int .i64 0, .int .i64 0, .bool r7, .int .i64 r8, .string r9, .slice ra rb rc] 29)) (.cells zeroA 29)
    rw [World.size_alloc] at this
    exact this)
  have HL : Hid (Lies W0 (fun k => P k ∧ k < N) (.mk 10 set fold 0 0 lazy cap name kids) ⟨10, r1, r2, r3, r4, 0, 0, r7, r8, r9, ra, rb, rc⟩) := Lib.hid (Lies.on (StandN.below (by rw [hN]; exact HB.out)) _ _ (Lies.mono (fun k hk hlt => ⟨hk, by omega⟩) _ _ hl))
  simp only [RawN.cells]
  clear hl hn hrk hmax HL
  go_enter Tryz.func33, Tryz.ntmps33
  go_upto_region 1 with fail
  clear hW0 hN
  have hcW : ∀ o, W0.cell? ⟨N, o, none⟩ = #[Value.int .i64 10, .slice r1 r2 r3, .bool r4, .int .i64 0, .int .i64 0, .bool r7, .int .i64 r8, .string r9, .slice ra rb rc][o]? := fun o => Lib.cell_of_heap HBx.out o
  go_wp2_with (refine wpList_store_row rfl 29 (.tmp 2) (.tmp 19) rfl (N + 1) zeroN.cells.toArray rfl rfl 29 _ HBv.out sizeN rfl (cellsN_one _) ?_)
  refine retN rfl zeroN rfl (setRow_heap _ _ _ _ _ _ HBv.out) rfl ⟨zeroN, rfl, by rw [HNe.out]; exact below_setRow_ HB.out (Nat.le_succ _) _, ?_⟩
  rw [HE.out]
  exact Lies.leaf _ _ 0
end
mutual
/-- A tree of the kinds that are met: no class folds, quantifiers are over one class. -/
def okM (cl : (Int → Bool) → Int → Bool) : SynP.Nd → Prop
  | .mk kind set fold least most _ _ _ kids => (kind = 1 → fold = false ∧ ∃ f, set = some f) ∧ (kind = 8 → (SynP.flatN 8 (SynP.mkL cl kids)).length ≤ 1000000) ∧ kind ≠ 9 ∧
      (kind = 10 → 0 ≤ least ∧ least ≤ most ∧ most ≤ 1000 ∧ (SynP.firstN (SynP.mkL cl kids)).kind = 1) ∧ kids.length ≤ 1000000 ∧ okML cl kids
def okML (cl : (Int → Bool) → Int → Bool) : List SynP.Nd → Prop
  | [] => True
  | x :: l => okM cl x ∧ okML cl l
end
theorem okML_mem {cl : (Int → Bool) → Int → Bool} : ∀ {l : List SynP.Nd}, okML cl l → ∀ x ∈ l, okM cl x
  | [], _, x, hx => absurd hx List.not_mem_nil
  | y :: l, h, x, hx => by
    unfold okML at h
    rcases List.mem_cons.1 hx with rfl | hx
    · exact h.1
    · exact okML_mem h.2 x hx
theorem made_all (cl : (Int → Bool) → Int → Bool) : ∀ (n : Nat) (nd : SynP.Nd), SizeOf.sizeOf nd ≤ n → okM cl nd → MadeC cl nd
  | 0, .mk .., h, _ => by simp at h
  | n + 1, .mk kind set fold least most lazy cap name kids, h, ho => by
    unfold okM at ho
    obtain ⟨o1, o8, o9, o10, ol, ok⟩ := ho
    have IH : ∀ x ∈ kids, MadeC cl x := fun x hx => made_all cl n x (by
      have := List.sizeOf_lt_of_mem hx
      simp at h
      omega) (okML_mem ok x hx)
    by_cases h1 : kind = 1
    · subst h1
      obtain ⟨rfl, f, rfl⟩ := o1 rfl
      exact made_cls_false cl least most lazy cap name kids f ol IH
    · by_cases h8 : kind = 8
      · subst h8
        exact made_cat cl set fold least most lazy cap name kids (o8 rfl) ol IH
      · by_cases h10 : kind = 10
        · subst h10
          obtain ⟨p1, p2, p3, p4⟩ := o10 rfl
          by_cases hz : least = 0
          · by_cases hm : most = 0
            · subst hz; subst hm
              exact made_zero cl set fold lazy cap name kids
            · exact made_rep0 cl set fold least most lazy cap name kids p1 p2 p3 ⟨hz, hm⟩ p4 ol IH
          · exact made_rep1 cl set fold least most lazy cap name kids p1 p2 p3 hz p4 ol IH
        · exact made_other cl set fold least most lazy cap name kids kind h1 h8 o9 h10 ol IH

end Go.Proofs.YtblkejnckbeieaaGreatDoor

namespace Go.Proofs.YtblkejnckbeieaaGreatDoor.SynP

/-- So many perhaps, one in another. -/
def tailW (c : UInt8) : Nat → List UInt8
  | 0 => []
  | 1 => [c, 63]
  | n + 2 => [40, 63, 58, c] ++ tailW c (n + 1) ++ [41, 63]
/-- The text that is wanted. -/
def wantW (c : UInt8) (a b : Nat) : List UInt8 := if a + b = 0 then emptyT else List.replicate a c ++ tailW c b
theorem flat_same : ∀ l : List Nd, (∀ x ∈ l, x.kind ≠ 8) → flatN 8 l = l
  | [], _ => rfl
  | x :: l, h => by
    have ih := flat_same l fun y hy => h y (List.mem_cons_of_mem _ hy)
    unfold flatN at ih ⊢
    rw [List.flatMap_cons, if_neg (h x List.mem_cons_self), ih]
    rfl
theorem okL_app : ∀ l : List Nd, (∀ x ∈ l, okN x) → okL l
  | [], _ => by unfold okL; trivial
  | x :: l, h => by
    unfold okL
    exact ⟨h x List.mem_cons_self, okL_app l fun y hy => h y (List.mem_cons_of_mem _ hy)⟩
section
variable (c : UInt8)
def sgn : Nd := .cls (one (c.toNat : Int)) false
theorem row_x0 : rowN [sgn c, .leaf 0] = sgn c := rfl
theorem row_xt (y : Nd) : rowN [sgn c, .rep 0 1 false y] = .mk 8 none false 0 0 false 0 [] [sgn c, .rep 0 1 false y] := rfl
theorem t01 : timesT_ decS 0 1 false = [63] := rfl
variable {c} (hc : alnum (c.toNat : Int))
include hc
theorem sgn_text : shN (sgn c) = [c] := by
  unfold sgn Nd.cls
  rw [sh1, clsTxt_one hc]
  simp
theorem sgn_ok : okN (sgn c) := by
  unfold sgn Nd.cls okN
  refine ⟨fun _ => ⟨_, rfl, _, hc, rfl⟩, fun h => absurd h (by decide), fun h => absurd h (by decide), .inl rfl, ?_⟩
  unfold okL
  trivial
theorem tail_text : ∀ n : Nat, ∃ y, tailN false (sgn c) (n + 1) = .rep 0 1 false y ∧ okN (tailN false (sgn c) (n + 1)) ∧ shN (tailN false (sgn c) (n + 1)) = tailW c (n + 1)
  | 0 => by
    have e : tailN false (sgn c) (0 + 1) = .rep 0 1 false (sgn c) := rfl
    refine ⟨_, e, ?_, ?_⟩
    · rw [e]
      unfold Nd.rep okN
      refine ⟨fun h => absurd h (by decide), fun _ => by decide, fun h => absurd h (by decide), .inr (.inr (.inr ⟨.inl rfl, by simp⟩)), ?_⟩
      unfold okL
      exact ⟨sgn_ok hc, by unfold okL; trivial⟩
    · rw [e]
      unfold Nd.rep
      rw [sh10, t01]
      show wrapT [8, 9, 10] ((sgn c).kind, shN (sgn c)) ++ [63] = _
      rw [sgn_text hc]
      rfl
  | n + 1 => by
    obtain ⟨y, h1, h2, h3⟩ := tail_text n
    have e : tailN false (sgn c) (n + 1 + 1) = .rep 0 1 false (rowN [sgn c, tailN false (sgn c) (n + 1)]) := rfl
    rw [h1] at e h2 h3
    rw [row_xt] at e
    refine ⟨_, e, ?_, ?_⟩
    · rw [e]
      unfold Nd.rep okN
      refine ⟨fun h => absurd h (by decide), fun _ => by decide, fun h => absurd h (by decide), .inr (.inr (.inr ⟨.inl rfl, by simp⟩)), ?_⟩
      unfold okL
      refine ⟨?_, by unfold okL; trivial⟩
      unfold okN
      refine ⟨fun h => absurd h (by decide), fun h => absurd h (by decide), fun h => absurd h (by decide), .inr (.inl rfl), ?_⟩
      unfold okL
      refine ⟨sgn_ok hc, ?_⟩
      unfold okL
      exact ⟨h2, by unfold okL; trivial⟩
    · rw [e]
      unfold Nd.rep
      rw [sh10, t01]
      show wrapT [8, 9, 10] (8, shN (.mk 8 none false 0 0 false 0 [] [sgn c, .rep 0 1 false y])) ++ [63] = _
      rw [sh8]
      show [40, 63, 58] ++ (wrapT [8, 9] ((sgn c).kind, shN (sgn c)) ++ (wrapT [8, 9] (10, shN (.rep 0 1 false y)) ++ [])) ++ [41] ++ [63] = _
      rw [sgn_text hc, h3]
      show [40, 63, 58] ++ ([c] ++ (tailW c (n + 1) ++ [])) ++ [41] ++ [63] = [40, 63, 58, c] ++ tailW c (n + 1) ++ [41, 63]
      simp
theorem kids_sgn (a : Nat) : (kidsT (List.replicate a (sgn c))).flatMap (wrapT [8, 9]) = List.replicate a c := by
  induction a with
  | zero => rfl
  | succ a ih =>
    unfold kidsT at ih ⊢
    rw [List.replicate_succ, List.map_cons, List.flatMap_cons, ih, sgn_text hc]
    rfl
/-- The text of what is made of a sign a times, and b times more perhaps. -/
theorem times_text (a b : Nat) (h : a + b ≠ 0) : okN (timesN a (a + b : Nat) false (sgn c)) ∧ shN (timesN a (a + b : Nat) false (sgn c)) = wantW c a b := by
  have e1 : timesN a (a + b : Nat) false (sgn c) = rowN (List.replicate a (sgn c) ++ [tailN false (sgn c) b]) := by
    unfold timesN
    rw [if_neg (by omega), show ((a : Int)).toNat = a by omega, show (((a + b : Nat) : Int) - (a : Int)).toNat = b by omega]
  rw [e1]
  unfold wantW
  rw [if_neg h]
  have hs : ∀ x ∈ List.replicate a (sgn c), x.kind = 1 := fun x hx => by rw [List.eq_of_mem_replicate hx]; rfl
  cases b with
  | zero =>
    have e2 : rowN (List.replicate a (sgn c) ++ [tailN false (sgn c) 0]) = whole 8 (List.replicate a (sgn c)) := by
      unfold rowN
      rw [flat_same _ (fun x hx => by
        rcases List.mem_append.1 hx with h | h
        · rw [hs x h]; decide
        · rw [List.mem_singleton.1 h]; show ¬ (0 : Nat) = 8; decide)]
      unfold solidN
      rw [List.filter_append]
      have h1 : (List.replicate a (sgn c)).filter (fun x => x.kind != 0) = List.replicate a (sgn c) := List.filter_eq_self.2 fun x hx => by rw [hs x hx]; rfl
      rw [h1]
      show whole 8 (List.replicate a (sgn c) ++ []) = _
      rw [List.append_nil]
    rw [e2]
    show _ ∧ _ = List.replicate a c ++ []
    rw [List.append_nil]
    match a, h with
    | 1, _ => exact ⟨sgn_ok hc, sgn_text hc⟩
    | a + 2, _ =>
      have e3 : whole 8 (List.replicate (a + 2) (sgn c)) = .mk 8 none false 0 0 false 0 [] (List.replicate (a + 2) (sgn c)) := rfl
      rw [e3, sh8, kids_sgn hc]
      refine ⟨?_, rfl⟩
      unfold okN
      exact ⟨fun h => absurd h (by decide), fun h => absurd h (by decide), fun h => absurd h (by decide), .inr (.inl rfl), okL_app _ fun x hx => by rw [List.eq_of_mem_replicate hx]; exact sgn_ok hc⟩
  | succ b =>
    obtain ⟨y, h1, h2, h3⟩ := tail_text hc b
    rw [h1] at h2 h3
    rw [h1, ← h3]
    have e2 : rowN (List.replicate a (sgn c) ++ [.rep 0 1 false y]) = whole 8 (List.replicate a (sgn c) ++ [.rep 0 1 false y]) := by
      unfold rowN
      rw [flat_same _ (fun x hx => by
        rcases List.mem_append.1 hx with h | h
        · rw [hs x h]; decide
        · rw [List.mem_singleton.1 h]; show ¬ (10 : Nat) = 8; decide)]
      unfold solidN
      rw [List.filter_eq_self.2 fun x hx => by
        rcases List.mem_append.1 hx with h | h
        · rw [hs x h]; rfl
        · rw [List.mem_singleton.1 h]; rfl]
    rw [e2]
    match a with
    | 0 => exact ⟨h2, rfl⟩
    | a + 1 =>
      have e3 : whole 8 (List.replicate (a + 1) (sgn c) ++ [.rep 0 1 false y]) = .mk 8 none false 0 0 false 0 [] (List.replicate (a + 1) (sgn c) ++ [.rep 0 1 false y]) := by
        rw [List.replicate_succ]
        cases a with
        | zero => rfl
        | succ a => rfl
      rw [e3, sh8]
      refine ⟨?_, ?_⟩
      · unfold okN
        refine ⟨fun h => absurd h (by decide), fun h => absurd h (by decide), fun h => absurd h (by decide), .inr (.inl rfl), okL_app _ fun x hx => ?_⟩
        rcases List.mem_append.1 hx with h | h
        · rw [List.eq_of_mem_replicate h]; exact sgn_ok hc
        · rw [List.mem_singleton.1 h]; exact h2
      · have h4 := kids_sgn hc (a + 1)
        unfold kidsT at h4 ⊢
        rw [List.map_append, List.flatMap_append, h4]
        show List.replicate (a + 1) c ++ (wrapT [8, 9] (10, shN (.rep 0 1 false y)) ++ []) = _
        rw [List.append_nil]
        rfl
end
theorem tailW_len (c : UInt8) : ∀ b : Nat, (tailW c b).length ≤ 6 * b
  | 0 => Nat.zero_le _
  | 1 => by show 2 ≤ 6; omega
  | n + 2 => by
    have := tailW_len c (n + 1)
    show ([40, 63, 58, c] ++ tailW c (n + 1) ++ [41, 63]).length ≤ _
    simp only [List.length_append, List.length_cons, List.length_nil]
    omega
end Go.Proofs.YtblkejnckbeieaaGreatDoor.SynP

namespace Go.Proofs.YtblkejnckbeieaaGreatDoor
open Go.Shelf Go.RowKit

def bI (l : List UInt8) : List Int := l.map fun c => (c.toNat : Int)
theorem str_size (l : List UInt8) : (str l).size = l.length := by simp [str, ByteArray.size]
theorem str_bI (l : List UInt8) : strOfNums (bI l) = str l := by
  unfold strOfNums bI str
  rw [List.map_map]
  have : ((fun n : Int => UInt8.ofNat n.toNat) ∘ fun c : UInt8 => (c.toNat : Int)) = id := by funext c; simp
  rw [this, List.map_id]
theorem str_dig (m : Int) (h0 : 0 ≤ m) (h1 : m < 10) : strOfNums [48 + m] = str [UInt8.ofNat (48 + m.toNat)] := by
  unfold strOfNums str
  simp only [List.map_cons, List.map_nil, show (48 + m).toNat = 48 + m.toNat by omega]
theorem str_app (a b : List UInt8) : str a ++ str b = str (a ++ b) := by
  have h : (str a ++ str b).data = (str (a ++ b)).data := by rw [ByteArray.data_append]; simp [str]
  exact congrArg ByteArray.mk h

theorem dec_len3 (n : Nat) (h : n < 1000) : (Lib.decDigits n).length ≤ 3 := by
  have : ∀ k : Fin 1000, (Lib.decDigits k.val).length ≤ 3 := by decide +kernel
  exact this ⟨n, h⟩
theorem conv_kept {w w1 : World} {x : Int} (hb : Below (w.alloc (.cells #[.int .u8 x] 5)).drew.heap.size (w.alloc (.cells #[.int .u8 x] 5)).drew w1) :
    (convert 60 9 (.slice (some ⟨w.heap.size, 0, none⟩) 1 1)).run Tryz.prog w1 = .ok (.string (strOfNums [x])) w1 := by
  refine run_convert_bytes_arg (P := Tryz.prog) w1 60 5 Tryz.underlying60 Tryz.underlying5 w.heap.size 0 1 1 [x] rfl (fun i hi => ?_) 9 Tryz.underlying9
  obtain rfl : i = 0 := by omega
  rw [hb.cell (p := ⟨w.heap.size, 0 + 0, none⟩) (by simp)]
  exact World.cell?_alloc_new w _ _ 0

theorem below_of_drew {w w' : World} (h : Below w.drew.heap.size w.drew w') : Below w.heap.size w w' := ⟨h.os, h.tape, h.output, h.size, h.block⟩

set_option maxRecDepth 100000 in
set_option maxHeartbeats 1000000 in
theorem number_nat (n : Nat) : n < 1000 → ∀ w : World, Calls Tryz.prog 24 #[.int .i64 n] w fun e w' => e = .returned (.string (str (Lib.decDigits n))) ∧ Below w.heap.size w w' := by
  induction n using Nat.strongRecOn with
  | ind n ih =>
  intro hn w
  obtain ⟨z, hz⟩ : ∃ z : Int, (n : Int) = z := ⟨_, rfl⟩
  rw [hz]
  have hz0 : 0 ≤ z := by omega
  have hz1 : z < 1000 := by omega
  by_cases h10 : z < 10
  · obtain ⟨D, hD⟩ : ∃ D, strOfNums [48 + z] = D := ⟨_, rfl⟩
    have HD := Lib.hid (show str (Lib.decDigits n) = D by rw [← hD, str_dig z hz0 h10, Lib.decDigits, dif_pos (by omega), show z.toNat = n by omega])
    have hconv := conv_one w (48 + z)
    rw [hD] at hconv
    clear ih hz hD
    go_enter Tryz.func24, Tryz.ntmps24
    go_wp2
    go_ret
    exact ⟨by rw [HD.out]; rfl, (Below.refl _ _).alloc (Nat.le_refl _) _⟩
  · have h10' : 10 ≤ z := by omega
    obtain ⟨q, hq⟩ : ∃ q, z / 10 = q := ⟨_, rfl⟩
    obtain ⟨m, hm⟩ : ∃ m, z % 10 = m := ⟨_, rfl⟩
    have hm0 : 0 ≤ m := by omega
    have hm1 : m < 10 := by omega
    obtain ⟨D, hD⟩ : ∃ D, strOfNums [48 + m] = D := ⟨_, rfl⟩
    obtain ⟨q1, hq1⟩ : ∃ q1, str (Lib.decDigits (n / 10)) = q1 := ⟨_, rfl⟩
    have HD := Lib.hid (show str (Lib.decDigits n) = q1 ++ D by
      rw [← hD, str_dig m hm0 hm1, Lib.decDigits, dif_neg (by omega), ← hq1, str_app, show m.toNat = n % 10 by omega])
    have HQ := Lib.hid (fun w => ih (n / 10) (by omega) (by omega) w)
    rw [show ((n / 10 : Nat) : Int) = q by omega, hq1] at HQ
    have hs1 : q1.size ≤ 19 := by rw [← hq1, str_size]; exact Nat.le_trans (dec_len3 _ (by omega)) (by decide)
    have hs2 : D.size = 1 := by rw [← hD, nums_size]; rfl
    have hs3 : q1.size + D.size ≤ 9223372036854775807 := by omega
    have hs4 := Lib.hid hs2
    have e1 : IntKind.i64.wrap (z.tdiv 10) = q := by rw [IntWalk.i64_quo z 10 (by omega), hq]
    have e2 : IntKind.i64.wrap (48 + m) = 48 + m := IntWalk.i64_in _ (by omega)
    have e3 : z.tmod 10 = m := by rw [IntWalk.rem_in z 10 hz0, hm]
    have e4 : IntKind.u8.wrap (48 + m) = 48 + m := IntWalk.u8_in _ (by omega)
    have hconv := fun w : World => conv_one w (48 + m)
    rw [hD] at hconv
    have hconv2 := fun w : World => conv_kept (w := w) (x := 48 + m) (Below.refl _ _)
    rw [hD] at hconv2
    have HDD := Lib.hid hD
    clear ih hz hD hq hm hq1 hs2
    go_enter Tryz.func24, Tryz.ntmps24
    go_wp2_with fail
    go_region_with ((go_at_call 24; refine (HQ.out _).mono ?_; rintro e w1 ⟨rfl, hb1⟩; (try (have hcv1 := conv_kept hb1; rw [HDD.out] at hcv1)); (try (have hz1 := hb1.size; simp only [World.heap_alloc_size, World.heap_drew] at hz1))))
    all_goals
      go_wp2
      go_ret
      refine ⟨by rw [HD.out]; rfl, ?_⟩
      first
        | exact (below_of_drew hb1).alloc (below_of_drew hb1).size _
        | exact ((Below.refl _ w).alloc (Nat.le_refl _) _).trans ((below_of_drew hb1).mono (by simp))

theorem dec3_dig (n : Nat) (h : n < 128) : nat_ (Lib.decDigits n) = SynP.dec3 n := by
  have : ∀ k : Fin 128, nat_ (Lib.decDigits k.val) = SynP.dec3 k.val := by decide +kernel
  exact this ⟨n, h⟩

/-- The text x{a,b}, in bytes. -/
def timesB (a b : Nat) (z : Bool) : List UInt8 := [120, 123] ++ Lib.decDigits a ++ [44] ++ Lib.decDigits b ++ [125] ++ (if z then [63] else [])
theorem nat_app (a b : List UInt8) : nat_ (a ++ b) = nat_ a ++ nat_ b := List.map_append
theorem nat_times (a b : Nat) (z : Bool) (ha : a < 128) (hb : b < 128) : nat_ (timesB a b z) = SynP.timesText a b z := by
  unfold timesB SynP.timesText
  rw [nat_app, nat_app, nat_app, nat_app, nat_app, dec3_dig a ha, dec3_dig b hb]
  cases z <;> rfl
theorem asc_times (a b : Nat) (z : Bool) (ha : a < 128) (hb : b < 128) : (∀ c ∈ timesB a b z, c.toNat < 128) ∧ (timesB a b z).length ≤ 1024 := by
  have h : ∀ k : Fin 128, (∀ c ∈ Lib.decDigits k.val, c.toNat < 128) ∧ (Lib.decDigits k.val).length ≤ 3 := by decide +kernel
  obtain ⟨a1, a2⟩ := h ⟨a, ha⟩
  obtain ⟨b1, b2⟩ := h ⟨b, hb⟩
  simp only at a1 a2 b1 b2
  constructor
  · intro c hc
    unfold timesB at hc
    simp only [List.mem_append] at hc
    rcases hc with ((((hc | hc) | hc) | hc) | hc) | hc
    · revert c; decide
    · exact a1 c hc
    · revert c; decide
    · exact b1 c hc
    · revert c; decide
    · revert c; cases z <;> decide
  · unfold timesB
    simp only [List.length_append]
    cases z <;> simp <;> omega
end Go.Proofs.YtblkejnckbeieaaGreatDoor

namespace Go.Proofs.YtblkejnckbeieaaGreatDoor
open Go.RowKit SetPure

section
variable (c : UInt8) (a m : Nat)
/-- A sign so many times. -/
def repT : SynP.Nd := .rep a m false (SynP.sgn c)
theorem few_rep (h : a ≤ m) (hm : m ≤ 1000) : SynP.fewN (repT c a m) := by
  unfold repT SynP.Nd.rep SynP.fewN
  refine ⟨fun _ => ⟨by omega, by omega, .inr ⟨by omega, by omega⟩⟩, ?_⟩
  unfold SynP.fewL
  refine ⟨?_, by unfold SynP.fewL; trivial⟩
  unfold SynP.sgn SynP.Nd.cls SynP.fewN
  exact ⟨fun h => absurd h (by decide), by unfold SynP.fewL; trivial⟩
theorem cnt_rep (_h : a ≤ m) (hm : m ≤ 64) : SynP.cntN (repT c a m) ≤ 8192 := by
  have e : SynP.cntN (SynP.sgn c) = 1 := by unfold SynP.sgn SynP.Nd.cls SynP.cntN; rw [if_neg (by omega), if_neg (by omega), if_neg (by omega)]
  have e2 : SynP.cntN (repT c a m) = SynP.timesC a m 1 := by
    unfold repT SynP.Nd.rep
    rw [SynP.cntN, if_neg (by omega), if_neg (by omega), if_pos rfl]
    unfold SynP.cntH
    rw [e]
  rw [e2]
  unfold SynP.timesC SynP.capN
  rw [if_neg (by omega)]
  omega
theorem mk_rep : SynP.mkN cl0 (repT c a m) = if a = 0 ∧ m = 0 then .leaf 0 else SynP.timesN a m false (SynP.sgn c) := by
  unfold repT SynP.Nd.rep
  rw [SynP.mkN]
  by_cases h : a = 0 ∧ m = 0
  · rw [if_pos (by omega), if_pos h]
  · rw [if_neg (by omega), if_neg h, if_neg (by omega), if_neg (by omega), if_neg (by omega), if_pos rfl]
    unfold SynP.mkL
    rw [show SynP.mkN cl0 (SynP.sgn c) = SynP.sgn c from SynP.mk_sgnW cl0 c]
    rfl
theorem okM_rep (h : a ≤ m) (hm : m ≤ 1000) : okM cl0 (repT c a m) := by
  unfold repT SynP.Nd.rep okM
  refine ⟨fun h => absurd h (by decide), fun h => absurd h (by decide), by decide, fun _ => ⟨by omega, by omega, by omega, ?_⟩, by simp, ?_⟩
  · unfold SynP.mkL
    rw [show SynP.mkN cl0 (SynP.sgn c) = SynP.sgn c from SynP.mk_sgnW cl0 c]
    rfl
  · unfold okML
    refine ⟨?_, by unfold okML; trivial⟩
    unfold SynP.sgn SynP.Nd.cls okM
    exact ⟨fun _ => ⟨rfl, _, rfl⟩, fun h => absurd h (by decide), by decide, fun h => absurd h (by decide), by simp, by unfold okML; trivial⟩
theorem simp_of (nd : SynP.Nd) (hf : SynP.fewN nd) (hc : SynP.cntN nd ≤ 8192) (ho : okM cl0 nd) : SimpC nd (SynP.mkN cl0 nd) := fun r P w hl =>
  simplify_any cl0 nd (count_all _ nd (Nat.le_refl _) hf) hc (made_all cl0 _ nd (Nat.le_refl _) ho) r P w hl
theorem simp_rep (h : a ≤ m) (hm : m ≤ 64) : SimpC (repT c a m) (if a = 0 ∧ m = 0 then .leaf 0 else SynP.timesN a m false (SynP.sgn c)) := by
  have := simp_of (repT c a m) (few_rep c a m h (by omega)) (cnt_rep c a m h hm) (okM_rep c a m h (by omega))
  rwa [mk_rep] at this
end

set_option maxRecDepth 100000 in
set_option maxHeartbeats 3200000 in
theorem show_empty : ShowC (SynP.Nd.leaf 0) := by
  intro r P w hl
  have h0 : r.kind = 0 := hl.kind_z
  obtain ⟨r0, r1, r2, r3, r4, r5, r6, r7, r8, r9, ra, rb, rc⟩ := r
  simp only at h0
  subst h0
  simp only [RawN.cells]
  clear hl
  go_enter Tryz.func25, Tryz.ntmps25
  go_wp2
  go_ret
  exact ⟨rfl, (Below.refl _ _).alloc (Nat.le_refl _) _⟩

theorem text_len (a b : Nat) (h : a + b ≤ 100) : (SynP.wantW 120 a b).length ≤ 1000 := by
  unfold SynP.wantW
  split
  · decide
  · have := SynP.tailW_len 120 b
    simp only [List.length_append, List.length_replicate]
    omega
theorem alnum_x : SynP.alnum ((120 : UInt8).toNat : Int) := by unfold SynP.alnum; decide
/-- What is shown of what Simplify makes. -/
theorem show_rep_ (c : UInt8) (hc : SynP.alnum (c.toNat : Int)) (a b : Nat) (h : a + b ≤ 64) (hlen : (SynP.wantW c a b).length ≤ 1000000) : ∃ out, SimpC (repT c a (a + b)) out ∧ ShowC out ∧ SynP.shN out = SynP.wantW c a b := by
  have hs := simp_rep c a (a + b) (by omega) h
  by_cases h0 : a = 0 ∧ a + b = 0
  · rw [if_pos h0] at hs
    refine ⟨_, hs, show_empty, ?_⟩
    unfold SynP.wantW
    rw [if_pos h0.2]
    unfold SynP.Nd.leaf
    rw [SynP.sh0]
  · rw [if_neg h0] at hs
    obtain ⟨o1, o2⟩ := SynP.times_text hc a b (by omega)
    refine ⟨_, hs, show_all _ _ (Nat.le_refl _) o1 (by rw [o2]; exact hlen), o2⟩

theorem sp12_parse : SynP.parse (nat_ [97, 123, 50, 44, 51, 125]) clsT perlT f0 = .ok (some (repT 97 2 3), ⟨6, [], [[]], f0⟩) := by kernel_rfl
theorem alnum_97 : SynP.alnum ((97 : UInt8).toNat : Int) := by unfold SynP.alnum; decide

set_option maxRecDepth 100000 in
set_option maxHeartbeats 6400000 in
theorem sp12_any (w : World) : Calls Tryz.prog 23 #[] w fun e w' => e = .returned (.bool true) ∧ Below w.heap.size w w' := by
  have HP : Hid (∀ w, Calls Tryz.prog 11 #[.string ⟨#[97, 123, 50, 44, 51, 125]⟩, .agg #[.bool false, .bool false, .bool false, .bool false]] w (TreeEnd (repT 97 2 3) w)) := Lib.hid fun w => tree_end [97, 123, 50, 44, 51, 125] (repT 97 2 3) _ (by decide) (by decide) sp12_parse w
  obtain ⟨out, hs, hsh, htx⟩ := show_rep_ 97 alnum_97 2 1 (by decide) (by decide)
  have HSm := Lib.hid hs
  have HSh := Lib.hid hsh
  have HTx : Hid (SynP.shN out = [97, 97, 97, 63]) := Lib.hid htx
  have hfe := faultEq_same 0 0
  clear hs hsh htx
  go_enter Tryz.func23, Tryz.ntmps23
  go_upto_region 2 with (first
      | (go_at_call 11; refine (HP.out _).mono ?_; rintro e w2 ⟨hb2, ⟨r0, r1, r2, r3, r4, r5, r6, r7, r8, r9, ra, rb, rc⟩, A, n, c, rfl, hl2⟩; have HB2 := Lib.hid (hb2); have HL2 := Lib.hid hl2; clear hb2 hl2; simp only [RawN.cells, List.cons_append, List.nil_append]))
  obtain ⟨P, hP⟩ : ∃ P, w2.heap.size = P := ⟨_, rfl⟩
  have hps := PatS.start (pc := #[.int .i64 r0, .slice r1 r2 r3, .bool r4, .int .i64 r5, .int .i64 r6, .bool r7, .int .i64 r8, .string r9, .slice ra rb rc, .slice A n c]) (fc := #[.int .i64 0, .int .i64 0]) HB2.out hP
  have hl3 := Lies.on (StandN.below (below_two w2 (.cells #[.int .i64 r0, .slice r1 r2 r3, .bool r4, .int .i64 r5, .int .i64 r6, .bool r7, .int .i64 r8, .string r9, .slice ra rb rc, .slice A n c] 32) (.cells #[.int .i64 0, .int .i64 0] 35))) _ _ HL2.out
  rw [hP]
  generalize (w2.alloc (.cells #[.int .i64 r0, .slice r1 r2 r3, .bool r4, .int .i64 r5, .int .i64 r6, .bool r7, .int .i64 r8, .string r9, .slice ra rb rc, .slice A n c] 32)).alloc (.cells #[.int .i64 0, .int .i64 0] 35) = W3 at hps hl3 ⊢
  have HS3 := Lib.hid hps
  have HL3 := Lib.hid hl3
  have hcP := HS3.out.pcell
  have hcF := HS3.out.fcell
  clear hps hl3 hP HB2 HL2 HP
  have HSc := Lib.hid (HSm.out ⟨r0, r1, r2, r3, r4, r5, r6, r7, r8, r9, ra, rb, rc⟩ _ W3 HL3.out)
  simp only [RawN.cells] at HSc
  clear HSm
  go_upto_region 3 with (go_at_call 12; refine HSc.out.mono ?_; rintro e w4 ⟨⟨q0, q1, q2, q3, q4, q5, q6, q7, q8, q9, qa, qb, qc⟩, rfl, hb4, hl4⟩; have HS4 := Lib.hid (HS3.out.below hb4); have HL4 := Lib.hid hl4; clear hb4 hl4)
  obtain ⟨M, hM⟩ : ∃ M, w4.heap.size = M := ⟨_, rfl⟩
  have hba : Below w4.heap.size w4 (w4.alloc (.cells #[.int .i64 q0, .slice q1 q2 q3, .bool q4, .int .i64 q5, .int .i64 q6, .bool q7, .int .i64 q8, .string q9, .slice qa qb qc] 29)) := (Below.refl _ _).alloc (Nat.le_refl _) _
  have hs5 := HS4.out.below hba
  have hl5 := Lies.on (StandN.below hba) _ _ HL4.out
  have hq5 := heap_alloc_new w4 (.cells #[.int .i64 q0, .slice q1 q2 q3, .bool q4, .int .i64 q5, .int .i64 q6, .bool q7, .int .i64 q8, .string q9, .slice qa qb qc] 29)
  rw [hM] at hq5 ⊢
  clear hba hM hcP hcF
  generalize w4.alloc (.cells #[.int .i64 q0, .slice q1 q2 q3, .bool q4, .int .i64 q5, .int .i64 q6, .bool q7, .int .i64 q8, .string q9, .slice qa qb qc] 29) = W5 at hs5 hl5 hq5 ⊢
  have HS5 := Lib.hid hs5
  have HL5 := Lib.hid hl5
  have hcF := HS5.out.fcell
  have hcq : ∀ o, W5.cell? ⟨M, o, none⟩ = #[Value.int .i64 q0, .slice q1 q2 q3, .bool q4, .int .i64 q5, .int .i64 q6, .bool q7, .int .i64 q8, .string q9, .slice qa qb qc][o]? := fun o => Lib.cell_of_heap hq5 o
  clear hs5 hl5 hq5 HSc HS4 HL4 HS3 HL3
  have HC : Hid (Calls Tryz.prog 25 #[.agg #[.int .i64 q0, .slice q1 q2 q3, .bool q4, .int .i64 q5, .int .i64 q6, .bool q7, .int .i64 q8, .string q9, .slice qa qb qc]] W5 fun e w' => e = .returned (.string ⟨#[97, 97, 97, 63]⟩) ∧ Below W5.heap.size W5 w') := Lib.hid (by
    have := HSh.out _ _ W5 HL5.out
    rw [HTx.out] at this
    exact this)
  clear hcF
  go_wp2_with (go_at_call 25; refine HC.out.mono ?_; rintro e w6 ⟨rfl, hb6⟩)
  go_ret
  exact ⟨rfl, HS5.out.bel.trans (hb6.mono HS5.out.bel.size)⟩

theorem mask31 (n : Int) : 0 ≤ bits BinOp.and IntKind.i64 n 31 ∧ bits BinOp.and IntKind.i64 n 31 ≤ 31 := by
  have h : (BitVec.ofInt 64 n &&& BitVec.ofInt 64 31).toNat ≤ 31 := by
    rw [BitVec.toNat_and]
    exact Nat.le_trans Nat.and_le_right (by decide)
  show 0 ≤ IntKind.i64.wrap ((BitVec.ofInt 64 n &&& BitVec.ofInt 64 31).toNat : Nat) ∧ IntKind.i64.wrap ((BitVec.ofInt 64 n &&& BitVec.ofInt 64 31).toNat : Nat) ≤ 31
  rw [IntKind.wrap_i64]
  omega
theorem tail_next (i : Nat) (h : 0 < i) : str (SynP.tailW 120 (i + 1)) = ⟨#[40, 63, 58, 120]⟩ ++ str (SynP.tailW 120 i) ++ ⟨#[41, 63]⟩ := by
  obtain ⟨j, rfl⟩ : ∃ j, i = j + 1 := ⟨i - 1, by omega⟩
  have e : SynP.tailW 120 (j + 1 + 1) = [40, 63, 58, 120] ++ SynP.tailW 120 (j + 1) ++ [41, 63] := rfl
  rw [e, ← str_app_, ← str_app_]
  rfl
theorem head_next (k b : Nat) : str (List.replicate (k + 1) 120 ++ SynP.tailW 120 b) = ⟨#[120]⟩ ++ str (List.replicate k 120 ++ SynP.tailW 120 b) := by
  rw [List.replicate_succ, show (⟨#[120]⟩ : ByteArray) = str [120] from rfl, str_app_]
  rfl
theorem parse_rep (a m : Nat) (h : a ≤ m) (hm : m ≤ 64) (w : World) : Calls Tryz.prog 11 #[.string (str (timesB a m false)), .agg #[.bool false, .bool false, .bool false, .bool false]] w (TreeEnd (repT 120 a m) w) := by
  obtain ⟨h1, h2⟩ := asc_times a m false (by omega) (by omega)
  have hp := SynP.times_parse (cls := clsT) (perl := perlT) a m false (by omega) (by omega) (nat_times a m false (by omega) (by omega))
  rw [if_neg (by omega)] at hp
  exact tree_end _ _ _ h1 h2 hp w

set_option maxRecDepth 100000 in
set_option maxHeartbeats 12800000 in
theorem law_stimes (x y : Int) (w : World) : Calls Tryz.prog 7 #[.int .i64 x, .int .i64 y] w fun e w' => e = .returned (.bool true) ∧ Below w.heap.size w w' := by
  obtain ⟨a, ha⟩ : ∃ a : Nat, bits BinOp.and IntKind.i64 x 31 = a := ⟨(bits BinOp.and IntKind.i64 x 31).toNat, by have := mask31 x; omega⟩
  obtain ⟨b, hb⟩ : ∃ b : Nat, bits BinOp.and IntKind.i64 y 31 = b := ⟨(bits BinOp.and IntKind.i64 y 31).toNat, by have := mask31 y; omega⟩
  have ha2 : a ≤ 31 := by have := mask31 x; omega
  have hb2 : b ≤ 31 := by have := mask31 y; omega
  have HNa := Lib.hid (fun w => number_nat a (by omega) w)
  have HNb : Hid (∀ w, Calls Tryz.prog 24 #[.int .i64 ((a : Int) + (b : Int))] w fun e w' => e = .returned (.string (str (Lib.decDigits (a + b)))) ∧ Below w.heap.size w w') := Lib.hid (fun w => number_nat (a + b) (by omega) w)
  have HP := Lib.hid (fun w => parse_rep a (a + b) (by omega) (by omega) w)
  have hlen := text_len a b (by omega)
  obtain ⟨out, hs, hsh, htx⟩ := show_rep_ 120 alnum_x a b (by omega) (by omega)
  have HSm := Lib.hid hs
  have HSh := Lib.hid hsh
  have HTx := Lib.hid htx
  have hla := dec_len3 a (by omega)
  have hlb := dec_len3 (a + b) (by omega)
  obtain ⟨sa, hsa⟩ : ∃ sa, str (Lib.decDigits a) = sa := ⟨_, rfl⟩
  obtain ⟨sb, hsb⟩ : ∃ sb, str (Lib.decDigits (a + b)) = sb := ⟨_, rfl⟩
  have hza : sa.size ≤ 3 := by rw [← hsa, str_size]; exact hla
  have hzb : sb.size ≤ 3 := by rw [← hsb, str_size]; exact hlb
  have HT : Hid (str (timesB a (a + b) false) = ⟨#[120, 123]⟩ ++ sa ++ ⟨#[44]⟩ ++ sb ++ ⟨#[125]⟩) := Lib.hid (by
    unfold timesB
    rw [← str_app, ← str_app, ← str_app, ← str_app, ← str_app, hsa, hsb]
    have h : ∀ q : ByteArray, q ++ str [] = q := fun q => congrArg ByteArray.mk (show (q ++ str []).data = q.data by rw [ByteArray.data_append]; simp [str])
    simp only [Bool.false_eq_true, if_false]
    rw [h]
    rfl)
  rw [hsa] at HNa
  rw [hsb] at HNb
  rw [HT.out] at HP
  clear hla hlb hsa hsb HT hs hsh htx
  go_enter Tryz.func7, Tryz.ntmps7
  go_upto_region 4 with (go_at_call 23; refine (sp12_any _).mono ?_; rintro e w1 ⟨rfl, hb1⟩; have HB1 := Lib.hid hb1; clear hb1)
  have T0 : Hid True := Lib.hid trivial
  have hs1 : 2 + sa.size ≤ 9223372036854775807 := by omega
  have hs2 : 2 + sa.size + 1 ≤ 9223372036854775807 := by omega
  have hs3 : 2 + sa.size + 1 + sb.size ≤ 9223372036854775807 := by omega
  have hs4 : 2 + sa.size + 1 + sb.size + 1 ≤ 9223372036854775807 := by omega
  go_upto_region 5 with (first
      | (go_at_call 11; refine (HP.out _).mono ?_; rintro e w2 ⟨hb2, ⟨r0, r1, r2, r3, r4, r5, r6, r7, r8, r9, ra, rb, rc⟩, A, n, c, rfl, hl2⟩; have HB2 := Lib.hid (HBn.out.trans (hb2.mono HBn.out.size)); have HL2 := Lib.hid hl2; clear hb2 hl2; simp only [RawN.cells, List.cons_append, List.nil_append])
      | (go_at_call 24; (first | (clear T0; refine (HNa.out _).mono ?_; rintro e w2 ⟨rfl, hb2⟩; have HBm := Lib.hid (HB1.out.trans (hb2.mono HB1.out.size)); clear hb2) | (refine (HNb.out _).mono ?_; rintro e w3 ⟨rfl, hb3⟩; have HBn := Lib.hid (HBm.out.trans (hb3.mono HBm.out.size)); clear hb3))))
  obtain ⟨P, hP⟩ : ∃ P, w2.heap.size = P := ⟨_, rfl⟩
  have hps := PatS.start (pc := #[.int .i64 r0, .slice r1 r2 r3, .bool r4, .int .i64 r5, .int .i64 r6, .bool r7, .int .i64 r8, .string r9, .slice ra rb rc, .slice A n c]) (fc := #[.int .i64 0, .int .i64 0]) HB2.out hP
  have hl3 := Lies.on (StandN.below (below_two w2 (.cells #[.int .i64 r0, .slice r1 r2 r3, .bool r4, .int .i64 r5, .int .i64 r6, .bool r7, .int .i64 r8, .string r9, .slice ra rb rc, .slice A n c] 32) (.cells #[.int .i64 0, .int .i64 0] 35))) _ _ HL2.out
  rw [hP]
  generalize (w2.alloc (.cells #[.int .i64 r0, .slice r1 r2 r3, .bool r4, .int .i64 r5, .int .i64 r6, .bool r7, .int .i64 r8, .string r9, .slice ra rb rc, .slice A n c] 32)).alloc (.cells #[.int .i64 0, .int .i64 0] 35) = W3 at hps hl3 ⊢
  have HS3 := Lib.hid hps
  have HL3 := Lib.hid hl3
  have hcP := HS3.out.pcell
  have hcF := HS3.out.fcell
  clear hps hl3 hP HB2 HL2 HP
  clear HNa HNb ha hb hs1 hs2 hs3 hs4 hza hzb
  have hfe := faultEq_same 0 0
  have HSc := Lib.hid (HSm.out ⟨r0, r1, r2, r3, r4, r5, r6, r7, r8, r9, ra, rb, rc⟩ _ W3 HL3.out)
  simp only [RawN.cells] at HSc
  clear HSm
  go_upto_region 6 with (go_at_call 12; refine HSc.out.mono ?_; rintro e w4 ⟨⟨q0, q1, q2, q3, q4, q5, q6, q7, q8, q9, qa, qb, qc⟩, rfl, hb4, hl4⟩; have HS4 := Lib.hid (HS3.out.below hb4); have HL4 := Lib.hid hl4; clear hb4 hl4)
  obtain ⟨M, hM⟩ : ∃ M, w4.heap.size = M := ⟨_, rfl⟩
  have hba : Below w4.heap.size w4 (w4.alloc (.cells #[.int .i64 q0, .slice q1 q2 q3, .bool q4, .int .i64 q5, .int .i64 q6, .bool q7, .int .i64 q8, .string q9, .slice qa qb qc] 29)) := (Below.refl _ _).alloc (Nat.le_refl _) _
  have hs5 := HS4.out.below hba
  have hl5 := Lies.on (StandN.below hba) _ _ HL4.out
  have hq5 := heap_alloc_new w4 (.cells #[.int .i64 q0, .slice q1 q2 q3, .bool q4, .int .i64 q5, .int .i64 q6, .bool q7, .int .i64 q8, .string q9, .slice qa qb qc] 29)
  rw [hM] at hq5 ⊢
  clear hba hM hcP hcF
  generalize w4.alloc (.cells #[.int .i64 q0, .slice q1 q2 q3, .bool q4, .int .i64 q5, .int .i64 q6, .bool q7, .int .i64 q8, .string q9, .slice qa qb qc] 29) = W5 at hs5 hl5 hq5 ⊢
  have HS5 := Lib.hid hs5
  have HL5 := Lib.hid hl5
  have hcF := HS5.out.fcell
  have hcq : ∀ o, W5.cell? ⟨M, o, none⟩ = #[Value.int .i64 q0, .slice q1 q2 q3, .bool q4, .int .i64 q5, .int .i64 q6, .bool q7, .int .i64 q8, .string q9, .slice qa qb qc][o]? := fun o => Lib.cell_of_heap hq5 o
  clear hs5 hl5 hq5 HSc HS4 HL4 HS3 HL3
  obtain ⟨S, hS⟩ : ∃ S, str (SynP.wantW 120 a b) = S := ⟨_, rfl⟩
  have HSe := Lib.hid hS
  have HC : Hid (Calls Tryz.prog 25 #[.agg #[.int .i64 q0, .slice q1 q2 q3, .bool q4, .int .i64 q5, .int .i64 q6, .bool q7, .int .i64 q8, .string q9, .slice qa qb qc]] W5 fun e w' => e = .returned (.string S) ∧ Below W5.heap.size W5 w') := Lib.hid (by
    have := HSh.out _ _ W5 HL5.out
    rw [HTx.out, hS] at this
    exact this)
  clear hS HSh HTx hlen
  go_wp2_with fail
  clear hcF hfe
  go_loop [9, 10] (fun s9 s10 => ∃ (i : Nat) (q : ByteArray), i ≤ b ∧ s10 = .int .i64 i ∧ s9 = .string q ∧ q.size ≤ 6 * i ∧ Hid (q = str (SynP.tailW 120 i))) (fun _ s10 => b + 1 - (intOf s10).toNat)
  case atStart => exact ⟨0, ⟨#[]⟩, Nat.zero_le _, rfl, rfl, Nat.zero_le _, Lib.hid rfl⟩
  case round =>
    obtain ⟨i, q, hi, rfl, rfl, hq6, HQ⟩ := hrel
    by_cases hlt : i < b
    · have hii : (i : Int) < (b : Int) := by omega
      by_cases h0 : i = 0
      · subst h0
        go_wp2
        go_round
        case rel => exact ⟨1, ⟨#[120, 63]⟩, by omega, rfl, rfl, by decide, Lib.hid rfl⟩
        case measure => simp [intOf]
      · have hi0 : ¬ (i : Int) = 0 := by omega
        have z1 : ¬ 4 + q.size > 9223372036854775807 := by omega
        have z2 : ¬ 4 + q.size + 2 > 9223372036854775807 := by omega
        have HQ2 : Hid ((⟨#[40, 63, 58, 120]⟩ : ByteArray) ++ q ++ ⟨#[41, 63]⟩ = str (SynP.tailW 120 (i + 1))) := Lib.hid (by rw [tail_next i (by omega), ← HQ.out])
        have hsz : ((⟨#[40, 63, 58, 120]⟩ : ByteArray) ++ q ++ ⟨#[41, 63]⟩).size = 4 + q.size + 2 := by rw [ByteArray.size_append, ByteArray.size_append]; rfl
        have HSz := Lib.hid hsz
        clear hsz h0
        go_wp2
        go_round
        case rel => exact ⟨i + 1, _, by omega, by simp, rfl, by have := HSz.out; omega, HQ2⟩
        case measure => simp [intOf]; omega
    · obtain rfl : i = b := by omega
      have hii : ¬ (i : Int) < (i : Int) := by omega
      clear hlt hi
      go_wp2
      go_loop [9, 11] (fun s9 s11 => ∃ (k : Nat) (q : ByteArray), k ≤ a ∧ s11 = .int .i64 k ∧ s9 = .string q ∧ q.size ≤ 186 + k ∧ Hid (q = str (List.replicate k 120 ++ SynP.tailW 120 i))) (fun _ s11 => a + 1 - (intOf s11).toNat)
      case atStart => exact ⟨0, q, Nat.zero_le _, rfl, rfl, by omega, Lib.hid (by rw [HQ.out]; rfl)⟩
      case round =>
        clear hq6 HQ
        obtain ⟨k, q, hk, rfl, rfl, hq6, HQ⟩ := hrel
        by_cases hlt : k < a
        · have hkk : (k : Int) < (a : Int) := by omega
          have z1 : ¬ 1 + q.size > 9223372036854775807 := by omega
          have HQ2 : Hid ((⟨#[120]⟩ : ByteArray) ++ q = str (List.replicate (k + 1) 120 ++ SynP.tailW 120 i)) := Lib.hid (by rw [head_next, ← HQ.out])
          have hsz : ((⟨#[120]⟩ : ByteArray) ++ q).size = 1 + q.size := by rw [ByteArray.size_append]; rfl
          have HSz := Lib.hid hsz
          clear hsz
          go_wp2
          go_round
          case rel => exact ⟨k + 1, _, by omega, by simp, rfl, by have := HSz.out; omega, HQ2⟩
          case measure => simp [intOf]; omega
        · obtain rfl : k = a := by omega
          have hkk : ¬ (k : Int) < (k : Int) := by omega
          clear hlt hk
          by_cases h0 : k + i = 0
          · have h1 : (k : Int) + (i : Int) = 0 := by omega
            obtain rfl : (⟨#[40, 63, 58, 41]⟩ : ByteArray) = S := by
              rw [← HSe.out]
              unfold SynP.wantW
              rw [if_pos h0]
              rfl
            clear h0
            go_wp2_with (go_at_call 25; refine HC.out.mono ?_; rintro e w6 ⟨rfl, hb6⟩)
            go_ret
            exact ⟨rfl, HS5.out.bel.trans (hb6.mono HS5.out.bel.size)⟩
          · have h1 : ¬ (k : Int) + (i : Int) = 0 := by omega
            obtain rfl : q = S := by
              rw [← HSe.out, HQ.out]
              unfold SynP.wantW
              rw [if_neg h0]
            clear h0
            go_wp2_with (go_at_call 25; refine HC.out.mono ?_; rintro e w6 ⟨rfl, hb6⟩)
            go_ret
            exact ⟨rfl, HS5.out.bel.trans (hb6.mono HS5.out.bel.size)⟩

end Go.Proofs.YtblkejnckbeieaaGreatDoor

namespace Go.Proofs.YtblkejnckbeieaaGreatDoor
open Go.RowKit SetPure

set_option maxHeartbeats 400000 in
theorem hasLess_any (b off c Bs Br n : Nat) (l : List Rg) (r : Int) (W : World) (hs : W.cell? ⟨Bs, 0, none⟩ = some (.slice (some ⟨b, off, none⟩) n c)) (hr : W.cell? ⟨Br, 0, none⟩ = some (.int .i64 r))
    (i : Nat) (hi : i < n) (hc : W.cell? ⟨b, off + i * 2 + 1, none⟩ = some (.int .i64 (l.getD i (0, 0)).2)) :
    Calls Tryz.prog 77 #[.int .i64 i, .pointer (some ⟨Bs, 0, none⟩), .pointer (some ⟨Br, 0, none⟩)] W fun e w' => e = .returned (.bool (decide (r ≤ (l.getD i (0, 0)).2))) ∧ ∃ q, w' = W.drewN q := by
  generalize (l.getD i (0, 0)).2 = y at *
  go_enter Tryz.func77, Tryz.ntmps77
  go_wp2
  go_quiet (fail)
  go_wp2
  go_ret
  exact ⟨rfl, nq, rfl⟩

/-- The end of the search: the first place at which a range ends at r or behind. -/
def SearchEnd (l : List Rg) (r : Int) (w : World) (e : Ending) (w' : World) : Prop :=
  ∃ i : Nat, e = .returned (.int .i64 i) ∧ i ≤ l.length ∧ (∀ t, t < i → (l.getD t (0, 0)).2 < r) ∧ (∀ t, i ≤ t → t < l.length → r ≤ (l.getD t (0, 0)).2) ∧ ∃ q, w' = w.drewN q

theorem Canon.ge {lo : Int} {s : List Rg} (h : CanonFrom lo s) : ∀ r ∈ s, lo ≤ r.1 ∧ r.1 ≤ r.2 := by
  induction s generalizing lo with
  | nil => intro r hr; cases hr
  | cons q s ih =>
    intro r hr
    rcases List.mem_cons.1 hr with rfl | hr
    · exact ⟨h.1, h.2.1⟩
    · have := ih h.2.2.2 r hr
      have := h.1
      have := h.2.1
      omega
theorem mono_to {lo : Int} {l : List Rg} (h : CanonFrom lo l) (i j : Nat) (hij : i ≤ j) (hj : j < l.length) : (l.getD i (0, 0)).2 ≤ (l.getD j (0, 0)).2 := by
  induction l generalizing lo i j with
  | nil => simp at hj
  | cons q l ih =>
    cases j with
    | zero =>
      obtain rfl : i = 0 := by omega
      exact Int.le_refl _
    | succ j =>
      have hj' : j < l.length := by simpa using hj
      cases i with
      | zero =>
        have hm : l.getD j (0, 0) ∈ l := by rw [List.getD_eq_getElem?_getD, List.getElem?_eq_getElem hj']; exact List.getElem_mem hj'
        have h1 := Canon.ge h.2.2.2 _ hm
        have h0 : ((q :: l).getD (j + 1) (0, 0)) = l.getD j (0, 0) := by simp
        rw [h0]
        show q.2 ≤ _
        omega
      | succ i => simpa using ih h.2.2.2 i j (by omega) hj'

theorem half_cast (i j : Nat) : ((i : Int) + (j : Int)) / 2 = (((i + j) / 2 : Nat) : Int) := by omega

set_option maxHeartbeats 800000 in
theorem search_any (b off c Bs Br : Nat) (l : List Rg) (r : Int) (w : World) (hn : 0 < l.length) (hcan : Canon l) (hs : w.cell? ⟨Bs, 0, none⟩ = some (.slice (some ⟨b, off, none⟩) l.length c)) (hr : w.cell? ⟨Br, 0, none⟩ = some (.int .i64 r))
    (hc : ∀ i, i < l.length → w.cell? ⟨b, off + i * 2 + 1, none⟩ = some (.int .i64 (l.getD i (0, 0)).2)) :
    Calls Tryz.prog 76 #[.int .i64 l.length, .func (.func 77) #[] #[.pointer (some ⟨Bs, 0, none⟩), .pointer (some ⟨Br, 0, none⟩)]] w (SearchEnd l r w) := by
  have hlen := hcan.len
  have HM := Lib.hid (fun i j hij hj => mono_to hcan i j hij hj)
  have HC := Lib.hid hc
  have HL := Lib.hid (fun (w' : World) (i : Nat) (hi : i < l.length) hs hr hc => hasLess_any b off c Bs Br l.length l r w' hs hr i hi hc)
  clear hc hcan
  go_enter Tryz.func76, Tryz.ntmps76
  go_wp2
  go_loopw [5, 6] (fun si sj wr => ∃ i j q : Nat, i ≤ j ∧ j ≤ l.length ∧ si = .int .i64 i ∧ sj = .int .i64 j ∧ wr = w.drewN q ∧ Hid (∀ t, t < i → (l.getD t (0, 0)).2 < r) ∧ Hid (∀ t, j ≤ t → t < l.length → r ≤ (l.getD t (0, 0)).2))
    (fun si sj _ => (intOf sj).toNat - (intOf si).toNat)
  case atStart => exact ⟨0, l.length, 0, by omega, by omega, rfl, rfl, rfl, fun t ht => by omega, fun t h1 h2 => by omega⟩
  case round =>
    obtain ⟨i, j, q, hij, hj, rfl, rfl, rfl, hlo, hhi⟩ := hrel
    by_cases hlt : i < j
    · go_wp2_with fail
      rw [half_cast]
      have hk : (i + j) / 2 < l.length := by omega
      refine (HL.out (w.drewN q) ((i + j) / 2) hk (by simpa using hs) (by simpa using hr) (by simpa using HC.out _ hk)).mono ?_
      rintro e w' ⟨rfl, q', rfl⟩
      by_cases hb : r ≤ (l.getD ((i + j) / 2) (0, 0)).2
      · simp only [hb, decide_true]
        go_wp2
        refine ⟨⟨i, (i + j) / 2, q + q', by omega, by omega, rfl, rfl, by simp, fun t ht => hlo.out t ht, fun t h1 h2 => ?_⟩, ?_⟩
        · exact Int.le_trans hb (HM.out _ _ h1 h2)
        · simp [intOf]; omega
      · simp only [hb, decide_false]
        go_wp2
        refine ⟨⟨(i + j) / 2 + 1, j, q + q', by omega, by omega, by simp, rfl, by simp, fun t ht => ?_, fun t h1 h2 => hhi.out t h1 h2⟩, ?_⟩
        · have := HM.out t ((i + j) / 2) (by omega) hk
          omega
        · simp [intOf]; omega
    · go_wp2
      go_ret
      exact ⟨i, rfl, by omega, hlo.out, fun t h1 h2 => hhi.out t (by omega) h2, q, rfl⟩

end Go.Proofs.YtblkejnckbeieaaGreatDoor

namespace Go.Proofs.YtblkejnckbeieaaGreatDoor
open Go.RowKit SetPure

theorem gap_at {lo : Int} {l : List Rg} (h : CanonFrom lo l) (i j : Nat) (hij : i < j) (hj : j < l.length) : (l.getD i (0, 0)).2 + 2 ≤ (l.getD j (0, 0)).1 := by
  induction l generalizing lo i j with
  | nil => simp at hj
  | cons q l ih =>
    cases j with
    | zero => omega
    | succ j =>
      have hj' : j < l.length := by simpa using hj
      cases i with
      | zero =>
        have hm : l.getD j (0, 0) ∈ l := by rw [List.getD_eq_getElem?_getD, List.getElem?_eq_getElem hj']; exact List.getElem_mem hj'
        have h1 := Canon.ge h.2.2.2 _ hm
        have h0 : ((q :: l).getD (j + 1) (0, 0)) = l.getD j (0, 0) := by simp
        rw [h0]
        exact h1.1
      | succ i => simpa using ih h.2.2.2 i j (by omega) hj'

theorem inB_at {l : List Rg} {r : Int} {i : Nat} (hcan : Canon l) (hlo : ∀ t, t < i → (l.getD t (0, 0)).2 < r) (hhi : ∀ t, i ≤ t → t < l.length → r ≤ (l.getD t (0, 0)).2) :
    inB l r = (decide (i < l.length) && decide ((l.getD i (0, 0)).1 ≤ r)) := by
  rw [Bool.eq_iff_iff, inB_iff]
  simp only [Bool.and_eq_true, decide_eq_true_eq]
  constructor
  · rintro ⟨q, hq, h1, h2⟩
    obtain ⟨t, ht, rfl⟩ := List.getElem_of_mem hq
    have e : ∀ t, (ht : t < l.length) → l.getD t (0, 0) = l[t] := fun t ht => by rw [List.getD_eq_getElem?_getD, List.getElem?_eq_getElem ht]; rfl
    have hti : i ≤ t := by
      rcases Nat.lt_or_ge t i with h | h
      · have := hlo t h; rw [e t ht] at this; omega
      · exact h
    refine ⟨by omega, ?_⟩
    rcases Nat.eq_or_lt_of_le hti with rfl | hlt
    · rw [e _ ht]; exact h1
    · have h3 := hhi i (Nat.le_refl _) (by omega)
      have h6 := gap_at hcan i t hlt ht
      rw [e t ht] at h6
      omega
  · rintro ⟨h1, h2⟩
    have e : l.getD i (0, 0) = l[i] := by rw [List.getD_eq_getElem?_getD, List.getElem?_eq_getElem h1]; rfl
    have h3 := hhi i (Nat.le_refl _) h1
    rw [e] at h2 h3
    exact ⟨l[i], List.getElem_mem h1, h2, h3⟩

theorem search_nil (Bs Br : Nat) (r : Int) (w : World) :
    Calls Tryz.prog 76 #[.int .i64 (([] : List Rg).length : Nat), .func (.func 77) #[] #[.pointer (some ⟨Bs, 0, none⟩), .pointer (some ⟨Br, 0, none⟩)]] w (SearchEnd [] r w) := by
  go_enter Tryz.func76, Tryz.ntmps76
  go_wp2
  go_loopw [5, 6] (fun si sj wr => si = .int .i64 0 ∧ sj = .int .i64 0 ∧ wr = w) (fun si sj _ => 0)
  case atStart => exact ⟨rfl, rfl, rfl⟩
  case round =>
    obtain ⟨rfl, rfl, rfl⟩ := hrel
    go_wp2
    go_ret
    exact ⟨0, rfl, by simp, fun t ht => by omega, fun t h1 h2 => by simp at h2, 0, rfl⟩

theorem search_end (A : Option Addr) (c B Bs Br : Nat) (l : List Rg) (r : Int) (w : World) (hcan : Canon l) (hA : SeqAt Epair w B A l) (hs : w.cell? ⟨Bs, 0, none⟩ = some (.slice A l.length c)) (hr : w.cell? ⟨Br, 0, none⟩ = some (.int .i64 r)) :
    Calls Tryz.prog 76 #[.int .i64 l.length, .func (.func 77) #[] #[.pointer (some ⟨Bs, 0, none⟩), .pointer (some ⟨Br, 0, none⟩)]] w (SearchEnd l r w) := by
  rcases Nat.eq_zero_or_pos l.length with h0 | h0
  · obtain rfl := List.eq_nil_of_length_eq_zero h0
    exact search_nil Bs Br r w
  · obtain ⟨b, off, rfl, hb, hc⟩ := hA.pairs_ h0
    exact search_any b off c Bs Br l r w h0 hcan hs hr (fun i hi => (hc i hi).2)

set_option maxHeartbeats 800000 in
theorem has_any (A : Option Addr) (c B : Nat) (l : List Rg) (r : Int) (w : World) (hcan : Canon l) (hA : SeqAt Epair w B A l) (hB : B ≤ w.heap.size) :
    Calls Tryz.prog 37 #[.slice A l.length c, .int .i64 r] w fun e w' => e = .returned (.bool (inB l r)) ∧ Below w.heap.size w w' := by
  have hlen := hcan.len
  have HC := Lib.hid hcan
  have HA := Lib.hid hA
  have HS := Lib.hid (fun wx hs hr hA' => search_end A c B w.heap.size (w.heap.size + 1) l r wx hcan hA' hs hr)
  clear hcan hA
  go_enter Tryz.func37, Tryz.ntmps37
  go_wp2_with (go_at_call 76; refine (HS.out _ (by go_simp) (by go_simp) ((HA.out.alloc hB _).alloc (by simp; omega) _)).mono ?_; rintro e w1 ⟨i, rfl, hi, hlo, hhi, q, rfl⟩; have HI := Lib.hid (inB_at HC.out hlo hhi); clear hlo hhi)
  by_cases hlt : i < l.length
  · obtain ⟨b, off, rfl, hb, hc⟩ := HA.out.pairs_ (by omega)
    have h0 := (hc i hlt).1
    clear hc
    have hki : (i : Int) < (l.length : Int) := by omega
    have hbw : b < w.heap.size := by omega
    go_quiet (fail)
    go_wp2
    go_ret
    refine ⟨ret_bool ?_, ?_⟩
    · rw [HI.out]; simp [hlt]
    · exact below_drewN (below_drewN (((Below.refl _ w).alloc (Nat.le_refl _) _).alloc (by simp) _) _) _
  · obtain rfl : i = l.length := by omega
    go_quiet (fail)
    go_wp2
    go_ret
    refine ⟨ret_bool ?_, ?_⟩
    · rw [HI.out]; simp
    · exact below_drewN (below_drewN (((Below.refl _ w).alloc (Nat.le_refl _) _).alloc (by simp) _) _) _

end Go.Proofs.YtblkejnckbeieaaGreatDoor

namespace Go.Proofs.YtblkejnckbeieaaGreatDoor
open Go.RowKit SetPure

theorem set_has {w : World} {v : Value} {s : List Rg} (h : IsSet w v s) (r : Int) : Calls Tryz.prog 37 #[v, .int .i64 r] w fun e w' => e = .returned (.bool (inB s r)) ∧ Below w.heap.size w w' := by
  obtain ⟨⟨A, c, rfl, hc1, hc2, hA⟩, hcan⟩ := h
  exact has_any A c _ s r w hcan hA (Nat.le_refl _)
section
variable {W w w' : World} {L : List (Value × (Int → Bool))} {v u : Value} {f g : Int → Bool}
theorem hold_has (h : Hold W w L) (hv : (v, f) ∈ L) (r : Int) : Calls Tryz.prog 37 #[v, .int .i64 r] w fun e w' => e = .returned (.bool (f r)) ∧ Hold W w' L := by
  obtain ⟨s, h1, h2⟩ := h.get hv
  refine (set_has h1 r).mono ?_
  rintro e w' ⟨rfl, hb⟩
  exact ⟨ret_bool (h2 r), h.go hb⟩
theorem hold_has_eq (h : Hold W w L) (hv : (v, f) ∈ L) (r : Int) (b : Bool) (hr : f r = b) : Calls Tryz.prog 37 #[v, .int .i64 r] w fun e w' => e = .returned (.bool b) ∧ Hold W w' L := by
  subst hr
  exact hold_has h hv r
end

end Go.Proofs.YtblkejnckbeieaaGreatDoor

namespace Go.Proofs.YtblkejnckbeieaaGreatDoor.OrbPure

/-- 'in': is a number in ranges that are told by both ends, one behind the other? -/
def inL : List Int → Int → Bool
  | a :: b :: l, r => (decide (a ≤ r) && decide (r ≤ b)) || inL l r
  | _, _ => false

theorem inL_drop (l : List Int) (k : Nat) (r : Int) (hk : k + 1 < l.length) : inL (l.drop k) r = ((decide (l.getD k 0 ≤ r) && decide (r ≤ l.getD (k + 1) 0)) || inL (l.drop (k + 2)) r) := by
  rw [List.drop_eq_getElem_cons (by omega), List.drop_eq_getElem_cons (by omega)]
  simp only [inL, List.getD_eq_getElem?_getD, List.getElem?_eq_getElem (show k < l.length by omega), List.getElem?_eq_getElem hk, Option.getD_some]
theorem inL_end (l : List Int) (k : Nat) (r : Int) (hk : l.length ≤ k + 1) : inL (l.drop k) r = false := by
  have : (l.drop k).length ≤ 1 := by rw [List.length_drop]; omega
  match h : l.drop k with
  | [] => rfl
  | [_] => rfl
  | _ :: _ :: _ => rw [h] at this; simp at this
theorem inL_hit {l : List Int} {k : Nat} {r x y : Int} (h : inL l r = inL (l.drop k) r) (hd : inL (l.drop k) r = ((decide (x ≤ r) && decide (r ≤ y)) || inL (l.drop (k + 2)) r)) (h1 : x ≤ r) (h2 : r ≤ y) : inL l r = true := by
  rw [h, hd]; simp [h1, h2]
theorem inL_miss {l : List Int} {k : Nat} {r x y : Int} (h : inL l r = inL (l.drop k) r) (hd : inL (l.drop k) r = ((decide (x ≤ r) && decide (r ≤ y)) || inL (l.drop (k + 2)) r)) (h1 : ¬ (x ≤ r ∧ r ≤ y)) : inL l r = inL (l.drop (k + 2)) r := by
  rw [h, hd]
  have : (decide (x ≤ r) && decide (r ≤ y)) = false := by
    rw [← Bool.not_eq_true, Bool.and_eq_true, decide_eq_true_iff, decide_eq_true_iff]; exact h1
  rw [this, Bool.false_or]

def ringsL : List (List Int) := [[75, 107, 8490], [83, 115, 383], [197, 229, 8491], [181, 924, 956], [931, 962, 963]]
def ringAt (i k : Nat) : Int := (ringsL.getD i []).getD k 0
def preR (a : Int) (i k : Nat) : Bool := (List.range k).any fun t => ringAt i t == a
theorem preR_succ (a : Int) (i k : Nat) : preR a i (k + 1) = (preR a i k || (ringAt i k == a)) := by
  simp [preR, List.range_succ, List.any_append]
def rest (a b : Int) (i : Nat) : Bool := (List.range i).any fun t => preR a t 3 && preR b t 3
theorem rest_succ (a b : Int) (i : Nat) : rest a b (i + 1) = (rest a b i || (preR a i 3 && preR b i 3)) := by
  simp [rest, List.range_succ, List.any_append]
def caps : List Int := [65, 90, 192, 214, 216, 222, 913, 929, 931, 937, 1040, 1071]
def oneU (a b : Int) : Bool := (a == b) || ((b - a == 32) && inL caps a) || ((b - a == 40) && decide (66560 ≤ a) && decide (a ≤ 66599)) || rest a b 5
def oneB (a b : Int) : Bool := oneU (min a b) (max a b)

theorem oneU_1 {x y : Int} (h : (x == y) = true) : oneU x y = true := by unfold oneU; rw [h]; simp
theorem oneU_2 {x y : Int} (h : ((y - x == 32) && inL caps x) = true) : oneU x y = true := by unfold oneU; rw [h]; simp
theorem oneU_3 {x y : Int} (h : ((y - x == 40) && decide (66560 ≤ x) && decide (x ≤ 66599)) = true) : oneU x y = true := by unfold oneU; rw [h]; simp
theorem oneU_4 {x y : Int} (h1 : (x == y) = false) (h2 : ((y - x == 32) && inL caps x) = false) (h3 : ((y - x == 40) && decide (66560 ≤ x) && decide (x ≤ 66599)) = false) : oneU x y = rest x y 5 := by
  unfold oneU; rw [h1, h2, h3]; simp

theorem rest_hit {x y : Int} {i j : Nat} (hi : i < 5) (hj : 3 ≤ (j : Int)) (hj' : j ≤ 3) (h1 : preR x i j = true) (h2 : preR y i j = true) : rest x y 5 = true := by
  obtain rfl : j = 3 := by omega
  unfold rest
  rw [List.any_eq_true]
  exact ⟨i, List.mem_range.2 hi, by rw [h1, h2]; rfl⟩
theorem rest_miss {x y : Int} {i j : Nat} (hj : 3 ≤ (j : Int)) (hj' : j ≤ 3) (h : rest x y i = false) (h1 : (preR x i j && preR y i j) = false) : rest x y (i + 1) = false := by
  obtain rfl : j = 3 := by omega
  rw [rest_succ, h, h1]; rfl
theorem rest_end {x y : Int} {i : Nat} (hi : 5 ≤ (i : Int)) (hi' : i ≤ 5) (h : rest x y i = false) : rest x y 5 = false := by
  obtain rfl : i = 5 := by omega
  exact h

/-- 'add': a number into a rising list, once. -/
def addL : List Int → Int → List Int
  | [], n => [n]
  | a :: l, n => if a < n then a :: addL l n else if a = n then n :: l else n :: a :: l

theorem getD_at {l : List Int} {k : Nat} {x : Int} (hk : k < l.length) (hx : l.getD k 0 = x) : l[k] = x := by
  rw [← hx, List.getD_eq_getElem?_getD, List.getElem?_eq_getElem hk]; rfl
theorem take_next {l : List Int} {k : Nat} {x : Int} (hk : k < l.length) (hx : l.getD k 0 = x) : l.take (k + 1) = l.take k ++ [x] := by
  rw [List.take_add_one, List.getElem?_eq_getElem hk, getD_at hk hx]; rfl
theorem drop_next {l : List Int} {k : Nat} {x : Int} (hk : k < l.length) (hx : l.getD k 0 = x) : l.drop k = x :: l.drop (k + 1) := by
  rw [List.drop_eq_getElem_cons hk, getD_at hk hx]
theorem addL_lt {l : List Int} {k : Nat} {n x : Int} (hk : k < l.length) (h : addL l n = l.take k ++ addL (l.drop k) n) (hd : l.getD k 0 = x) (hx : x < n) : addL l n = l.take (k + 1) ++ addL (l.drop (k + 1)) n := by
  have e : addL (x :: l.drop (k + 1)) n = x :: addL (l.drop (k + 1)) n := by simp [addL, hx]
  rw [h, drop_next hk hd, e, take_next hk hd, List.append_assoc]
  rfl
theorem addL_eq {l : List Int} {k : Nat} {n x : Int} (hk : k < l.length) (h : addL l n = l.take k ++ addL (l.drop k) n) (hd : l.getD k 0 = x) (hx : x = n) : addL l n = l.take k ++ [n] ++ l.drop (k + 1) := by
  rw [h, drop_next hk hd]
  simp [addL, hx]
theorem addL_gt {l : List Int} {k : Nat} {n x : Int} (hk : k < l.length) (h : addL l n = l.take k ++ addL (l.drop k) n) (hd : l.getD k 0 = x) (hx : n < x) : addL l n = l.take k ++ [n] ++ l.drop k := by
  have h1 : ¬ x < n := by omega
  have h2 : ¬ x = n := by omega
  rw [h, drop_next hk hd]
  simp [addL, h1, h2]
theorem addL_end {l : List Int} {k : Nat} {n : Int} (hk : l.length ≤ k) (h : addL l n = l.take k ++ addL (l.drop k) n) : addL l n = l.take k ++ [n] ++ l.drop k := by
  rw [h, List.drop_eq_nil_of_le hk]
  simp [addL]

def triesL (r : Int) : List Int := [r - 40, r - 32, r, r + 32, r + 40, 75, 107, 8490, 83, 115, 383, 197, 229, 8491, 181, 924, 956, 931, 962, 963]
def hit (r t u : Int) : Bool := (t == r) || (decide (0 ≤ u) && oneB r u && oneB u t)
/-- After k rounds of the inner loop. -/
def inner (r t : Int) (out : List Int) (k : Nat) : List Int := ((triesL r).take k).foldl (fun out u => if hit r t u then addL out t else out) out
def outer (r : Int) (i : Nat) : List Int := ((triesL r).take i).foldl (fun out t => inner r t out 20) []
def refOrb (r : Int) : List Int := outer r 20

theorem addL_len (l : List Int) (n : Int) : (addL l n).length ≤ l.length + 1 := by
  induction l with
  | nil => simp [addL]
  | cons a l ih =>
    simp only [addL]
    split
    · simpa using ih
    · split <;> simp
theorem inner_succ {r t u : Int} {out l : List Int} {k : Nat} (hk : k < 20) (hu : (triesL r).getD k 0 = u) (h : inner r t out k = l) : inner r t out (k + 1) = if hit r t u then addL l t else l := by
  unfold inner at *
  rw [take_next (l := triesL r) hk hu, List.foldl_append, h]
  rfl
theorem outer_succ {r t : Int} {l l' : List Int} {i : Nat} (hi : i < 20) (ht : (triesL r).getD i 0 = t) (h : outer r i = l) (h' : inner r t l 20 = l') : outer r (i + 1) = l' := by
  unfold outer at *
  rw [take_next (l := triesL r) hi ht, List.foldl_append, h]
  exact h'

theorem tries_bd {r : Int} (h0 : 0 ≤ r) (h1 : r ≤ 1114111) {i : Nat} (hi : i < 20) : -40 ≤ (triesL r).getD i 0 ∧ (triesL r).getD i 0 ≤ 1114151 := by
  have h : ∀ x ∈ triesL r, -40 ≤ x ∧ x ≤ 1114151 := by
    intro x hx
    simp only [triesL, List.mem_cons, List.not_mem_nil, or_false] at hx
    omega
  have hl : i < (triesL r).length := hi
  rw [List.getD_eq_getElem?_getD, List.getElem?_eq_getElem hl]
  exact h _ (List.getElem_mem hl)

def shiftsL : List (Int × Int × Int) := [(65, 90, 32), (192, 214, 32), (216, 222, 32), (913, 929, 32), (931, 937, 32), (1040, 1071, 32), (66560, 66599, 40)]
def ringFind : List (List Int) → Int → Option (List Int)
  | [], _ => none
  | l :: ls, r => if r ∈ l then some l else ringFind ls r
def shiftFind : List (Int × Int × Int) → Int → List Int
  | [], r => [r]
  | (a, b, d) :: ls, r => if a ≤ r ∧ r ≤ b then [r, r + d] else if a ≤ r - d ∧ r - d ≤ b then [r - d, r] else shiftFind ls r
def progOrb (r : Int) : List Int := (ringFind ringsL r).getD (shiftFind shiftsL r)

theorem ringFind_at {i : Nat} {r : Int} (hi : i < 5) : ringFind (ringsL.drop i) r = if r ∈ ringsL.getD i [] then some (ringsL.getD i []) else ringFind (ringsL.drop (i + 1)) r := by
  rw [List.drop_eq_getElem_cons (l := ringsL) hi, List.getD_eq_getElem?_getD, List.getElem?_eq_getElem (l := ringsL) hi]
  rfl
theorem shiftFind_at {i : Nat} {r a b d : Int} (hi : i < 7) (h : shiftsL.getD i (0, 0, 0) = (a, b, d)) : shiftFind (shiftsL.drop i) r = if a ≤ r ∧ r ≤ b then [r, r + d] else if a ≤ r - d ∧ r - d ≤ b then [r - d, r] else shiftFind (shiftsL.drop (i + 1)) r := by
  rw [List.getD_eq_getElem?_getD, List.getElem?_eq_getElem (l := shiftsL) hi, Option.getD_some] at h
  rw [List.drop_eq_getElem_cons (l := shiftsL) hi, h]
  rfl

theorem shifts_at {i : Nat} (hi : i < 7) : ∃ a b d : Int, shiftsL[i]'hi = (a, b, d) ∧ shiftsL.getD i (0, 0, 0) = (a, b, d) ∧ 0 ≤ a ∧ a ≤ 100000 ∧ 0 ≤ b ∧ b ≤ 100000 ∧ 0 ≤ d ∧ d ≤ 100 := by
  have h : ∀ x ∈ shiftsL, 0 ≤ x.1 ∧ x.1 ≤ 100000 ∧ 0 ≤ x.2.1 ∧ x.2.1 ≤ 100000 ∧ 0 ≤ x.2.2 ∧ x.2.2 ≤ 100 := by decide
  refine ⟨_, _, _, rfl, ?_, h _ (List.getElem_mem hi)⟩
  rw [List.getD_eq_getElem?_getD, List.getElem?_eq_getElem (l := shiftsL) hi]
  rfl

end Go.Proofs.YtblkejnckbeieaaGreatDoor.OrbPure

namespace Go.Proofs.YtblkejnckbeieaaGreatDoor.OrbPure

def good (r : Int) : Bool := progOrb r == refOrb r && (progOrb r).all fun x => decide (0 ≤ x) && decide (x ≤ 1114111) && (progOrb x == progOrb r)
def span (a : Int) (n : Nat) : Bool := (List.range n).all fun k => good (a + k)
theorem of_span {a : Int} {n : Nat} (h : span a n = true) {r : Int} (h1 : a ≤ r) (h2 : r < a + n) : good r = true := by
  unfold span at h
  rw [List.all_eq_true] at h
  have := h (r - a).toNat (List.mem_range.2 (by omega))
  rwa [show a + ((r - a).toNat : Int) = r by omega] at this

theorem sp1 : span 65 26 = true := by decide +kernel
theorem sp2 : span 97 26 = true := by decide +kernel
theorem sp3 : span 192 23 = true := by decide +kernel
theorem sp4 : span 224 23 = true := by decide +kernel
theorem sp5 : span 216 7 = true := by decide +kernel
theorem sp6 : span 248 7 = true := by decide +kernel
theorem sp7 : span 913 17 = true := by decide +kernel
theorem sp8 : span 945 17 = true := by decide +kernel
theorem sp9 : span 931 7 = true := by decide +kernel
theorem sp10 : span 962 8 = true := by decide +kernel
theorem sp11 : span 1040 32 = true := by decide +kernel
theorem sp12 : span 1072 32 = true := by decide +kernel
theorem sp13 : span 66560 40 = true := by decide +kernel
theorem sp14 : span 66600 40 = true := by decide +kernel
theorem sp15 : span 8490 2 = true := by decide +kernel
theorem sp16 : span 383 1 = true := by decide +kernel
theorem sp17 : span 181 1 = true := by decide +kernel

def Special (r : Int) : Prop := (65 ≤ r ∧ r ≤ 90) ∨ (97 ≤ r ∧ r ≤ 122) ∨ (192 ≤ r ∧ r ≤ 214) ∨ (224 ≤ r ∧ r ≤ 246) ∨ (216 ≤ r ∧ r ≤ 222) ∨ (248 ≤ r ∧ r ≤ 254) ∨ (913 ≤ r ∧ r ≤ 929) ∨
  (945 ≤ r ∧ r ≤ 961) ∨ (931 ≤ r ∧ r ≤ 937) ∨ (962 ≤ r ∧ r ≤ 969) ∨ (1040 ≤ r ∧ r ≤ 1071) ∨ (1072 ≤ r ∧ r ≤ 1103) ∨ (66560 ≤ r ∧ r ≤ 66599) ∨ (66600 ≤ r ∧ r ≤ 66639) ∨ (8490 ≤ r ∧ r ≤ 8491) ∨ r = 383 ∨ r = 181

theorem good_special {r : Int} (h : Special r) : good r = true := by
  rcases h with h | h | h | h | h | h | h | h | h | h | h | h | h | h | h | h | h
  · exact of_span sp1 h.1 (by omega)
  · exact of_span sp2 h.1 (by omega)
  · exact of_span sp3 h.1 (by omega)
  · exact of_span sp4 h.1 (by omega)
  · exact of_span sp5 h.1 (by omega)
  · exact of_span sp6 h.1 (by omega)
  · exact of_span sp7 h.1 (by omega)
  · exact of_span sp8 h.1 (by omega)
  · exact of_span sp9 h.1 (by omega)
  · exact of_span sp10 h.1 (by omega)
  · exact of_span sp11 h.1 (by omega)
  · exact of_span sp12 h.1 (by omega)
  · exact of_span sp13 h.1 (by omega)
  · exact of_span sp14 h.1 (by omega)
  · exact of_span sp15 h.1 (by omega)
  · exact of_span sp16 (by omega) (by omega)
  · exact of_span sp17 (by omega) (by omega)

theorem ringMates {a : Int} {i : Nat} (hi : i < 5) (ha : preR a i 3 = true) : Special a := by
  unfold Special
  obtain rfl | rfl | rfl | rfl | rfl : i = 0 ∨ i = 1 ∨ i = 2 ∨ i = 3 ∨ i = 4 := by omega
  all_goals
    simp [preR, ringAt, ringsL, List.range_succ] at ha
    omega

theorem inCaps {a : Int} (h : inL caps a = true) : (65 ≤ a ∧ a ≤ 90) ∨ (192 ≤ a ∧ a ≤ 214) ∨ (216 ≤ a ∧ a ≤ 222) ∨ (913 ≤ a ∧ a ≤ 929) ∨ (931 ≤ a ∧ a ≤ 937) ∨ (1040 ≤ a ∧ a ≤ 1071) := by
  simp [inL, caps] at h
  omega

theorem oneB_plain {r u : Int} (hr : ¬ Special r) (h : oneB r u = true) : u = r := by
  unfold oneB oneU at h
  simp only [Bool.or_eq_true, Bool.and_eq_true, beq_iff_eq, decide_eq_true_eq] at h
  rcases h with ((h | ⟨h1, h2⟩) | ⟨⟨h1, h2⟩, h3⟩) | h
  · omega
  · have := inCaps h2
    exact absurd (by unfold Special; omega) hr
  · exact absurd (by unfold Special; omega) hr
  · unfold rest at h
    rw [List.any_eq_true] at h
    obtain ⟨i, hi, h⟩ := h
    rw [Bool.and_eq_true] at h
    have hm : Special (min r u) ∧ Special (max r u) := ⟨ringMates (List.mem_range.1 hi) h.1, ringMates (List.mem_range.1 hi) h.2⟩
    rcases Int.le_total r u with hle | hle
    · rw [Int.min_eq_left hle] at hm; exact absurd hm.1 hr
    · rw [Int.max_eq_left hle] at hm; exact absurd hm.2 hr

theorem hit_plain {r t u : Int} (hr : ¬ Special r) (h : hit r t u = true) : t = r := by
  unfold hit at h
  simp only [Bool.or_eq_true, Bool.and_eq_true, beq_iff_eq] at h
  rcases h with h | ⟨⟨_, h1⟩, h2⟩
  · exact h
  · have := oneB_plain hr h1
    subst this
    exact oneB_plain hr h2

theorem inner_ne {r t : Int} (hr : ¬ Special r) (ht : t ≠ r) (out : List Int) (l : List Int) : l.foldl (fun out u => if hit r t u then addL out t else out) out = out := by
  induction l with
  | nil => rfl
  | cons u l ih =>
    have : hit r t u = false := by
      cases h : hit r t u with
      | false => rfl
      | true => exact absurd (hit_plain hr h) ht
    simp only [List.foldl_cons, this, Bool.false_eq_true, if_false]
    exact ih
theorem inner_eq (r : Int) (l : List Int) : l.foldl (fun out u => if hit r r u then addL out r else out) [r] = [r] := by
  induction l with
  | nil => rfl
  | cons u l ih => simp only [List.foldl_cons, hit, beq_self_eq_true, Bool.true_or, if_true, addL, Int.lt_irrefl, if_false] at ih ⊢; exact ih
theorem inner_first (r : Int) (u : Int) (l : List Int) : (u :: l).foldl (fun out u => if hit r r u then addL out r else out) [] = [r] := by
  simp only [List.foldl_cons, hit, beq_self_eq_true, Bool.true_or, if_true, addL]
  have := inner_eq r l
  simp only [hit, beq_self_eq_true, Bool.true_or, if_true] at this
  exact this

theorem outer_plain {r : Int} (hr : ¬ Special r) : refOrb r = [r] := by
  have hi : ∀ t out, inner r t out 20 = (triesL r).foldl (fun out u => if hit r t u then addL out t else out) out := fun t out => rfl
  have ho : refOrb r = (triesL r).foldl (fun out t => inner r t out 20) [] := rfl
  have step : ∀ (l : List Int) (out : List Int), (out = [] ∨ out = [r]) → l.foldl (fun out t => inner r t out 20) out = if out = [r] ∨ r ∈ l then [r] else [] := by
    intro l
    induction l with
    | nil => intro out h; rcases h with rfl | rfl <;> simp
    | cons t l ih =>
      intro out h
      rw [List.foldl_cons]
      by_cases ht : t = r
      · subst ht
        have : inner t t out 20 = [t] := by
          rw [hi]
          rcases h with rfl | rfl
          · exact inner_first t _ _
          · exact inner_eq t _
        rw [this, ih [t] (.inr rfl)]
        simp
      · rw [hi, inner_ne hr ht, ih out h]
        have : (r ∈ t :: l) ↔ r ∈ l := by simp [Ne.symm ht]
        simp only [this]
  rw [ho, step _ _ (.inl rfl)]
  simp [triesL]

theorem prog_plain {r : Int} (hr : ¬ Special r) : progOrb r = [r] := by
  unfold Special at hr
  have h1 : ringFind ringsL r = none := by
    simp only [ringFind, ringsL, List.mem_cons, List.not_mem_nil, or_false]
    repeat rw [if_neg (by omega)]
  have h2 : shiftFind shiftsL r = [r] := by
    simp only [shiftFind, shiftsL]
    repeat rw [if_neg (by omega)]
  unfold progOrb
  rw [h1, h2]; rfl

theorem orbits {r : Int} (h0 : 0 ≤ r) (h1 : r ≤ 1114111) : progOrb r = refOrb r ∧ ∀ x ∈ progOrb r, 0 ≤ x ∧ x ≤ 1114111 ∧ progOrb x = progOrb r := by
  by_cases hr : Special r
  · have := good_special hr
    unfold good at this
    simp only [Bool.and_eq_true, beq_iff_eq, List.all_eq_true, decide_eq_true_eq] at this
    exact ⟨this.1, fun x hx => ⟨(this.2 x hx).1.1, (this.2 x hx).1.2, (this.2 x hx).2⟩⟩
  · rw [prog_plain hr, outer_plain hr]
    refine ⟨rfl, fun x hx => ?_⟩
    obtain rfl : x = r := by simpa using hx
    exact ⟨h0, h1, prog_plain hr⟩

end Go.Proofs.YtblkejnckbeieaaGreatDoor.OrbPure

namespace Go.Proofs.YtblkejnckbeieaaGreatDoor
open Go.RowKit OrbPure

def RetRings (w : World) (e : Ending) (w' : World) : Prop := ∃ g : Nat, e = .returned (.slice (some ⟨g + 5, 0, none⟩) 5 5) ∧ w.heap.size ≤ g ∧ g + 5 < w'.heap.size ∧ Below w.heap.size w w' ∧
  (∀ i, i < 5 → w'.cell? ⟨g + 5, i, none⟩ = some (.slice (some ⟨g + i, 0, none⟩) 3 3)) ∧ (∀ i k, i < 5 → k < 3 → w'.cell? ⟨g + i, k, none⟩ = some (.int .i64 (ringAt i k)))

set_option maxHeartbeats 400000 in
theorem rings_any (w : World) : Calls Tryz.prog 55 #[] w (RetRings w) := by
  go_enter Tryz.func55, Tryz.ntmps55
  go_wp2
  go_ret
  refine ⟨w.heap.size, rfl, Nat.le_refl _, by simp, (((((((Below.refl _ w).alloc (Nat.le_refl _) _).alloc (by simp <;> omega) _).alloc (by simp <;> omega) _).alloc (by simp <;> omega) _).alloc (by simp <;> omega) _).alloc (by simp <;> omega) _), ?_, ?_⟩
  · intro i hi
    obtain rfl | rfl | rfl | rfl | rfl : i = 0 ∨ i = 1 ∨ i = 2 ∨ i = 3 ∨ i = 4 := by omega
    all_goals go_simp
  · intro i k hi hk
    obtain rfl | rfl | rfl | rfl | rfl : i = 0 ∨ i = 1 ∨ i = 2 ∨ i = 3 ∨ i = 4 := by omega
    all_goals (obtain rfl | rfl | rfl : k = 0 ∨ k = 1 ∨ k = 2 := by omega)
    all_goals go_simp
    all_goals rfl

def Eshift : Enc (Int × Int × Int) := ⟨fun a => [.int .i64 a.1, .int .i64 a.2.1, .int .i64 a.2.2], 3, by decide, fun _ => rfl, fun a u hu => by simp at hu; rcases hu with rfl | rfl | rfl <;> rfl⟩

def RetShifts (w : World) (e : Ending) (w' : World) : Prop := ∃ g : Nat, e = .returned (.slice (some ⟨g, 0, none⟩) 7 7) ∧ w.heap.size ≤ g ∧ g < w'.heap.size ∧ Below w.heap.size w w' ∧
  SeqAt Eshift w' (g + 1) (some ⟨g, 0, none⟩) shiftsL

set_option maxHeartbeats 400000 in
theorem shifts_any (w : World) : Calls Tryz.prog 53 #[] w (RetShifts w) := by
  go_enter Tryz.func53, Tryz.ntmps53
  go_wp2
  go_ret
  exact ⟨w.heap.size, rfl, Nat.le_refl _, by simp, (Below.refl _ w).alloc (Nat.le_refl _) _, SeqAt.new (E := Eshift) w shiftsL _⟩

theorem ring_seq {w : World} {b i : Nat} (hi : i < 5) (h : ∀ k, k < 3 → w.cell? ⟨b, k, none⟩ = some (.int .i64 (ringAt i k))) (hb : b < w.heap.size) : SeqAt Eint w w.heap.size (some ⟨b, 0, none⟩) (ringsL.getD i []) := by
  have hl : (ringsL.getD i []).length = 3 := by
    obtain rfl | rfl | rfl | rfl | rfl : i = 0 ∨ i = 1 ∨ i = 2 ∨ i = 3 ∨ i = 4 := by omega
    all_goals rfl
  intro _
  refine ⟨b, 0, rfl, hb, fun j hj => ?_⟩
  have hj3 : j < 3 := by rw [hl] at hj; simpa [Eint] using hj
  rw [Nat.zero_add, h j hj3]
  congr 1
  obtain rfl | rfl | rfl | rfl | rfl : i = 0 ∨ i = 1 ∨ i = 2 ∨ i = 3 ∨ i = 4 := by omega
  all_goals (obtain rfl | rfl | rfl : j = 0 ∨ j = 1 ∨ j = 2 := by omega)
  all_goals rfl

theorem ring_len {i : Nat} (hi : i < 5) : (ringsL.getD i []).length = 3 := by
  obtain rfl | rfl | rfl | rfl | rfl : i = 0 ∨ i = 1 ∨ i = 2 ∨ i = 3 ∨ i = 4 := by omega
  all_goals rfl

/-- The orbit of any number: none of what is no number. -/
def orbAll (r : Int) : List Int := if 0 ≤ r ∧ r ≤ 1114111 then progOrb r else []

theorem orbAll_mem {r x : Int} (hx : x ∈ orbAll r) : orbAll x = orbAll r := by
  unfold orbAll at hx ⊢
  by_cases h : 0 ≤ r ∧ r ≤ 1114111
  · rw [if_pos h] at hx ⊢
    obtain ⟨h0, h1, h2⟩ := (orbits h.1 h.2).2 x hx
    rw [if_pos ⟨h0, h1⟩, h2]
  · rw [if_neg h] at hx
    cases hx
theorem orbAll_len (r : Int) : (orbAll r).length ≤ 3 := by
  unfold orbAll
  split
  · unfold progOrb
    have h1 : ∀ l r, shiftFind l r = [r] ∨ ∃ a b, shiftFind l r = [a, b] := by
      intro l r
      induction l with
      | nil => exact .inl rfl
      | cons x l ih =>
        obtain ⟨a, b, d⟩ := x
        simp only [shiftFind]
        split
        · exact .inr ⟨_, _, rfl⟩
        · split
          · exact .inr ⟨_, _, rfl⟩
          · exact ih
    have h2 : (shiftFind shiftsL r).length ≤ 3 := by
      rcases h1 shiftsL r with h | ⟨a, b, h⟩ <;> rw [h] <;> simp
    have h3 : ∀ l ∈ ringsL, l.length ≤ 3 := by decide
    have h4 : ∀ ls : List (List Int), (∀ l ∈ ls, l.length ≤ 3) → ∀ l, ringFind ls r = some l → l.length ≤ 3 := by
      intro ls
      induction ls with
      | nil => intro _ l h; cases h
      | cons x ls ih =>
        intro hl l h
        simp only [ringFind] at h
        split at h
        · injection h with h; subst h; exact hl _ (List.mem_cons_self ..)
        · exact ih (fun l hm => hl l (List.mem_cons_of_mem _ hm)) l h
    cases hrf : ringFind ringsL r with
    | none => exact h2
    | some l => exact h4 ringsL h3 l hrf
  · simp

end Go.Proofs.YtblkejnckbeieaaGreatDoor
