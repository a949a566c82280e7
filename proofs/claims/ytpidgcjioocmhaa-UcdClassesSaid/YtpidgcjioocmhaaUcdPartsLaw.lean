/- Chapter 09, the walk of UcdParts. -/
import Derived.Test.YtpidgcjioocmhaaUcdTurnedLaw
namespace Go.Proofs.Ytpidgcjioocmhaa
open Go.RowKit SetPure

/-! ### What the classes have in common -/
def disjB (l m : List Rg) : Bool := l.all fun a => m.all fun b => decide (a.2 < b.1) || decide (b.2 < a.1)
theorem disj_of {l m : List Rg} (h : disjB l m = true) (z : Int) : (inB l z && inB m z) = false := by
  rw [← Bool.not_eq_true]
  intro hz
  rw [Bool.and_eq_true, inB_iff, inB_iff] at hz
  obtain ⟨⟨a, ha, h1, h2⟩, ⟨b, hb, h3, h4⟩⟩ := hz
  have := List.all_eq_true.1 (List.all_eq_true.1 h a ha) b hb
  simp only [Bool.or_eq_true, decide_eq_true_eq] at this
  omega
def kindL : List Nat := [0, 1, 2, 3, 5, 6]
def kindN (k : Nat) (r : Int) : Nat := ((kindL.take k).filter fun i => classF i r).length
theorem kindN_succ {k : Nat} (hk : k < 6) (r : Int) : kindN (k + 1) r = kindN k r + if classF (kindL.getD k 0) r then 1 else 0 := by
  have hk' : k < kindL.length := hk
  unfold kindN
  rw [List.take_add_one, List.getElem?_eq_getElem hk', List.getD_eq_getElem?_getD, List.getElem?_eq_getElem hk', List.filter_append, List.length_append]
  simp only [Option.toList_some, Option.getD_some, List.filter_cons, List.filter_nil]
  split <;> rfl
theorem kinds_apart : kindL.Pairwise fun i j => disjB (rangesC i) (rangesC j) = true := by decide +kernel
theorem kinds_small : ∀ i ∈ kindL, i < 15 := by decide
theorem filter_one {l : List Nat} {f : Nat → Bool} (h : l.Pairwise fun i j => (f i && f j) = false) : (l.filter f).length ≤ 1 := by
  induction l with
  | nil => simp
  | cons a l ih =>
    obtain ⟨h1, h2⟩ := List.pairwise_cons.1 h
    rw [List.filter_cons]
    split
    · rename_i ha
      have : l.filter f = [] := by
        rw [List.filter_eq_nil_iff]
        intro b hb hf
        have := h1 b hb
        rw [ha, hf] at this
        cases this
      rw [this]; simp
    · exact ih h2
theorem kindN_le (r : Int) : kindN 6 r ≤ 1 := by
  have e : kindL.take 6 = kindL := rfl
  unfold kindN
  rw [e]
  refine filter_one (kinds_apart.imp_of_mem fun {i j} hi hj h => ?_)
  have := disj_of h r
  have c1 := kinds_small i hi
  have c2 := kinds_small j hj
  simp only [classF, c1, c2, if_true]
  revert this
  cases inB (rangesC i) r <;> cases inB (rangesC j) r <;> simp

theorem perl2_eq (z : Int) : perlF 2 z = ((((inB (rangesC 0) z && inR z) || (inB (rangesC 1) z && inR z) || (inB (rangesC 2) z && inR z)) || (inB (rangesC 3) z && inR z)) || (inB (rangesC 4) z && inR z)) := by
  simp [perlF, orF, classF, unionF, idxU, Bool.or_assoc]
theorem perl0_eq (z : Int) : perlF 0 z = (inB (rangesC 3) z && inR z) := by simp [perlF, classF]
theorem perl1_eq (z : Int) : perlF 1 z = (inB blanksL z && inR z) := by simp [perlF]
theorem words_blanks (z : Int) : (perlF 2 z && perlF 1 z) = false := by
  have d0 := disj_of (show disjB (rangesC 0) blanksL = true by decide +kernel) z
  have d1 := disj_of (show disjB (rangesC 1) blanksL = true by decide +kernel) z
  have d2 := disj_of (show disjB (rangesC 2) blanksL = true by decide +kernel) z
  have d3 := disj_of (show disjB (rangesC 3) blanksL = true by decide +kernel) z
  have d4 := disj_of (show disjB (rangesC 4) blanksL = true by decide +kernel) z
  rw [perl2_eq, perl1_eq]
  revert d0 d1 d2 d3 d4
  cases inB blanksL z
  · simp
  · cases inB (rangesC 0) z <;> cases inB (rangesC 1) z <;> cases inB (rangesC 2) z <;> cases inB (rangesC 3) z <;> cases inB (rangesC 4) z <;> simp
theorem digits_words (z : Int) : (perlF 0 z && !perlF 2 z) = false := by
  rw [perl2_eq, perl0_eq]
  cases inB (rangesC 3) z <;> cases inR z <;> simp

theorem kindN_bd {k : Nat} (hk : k ≤ 6) (r : Int) : kindN k r ≤ 6 := by
  unfold kindN
  have h1 := List.length_filter_le (fun i => classF i r) (kindL.take k)
  have h2 : (kindL.take k).length ≤ kindL.length := by rw [List.length_take]; exact Nat.min_le_right _ _
  have h3 : kindL.length = 6 := rfl
  omega

def kindObj : Obj := .cells #[.string ⟨#[76, 117]⟩, .string ⟨#[76, 108]⟩, .string ⟨#[76, 111]⟩, .string ⟨#[78, 100]⟩, .string ⟨#[90, 115]⟩, .string ⟨#[80]⟩] 9
theorem kind_cell (w : World) (k : Nat) (hk : k < 6) : (w.alloc kindObj).cell? ⟨w.heap.size, k, none⟩ = some (.string (nameA (kindL.getD k 0))) := by
  have e : ∀ k : Fin 6, ([⟨#[76, 117]⟩, ⟨#[76, 108]⟩, ⟨#[76, 111]⟩, ⟨#[78, 100]⟩, ⟨#[90, 115]⟩, ⟨#[80]⟩] : List ByteArray).getD k ⟨#[]⟩ = nameA (kindL.getD k 0) := by decide +kernel
  have h := e ⟨k, hk⟩
  simp only at h
  rw [← h]
  unfold kindObj
  obtain rfl | rfl | rfl | rfl | rfl | rfl : k = 0 ∨ k = 1 ∨ k = 2 ∨ k = 3 ∨ k = 4 ∨ k = 5 := by omega
  all_goals go_simp
theorem kindL_lt : ∀ k : Fin 6, kindL.getD k 0 < 18 := by decide

set_option maxHeartbeats 4000000 in
set_option maxRecDepth 100000 in
theorem parts_any (r : Int) (w : World) : Calls Try.prog 8 #[.int .i64 r] w fun e w' => e = .returned (.bool true) ∧ Below w.heap.size w w' := by
  have H0 := Lib.hid (fun w => kind_cell w)
  have HW1 := Lib.hid (fun wx L (h : Hold w wx L) => perl_w true w wx L h)
  have HW2 := Lib.hid (fun wx L (h : Hold w wx L) => perl_w false w wx L h)
  have HS := Lib.hid (fun wx L (h : Hold w wx L) => perl_s true w wx L h)
  have HD := Lib.hid (fun wx L (h : Hold w wx L) => perl_d true w wx L h)
  simp only [if_true, Bool.false_eq_true, if_false] at HW1 HW2 HS HD
  have HA := Lib.hid (fun wx L (h : Hold w wx L) => class_every w wx L h)
  have HZ1 := Lib.hid (show cntF (fun z => perlF 2 z && perlF 1 z) = 0 from cntF_none fun z _ => words_blanks z)
  have HZ2 := Lib.hid (show cntF (fun z => perlF 0 z && !perlF 2 z) = 0 from cntF_none fun z _ => digits_words z)
  have HZ3 := Lib.hid (show cntF inR = 1114112 from cntF_all fun z hz => hz)
  go_enter Try.func8, Try.ntmps8
  go_wp2_with (go_at_call 10; refine (speaks_any _).mono ?_; rintro e w1 ⟨rfl, hb1⟩; have hH1 := (Hold.start w).go hb1)
  have hH2 := (hH1.alloc kindObj)
  have hHs := Lib.hid (hH2.base (Below.refl _ _))
  have hbs := hH2.1
  have hC := H0.out w1
  have HC := Lib.hid hC
  clear hC
  go_loopw [3, 5, 6, 7] (fun n i _ _ wx => ∃ k : Nat, k ≤ 6 ∧ i = .int .i64 k ∧ n = .int .i64 (kindN k r) ∧ Hold (w1.alloc kindObj) wx []) (fun _ i _ _ _ => 7 - (intOf i).toNat)
  case atStart => exact ⟨0, by omega, rfl, rfl, hHs.out⟩
  case round =>
    obtain ⟨k, hk, rfl, rfl, hH⟩ := hrel
    have hbw := hH.1
    have hbd := kindN_bd hk r
    by_cases hlk : k < 6
    · have ck := (hbw.cell (p := ⟨w1.heap.size, k, none⟩) (by simp)).trans (HC.out k hlk)
      have HN := Lib.hid (kindN_succ hlk r)
      have HB := Lib.hid (class_named (kindL.getD k 0) (kindL_lt ⟨k, hlk⟩) _ _ _ hH)
      have hki : (k : Int) < 6 := by omega
      obtain ⟨m, hm⟩ : ∃ m, kindN k r = m := ⟨_, rfl⟩
      rw [hm] at HN hbd ⊢
      clear hm
      cases hcb : classF (kindL.getD k 0) r
      all_goals
        have HX := Lib.hid hcb
        clear hcb
        generalize nameA (kindL.getD k 0) = t at *
        go_wp2_with (first
          | (go_at_call 21; refine HB.out.mono ?_; rintro e w5 ⟨x5, rfl, hH5⟩)
          | (go_at_call 15; refine (hold_has_eq hH5 (List.Mem.head _) r _ HX.out).mono ?_; rintro e w6 ⟨rfl, hH6⟩))
        go_roundw
        case rel => exact ⟨k + 1, by omega, by go_num, by rw [HN.out, HX.out]; first | rfl | (simp), hH6.only⟩
        case measure => simp [intOf]; omega
    · obtain rfl : k = 6 := by omega
      have hle := kindN_le r
      obtain ⟨m, hm⟩ : ∃ m, kindN 6 r = m := ⟨_, rfl⟩
      rw [hm] at hle hbd ⊢
      clear hm
      have hH := Hold.rebase hbs hH
      have hm1 : decide ((m : Int) ≤ 1) = true := by simp; omega
      go_wp2_with (first
        | (go_at_call 22; refine (HW1.out _ _ hH).mono ?_; clear HW1; rintro e w2 ⟨x1, rfl, hH⟩)
        | (go_at_call 22; refine (HS.out _ _ hH).mono ?_; clear HS; rintro e w2 ⟨x2, rfl, hH⟩)
        | (go_at_call 22; refine (HD.out _ _ hH).mono ?_; clear HD; rintro e w2 ⟨x3, rfl, hH⟩)
        | (go_at_call 22; refine (HW2.out _ _ hH).mono ?_; clear HW2; rintro e w2 ⟨x4, rfl, hH⟩)
        | (go_at_call 21; refine (HA.out _ _ hH).mono ?_; clear HA; rintro e w2 ⟨x5, rfl, hH⟩)
        | (go_at_call 18; refine (hold_size_eq hH (by repeat (first | exact List.Mem.head _ | apply List.Mem.tail)) HZ1.out).mono ?_; clear HZ1; rintro e w3 ⟨rfl, hH⟩)
        | (go_at_call 18; refine (hold_size_eq hH (by repeat (first | exact List.Mem.head _ | apply List.Mem.tail)) HZ2.out).mono ?_; clear HZ2; rintro e w3 ⟨rfl, hH⟩)
        | (go_at_call 18; refine (hold_size_eq hH (by repeat (first | exact List.Mem.head _ | apply List.Mem.tail)) HZ3.out).mono ?_; clear HZ3; rintro e w3 ⟨rfl, hH⟩)
        | (go_at_call 17; refine (hold_and hH (by repeat (first | exact List.Mem.head _ | apply List.Mem.tail)) (by repeat (first | exact List.Mem.head _ | apply List.Mem.tail))).mono ?_; rintro e w3 ⟨y1, rfl, hH⟩)
        | (go_at_call 20; refine (hold_less hH (by repeat (first | exact List.Mem.head _ | apply List.Mem.tail)) (by repeat (first | exact List.Mem.head _ | apply List.Mem.tail))).mono ?_; rintro e w3 ⟨y2, rfl, hH⟩)
        | (go_at_call 19; refine (hold_or hH (by repeat (first | exact List.Mem.head _ | apply List.Mem.tail)) (by repeat (first | exact List.Mem.head _ | apply List.Mem.tail))).mono ?_; rintro e w3 ⟨y3, rfl, hH⟩)
        | (go_at_call 16; refine (hold_same hH (by repeat (first | exact List.Mem.head _ | apply List.Mem.tail)) (by repeat (first | exact List.Mem.head _ | apply List.Mem.tail)) (by intro z hz; simp only [hz]; cases perlF 2 z <;> rfl)).mono ?_; rintro e w3 ⟨rfl, hH⟩))
      go_ret
      exact ⟨rfl, hH.1⟩

end Go.Proofs.Ytpidgcjioocmhaa
