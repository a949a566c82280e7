/- The walk of slices.Equal at two sets.
  The walk of sets.Set's Same.
  Sets told by what is in them: the contract of Same.
  The plain law of ucd's Close: what is closed, and how many are in it. -/
import Derived.Test.YtblkejnckbeieaaGreatDoorZk2
import Derived.Test.YtblkejnckbeieaaGreatDoorZk3
import Derived.Test.YtblkejnckbeieaaGreatDoorZk47
namespace Go.Proofs.YtblkejnckbeieaaGreatDoor
open Go.RowKit SetPure

set_option maxHeartbeats 400000 in
theorem equal_any (A A' : Option Addr) (c c' B : Nat) (l l' : List Rg) (w : World) (hlen : l.length ≤ 4611686018427387904) (hlen' : l'.length ≤ 4611686018427387904) (hA : SeqAt Epair w B A l) (hA' : SeqAt Epair w B A' l') (hB : B ≤ w.heap.size) :
    Calls Tryz.prog 47 #[.slice A l.length c, .slice A' l'.length c'] w fun e w' => e = .returned (.bool (decide (l = l'))) ∧ Below w.heap.size w w' := by
  have HA := Lib.hid hA
  have HA' := Lib.hid hA'
  clear hA hA'
  by_cases hn : l.length = l'.length
  · have hb1 : ((l.length : Int) != (l'.length : Int)) = false := by simp; omega
    have HN := Lib.hid hn
    clear hn
    go_enter Tryz.func47, Tryz.ntmps47
    go_wp2
    go_loopw [13] (fun i wr => ∃ k : Nat, k ≤ l.length ∧ i = .int .i64 k ∧ Below w.heap.size w wr ∧ Hid (l.take k = l'.take k)) (fun i _ => l.length + 1 - (intOf i).toNat)
    case atStart => exact ⟨0, by omega, rfl, Below.refl _ _, rfl⟩
    case round =>
      obtain ⟨k, hk, rfl, hbw, hrest⟩ := hrel
      have hz := hbw.size
      by_cases hlt : k < l.length
      · have hlt' : k < l'.length := by have := HN.out; omega
        obtain ⟨b, off, rfl, hb, hc⟩ := (HA.out.below (hbw.mono hB)).pairs_ (by omega)
        obtain ⟨b', off', rfl, hb', hc'⟩ := (HA'.out.below (hbw.mono hB)).pairs_ (by omega)
        obtain ⟨h0, h1⟩ := hc k hlt
        obtain ⟨h0', h1'⟩ := hc' k hlt'
        clear hc hc'
        obtain ⟨⟨x, y⟩, hr⟩ : ∃ r, l.getD k (0, 0) = r := ⟨_, rfl⟩
        obtain ⟨⟨x', y'⟩, hr'⟩ : ∃ r, l'.getD k (0, 0) = r := ⟨_, rfl⟩
        rw [hr] at h0 h1
        rw [hr'] at h0' h1'
        have HR := Lib.hid hr
        have HR' := Lib.hid hr'
        clear hr hr'
        simp only at h0 h1 h0' h1'
        have hki : (k : Int) < (l.length : Int) := by omega
        have hki' : (k : Int) < (l'.length : Int) := by omega
        go_wp2
        go_quiet (fail)
        cases he : rangeEq x y x' y' with
        | false =>
          have hne := Lib.hid (show ¬ (x, y) = (x', y') from fun h => by rw [(rangeEq_iff x y x' y').2 h] at he; cases he)
          go_wp2
          go_ret
          refine ⟨ret_bool ?_, below_drewN hbw _⟩
          symm
          rw [decide_eq_false_iff_not]
          intro h
          subst h
          exact hne.out (HR.out.symm.trans HR'.out)
        | true =>
          have heq := Lib.hid ((rangeEq_iff x y x' y').1 he)
          go_wp2
          go_roundw
          case rel => exact ⟨k + 1, by omega, by go_num, below_drewN hbw _, Lib.hid (by rw [take_next' hlt HR.out, take_next' hlt' HR'.out, hrest.out, heq.out])⟩
          case measure => simp [intOf]; omega
      · go_wp2
        go_ret
        have h1 := hrest.out
        have h2 := HN.out
        rw [List.take_of_length_le (by omega), List.take_of_length_le (by omega)] at h1
        exact ⟨ret_bool (by simp [h1]), hbw⟩
  · have hb1 : ((l.length : Int) != (l'.length : Int)) = true := by simp; omega
    have hne : ¬ l = l' := fun h => hn (by rw [h])
    have HN := Lib.hid hne
    clear hn hne
    go_enter Tryz.func47, Tryz.ntmps47
    go_wp2
    go_ret
    exact ⟨ret_bool (by simp [HN.out]), Below.refl _ _⟩

end Go.Proofs.YtblkejnckbeieaaGreatDoor

namespace Go.Proofs.YtblkejnckbeieaaGreatDoor
open Go.RowKit SetPure

set_option maxHeartbeats 400000 in
theorem set_same {w : World} {v u : Value} {s t : List Rg} (h : IsSet w v s) (k : IsSet w u t) : Calls Tryz.prog 20 #[v, u] w fun e w' => e = .returned (.bool (decide (s = t))) ∧ Below w.heap.size w w' := by
  obtain ⟨⟨A, c, rfl, hc1, hc2, hA⟩, hcan⟩ := h
  obtain ⟨⟨A', c', rfl, hc1', hc2', hA'⟩, hcan'⟩ := k
  have HE := Lib.hid (equal_any A A' c c' _ s t w (by have := hcan.len; omega) (by have := hcan'.len; omega) hA hA' (Nat.le_refl _))
  clear hA hA' hcan hcan'
  go_enter Tryz.func20, Tryz.ntmps20
  go_wp2_with (go_at_call 47; refine HE.out.mono ?_; rintro e w1 ⟨rfl, hb1⟩)
  go_ret
  exact ⟨rfl, hb1⟩

end Go.Proofs.YtblkejnckbeieaaGreatDoor

namespace Go.Proofs.YtblkejnckbeieaaGreatDoor
open Go.RowKit SetPure

section
variable {W w w' : World} {L : List (Value × (Int → Bool))} {v u : Value} {f g : Int → Bool}
/-- Two sets that hold the same are the same. -/
theorem hold_same (h : Hold W w L) (hv : (v, f) ∈ L) (hu : (u, g) ∈ L) (e : ∀ z, inR z = true → f z = g z) : Calls Tryz.prog 20 #[v, u] w fun e w' => e = .returned (.bool true) ∧ Hold W w' L := by
  have k := h.get hv
  have k' := h.get hu
  obtain ⟨s, h1, h2⟩ := h.get hv
  obtain ⟨t, k1, k2⟩ := h.get hu
  refine (set_same h1 k1).mono ?_
  rintro e w' ⟨rfl, hb⟩
  refine ⟨ret_bool ?_, h.go hb⟩
  rw [decide_eq_true_eq]
  refine Canon.unique h1.canon k1.canon fun z => ?_
  rw [← inB_iff, ← inB_iff, h2, k2]
  constructor
  · intro hz; rw [← e z (k.inR hz)]; exact hz
  · intro hz; rw [e z (k'.inR hz)]; exact hz
end

end Go.Proofs.YtblkejnckbeieaaGreatDoor

namespace Go.Proofs.YtblkejnckbeieaaGreatDoor
open OrbPure SetPure

theorem nodup_len {α : Type} [BEq α] [LawfulBEq α] : ∀ (l m : List α), l.Nodup → (∀ x ∈ l, x ∈ m) → l.length ≤ m.length
  | [], _, _, _ => by simp
  | a :: l, m, hn, hs => by
    have ha : a ∈ m := hs a (List.mem_cons_self ..)
    obtain ⟨h1, h2⟩ := List.nodup_cons.1 hn
    have := nodup_len l (m.erase a) h2 (fun x hx => (List.mem_erase_of_ne (fun e => h1 (by rw [← e]; exact hx))).2 (hs x (List.mem_cons_of_mem _ hx)))
    rw [List.length_erase_of_mem ha] at this
    have hp : 0 < m.length := List.length_pos_of_mem ha
    rw [List.length_cons]
    omega

/-- The numbers that are counted. -/
def lst (f : Int → Bool) (lo : Int) : Nat → List Int
  | 0 => []
  | n + 1 => if f (lo + n) then (lo + n) :: lst f lo n else lst f lo n
theorem lst_len (f : Int → Bool) (lo : Int) (n : Nat) : (lst f lo n).length = cnt f lo n := by
  induction n with
  | zero => rfl
  | succ n ih => simp only [lst, cnt]; split <;> simp [ih]
theorem lst_mem (f : Int → Bool) (lo : Int) (n : Nat) (x : Int) : x ∈ lst f lo n ↔ f x = true ∧ lo ≤ x ∧ x < lo + n := by
  induction n with
  | zero => simp [lst]
            try omega
  | succ n ih =>
    simp only [lst]
    by_cases h : f (lo + n) = true
    · rw [if_pos h, List.mem_cons, ih]
      constructor
      · rintro (rfl | ⟨h1, h2, h3⟩)
        · exact ⟨h, by omega, by omega⟩
        · exact ⟨h1, h2, by omega⟩
      · rintro ⟨h1, h2, h3⟩
        by_cases e : x = lo + n
        · exact .inl e
        · exact .inr ⟨h1, h2, by omega⟩
    · rw [if_neg h, ih]
      constructor
      · rintro ⟨h1, h2, h3⟩; exact ⟨h1, h2, by omega⟩
      · rintro ⟨h1, h2, h3⟩
        have : x ≠ lo + n := fun e => h (e ▸ h1)
        exact ⟨h1, h2, by omega⟩
theorem lst_nodup (f : Int → Bool) (lo : Int) (n : Nat) : (lst f lo n).Nodup := by
  induction n with
  | zero => simp [lst]
  | succ n ih =>
    simp only [lst]
    split
    · refine List.nodup_cons.2 ⟨fun h => ?_, ih⟩
      have := (lst_mem f lo n _).1 h
      omega
    · exact ih

theorem flat_len_le {α β : Type} (g : α → List β) (l : List α) (k : Nat) (h : ∀ a ∈ l, (g a).length ≤ k) : (l.flatMap g).length ≤ k * l.length := by
  induction l with
  | nil => simp
  | cons a l ih =>
    rw [List.flatMap_cons, List.length_append, List.length_cons, Nat.mul_add]
    have h1 := h a (List.mem_cons_self ..)
    have h2 := ih fun b hb => h b (List.mem_cons_of_mem _ hb)
    omega

/-- What is closed: one of the orbit is in it. -/
def closeF (f : Int → Bool) (z : Int) : Bool := (orbAll z).any f
theorem orbAll_self {z : Int} (h0 : 0 ≤ z) (h1 : z ≤ 1114111) : z ∈ orbAll z := by
  unfold orbAll
  rw [if_pos ⟨h0, h1⟩]
  unfold progOrb
  have hr : ∀ (ls : List (List Int)) (l : List Int), ringFind ls z = some l → z ∈ l := by
    intro ls
    induction ls with
    | nil => intro l h; cases h
    | cons a ls ih =>
      intro l h
      simp only [ringFind] at h
      split at h
      · injection h with h; subst h; assumption
      · exact ih l h
  have hs : ∀ ls, z ∈ shiftFind ls z := by
    intro ls
    induction ls with
    | nil => simp [shiftFind]
    | cons a ls ih =>
      obtain ⟨a, b, d⟩ := a
      simp only [shiftFind]
      split
      · simp
      · split
        · simp
        · exact ih
  cases h : ringFind ringsL z with
  | none => exact hs _
  | some l => exact hr _ _ h
theorem orbAll_none {z : Int} (h : ¬ (0 ≤ z ∧ z ≤ 1114111)) : orbAll z = [] := if_neg h
theorem orbAll_in {z m : Int} (h : m ∈ orbAll z) : (0 ≤ z ∧ z ≤ 1114111) ∧ (0 ≤ m ∧ m ≤ 1114111) ∧ z ∈ orbAll m := by
  have hz : 0 ≤ z ∧ z ≤ 1114111 := by
    refine Decidable.byContradiction fun hn => ?_
    rw [orbAll_none hn] at h; cases h
  have hs := orbAll_self hz.1 hz.2
  have e := orbAll_mem h
  refine ⟨hz, ?_, e ▸ hs⟩
  refine Decidable.byContradiction fun hn => ?_
  rw [orbAll_none hn] at e
  rw [← e] at hs; cases hs

theorem closeF_iff (f : Int → Bool) (z : Int) : closeF f z = true ↔ ∃ m ∈ orbAll z, f m = true := by unfold closeF; rw [List.any_eq_true]
theorem closeF_inR {f : Int → Bool} {z : Int} (h : closeF f z = true) : inR z = true := by
  obtain ⟨m, hm, _⟩ := (closeF_iff f z).1 h
  exact (inR_iff z).2 (orbAll_in hm).1
theorem closeF_idem (f : Int → Bool) (z : Int) : closeF (closeF f) z = closeF f z := by
  rw [Bool.eq_iff_iff, closeF_iff, closeF_iff]
  constructor
  · rintro ⟨m, hm, h⟩
    rw [closeF_iff, orbAll_mem hm] at h
    exact h
  · rintro ⟨m, hm, h⟩
    have h3 := orbAll_in hm
    exact ⟨z, orbAll_self h3.1.1 h3.1.2, (closeF_iff f z).2 ⟨m, hm, h⟩⟩
theorem closeF_ext {f : Int → Bool} (hf : ∀ z, f z = true → inR z = true) {z : Int} (h : f z = true) : closeF f z = true := by
  have h3 := (inR_iff z).1 (hf z h)
  exact (closeF_iff f z).2 ⟨z, orbAll_self h3.1 h3.2, h⟩
theorem closeF_or (f g : Int → Bool) (z : Int) : closeF (fun z => f z || g z) z = (closeF f z || closeF g z) := by
  rw [Bool.eq_iff_iff, Bool.or_eq_true, closeF_iff, closeF_iff, closeF_iff]
  constructor
  · rintro ⟨m, hm, h⟩
    have h' : f m = true ∨ g m = true := by simpa using h
    rcases h' with h | h
    · exact .inl ⟨m, hm, h⟩
    · exact .inr ⟨m, hm, h⟩
  · rintro (⟨m, hm, h⟩ | ⟨m, hm, h⟩)
    · exact ⟨m, hm, by rw [h]; rfl⟩
    · exact ⟨m, hm, by rw [h]; simp⟩
theorem closeF_cnt (f : Int → Bool) : cntF (closeF f) ≤ 3 * cntF f := by
  unfold cntF
  rw [← lst_len, ← lst_len]
  refine Nat.le_trans (nodup_len _ ((lst f 0 1114112).flatMap orbAll) (lst_nodup _ _ _) fun x hx => ?_) (flat_len_le orbAll _ 3 fun a _ => orbAll_len a)
  obtain ⟨h1, h2, h3⟩ := (lst_mem _ _ _ _).1 hx
  obtain ⟨m, hm, hf⟩ := (closeF_iff f x).1 h1
  have h4 := orbAll_in hm
  exact List.mem_flatMap.2 ⟨m, (lst_mem _ _ _ _).2 ⟨hf, h4.2.1.1, by omega⟩, h4.2.2⟩

/-! ### As the program closes: shift by shift, ring by ring -/
def shAny (f : Int → Bool) (k : Nat) (z : Int) : Bool := (shiftsL.take k).any fun s => (decide (s.1 ≤ z - s.2.2) && decide (z - s.2.2 ≤ s.2.1) && f (z - s.2.2)) || (decide (s.1 ≤ z) && decide (z ≤ s.2.1) && f (z + s.2.2))
def rgAny (f : Int → Bool) (k : Nat) (z : Int) : Bool := (ringsL.take k).any fun l => l.any f && decide (z ∈ l)
theorem shAny_succ (f : Int → Bool) {k : Nat} (hk : k < 7) {a b d : Int} (h : shiftsL.getD k (0, 0, 0) = (a, b, d)) (z : Int) :
    shAny f (k + 1) z = (shAny f k z || ((decide (a ≤ z - d) && decide (z - d ≤ b) && f (z - d)) || (decide (a ≤ z) && decide (z ≤ b) && f (z + d)))) := by
  have hk' : k < shiftsL.length := hk
  unfold shAny
  rw [List.take_add_one, List.getElem?_eq_getElem hk', List.any_append]
  rw [List.getD_eq_getElem?_getD, List.getElem?_eq_getElem hk'] at h
  simp only [Option.getD_some] at h
  simp [h]
theorem rgAny_succ (f : Int → Bool) {k : Nat} (hk : k < 5) (z : Int) : rgAny f (k + 1) z = (rgAny f k z || ((ringsL.getD k []).any f && decide (z ∈ ringsL.getD k []))) := by
  have hk' : k < ringsL.length := hk
  unfold rgAny
  rw [List.take_add_one, List.getElem?_eq_getElem hk', List.any_append, List.getD_eq_getElem?_getD, List.getElem?_eq_getElem hk']
  simp

/-- How a number may come in: itself, by a shift, by a ring. -/
def rel (z m : Int) : Prop := m = z ∨ (∃ s ∈ shiftsL, (s.1 ≤ z - s.2.2 ∧ z - s.2.2 ≤ s.2.1 ∧ m = z - s.2.2) ∨ (s.1 ≤ z ∧ z ≤ s.2.1 ∧ m = z + s.2.2)) ∨ ∃ l ∈ ringsL, m ∈ l ∧ z ∈ l
theorem prog_rel (f : Int → Bool) (z : Int) : (f z || shAny f 7 z || rgAny f 5 z) = true ↔ ∃ m, rel z m ∧ f m = true := by
  have e7 : shiftsL.take 7 = shiftsL := rfl
  have e5 : ringsL.take 5 = ringsL := rfl
  unfold shAny rgAny rel
  rw [e7, e5]
  simp only [Bool.or_eq_true, List.any_eq_true, Bool.and_eq_true, decide_eq_true_eq]
  constructor
  · rintro ((h | ⟨s, hs, ⟨⟨h1, h2⟩, h3⟩ | ⟨⟨h1, h2⟩, h3⟩⟩) | ⟨l, hl, ⟨m, hm, h1⟩, h2⟩)
    · exact ⟨z, .inl rfl, h⟩
    · exact ⟨_, .inr (.inl ⟨s, hs, .inl ⟨h1, h2, rfl⟩⟩), h3⟩
    · exact ⟨_, .inr (.inl ⟨s, hs, .inr ⟨h1, h2, rfl⟩⟩), h3⟩
    · exact ⟨m, .inr (.inr ⟨l, hl, hm, h2⟩), h1⟩
  · rintro ⟨m, rfl | ⟨s, hs, ⟨h1, h2, rfl⟩ | ⟨h1, h2, rfl⟩⟩ | ⟨l, hl, hm, h2⟩, h3⟩
    · exact .inl (.inl h3)
    · exact .inl (.inr ⟨s, hs, .inl ⟨⟨h1, h2⟩, h3⟩⟩)
    · exact .inl (.inr ⟨s, hs, .inr ⟨⟨h1, h2⟩, h3⟩⟩)
    · exact .inr ⟨l, hl, ⟨m, hm, h3⟩, h2⟩

theorem rel_flat (z m : Int) : rel z m ↔ m = z ∨
    (((65 ≤ z - 32 ∧ z - 32 ≤ 90 ∧ m = z - 32) ∨ (65 ≤ z ∧ z ≤ 90 ∧ m = z + 32)) ∨ ((192 ≤ z - 32 ∧ z - 32 ≤ 214 ∧ m = z - 32) ∨ (192 ≤ z ∧ z ≤ 214 ∧ m = z + 32)) ∨
     ((216 ≤ z - 32 ∧ z - 32 ≤ 222 ∧ m = z - 32) ∨ (216 ≤ z ∧ z ≤ 222 ∧ m = z + 32)) ∨ ((913 ≤ z - 32 ∧ z - 32 ≤ 929 ∧ m = z - 32) ∨ (913 ≤ z ∧ z ≤ 929 ∧ m = z + 32)) ∨
     ((931 ≤ z - 32 ∧ z - 32 ≤ 937 ∧ m = z - 32) ∨ (931 ≤ z ∧ z ≤ 937 ∧ m = z + 32)) ∨ ((1040 ≤ z - 32 ∧ z - 32 ≤ 1071 ∧ m = z - 32) ∨ (1040 ≤ z ∧ z ≤ 1071 ∧ m = z + 32)) ∨
     ((66560 ≤ z - 40 ∧ z - 40 ≤ 66599 ∧ m = z - 40) ∨ (66560 ≤ z ∧ z ≤ 66599 ∧ m = z + 40))) ∨
    ((m = 75 ∨ m = 107 ∨ m = 8490) ∧ (z = 75 ∨ z = 107 ∨ z = 8490)) ∨ ((m = 83 ∨ m = 115 ∨ m = 383) ∧ (z = 83 ∨ z = 115 ∨ z = 383)) ∨ ((m = 197 ∨ m = 229 ∨ m = 8491) ∧ (z = 197 ∨ z = 229 ∨ z = 8491)) ∨
    ((m = 181 ∨ m = 924 ∨ m = 956) ∧ (z = 181 ∨ z = 924 ∨ z = 956)) ∨ ((m = 931 ∨ m = 962 ∨ m = 963) ∧ (z = 931 ∨ z = 962 ∨ z = 963)) := by
  unfold rel shiftsL ringsL
  simp only [List.mem_cons, List.not_mem_nil, or_false, exists_eq_or_imp, exists_eq_left]
theorem rel_ring (z m : Int) (l : List Int) (h : ringFind ringsL z = some l) : rel z m ↔ m ∈ l := by
  rw [rel_flat]
  unfold ringsL at h
  simp only [ringFind, List.mem_cons, List.not_mem_nil, or_false] at h
  split at h
  · rename_i hz; injection h with h; subst h; simp only [List.mem_cons, List.not_mem_nil, or_false]
    rcases hz with rfl | rfl | rfl <;> omega
  · split at h
    · rename_i hz; injection h with h; subst h; simp only [List.mem_cons, List.not_mem_nil, or_false]
      rcases hz with rfl | rfl | rfl <;> omega
    · split at h
      · rename_i hz; injection h with h; subst h; simp only [List.mem_cons, List.not_mem_nil, or_false]
        rcases hz with rfl | rfl | rfl <;> omega
      · split at h
        · rename_i hz; injection h with h; subst h; simp only [List.mem_cons, List.not_mem_nil, or_false]
          rcases hz with rfl | rfl | rfl <;> omega
        · split at h
          · rename_i hz; injection h with h; subst h; simp only [List.mem_cons, List.not_mem_nil, or_false]
            rcases hz with rfl | rfl | rfl <;> omega
          · cases h
/-- The ranges that shifts touch. -/
def ivs (ls : List (Int × Int × Int)) : List Rg := ls.flatMap fun s => [(s.1, s.2.1), (s.1 + s.2.2, s.2.1 + s.2.2)]
def apart (p q : Rg) : Prop := p.2 < q.1 ∨ q.2 < p.1
instance (p q : Rg) : Decidable (apart p q) := by unfold apart; infer_instance
def relS (s : Int × Int × Int) (z m : Int) : Prop := (s.1 ≤ z - s.2.2 ∧ z - s.2.2 ≤ s.2.1 ∧ m = z - s.2.2) ∨ (s.1 ≤ z ∧ z ≤ s.2.1 ∧ m = z + s.2.2)
theorem relS_iv {s : Int × Int × Int} {z m : Int} (h : relS s z m) : ∃ p ∈ [(s.1, s.2.1), (s.1 + s.2.2, s.2.1 + s.2.2)], p.1 ≤ z ∧ z ≤ p.2 := by
  rcases h with ⟨h1, h2, _⟩ | ⟨h1, h2, _⟩
  · exact ⟨_, List.mem_cons_of_mem _ (List.mem_cons_self ..), by simp only; omega, by simp only; omega⟩
  · exact ⟨_, List.mem_cons_self .., h1, h2⟩
theorem shift_rel (z m : Int) : ∀ ls : List (Int × Int × Int), (ivs ls).Pairwise apart → (m ∈ shiftFind ls z ↔ m = z ∨ ∃ s ∈ ls, relS s z m)
  | [], _ => by simp [shiftFind]
  | (a, b, d) :: ls, hp => by
    have e : ivs ((a, b, d) :: ls) = (a, b) :: (a + d, b + d) :: ivs ls := rfl
    rw [e] at hp
    obtain ⟨h1, hp⟩ := List.pairwise_cons.1 hp
    obtain ⟨h2, hp⟩ := List.pairwise_cons.1 hp
    have h12 := h1 (a + d, b + d) (List.mem_cons_self ..)
    simp only [apart] at h12
    have hno : ∀ p : Rg, (∀ q ∈ ivs ls, apart p q) → p.1 ≤ z → z ≤ p.2 → ¬ ∃ s ∈ ls, relS s z m := by
      rintro p hq h3 h4 ⟨s, hs, hr⟩
      obtain ⟨q, hqm, h5, h6⟩ := relS_iv hr
      have := hq q (List.mem_flatMap.2 ⟨s, hs, hqm⟩)
      simp only [apart] at this
      omega
    simp only [shiftFind]
    by_cases c1 : a ≤ z ∧ z ≤ b
    · rw [if_pos c1]
      have hn := hno (a, b) (fun q hq => h1 q (List.mem_cons_of_mem _ hq)) c1.1 c1.2
      simp only [List.mem_cons, List.not_mem_nil, or_false, exists_eq_or_imp, hn]
      unfold relS
      simp only
      omega
    · rw [if_neg c1]
      by_cases c2 : a ≤ z - d ∧ z - d ≤ b
      · rw [if_pos c2]
        have hn := hno (a + d, b + d) h2 (by simp only; omega) (by simp only; omega)
        simp only [List.mem_cons, List.not_mem_nil, or_false, exists_eq_or_imp, hn]
        unfold relS
        simp only
        omega
      · rw [if_neg c2, shift_rel z m ls hp]
        simp only [List.mem_cons, exists_eq_or_imp]
        have : ¬ relS (a, b, d) z m := by unfold relS; simp only; omega
        simp only [this, false_or]
theorem rel_shift (z m : Int) (h : ringFind ringsL z = none) : rel z m ↔ m ∈ shiftFind shiftsL z := by
  have hn : ∀ (ls : List (List Int)), ringFind ls z = none → ¬ ∃ l ∈ ls, m ∈ l ∧ z ∈ l := by
    intro ls
    induction ls with
    | nil => rintro _ ⟨l, hl, _⟩; cases hl
    | cons a ls ih =>
      intro h
      simp only [ringFind] at h
      split at h
      · cases h
      · rintro ⟨l, hl, h1, h2⟩
        rcases List.mem_cons.1 hl with rfl | hl
        · contradiction
        · exact ih h ⟨l, hl, h1, h2⟩
  rw [shift_rel z m shiftsL (by decide)]
  unfold rel
  simp only [hn _ h, or_false]
  rfl

theorem close_prog (f : Int → Bool) (hf : ∀ z, f z = true → inR z = true) (z : Int) : closeF f z = (f z || shAny f 7 z || rgAny f 5 z) := by
  rw [Bool.eq_iff_iff, prog_rel, closeF_iff]
  by_cases h : 0 ≤ z ∧ z ≤ 1114111
  · have e : orbAll z = progOrb z := if_pos h
    rw [e]
    unfold progOrb
    cases hr : ringFind ringsL z with
    | none =>
      simp only [Option.getD_none, rel_shift z _ hr]
    | some l =>
      simp only [Option.getD_some, rel_ring z _ l hr]
  · rw [orbAll_none h]
    constructor
    · rintro ⟨m, hm, _⟩; cases hm
    · rintro ⟨m, hr, hm⟩
      have hin := (inR_iff m).1 (hf m hm)
      exfalso
      unfold rel shiftsL ringsL at hr
      simp only [List.mem_cons, List.not_mem_nil, or_false, exists_eq_or_imp, exists_eq_left] at hr
      omega

end Go.Proofs.YtblkejnckbeieaaGreatDoor
