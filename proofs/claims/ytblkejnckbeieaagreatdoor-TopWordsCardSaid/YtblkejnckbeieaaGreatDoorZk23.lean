/- The bytes of a scalar, in plain Lean.
  UTF-8, read and written, in plain Lean: what is read are scalars; what is written is read.
  Chapter 10: the walk of the parser's Parse, where the text is refused ahead of the parser. -/
import Derived.Test.YtblkejnckbeieaaGreatDoorZk20
import Derived.Test.YtblkejnckbeieaaGreatDoorZk22
import Derived.Test.YtblkejnckbeieaaGreatDoorZk10
namespace Go.Proofs.YtblkejnckbeieaaGreatDoor.JsonP

/-- The bytes of a scalar. -/
def encB (r : Nat) : List UInt8 :=
  if r < 128 then [UInt8.ofNat r] else if r < 2048 then [UInt8.ofNat (192 + r / 64), UInt8.ofNat (128 + r % 64)]
  else if r < 65536 then [UInt8.ofNat (224 + r / 4096), UInt8.ofNat (128 + r / 64 % 64), UInt8.ofNat (128 + r % 64)]
  else [UInt8.ofNat (240 + r / 262144), UInt8.ofNat (128 + r / 4096 % 64), UInt8.ofNat (128 + r / 64 % 64), UInt8.ofNat (128 + r % 64)]
end Go.Proofs.YtblkejnckbeieaaGreatDoor.JsonP

namespace Go.Proofs.YtblkejnckbeieaaGreatDoor.DecP
open JsonP (encB)

def Scalar (r : Int) : Prop := 0 ≤ r ∧ r ≤ 1114111 ∧ (r < 55296 ∨ 57343 < r)
theorem go0 (k : Nat) (v lo hi : Int) (t : List UInt8) : go 0 k v lo hi t = (v, k) := rfl
theorem go_step {m k : Nat} {v lo hi : Int} {t : List UInt8} (h : 0 ≤ (go (m + 1) k v lo hi t).1) : ∃ x u, t = x :: u ∧ lo ≤ (x.toNat : Int) ∧ (x.toNat : Int) ≤ hi ∧ go (m + 1) k v lo hi t = go m (k + 1) (64 * v + ((x.toNat : Int) - 128)) 128 191 u := by
  cases t with
  | nil => exact absurd h (by show ¬ (0 : Int) ≤ -1; decide)
  | cons x u =>
    rw [go_cons] at h ⊢
    split at h
    · exact absurd h (by show ¬ (0 : Int) ≤ -1; decide)
    · rename_i hc
      exact ⟨x, u, rfl, by omega, by omega, by rw [if_neg hc]⟩
theorem one_scalar {s : List UInt8} (h : 0 ≤ (one s).1) : Scalar (one s).1 := by
  cases s with
  | nil => exact absurd h (by show ¬ (0 : Int) ≤ -1; decide)
  | cons c t =>
    rw [one_cons] at h ⊢
    obtain ⟨b, hb⟩ : ∃ b : Int, (c.toNat : Int) = b := ⟨_, rfl⟩
    rw [hb] at h ⊢
    have hb0 : 0 ≤ b := by omega
    split at h
    · rename_i h1; rw [if_pos h1]; exact ⟨by show 0 ≤ b; omega, by show b ≤ _; omega, .inl (by show b < _; omega)⟩
    · rename_i h1
      rw [if_neg h1]
      split at h
      · exact absurd h (by show ¬ (0 : Int) ≤ -1; decide)
      · rename_i h2
        rw [if_neg h2]
        by_cases c1 : b < 224
        · have hm : more b = 1 := by unfold more; rw [if_pos c1]
          have hv : bits b = b - 192 := by unfold bits; rw [if_pos c1]
          rw [hm, hv] at h ⊢
          have hlo : 128 ≤ least b := by unfold least; repeat' split <;> omega
          have hhi : most b ≤ 191 := by unfold most; repeat' split <;> omega
          obtain ⟨x, u, rfl, h3, h4, h5⟩ := go_step h
          rw [h5, go0]
          unfold Scalar
          simp only
          omega
        · by_cases c2 : b < 240
          · have hm : more b = 2 := by unfold more; rw [if_neg c1, if_pos c2]
            have hv : bits b = b - 224 := by unfold bits; rw [if_neg c1, if_pos c2]
            rw [hm, hv] at h ⊢
            obtain ⟨x, u, rfl, h3, h4, h5⟩ := go_step h
            rw [h5] at h ⊢
            obtain ⟨y, u2, rfl, h6, h7, h8⟩ := go_step h
            rw [h8, go0]
            unfold Scalar
            simp only
            have hlo : 128 ≤ least b ∧ (b = 224 → least b = 160) := by unfold least; constructor <;> (repeat' split) <;> omega
            have hhi : most b ≤ 191 ∧ (b = 237 → most b = 159) := by unfold most; constructor <;> (repeat' split) <;> omega
            omega
          · have hm : more b = 3 := by unfold more; rw [if_neg c1, if_neg c2]
            have hv : bits b = b - 240 := by unfold bits; rw [if_neg c1, if_neg c2]
            rw [hm, hv] at h ⊢
            obtain ⟨x, u, rfl, h3, h4, h5⟩ := go_step h
            rw [h5] at h ⊢
            obtain ⟨y, u2, rfl, h6, h7, h8⟩ := go_step h
            rw [h8] at h ⊢
            obtain ⟨z, u3, rfl, h9, h10, h11⟩ := go_step h
            rw [h11, go0]
            unfold Scalar
            simp only
            have hlo : 128 ≤ least b ∧ (b = 240 → least b = 144) := by unfold least; constructor <;> (repeat' split) <;> omega
            have hhi : most b ≤ 191 ∧ (b = 244 → most b = 143) := by unfold most; constructor <;> (repeat' split) <;> omega
            omega
theorem rune_scalar (s : List UInt8) : Scalar (rune (one s)) := by
  unfold rune
  split
  · exact ⟨by decide, by decide, by decide⟩
  · exact one_scalar (by omega)
theorem runes_scalar (s : List UInt8) : ∀ r ∈ runes s, Scalar r := by
  intro r hr
  unfold runes at hr
  rw [List.mem_map] at hr
  obtain ⟨p, hp, rfl⟩ := hr
  have key : ∀ n, ∀ s : List UInt8, s.length ≤ n → ∀ p ∈ all s, Scalar (rune p) := by
    intro n
    induction n with
    | zero =>
      intro s hs p hp
      have : s = [] := List.eq_nil_of_length_eq_zero (by omega)
      subst this
      rw [all_nil] at hp; cases hp
    | succ n ih =>
      intro s hs p hp
      by_cases he : s = []
      · subst he; rw [all_nil] at hp; cases hp
      · rw [all_cons he] at hp
        rcases List.mem_cons.1 hp with rfl | hp
        · exact rune_scalar s
        · have := one_pos s he
          exact ih _ (by rw [List.length_drop]; omega) p hp
  exact key _ s (Nat.le_refl _) p hp

theorem runes_len (s : List UInt8) : (runes s).length ≤ s.length := by
  have key : ∀ n, ∀ s : List UInt8, s.length ≤ n → (runes s).length ≤ s.length := by
    intro n
    induction n with
    | zero =>
      intro s hs
      have : s = [] := List.eq_nil_of_length_eq_zero (by omega)
      subst this
      rw [runes_nil]; exact Nat.le_refl _
    | succ n ih =>
      intro s hs
      by_cases he : s = []
      · subst he; rw [runes_nil]; exact Nat.le_refl _
      · have h1 := one_pos s he
        have h2 := ih (s.drop (one s).2) (by rw [List.length_drop]; omega)
        rw [List.length_drop] at h2
        rw [runes_cons he, List.length_cons]
        omega
  exact key _ s (Nat.le_refl _)
theorem u8 {n : Nat} (h : n < 256) : ((UInt8.ofNat n).toNat : Int) = n := by rw [UInt8.toNat_ofNat_of_lt' (by simpa [UInt8.size] using h)]
/-- What is written is read. -/
theorem one_enc (r : Nat) (hr : Scalar r) (t : List UInt8) : one (encB r ++ t) = ((r : Int), (encB r).length) := by
  unfold Scalar at hr
  unfold JsonP.encB
  by_cases c1 : r < 128
  · rw [if_pos c1]
    show one (UInt8.ofNat r :: t) = _
    rw [one_cons, u8 (by omega), if_pos (by omega)]
    rfl
  · rw [if_neg c1]
    by_cases c2 : r < 2048
    · rw [if_pos c2]
      show one (UInt8.ofNat _ :: UInt8.ofNat _ :: t) = _
      rw [one_cons, u8 (show 192 + r / 64 < 256 by omega), if_neg (by omega), if_neg (by omega)]
      have hm : more ((192 + r / 64 : Nat) : Int) = 1 := by unfold more; rw [if_pos (by omega)]
      have hv : bits ((192 + r / 64 : Nat) : Int) = (r / 64 : Nat) := by unfold bits; rw [if_pos (by omega)]; omega
      have hlo : least ((192 + r / 64 : Nat) : Int) = 128 := by unfold least; rw [if_neg (by omega), if_neg (by omega)]
      have hhi : most ((192 + r / 64 : Nat) : Int) = 191 := by unfold most; rw [if_neg (by omega), if_neg (by omega)]
      rw [hm, hv, hlo, hhi, go_cons, u8 (show 128 + r % 64 < 256 by omega), if_neg (by omega), go0]
      simp only [List.length_cons, List.length_nil, Prod.mk.injEq, and_true]
      omega
    · rw [if_neg c2]
      by_cases c3 : r < 65536
      · rw [if_pos c3]
        show one (UInt8.ofNat _ :: UInt8.ofNat _ :: UInt8.ofNat _ :: t) = _
        rw [one_cons, u8 (show 224 + r / 4096 < 256 by omega), if_neg (by omega), if_neg (by omega)]
        have hm : more ((224 + r / 4096 : Nat) : Int) = 2 := by unfold more; rw [if_neg (by omega), if_pos (by omega)]
        have hv : bits ((224 + r / 4096 : Nat) : Int) = (r / 4096 : Nat) := by unfold bits; rw [if_neg (by omega), if_pos (by omega)]; omega
        have hlo : least ((224 + r / 4096 : Nat) : Int) ≤ ((128 + r / 64 % 64 : Nat) : Int) := by unfold least; repeat' split <;> omega
        have hhi : ((128 + r / 64 % 64 : Nat) : Int) ≤ most ((224 + r / 4096 : Nat) : Int) := by unfold most; repeat' split <;> omega
        rw [hm, hv, go_cons, u8 (show 128 + r / 64 % 64 < 256 by omega), if_neg (by omega), go_cons, u8 (show 128 + r % 64 < 256 by omega), if_neg (by omega), go0]
        simp only [List.length_cons, List.length_nil, Prod.mk.injEq, and_true]
        omega
      · rw [if_neg c3]
        show one (UInt8.ofNat _ :: UInt8.ofNat _ :: UInt8.ofNat _ :: UInt8.ofNat _ :: t) = _
        rw [one_cons, u8 (show 240 + r / 262144 < 256 by omega), if_neg (by omega), if_neg (by omega)]
        have hm : more ((240 + r / 262144 : Nat) : Int) = 3 := by unfold more; rw [if_neg (by omega), if_neg (by omega)]
        have hv : bits ((240 + r / 262144 : Nat) : Int) = (r / 262144 : Nat) := by unfold bits; rw [if_neg (by omega), if_neg (by omega)]; omega
        have hlo : least ((240 + r / 262144 : Nat) : Int) ≤ ((128 + r / 4096 % 64 : Nat) : Int) := by unfold least; repeat' split <;> omega
        have hhi : ((128 + r / 4096 % 64 : Nat) : Int) ≤ most ((240 + r / 262144 : Nat) : Int) := by unfold most; repeat' split <;> omega
        rw [hm, hv, go_cons, u8 (show 128 + r / 4096 % 64 < 256 by omega), if_neg (by omega), go_cons, u8 (show 128 + r / 64 % 64 < 256 by omega), if_neg (by omega), go_cons, u8 (show 128 + r % 64 < 256 by omega), if_neg (by omega), go0]
        simp only [List.length_cons, List.length_nil, Prod.mk.injEq, and_true]
        omega
theorem encB_pos (r : Nat) : 0 < (encB r).length := by unfold JsonP.encB; repeat' (split <;> try simp)
theorem encB_ne (r : Nat) (t : List UInt8) : encB r ++ t ≠ [] := by
  intro h
  have := congrArg List.length h
  rw [List.length_append] at this
  have := encB_pos r
  rw [List.length_nil] at *
  omega
def encs (rs : List Int) : List UInt8 := rs.flatMap fun r => encB r.toNat
theorem runes_one {r : Int} (hr : Scalar r) (t : List UInt8) : runes (encB r.toNat ++ t) = r :: runes t := by
  obtain ⟨n, rfl⟩ : ∃ n : Nat, r = n := ⟨r.toNat, by have := hr.1; omega⟩
  rw [Int.toNat_natCast, runes_cons (encB_ne n t), one_enc n hr t, List.drop_left]
  show rune _ :: _ = _
  rw [show rune ((n : Int), (encB n).length) = n by unfold rune; rw [if_neg (by simp only; omega)]]
theorem runes_encs (rs : List Int) (h : ∀ r ∈ rs, Scalar r) (t : List UInt8) : runes (encs rs ++ t) = rs ++ runes t := by
  induction rs with
  | nil => rfl
  | cons r rs ih =>
    show runes ((encB r.toNat ++ encs rs) ++ t) = _
    rw [List.append_assoc, runes_one (h r List.mem_cons_self), ih (fun x hx => h x (List.mem_cons_of_mem _ hx))]
    rfl
theorem badAt_one {r : Int} (hr : Scalar r) (t : List UInt8) (i : Nat) : badAt (encB r.toNat ++ t) i = badAt t (i + (encB r.toNat).length) := by
  obtain ⟨n, rfl⟩ : ∃ n : Nat, r = n := ⟨r.toNat, by have := hr.1; omega⟩
  rw [Int.toNat_natCast]
  have ho := one_enc n hr t
  rw [badAt_good (encB_ne n t) (by rw [ho]; simp only; omega), ho, List.drop_left]
theorem badAt_shift (s : List UInt8) (i j : Nat) : badAt s i = none → badAt s j = none := by
  have key : ∀ n, ∀ s : List UInt8, s.length ≤ n → ∀ i j, badAt s i = none → badAt s j = none := by
    intro n
    induction n with
    | zero =>
      intro s hs i j h
      have : s = [] := List.eq_nil_of_length_eq_zero (by omega)
      subst this
      exact badAt_nil j
    | succ n ih =>
      intro s hs i j h
      by_cases he : s = []
      · subst he; exact badAt_nil j
      · by_cases hb : (one s).1 < 0
        · rw [badAt_bad he hb] at h; cases h
        · rw [badAt_good he hb] at h ⊢
          have := one_pos s he
          exact ih _ (by rw [List.length_drop]; omega) _ _ h
  exact key _ s (Nat.le_refl _) i j
theorem badAt_ascii {c : UInt8} (t : List UInt8) (i : Nat) (h : c.toNat < 128) : badAt (c :: t) i = badAt t (i + 1) := by
  have ho := one_ascii t h
  rw [badAt_good (List.cons_ne_nil _ _) (by rw [ho]; simp only; omega), ho]
  rfl
theorem runes_ascii {c : UInt8} (t : List UInt8) (h : c.toNat < 128) : runes (c :: t) = (c.toNat : Int) :: runes t := by
  rw [runes_cons (List.cons_ne_nil _ _), one_ascii t h]
  show rune _ :: _ = _
  rw [show rune ((c.toNat : Int), 1) = c.toNat by unfold rune; rw [if_neg (by simp only; omega)]]
  rfl

end Go.Proofs.YtblkejnckbeieaaGreatDoor.DecP

namespace Go.Proofs.YtblkejnckbeieaaGreatDoor
open Go.RowKit

/-- What Parse tells of a text: what is wrong, and where; or a tree and the groups' names. -/
inductive PRes where
  | bad (code at_ : Int)
  | ok (nd : SynP.Nd) (names : List (List UInt8))
/-- The text's bytes behind a mark. -/
def patB (d : ByteArray) : List UInt8 := d.data.toList.drop (markN d)
def patRs (d : ByteArray) : List Int := DecP.runes (patB d)
def patPl (d : ByteArray) : List Int := DecP.places (patB d) (markN d) ++ [(d.size : Int)]
def resR (d : ByteArray) : SynP.R (Option SynP.Nd × SynP.St) → PRes
  | .bad c k => .bad c ((patPl d).getD k 0)
  | .ok (some nd, s) => .ok nd s.names
  | .ok (none, _) => .bad 0 0
def parseT (d : ByteArray) (f : SynP.Fl) : PRes :=
  if 1024 < d.size then .bad 2 0
  else match DecP.badAt (patB d) (markN d) with
    | some p => .bad 17 p
    | none => resR d (SynP.parse (patRs d) clsT perlT f)
def PatEnd (w : World) : PRes → Ending → World → Prop
  | .ok nd ns, e, w' => Below w.heap.size w w' ∧ ∃ (r : RawN) (A : Option Addr) (c : Nat), e = .returned (.tuple #[.agg (r.cells ++ [Value.slice A ns.length c]).toArray, .agg #[.int .i64 0, .int .i64 0]]) ∧ Lies w' (fun k => w.heap.size ≤ k) nd r ∧ SeqAt Estr w' w'.heap.size A (ns.map str) ∧ ns.length ≤ c ∧ c ≤ maxLen
  | .bad c p, e, w' => Below w.heap.size w w' ∧ e = .returned (.tuple #[.agg zeroP, .agg #[.int .i64 c, .int .i64 p]])

theorem decode_pat (d : ByteArray) (w : World) (hd : d.size ≤ 1024) : Calls Tryz.prog 29 #[.string d, .int .i64 1, .bool true] w fun e w' => Below w.heap.size w w' ∧
    match DecP.badAt (patB d) (markN d) with
    | some p => e = .returned (.tuple #[.agg #[.int .i64 0, .slice none 0 0, .slice none 0 0, .int .i64 0], .agg #[.int .i64 17, .int .i64 p]])
    | none => ∃ Ar cr Ap cp bad, e = .returned (.tuple #[.agg #[.int .i64 1, .slice Ar (patRs d).length cr, .slice Ap (patPl d).length cp, .int .i64 bad], .agg #[.int .i64 0, .int .i64 0]]) ∧ SeqAt Eint w' w'.heap.size Ar (patRs d) ∧ SeqAt Eint w' w'.heap.size Ap (patPl d) ∧ (∀ k, (Value.slice Ar (patRs d).length cr).ownBlock = some k → w.heap.size ≤ k) ∧ (∀ k, (Value.slice Ap (patPl d).length cp).ownBlock = some k → w.heap.size ≤ k) := by
  refine (decode_all d true w (by omega)).mono fun e w' h => ?_
  unfold DecEndK badS at h
  simp only [if_true] at h
  refine ⟨h.1, ?_⟩
  have h2 := h.2
  unfold patB
  cases hb : DecP.badAt (List.drop (markN d) d.data.toList) (markN d) with
  | some p => rw [hb] at h2; exact h2
  | none =>
    rw [hb] at h2
    obtain ⟨Ar, nr, cr, Ap, np, cp, bad, rfl, h3, h4⟩ := h2
    have o3 : OwnB Eint 3 w.heap.size w' (.slice Ar nr cr) (patRs d) := ⟨h3.1, h3.2.size⟩
    have o4 : OwnB Eint 3 w.heap.size w' (.slice Ap np cp) (patPl d) := ⟨h4.1, h4.2.size⟩
    obtain ⟨A1, c1, e1, _, _⟩ := o3.form
    obtain ⟨A2, c2, e2, _, _⟩ := o4.form
    injection e1 with a1 a2 a3
    injection e2 with b1 b2 b3
    subst a1; subst a2; subst a3; subst b1; subst b2; subst b3
    exact ⟨Ar, cr, Ap, cp, bad, rfl, o3.seq, o4.seq, fun k hk => (o3.lt k hk).1, fun k hk => (o4.lt k hk).1⟩

/-- What Parse holds: its flags' box, its two results' blocks. -/
structure ParS (w wr : World) (N : Nat) (v t : Array Value) (f : SynP.Fl) : Prop where
  hN : w.heap.size = N
  bel : Below N w wr
  flg : wr.heap[N]? = some (.cells (flA f) 39)
  val : wr.heap[N + 1]? = some (.cells v 32)
  flt : wr.heap[N + 1 + 1]? = some (.cells t 35)
section
variable {w wr wx : World} {N : Nat} {v t : Array Value} {f : SynP.Fl}
theorem ParS.start (hN : w.heap.size = N) : ParS w (((w.alloc (.cells (flA f) 39)).alloc (.cells zeroP 32)).alloc (.cells #[.int .i64 0, .int .i64 0] 35)) N zeroP #[.int .i64 0, .int .i64 0] f := by
  subst hN
  refine ⟨rfl, (((Below.refl _ w).alloc (Nat.le_refl _) _).alloc (by simp) _).alloc (by simp; omega) _, ?_, ?_, ?_⟩
  · exact (Below.heap_alloc _ _ _ (by simp; omega)).trans ((Below.heap_alloc _ _ _ (by simp)).trans (heap_alloc_new w _))
  · have := heap_alloc_new (w.alloc (.cells (flA f) 39)) (.cells zeroP 32)
    rw [World.size_alloc] at this
    exact (Below.heap_alloc _ _ _ (by simp)).trans this
  · have := heap_alloc_new ((w.alloc (.cells (flA f) 39)).alloc (.cells zeroP 32)) (.cells #[.int .i64 0, .int .i64 0] 35)
    rw [World.size_alloc, World.size_alloc] at this
    exact this
theorem ParS.lt (h : ParS w wr N v t f) : N + 1 + 1 < wr.heap.size := (Array.getElem?_eq_some_iff.1 h.flt).1
theorem ParS.below (h : ParS w wr N v t f) (k : Below wr.heap.size wr wx) : ParS w wx N v t f := by
  have := h.lt
  exact ⟨h.hN, h.bel.trans (k.mono (by omega)), (k.block N (by omega)).trans h.flg, (k.block (N + 1) (by omega)).trans h.val, (k.block (N + 1 + 1) (by omega)).trans h.flt⟩
/-- A step that turns nothing below a bound behind the blocks. -/
theorem ParS.on {B : Nat} (h : ParS w wr N v t f) (k : Below B wr wx) (hB : N + 1 + 1 < B) : ParS w wx N v t f :=
  ⟨h.hN, h.bel.trans (k.mono (by omega)), (k.block N (by omega)).trans h.flg, (k.block (N + 1) (by omega)).trans h.val, (k.block (N + 1 + 1) (by omega)).trans h.flt⟩
theorem ParS.setT (h : ParS w wr N v t f) (o : Nat) (u : Value) : ParS w (wr.setCell ⟨N + 1 + 1, o, none⟩ u) N v (t.setIfInBounds o u) f := by
  refine ⟨h.hN, h.bel.setCell (p := ⟨N + 1 + 1, o, none⟩) (by show N ≤ N + 1 + 1; omega) _, (Below.heap_setCell _ ⟨N + 1 + 1, o, none⟩ _ _ (by show ¬ N = N + 1 + 1; omega)).trans h.flg, (Below.heap_setCell _ ⟨N + 1 + 1, o, none⟩ _ _ (by show ¬ N + 1 = N + 1 + 1; omega)).trans h.val, ?_⟩
  simp only [World.setCell, Array.getElem?_modify, if_true, h.flt, Option.map_some]
  rfl
theorem ParS.setV (h : ParS w wr N v t f) (o : Nat) (u : Value) : ParS w (wr.setCell ⟨N + 1, o, none⟩ u) N (v.setIfInBounds o u) t f := by
  refine ⟨h.hN, h.bel.setCell (p := ⟨N + 1, o, none⟩) (by show N ≤ N + 1; omega) _, (Below.heap_setCell _ ⟨N + 1, o, none⟩ _ _ (by show ¬ N = N + 1; omega)).trans h.flg, ?_, (Below.heap_setCell _ ⟨N + 1, o, none⟩ _ _ (by show ¬ N + 1 + 1 = N + 1; omega)).trans h.flt⟩
  simp only [World.setCell, Array.getElem?_modify, if_true, h.val, Option.map_some]
  rfl
end

set_option maxRecDepth 100000 in
set_option maxHeartbeats 1600000 in
theorem parse_long (d : ByteArray) (f : SynP.Fl) (w : World) (hs : 1024 < d.size) :
    Calls Tryz.prog 11 #[.string d, .agg #[.bool f.fold, .bool f.lines, .bool f.dot, .bool f.lazy]] w fun e w' => PatEnd w (.bad 2 0) e w' := by
  have hss : (1024 : Int) < (d.size : Int) := by omega
  go_enter_defers Tryz.func11, Tryz.ntmps11
  go_wp2
  refine Exists.intro (.tuple #[.agg zeroP, .agg #[.int .i64 2, .int .i64 0]]) (And.intro ?_ ⟨(((Below.refl _ w).alloc (Nat.le_refl _) _).alloc (by simp) _).alloc (by simp; omega) _, rfl⟩)
  simp [results, Tryz.results11, go_sem]

set_option maxRecDepth 100000 in
set_option maxHeartbeats 3200000 in
theorem parse_bad17 (d : ByteArray) (f : SynP.Fl) (w : World) (hs : d.size ≤ 1024) (i : Nat) (hp : DecP.badAt (patB d) (markN d) = some i) :
    Calls Tryz.prog 11 #[.string d, .agg #[.bool f.fold, .bool f.lines, .bool f.dot, .bool f.lazy]] w fun e w' => PatEnd w (.bad 17 i) e w' := by
  have hss : ¬ (1024 : Int) < (d.size : Int) := by omega
  have HC : Hid (∀ W, Calls Tryz.prog 29 #[.string d, .int .i64 1, .bool true] W fun e w' => e = .returned (.tuple #[.agg #[.int .i64 0, .slice none 0 0, .slice none 0 0, .int .i64 0], .agg #[.int .i64 17, .int .i64 i]]) ∧ Below W.heap.size W w') := Lib.hid fun W => by
    refine (decode_pat d W hs).mono fun e w' h => ?_
    rw [hp] at h
    exact ⟨h.2, h.1⟩
  clear hp
  obtain ⟨N, hN⟩ : ∃ N, w.heap.size = N := ⟨_, rfl⟩
  have HNe := Lib.hid hN
  have HS0 := Lib.hid (ParS.start (f := f) hN)
  clear hN
  go_enter_defers Tryz.func11, Tryz.ntmps11
  go_upto_region 3 with fail
  rw [HNe.out]
  simp only [zeroP, flA] at HS0
  generalize ((w.alloc (.cells #[.bool f.fold, .bool f.lines, .bool f.dot, .bool f.lazy] 39)).alloc (.cells #[.int .i64 0, .slice none 0 0, .bool false, .int .i64 0, .int .i64 0, .bool false, .int .i64 0, .string ⟨#[]⟩, .slice none 0 0, .slice none 0 0] 32)).alloc (.cells #[.int .i64 0, .int .i64 0] 35) = W0 at HS0 ⊢
  go_upto_region 5 with (go_at_call 29; refine (HC.out _).mono ?_; rintro e w3 ⟨rfl, hb3⟩; have h3 := (HS0.out.below hb3).below ((Below.refl _ w3).alloc (Nat.le_refl _) (.cells #[.int .i64 0, .slice none 0 0, .slice none 0 0, .int .i64 0] 69)); have hcT := fun o => Lib.cell_of_heap h3.flt o; have hzT := fun o => Lib.frozen_of_heap h3.flt o; have H3 := Lib.hid h3; clear h3 hb3)
  have h4 : ParS w _ N #[.int .i64 0, .slice none 0 0, .bool false, .int .i64 0, .int .i64 0, .bool false, .int .i64 0, .string ⟨#[]⟩, .slice none 0 0, .slice none 0 0] #[.int .i64 17, .int .i64 i] f := (H3.out.setT 0 (.int .i64 17)).setT 1 (.int .i64 i)
  generalize ((w3.alloc (.cells #[.int .i64 0, .slice none 0 0, .slice none 0 0, .int .i64 0] 69)).setCell ⟨N + 1 + 1, 0, none⟩ (.int .i64 17)).setCell ⟨N + 1 + 1, 1, none⟩ (.int .i64 i) = W4 at h4 ⊢
  clear hcT hzT H3 HS0
  have hcV := fun o => Lib.cell_of_heap h4.val o
  have hzV := fun o => Lib.frozen_of_heap h4.val o
  have hcT := fun o => Lib.cell_of_heap h4.flt o
  have hzT := fun o => Lib.frozen_of_heap h4.flt o
  have hVT1 : ¬ N + 1 = N + 1 + 1 := by omega
  have hVT2 : ¬ N + 1 + 1 = N + 1 := by omega
  have H4 := Lib.hid h4
  clear h4
  go_region
  all_goals
    go_wp2
    refine Exists.intro (.tuple #[.agg #[.int .i64 0, .slice none 0 0, .bool false, .int .i64 0, .int .i64 0, .bool false, .int .i64 0, .string ⟨#[]⟩, .slice none 0 0, .slice none 0 0], .agg #[.int .i64 17, .int .i64 i]]) (And.intro ?_ ⟨?_, rfl⟩)
    · simp [results, Tryz.results11, go_sem, hcV, hcT]
    · rw [HNe.out]
      repeat (first | (with_reducible refine Below.setCell ?_ (by first | exact Nat.le_refl _ | exact Nat.le_succ _ | exact Nat.le_add_right N 2) _) | (with_reducible refine Below.drew ?_) | (with_reducible exact H4.out.bel))

end Go.Proofs.YtblkejnckbeieaaGreatDoor
