/- Chapter 10: the deferred closure of the parser's Parse.
  Chapter 10: the plain parser of patterns: what is wrong has a number, where the fuel is enough.
  UTF-8, read: the scalar at the front of some bytes, in plain Lean.
  UTF-8, read: the walks of the program's shape and utf8.
  Two lists that a walk builds side by side by append, one element of one cell at a time ('a, b = append(a, x), append(b, y)': a region that draws its order). -/
import Derived.Test.YtblkejnckbeieaaGreatDoorZk8
import Derived.Test.YtblkejnckbeieaaGreatDoorZk1
import Derived.Test.YtblkejnckbeieaaGreatDoorZk2
import Derived.Defers
import Derived.Recover
import Derived.RegionTactic
import Derived.ChangeAlike
import Derived.KernelRfl
import Derived.Laws.Pointers
import Derived.Test.YtblkejnckbeieaaGreatDoorRows
import Derived.Deep.DeepCutAuto
import Derived.Maps.AppendAt
namespace Go.Proofs.YtblkejnckbeieaaGreatDoor
open Go.RowKit

/-- The zero pattern's cells. -/
abbrev zeroP : Array Value := #[.int .i64 0, .slice none 0 0, .bool false, .int .i64 0, .int .i64 0, .bool false, .int .i64 0, .string ⟨#[]⟩, .slice none 0 0, .slice none 0 0]
theorem bodyPostS_normal {P : Program} {fn : Func} {c₀ : Frame} {cs cs' : List Frame} {R : Ending → FrameMode → World → Prop} {a : Act} {w : World} {u' : FrameMode} (hd : a.defers = []) (hcs : cs' = { c₀ with mode := u' } :: cs) (v : Value) (hr : (results fn a.tmps).run P w = .ok v w) (hR : R (.returned v) u' w) : bodyPostS P fn c₀ cs R .normal a cs' w := ⟨hd, u', hcs, v, hr, hR⟩
theorem assert_fault (c i : Int) (w : World) : (Instr.typeAssert (.iface 72 (.agg #[.int .i64 c, .int .i64 i])) 20 72 true).run Tryz.prog w = .ok (.tuple #[.agg #[.int .i64 c, .int .i64 i], .bool true]) w := by kernel_rfl
set_option maxRecDepth 100000 in
set_option maxHeartbeats 2000000 in
theorem catch_panicking (V T : Nat) (hVT : V < T) (c i : Int) (older : List PanicEntry) (b0 b1 : Value) (w : World) (hV : w.heap[V]? = some (.cells #[.int .i64 0, .slice none 0 0, .bool false, .int .i64 0, .int .i64 0, .bool false, .int .i64 0, .string ⟨#[]⟩, .slice none 0 0, .slice none 0 0] 32)) (hT : w.heap[T]? = some (.cells #[b0, b1] 35)) :
    CallsD Tryz.prog 30 #[.pointer (some ⟨V, 0, none⟩), .pointer (some ⟨T, 0, none⟩)] (.panicking ({ v := .iface 72 (.agg #[.int .i64 c, .int .i64 i]), recovered := false } :: older)) w fun e u' w' =>
      e = .returned (.tuple #[]) ∧ u' = .panicking ({ v := .iface 72 (.agg #[.int .i64 c, .int .i64 i]), recovered := true } :: older) ∧
        Below V w w' ∧ w'.heap[V]? = some (.cells #[.int .i64 0, .slice none 0 0, .bool false, .int .i64 0, .int .i64 0, .bool false, .int .i64 0, .string ⟨#[]⟩, .slice none 0 0, .slice none 0 0] 32) ∧ w'.heap[T]? = some (.cells #[.int .i64 c, .int .i64 i] 35) := by
  have hcV := fun o => Lib.cell_of_heap hV o
  have hzV := fun o => Lib.frozen_of_heap hV o
  have hcT := fun o => Lib.cell_of_heap hT o
  have hzT := fun o => Lib.frozen_of_heap hT o
  refine callsD_of_wpS Tryz.func30 rfl fun c₀ cs hu => ?_
  have he : (#[.pointer (some ⟨V, 0, none⟩), .pointer (some ⟨T, 0, none⟩)] : Array Value) ++ Array.replicate (Tryz.f30.ntmps - (#[.pointer (some ⟨V, 0, none⟩), .pointer (some ⟨T, 0, none⟩)] : Array Value).size) undef = #[.pointer (some ⟨V, 0, none⟩), .pointer (some ⟨T, 0, none⟩), undef, undef, undef, undef, undef, undef, undef, undef, undef, undef, undef, undef, undef, undef, undef, undef] := by rw [Tryz.ntmps30]; rfl
  rw [he]
  apply wpS_seq
  apply wpS_region
  simp [wpOpsS, go_sem, recoverD, hu, Exit.thenS]
  refine wpS_of_wp ?_
  have hta := assert_fault c i
  clear he
  have hVw : V < w.heap.size := (Array.getElem?_eq_some_iff.1 hV).1
  have hTw : T < w.heap.size := (Array.getElem?_eq_some_iff.1 hT).1
  clear hcV hzV hcT hzT
  go_upto_region 5 with fail
  obtain ⟨W, hW⟩ : ∃ W, W = w.alloc (.cells #[.int .i64 c, .int .i64 i] 72) := ⟨_, rfl⟩
  obtain ⟨g, hg⟩ : ∃ g, w.heap.size = g := ⟨_, rfl⟩
  have hV1 : W.heap[V]? = some (.cells #[.int .i64 0, .slice none 0 0, .bool false, .int .i64 0, .int .i64 0, .bool false, .int .i64 0, .string ⟨#[]⟩, .slice none 0 0, .slice none 0 0] 32) := by rw [hW]; exact (Below.heap_alloc _ _ _ hVw).trans hV
  have hT1 : W.heap[T]? = some (.cells #[b0, b1] 35) := by rw [hW]; exact (Below.heap_alloc _ _ _ hTw).trans hT
  have hG1 : W.heap[g]? = some (.cells #[.int .i64 c, .int .i64 i] 72) := by rw [hW, ← hg]; exact heap_alloc_new w _
  have hB1 : Below V w W := by rw [hW]; exact (Below.refl _ _).alloc (Nat.le_of_lt hVw) _
  rw [← hW, hg]
  have hgV : ¬ g = V := by omega
  have hgT : ¬ g = T := by omega
  have hVg : ¬ V = g := by omega
  have hTg : ¬ T = g := by omega
  have hVT1 : ¬ V = T := by omega
  have hVT2 : ¬ T = V := by omega
  have hcV := fun o => Lib.cell_of_heap hV1 o
  have hzV := fun o => Lib.frozen_of_heap hV1 o
  have hcT := fun o => Lib.cell_of_heap hT1 o
  have hzT := fun o => Lib.frozen_of_heap hT1 o
  have hcG := fun o => Lib.cell_of_heap hG1 o
  have HV1 := Lib.hid hV1
  have HT1 := Lib.hid hT1
  have HB1 := Lib.hid hB1
  clear hW hg hV1 hT1 hG1 hB1 hV hT hta hVw hTw
  go_region
  all_goals
    go_wp2
    have hV2 := HV1.out
    have hT2 := HT1.out
    refine bodyPostS_normal (u' := .panicking ({ v := .iface 72 (.agg #[.int .i64 c, .int .i64 i]), recovered := true } :: older)) (by rfl) (by rfl) (.tuple #[]) ?_ ⟨rfl, rfl, ?_, ?_, ?_⟩
    · simp [results, Tryz.results30]
    · repeat (first | (with_reducible refine Below.setCell ?_ (by first | exact Nat.le_refl _ | exact Nat.le_of_lt hVT) _) | (with_reducible refine Below.drew ?_) | (with_reducible exact HB1.out))
    · simp [World.setCell, World.drew, -World.drew_eq, Array.getElem?_modify, hVT2, hV2]
    · simp [World.setCell, World.drew, -World.drew_eq, Array.getElem?_modify, hVT1, hT2]

set_option maxRecDepth 100000 in
theorem catch_idle (V T : Nat) (w : World) :
    CallsD Tryz.prog 30 #[.pointer (some ⟨V, 0, none⟩), .pointer (some ⟨T, 0, none⟩)] .returning w fun e u' w' => e = .returned (.tuple #[]) ∧ u' = .returning ∧ w' = w := by
  refine callsD_of_wpS Tryz.func30 rfl fun c₀ cs hu => ?_
  have he : (#[.pointer (some ⟨V, 0, none⟩), .pointer (some ⟨T, 0, none⟩)] : Array Value) ++ Array.replicate (Tryz.f30.ntmps - (#[.pointer (some ⟨V, 0, none⟩), .pointer (some ⟨T, 0, none⟩)] : Array Value).size) undef = #[.pointer (some ⟨V, 0, none⟩), .pointer (some ⟨T, 0, none⟩), undef, undef, undef, undef, undef, undef, undef, undef, undef, undef, undef, undef, undef, undef, undef, undef] := by rw [Tryz.ntmps30]; rfl
  rw [he]
  apply wpS_seq
  apply wpS_region
  simp [wpOpsS, go_sem, recoverD, hu, Exit.thenS]
  refine wpS_of_wp ?_
  clear he
  go_wp2
  cases c₀
  simp_all [bodyPostS, results, Tryz.results30]

end Go.Proofs.YtblkejnckbeieaaGreatDoor

namespace Go.Proofs.YtblkejnckbeieaaGreatDoor.SynP

variable {rs : List Int} {cls : List UInt8 → Option (Int → Bool)} {perl : Int → Option (Int → Bool)}

theorem R.eq_bad {α : Type} {c c' : Int} {k k' : Nat} (h : (R.bad c k : R α) = .bad c' k') : c = c' := by injection h

theorem name_code {names : List (List UInt8)} {from_ i : Nat} {c : Int} {k : Nat} (h : name rs names from_ i = .bad c k) : 20 ≤ c := by
  unfold name at h
  simp only [] at h
  split at h
  · have := R.eq_bad h; omega
  · split at h
    · have := R.eq_bad h; omega
    · cases h
theorem number_code {from_ i : Nat} {c : Int} {k : Nat} (h : number rs from_ i = .bad c k) : 20 ≤ c := by
  unfold number at h
  simp only [] at h
  split at h
  · split at h
    · have := R.eq_bad h; omega
    · cases h
  · split at h
    · have := R.eq_bad h; omega
    · cases h
theorem named_code {from_ i : Nat} {c : Int} {k : Nat} (h : named rs cls from_ i = .bad c k) : 20 ≤ c := by
  unfold named at h
  simp only [] at h
  split at h
  · have := R.eq_bad h; omega
  · split at h
    · have := R.eq_bad h; omega
    · split at h
      · have := R.eq_bad h; omega
      · cases h
theorem escape_code {from_ i : Nat} {c : Int} {k : Nat} (h : escape rs cls perl from_ i = .bad c k) : 20 ≤ c := by
  unfold escape at h
  simp only [] at h
  split at h
  · have := R.eq_bad h; omega
  split at h
  · split at h
    · rename_i hn
      have := named_code hn
      have := R.eq_bad h
      omega
    · cases h
  split at h
  · split at h
    · rename_i hn
      have := number_code hn
      have := R.eq_bad h
      omega
    · cases h
  split at h
  · cases h
  split at h
  · cases h
  split at h
  · have := R.eq_bad h; omega
  · cases h
theorem item_code {i : Nat} {c : Int} {k : Nat} (h : item rs cls perl i = .bad c k) : 20 ≤ c := by
  unfold item at h
  split at h
  · exact escape_code h
  · cases h
theorem items_code {from_ : Nat} : ∀ (n : Nat) (first : Bool) (out : Int → Bool) (i : Nat) {c : Int} {k : Nat}, i ≤ rs.length → rs.length + 1 ≤ n + i → items rs cls perl from_ n first out i = .bad c k → 20 ≤ c
  | 0, _, _, i, _, _, h1, h2, _ => by omega
  | n + 1, first, out, i, c, k, h1, h2, h => by
    unfold items at h
    split at h
    · cases h
    split at h
    · have := R.eq_bad h; omega
    · rename_i hc
      have hi := pk_lt hc
      split at h
      · rename_i hg
        have := item_code hg
        have := R.eq_bad h
        omega
      · rename_i g r j hg
        have h3 := item_at hi hg
        split at h
        · rename_i hr
          have h4 := pk_lt hr.2.2.2
          split at h
          · rename_i hg2
            have := item_code hg2
            have := R.eq_bad h
            omega
          · rename_i g2 r2 k2 hg2
            have h5 := item_at h4 hg2
            split at h
            · have := R.eq_bad h; omega
            · exact items_code n _ _ _ (by omega) (by omega) h
        · exact items_code n _ _ _ (by omega) (by omega) h
theorem list_code {from_ i : Nat} {c : Int} {k : Nat} (hi : i ≤ rs.length) (h : list rs cls perl from_ i = .bad c k) : 20 ≤ c := by
  unfold list at h
  simp only [] at h
  split at h
  · rename_i hg
    have := R.eq_bad h
    have hx : (if pk rs i = 94 then i + 1 else i) ≤ rs.length := by
      split
      · rename_i hq
        have := pk_lt0 (rs := rs) (i := i) (by omega)
        omega
      · exact hi
    have := items_code _ _ _ _ hx (by omega) hg
    omega
  · cases h
theorem flags_code {from_ : Nat} : ∀ (n : Nat) (on some_ : Bool) (f : Fl) (m0 m1 : List Int) (i : Nat) {c : Int} {k : Nat}, i ≤ rs.length → rs.length + 1 ≤ n + i → flags rs from_ n on some_ f m0 m1 i = .bad c k → 20 ≤ c
  | 0, _, _, _, _, _, _, _, _, h1, h2, _ => by omega
  | n + 1, on, some_, f, m0, m1, i, c, k, hi, hn, h => by
    unfold flags at h
    simp only [] at h
    by_cases h1 : pk rs i = 45 ∧ on = true
    · rw [if_pos h1] at h
      have := pk_lt0 (rs := rs) (i := i) (by omega)
      exact flags_code n _ _ _ _ _ _ (by omega) (by omega) h
    · rw [if_neg h1] at h
      by_cases h2 : (pk rs i = 105 ∨ pk rs i = 109 ∨ pk rs i = 115 ∨ pk rs i = 85) ∧ ¬ pk rs i ∈ (if on = true then m0 else m1)
      · rw [if_pos h2] at h
        have := pk_lt0 (rs := rs) (i := i) (by omega)
        exact flags_code n _ _ _ _ _ _ (by omega) (by omega) h
      · rw [if_neg h2] at h
        by_cases h3 : (pk rs i = 58 ∨ pk rs i = 41) ∧ (some_ = true ∨ pk rs i = 58 ∧ on = true)
        · rw [if_pos h3] at h
          cases h
        · rw [if_neg h3] at h
          have := R.eq_bad h; omega

/-- The fuel that a call wants. -/
def need (rs : List Int) : Q → St → Nat
  | .alts _, s => 3 * (rs.length - s.at_) + 2
  | .row _ _, s => 3 * (rs.length - s.at_) + 1
  | .atom, s => 3 * (rs.length - s.at_)

theorem go_code : ∀ (n : Nat) (q : Q) (s : St) {c : Int} {k : Nat}, s.at_ ≤ rs.length → (q = .atom → s.at_ < rs.length) → need rs q s ≤ n → go rs cls perl n q s = .bad c k → 20 ≤ c
  | 0, q, s, _, _, h1, h2, h3, _ => by
    cases q with
    | alts l => simp only [need] at h3; omega
    | row l b => simp only [need] at h3; omega
    | atom => simp only [need] at h3; have := h2 rfl; omega
  | n + 1, .alts l, s, c, k, hs, _, hn, h => by
    simp only [need] at hn
    rw [go] at h
    split at h
    · rename_i hy
      have := go_code n (.row [] false) _ hs (fun e => by cases e) (by simp only [need]; omega) hy
      have := R.eq_bad h
      omega
    · rename_i y s2 hy
      have h1 := go_at n _ _ hy hs (fun e => by cases e)
      simp only [] at h
      split at h
      · rename_i hc
        have := pk_lt0 (rs := rs) (i := s2.at_) (by omega)
        exact go_code n (.alts _) _ (by simp only []; omega) (fun e => by cases e) (by simp only [need]; omega) h
      · cases h
  | n + 1, .row l some_, s, c, k, hs, _, hn, h => by
    simp only [need] at hn
    rw [go] at h
    simp only [] at h
    split at h
    · cases h
    · rename_i hc
      have hi := pk_lt (rs := rs) (i := s.at_) (fun e => hc (.inl e))
      split at h
      · split at h
        · have := R.eq_bad h; omega
        · cases h
      · split at h
        · rename_i least most j ht
          have hj := times_at ht
          split at h
          · have := R.eq_bad h; omega
          split at h
          · have := R.eq_bad h; omega
          have hq : (if pk rs j = 63 then j + 1 else j) ≤ rs.length ∧ j ≤ (if pk rs j = 63 then j + 1 else j) := by
            split
            · rename_i hq
              have := pk_lt0 (rs := rs) (i := j) (by omega)
              omega
            · omega
          exact go_code n (.row _ _) _ hq.1 (fun e => by cases e) (by simp only [need]; omega) h
        · split at h
          · rename_i hy
            have := go_code n _ _ hs (fun _ => hi) (by simp only [need]; omega) hy
            have := R.eq_bad h
            omega
          · rename_i y s2 hy
            have h1 := go_at n _ _ hy hs (fun _ => hi)
            have h3 := h1.2.2 rfl
            exact go_code n (.row _ _) _ h1.2.1 (fun e => by cases e) (by simp only [need]; omega) h
  | n + 1, .atom, s, c, k, hs, ha, hn, h => by
    have hi := ha rfl
    simp only [need] at hn
    have key : ∀ (g : Option (Nat × List UInt8)) (was : Fl) (s2 : St) {c : Int} {k : Nat}, s2.at_ ≤ rs.length → s.at_ < s2.at_ →
        (match go rs cls perl n (.alts []) { s2 with opn := s2.opn ++ [s.at_] } with
          | .bad e k => R.bad e k
          | .ok (x, s3) => if pk rs s3.at_ ≠ 41 then .bad 25 (s3.opn.getLast?.getD 0)
            else .ok ((match g with | none => x | some (cap, nm) => x.map (Nd.grp cap nm)), { s3 with at_ := s3.at_ + 1, opn := s3.opn.dropLast, fl := was })) = R.bad c k → 20 ≤ c := by
      intro g was s2 c k h2 h3 h
      split at h
      · rename_i hy
        have := go_code n (.alts []) { s2 with opn := s2.opn ++ [s.at_] } h2 (fun e => by cases e) (by simp only [need]; omega) hy
        have := R.eq_bad h
        omega
      · split at h
        · have := R.eq_bad h; omega
        · cases h
    rw [go] at h
    simp only [] at h
    split at h
    · split at h
      · have := R.eq_bad h; omega
      split at h
      · rename_i hq
        have hq1 := pk_lt0 (rs := rs) (i := s.at_ + 1) (by omega)
        split at h
        · rename_i hp
          have hq2 := pk_lt0 (rs := rs) (i := s.at_ + 2) (by omega)
          split at h
          · rename_i hnm
            have := name_code hnm
            have := R.eq_bad h
            omega
          · rename_i nm j hnm
            have := name_at hnm
            exact key (some (s.names.length, nm)) s.fl { s with at_ := j, names := s.names ++ [nm] } (by simp only []; omega) (by simp only []; omega) h
        · split at h
          · rename_i hf
            have := flags_code _ _ _ _ _ _ _ (by omega) (by omega) hf
            have := R.eq_bad h
            omega
          · cases h
          · rename_i f j hf
            have := flags_at _ _ _ _ _ _ _ hf
            exact key none s.fl { s with at_ := j, fl := f } (by simp only []; omega) (by simp only []; omega) h
      · exact key (some (s.names.length, [])) s.fl { s with at_ := s.at_ + 1, names := s.names ++ [[]] } (by simp only []; omega) (by simp only []; omega) h
    split at h
    · cases h
    split at h
    · cases h
    split at h
    · cases h
    split at h
    · split at h
      · rename_i hl
        have := list_code (by omega) hl
        have := R.eq_bad h
        omega
      · cases h
    split at h
    · split at h
      · cases h
      · split at h
        · rename_i he
          have := escape_code he
          have := R.eq_bad h
          omega
        · cases h
    · cases h
theorem parse_code {f : Fl} {c : Int} {k : Nat} (h : parse rs cls perl f = .bad c k) : 20 ≤ c := by
  unfold parse at h
  exact go_code _ _ _ (Nat.zero_le _) (fun e => by cases e) (by simp only [need]; omega) h
end Go.Proofs.YtblkejnckbeieaaGreatDoor.SynP

namespace Go.Proofs.YtblkejnckbeieaaGreatDoor.DecP

/-- Behind the first byte: so many bytes are wanted, k are read, v is what they tell; the next must lie between lo and hi. -/
def go : Nat → Nat → Int → Int → Int → List UInt8 → Int × Nat
  | 0, k, v, _, _, _ => (v, k)
  | _ + 1, k, _, _, _, [] => (-1, k)
  | m + 1, k, v, lo, hi, x :: t => if (x.toNat : Int) < lo ∨ hi < (x.toNat : Int) then (-1, k) else go m (k + 1) (64 * v + ((x.toNat : Int) - 128)) 128 191 t
def more (b : Int) : Nat := if b < 224 then 1 else if b < 240 then 2 else 3
def bits (b : Int) : Int := if b < 224 then b - 192 else if b < 240 then b - 224 else b - 240
def least (b : Int) : Int := if b = 224 then 160 else if b = 240 then 144 else 128
def most (b : Int) : Int := if b = 237 then 159 else if b = 244 then 143 else 191
/-- The scalar at the front (-1: none), and how many bytes. -/
def one : List UInt8 → Int × Nat
  | [] => (-1, 1)
  | c :: t => if (c.toNat : Int) < 128 then ((c.toNat : Int), 1) else if (c.toNat : Int) < 194 ∨ 244 < (c.toNat : Int) then (-1, 1) else go (more c.toNat) 1 (bits c.toNat) (least c.toNat) (most c.toNat) t

theorem go_cons (m k : Nat) (v lo hi : Int) (x : UInt8) (t : List UInt8) : go (m + 1) k v lo hi (x :: t) = if (x.toNat : Int) < lo ∨ hi < (x.toNat : Int) then (-1, k) else go m (k + 1) (64 * v + ((x.toNat : Int) - 128)) 128 191 t := rfl
theorem one_cons (c : UInt8) (t : List UInt8) : one (c :: t) = if (c.toNat : Int) < 128 then ((c.toNat : Int), 1) else if (c.toNat : Int) < 194 ∨ 244 < (c.toNat : Int) then (-1, 1) else go (more c.toNat) 1 (bits c.toNat) (least c.toNat) (most c.toNat) t := rfl
theorem go_pos (m : Nat) : ∀ (k : Nat) (v lo hi : Int) (t : List UInt8), 1 ≤ k → 1 ≤ (go m k v lo hi t).2 ∧ (go m k v lo hi t).2 ≤ k + t.length := by
  induction m with
  | zero => intro k v lo hi t hk; exact ⟨hk, Nat.le_add_right _ _⟩
  | succ m ih =>
    intro k v lo hi t hk
    cases t with
    | nil => exact ⟨hk, by simp [go]⟩
    | cons x t =>
      rw [go_cons]
      split
      · exact ⟨hk, Nat.le_add_right _ _⟩
      · have := ih (k + 1) (64 * v + ((x.toNat : Int) - 128)) 128 191 t (by omega)
        exact ⟨this.1, by rw [List.length_cons]; omega⟩
theorem one_pos (s : List UInt8) (h : s ≠ []) : 1 ≤ (one s).2 ∧ (one s).2 ≤ s.length := by
  cases s with
  | nil => exact absurd rfl h
  | cons c t =>
    rw [one_cons]
    split
    · exact ⟨Nat.le_refl _, by rw [List.length_cons]; exact Nat.le_add_left _ _⟩
    · split
      · exact ⟨Nat.le_refl _, by rw [List.length_cons]; exact Nat.le_add_left _ _⟩
      · have := go_pos (more c.toNat) 1 (bits c.toNat) (least c.toNat) (most c.toNat) t (Nat.le_refl _)
        exact ⟨this.1, by rw [List.length_cons]; omega⟩
/-- A scalar that is read lies in its bounds. -/
theorem go_bound (m : Nat) : ∀ (k : Nat) (v lo hi : Int) (t : List UInt8), 0 ≤ v → 128 ≤ lo → hi ≤ 191 → (go m k v lo hi t).1 = -1 ∨ (0 ≤ (go m k v lo hi t).1 ∧ (go m k v lo hi t).1 < (v + 1) * 64 ^ m) := by
  induction m with
  | zero => intro k v lo hi t hv _ _; exact Or.inr ⟨hv, by show v < _; omega⟩
  | succ m ih =>
    intro k v lo hi t hv hl hh
    cases t with
    | nil => exact Or.inl rfl
    | cons x t =>
      rw [go_cons]
      split
      · exact Or.inl rfl
      · rename_i hc
        have h1 : 128 ≤ (x.toNat : Int) ∧ (x.toNat : Int) ≤ 191 := by omega
        rcases ih (k + 1) (64 * v + ((x.toNat : Int) - 128)) 128 191 t (by omega) (by decide) (by decide) with h | ⟨h, h'⟩
        · exact Or.inl h
        · refine Or.inr ⟨h, Int.lt_of_lt_of_le h' ?_⟩
          have : 64 * v + ((x.toNat : Int) - 128) + 1 ≤ (v + 1) * 64 := by omega
          have h64 : (0 : Int) ≤ 64 ^ m := Int.pow_nonneg (by decide)
          have := Int.mul_le_mul_of_nonneg_right this h64
          rw [Int.mul_assoc] at this
          rw [Int.pow_succ, Int.mul_comm (64 ^ m) 64]
          exact this

/-- All scalars of some bytes: the number (-1: a bad one), and how many bytes. -/
def all (s : List UInt8) : List (Int × Nat) :=
  if _h : s = [] then [] else one s :: all (s.drop (one s).2)
termination_by s.length
decreasing_by
  have := one_pos s _h
  rw [List.length_drop]
  omega
theorem all_nil : all [] = [] := by rw [all]; simp
theorem all_cons {s : List UInt8} (h : s ≠ []) : all s = one s :: all (s.drop (one s).2) := by rw [all, dif_neg h]
/-- What stands for a bad one. -/
def rune (p : Int × Nat) : Int := if p.1 < 0 then 65533 else p.1
def runes (s : List UInt8) : List Int := (all s).map rune
theorem runes_nil : runes [] = [] := by unfold runes; rw [all_nil]; rfl
theorem runes_cons {s : List UInt8} (h : s ≠ []) : runes s = rune (one s) :: runes (s.drop (one s).2) := by unfold runes; rw [all_cons h]; rfl
/-- The place of the first bad one. -/
def badAt (s : List UInt8) (i : Nat) : Option Nat :=
  if _h : s = [] then none else if (one s).1 < 0 then some i else badAt (s.drop (one s).2) (i + (one s).2)
termination_by s.length
decreasing_by
  have := one_pos s _h
  rw [List.length_drop]
  omega
theorem badAt_nil (i : Nat) : badAt [] i = none := by rw [badAt]; simp
theorem badAt_bad {s : List UInt8} {i : Nat} (h : s ≠ []) (hb : (one s).1 < 0) : badAt s i = some i := by rw [badAt, dif_neg h, if_pos hb]
theorem badAt_good {s : List UInt8} {i : Nat} (h : s ≠ []) (hb : ¬ (one s).1 < 0) : badAt s i = badAt (s.drop (one s).2) (i + (one s).2) := by rw [badAt, dif_neg h, if_neg hb]

/-- Where the scalars begin. -/
def places (s : List UInt8) (i : Nat) : List Int :=
  if _h : s = [] then [] else (i : Int) :: places (s.drop (one s).2) (i + (one s).2)
termination_by s.length
decreasing_by
  have := one_pos s _h
  rw [List.length_drop]
  omega
theorem places_nil (i : Nat) : places [] i = [] := by rw [places]; simp
theorem places_cons {s : List UInt8} {i : Nat} (h : s ≠ []) : places s i = (i : Int) :: places (s.drop (one s).2) (i + (one s).2) := by rw [places, dif_neg h]

theorem one_ascii {c : UInt8} (t : List UInt8) (h : c.toNat < 128) : one (c :: t) = ((c.toNat : Int), 1) := by
  rw [one_cons, if_pos (by omega)]

end Go.Proofs.YtblkejnckbeieaaGreatDoor.DecP

namespace Go.Proofs.YtblkejnckbeieaaGreatDoor
open Go.RowKit

/-- What shape tells. -/
def shapeV (b : Int) : Value :=
  if b < 128 then .tuple #[.int .i64 0, .int .u8 0, .int .u8 0, .int .i64 b]
  else if b < 194 ∨ 244 < b then .tuple #[.int .i64 (-1), .int .u8 0, .int .u8 0, .int .i64 0]
  else .tuple #[.int .i64 (DecP.more b), .int .u8 (DecP.least b), .int .u8 (DecP.most b), .int .i64 (DecP.bits b)]

theorem results_tmp4 {fn : Func} {t u v x : Tmp} (h : fn.results = #[.tmp t, .tmp u, .tmp v, .tmp x]) (tmps : Array Value) (P : Program) (w : World) :
    (results fn tmps).run P w = .ok (.tuple #[tmps.getD t undef, tmps.getD u undef, tmps.getD v undef, tmps.getD x undef]) w := by
  simp [results, h]

set_option maxRecDepth 100000 in
theorem shape_any (b : Int) (w : World) (h0 : 0 ≤ b) (h1 : b < 256) : Calls Tryz.prog 136 #[.int .u8 b] w fun e w' => e = .returned (shapeV b) ∧ w = w' := by
  unfold shapeV DecP.more DecP.least DecP.most DecP.bits
  by_cases c0 : b < 128
  · rw [if_pos c0]
    go_enter Tryz.func136, Tryz.ntmps136
    go_wp2
    exact bodyPost_ret (results_tmp4 rfl _ _ _) rfl ⟨rfl, rfl⟩
  · rw [if_neg c0]
    by_cases c1 : b < 194
    · rw [if_pos (Or.inl c1)]
      go_enter Tryz.func136, Tryz.ntmps136
      go_wp2
      exact bodyPost_ret (results_tmp4 rfl _ _ _) rfl ⟨rfl, rfl⟩
    · by_cases c2 : 244 < b
      · rw [if_pos (Or.inr c2)]
        go_enter Tryz.func136, Tryz.ntmps136
        go_wp2
        exact bodyPost_ret (results_tmp4 rfl _ _ _) rfl ⟨rfl, rfl⟩
      · rw [if_neg (by omega)]
        go_enter Tryz.func136, Tryz.ntmps136
        go_wp2
        all_goals
          refine bodyPost_ret (results_tmp4 rfl _ _ _) rfl ?_
          simp
          try (simp only [beq_iff_eq, beq_eq_false_iff_ne] at *; omega)

theorem or_shl (v y : Int) (h0 : 0 ≤ v) (h1 : v < 1000000000) (h2 : 0 ≤ y) (h3 : y < 64) : bits BinOp.or IntKind.i64 (v * 64) y = 64 * v + y := by
  obtain ⟨a, rfl⟩ : ∃ a : Nat, v = a := ⟨v.toNat, by omega⟩
  obtain ⟨b, rfl⟩ : ∃ b : Nat, y = b := ⟨y.toNat, by omega⟩
  have hb : b < 2 ^ 6 := by omega
  have key := Nat.shiftLeft_add_eq_or_of_lt hb a
  rw [Nat.shiftLeft_eq] at key
  have e1 : ((a : Int) * 64) = ((a * 2 ^ 6 : Nat) : Int) := by omega
  rw [e1]
  show IntKind.i64.wrap ((BitVec.ofInt 64 ((a * 2 ^ 6 : Nat) : Int) ||| BitVec.ofInt 64 (b : Int)).toNat : Nat) = _
  rw [BitVec.toNat_or, bv_of_nat (a * 2 ^ 6) (by omega), bv_of_nat b (by omega), ← key, wraps63 _ (by omega) (by omega)]
  omega

def oneV (p : Int × Nat) : Value := .tuple #[.int .i64 p.1, .int .i64 p.2]
theorem cons_at {s : ByteArray} {i : Nat} (h : i < s.size) : s.data.toList.drop i = s[i] :: s.data.toList.drop (i + 1) := by
  have h' : i < s.data.toList.length := by rw [Array.length_toList]; exact h
  rw [List.drop_eq_getElem_cons h']
  rfl
theorem go_end {m k : Nat} {v lo hi : Int} {l : List UInt8} (h : l = []) : DecP.go (m + 1) k v lo hi l = (-1, k) := by subst h; rfl
theorem vbound {i : Nat} {v : Int} (h : (i = 1 ∧ v < 32) ∨ (i = 2 ∧ v < 2048) ∨ (i = 3 ∧ v < 131072) ∨ (i = 4 ∧ v < 8388608)) : v < 10000000 := by omega
set_option maxRecDepth 100000 in
set_option maxHeartbeats 1000000 in
theorem utf8_any (s : ByteArray) (w : World) (hs : s.size ≤ 140737488355328) (h0 : 0 < s.size) : Calls Tryz.prog 95 #[.string s] w fun e w' => e = .returned (oneV (DecP.one s.data.toList)) ∧ w = w' := by
  obtain ⟨b, hb⟩ : ∃ b : Int, (s[0].toNat : Int) = b := ⟨_, rfl⟩
  have hb0 : 0 ≤ b := by omega
  have hb1 : b < 256 := by have := UInt8.toNat_lt s[0]; omega
  have h1 : DecP.one s.data.toList = if b < 128 then (b, 1) else if b < 194 ∨ 244 < b then (-1, 1) else DecP.go (DecP.more b) 1 (DecP.bits b) (DecP.least b) (DecP.most b) (s.data.toList.drop 1) := by
    have := cons_at h0
    rw [List.drop_zero] at this
    rw [this, DecP.one_cons, hb]
    rfl
  by_cases c0 : b < 128
  · have HR : Hid (oneV (DecP.one s.data.toList) = .tuple #[.int .i64 b, .int .i64 1]) := Lib.hid (by rw [h1, if_pos c0]; rfl)
    have HV : Hid (shapeV b = .tuple #[.int .i64 0, .int .u8 0, .int .u8 0, .int .i64 b]) := Lib.hid (by unfold shapeV; rw [if_pos c0])
    clear h1
    go_enter Tryz.func95, Tryz.ntmps95
    go_wp2_with (go_at_call 136; refine (shape_any b _ hb0 hb1).mono ?_; rintro e w' ⟨rfl, rfl⟩; rw [HV.out])
    refine wp_loop_rounds 1 ?_
    rw [rounds_succ]
    go_wp2
    go_ret2
    exact ⟨by rw [HR.out]; rfl, rfl⟩
  · by_cases c1 : b < 194 ∨ 244 < b
    · have HR : Hid (oneV (DecP.one s.data.toList) = .tuple #[.int .i64 (-1), .int .i64 1]) := Lib.hid (by rw [h1, if_neg c0, if_pos c1]; rfl)
      have HV : Hid (shapeV b = .tuple #[.int .i64 (-1), .int .u8 0, .int .u8 0, .int .i64 0]) := Lib.hid (by unfold shapeV; rw [if_neg c0, if_pos c1])
      clear h1 c1
      go_enter Tryz.func95, Tryz.ntmps95
      go_wp2_with (go_at_call 136; refine (shape_any b _ hb0 hb1).mono ?_; rintro e w' ⟨rfl, rfl⟩; rw [HV.out])
      go_ret2
      exact ⟨by rw [HR.out]; rfl, rfl⟩
    · have hm : 1 ≤ DecP.more b ∧ DecP.more b ≤ 3 := by unfold DecP.more; split; exact ⟨by decide, by decide⟩; split <;> exact ⟨by decide, by decide⟩
      have hv : 0 ≤ DecP.bits b ∧ DecP.bits b < 32 := by unfold DecP.bits; split; omega; split <;> omega
      have hlo : 128 ≤ DecP.least b ∧ DecP.least b ≤ 160 := by unfold DecP.least; split; omega; split <;> omega
      have hhi : 128 ≤ DecP.most b ∧ DecP.most b ≤ 191 := by unfold DecP.most; split; omega; split <;> omega
      have HV : Hid (shapeV b = .tuple #[.int .i64 (DecP.more b), .int .u8 (DecP.least b), .int .u8 (DecP.most b), .int .i64 (DecP.bits b)]) := Lib.hid (by unfold shapeV; rw [if_neg c0, if_neg c1])
      rw [if_neg c0, if_neg c1] at h1
      generalize DecP.more b = m0 at hm HV h1
      generalize DecP.least b = lo0 at hlo HV h1
      generalize DecP.most b = hi0 at hhi HV h1
      generalize DecP.bits b = v0 at hv HV h1
      have H1 := Lib.hid h1
      clear h1 c1 c0
      go_enter Tryz.func95, Tryz.ntmps95
      go_wp2_with (go_at_call 136; refine (shape_any b _ hb0 hb1).mono ?_; rintro e w' ⟨rfl, rfl⟩; rw [HV.out])
      go_loop [5, 6, 7, 8] (fun s5 s6 s7 s8 => ∃ (i : Nat) (v lo hi : Int), s5 = .int .u8 lo ∧ s6 = .int .u8 hi ∧ s7 = .int .i64 v ∧ s8 = .int .i64 i ∧ 1 ≤ i ∧ i ≤ m0 + 1 ∧ i ≤ s.size ∧ 128 ≤ lo ∧ lo ≤ 160 ∧ 128 ≤ hi ∧ hi ≤ 191 ∧ 0 ≤ v ∧
          ((i = 1 ∧ v < 32) ∨ (i = 2 ∧ v < 2048) ∨ (i = 3 ∧ v < 131072) ∨ (i = 4 ∧ v < 8388608)) ∧ Hid (DecP.one s.data.toList = DecP.go (m0 + 1 - i) i v lo hi (s.data.toList.drop i))) (fun _ _ _ s8 => 5 - (intOf s8).toNat)
      case atStart => exact ⟨1, v0, lo0, hi0, rfl, rfl, rfl, rfl, by omega, by omega, by omega, hlo.1, hlo.2, hhi.1, hhi.2, hv.1, Or.inl ⟨rfl, hv.2⟩, Lib.hid H1.out⟩
      case round =>
        obtain ⟨i, v, lo, hi, rfl, rfl, rfl, rfl, hi1, hi2, his, l1, l2, k1, k2, v1, v2, HU⟩ := hrel
        have v3 := vbound v2
        by_cases him : i ≤ m0
        · have hii : (i : Int) ≤ (m0 : Int) := by omega
          obtain ⟨m, hm'⟩ : ∃ m, m0 + 1 - i = m + 1 := ⟨m0 - i, by omega⟩
          rw [hm'] at HU
          by_cases hlt : i < s.size
          · obtain ⟨x, hx⟩ : ∃ x : Int, (s[i].toNat : Int) = x := ⟨_, rfl⟩
            have hx0 : 0 ≤ x := by omega
            have hx1 : x < 256 := by have := UInt8.toNat_lt s[i]; omega
            have hc := HU.out
            rw [cons_at hlt, DecP.go_cons, hx] at hc
            have his' : decide ((s.size : Int) ≤ (i : Int)) = false := decide_eq_false (by omega)
            have hilt : (i : Int) < (s.size : Int) := by omega
            have hi0 : (0 : Int) ≤ (i : Int) := by omega
            by_cases a1 : x < lo
            · have HE : Hid (oneV (DecP.one s.data.toList) = .tuple #[.int .i64 (-1), .int .i64 i]) := Lib.hid (by rw [hc, if_pos (Or.inl a1)]; rfl)
              clear hc hm' v2
              go_wp2
              go_ret2
              exact ⟨by rw [HE.out]; rfl, rfl⟩
            · by_cases a2 : hi < x
              · have HE : Hid (oneV (DecP.one s.data.toList) = .tuple #[.int .i64 (-1), .int .i64 i]) := Lib.hid (by rw [hc, if_pos (Or.inr a2)]; rfl)
                have a1' : decide (x < lo) = false := decide_eq_false a1
                have a2' : decide (hi < x) = true := decide_eq_true a2
                clear hc hm' v2 a2
                go_wp2
                go_ret2
                exact ⟨by rw [HE.out]; rfl, rfl⟩
              · rw [if_neg (by omega)] at hc
                have hmi : m = m0 + 1 - (i + 1) := by omega
                have HE : Hid (DecP.one s.data.toList = DecP.go (m0 + 1 - (i + 1)) (i + 1) (64 * v + (x - 128)) 128 191 (s.data.toList.drop (i + 1))) := Lib.hid (by rw [hc, hmi])
                have a1' : decide (x < lo) = false := decide_eq_false a1
                have a2' : decide (hi < x) = false := decide_eq_false a2
                have v2' : ((i + 1 = 1 ∧ 64 * v + (x - 128) < 32) ∨ (i + 1 = 2 ∧ 64 * v + (x - 128) < 2048) ∨ (i + 1 = 3 ∧ 64 * v + (x - 128) < 131072) ∨ (i + 1 = 4 ∧ 64 * v + (x - 128) < 8388608)) := by omega
                have HV2 := Lib.hid v2'
                have eor := or_shl v (x % 64) v1 (by omega) (by omega) (by omega)
                clear hc hm' v2 hmi v2'
                go_wp2
                have exm : x % 64 = x - 128 := by omega
                rw [exm]
                go_round
                case rel => exact ⟨i + 1, 64 * v + (x - 128), 128, 191, rfl, rfl, rfl, by go_num, by omega, by omega, by omega, by decide, by decide, by decide, by decide, by omega, HV2.out, HE⟩
                case measure => simp [intOf]; omega
          · have HE : Hid (oneV (DecP.one s.data.toList) = .tuple #[.int .i64 (-1), .int .i64 i]) := Lib.hid (by rw [HU.out, go_end (List.drop_of_length_le (by rw [Array.length_toList]; exact Nat.le_of_not_lt hlt))]; rfl)
            have hge : s.size ≤ i := by omega
            clear hm' v2
            go_wp2
            go_ret2
            exact ⟨by rw [HE.out]; rfl, rfl⟩
        · have hii : ¬ (i : Int) ≤ (m0 : Int) := by omega
          have hm' : m0 + 1 - i = 0 := by omega
          have hme : i = m0 + 1 := by omega
          have HE : Hid (oneV (DecP.one s.data.toList) = .tuple #[.int .i64 v, .int .i64 ((m0 : Int) + 1)]) := Lib.hid (by rw [HU.out, hm']; show Value.tuple #[.int .i64 v, .int .i64 (i : Int)] = _; rw [hme]; rfl)
          clear hm' v2 hme
          go_wp2
          go_ret2
          exact ⟨by rw [HE.out]; rfl, rfl⟩

end Go.Proofs.YtblkejnckbeieaaGreatDoor

namespace Go.Proofs.YtblkejnckbeieaaGreatDoor
open Go.RowKit

theorem take_nextG {α : Type} {l : List α} {k : Nat} {x d : α} (hk : k < l.length) (hr : l.getD k d = x) : l.take (k + 1) = l.take k ++ [x] := by
  rw [List.take_add_one, List.getElem?_eq_getElem hk]
  rw [List.getD_eq_getElem?_getD, List.getElem?_eq_getElem hk] at hr
  have hr' : l[k] = x := by simpa using hr
  rw [hr']; rfl
theorem own_kept2 {α : Type} {E : Enc α} {e : TypeId} {w0 w w' : World} {v : Value} {l : List α} {row : Option Nat} (h : Own E e w0 w v l) (hg : w.grownBy w' row) (hne : v.ownBlock = none ∨ v.ownBlock ≠ row) (hb : Below w0.heap.size w0 w') : Own E e w0 w' v l :=
  ⟨h.1.kept hg hne, hb⟩

structure Two {α β : Type} (E : Enc α) (e : TypeId) (E' : Enc β) (e' : TypeId) (w0 w : World) (va : Value) (la : List α) (vb : Value) (lb : List β) : Prop where
  a : Own E e w0 w va la
  b : Own E' e' w0 w vb lb
  ne : va.ownBlock = none ∨ va.ownBlock ≠ vb.ownBlock

section
variable {α β : Type} {E : Enc α} {e : TypeId} {E' : Enc β} {e' : TypeId} {w0 w w' : World} {va : Value} {la : List α} {vb : Value} {lb : List β}
theorem Two.nil_ (w : World) : Two E e E' e' w w (.slice none 0 0) [] (.slice none 0 0) [] := ⟨Own.nil_ _, Own.nil_ _, .inl rfl⟩
theorem Two.alloc (h : Two E e E' e' w0 w va la vb lb) (o : Obj) : Two E e E' e' w0 (w.alloc o) va la vb lb := ⟨h.a.alloc o, h.b.alloc o, h.ne⟩
theorem Two.drew (h : Two E e E' e' w0 w va la vb lb) : Two E e E' e' w0 w.drew va la vb lb := ⟨h.a.drew, h.b.drew, h.ne⟩
theorem Two.below (h : Two E e E' e' w0 w va la vb lb) (hb : Below w.heap.size w w') : Two E e E' e' w0 w' va la vb lb := ⟨h.a.below hb, h.b.below hb, h.ne⟩
theorem Two.swap (h : Two E e E' e' w0 w va la vb lb) : Two E' e' E e w0 w vb lb va la := ⟨h.b, h.a, by
  rcases h.ne with h | h
  · cases hv : vb.ownBlock with
    | none => exact .inl rfl
    | some k => right; rw [h]; simp
  · exact .inr (Ne.symm h)⟩
theorem Two.lt (h : Two E e E' e' w0 w va la vb lb) : (∀ k, va.ownBlock = some k → k < w.heap.size) ∧ ∀ k, vb.ownBlock = some k → k < w.heap.size := ⟨fun k hk => (h.a.1.lt k hk).2, fun k hk => (h.b.1.lt k hk).2⟩

theorem Two.run_a {P : Program} (h : Two E e E' e' w0 w va la vb lb) (hk : E.k = 1) (t ty : TypeId) (bytes : Nat) (he : ElemOf P t e E.k bytes) {x : α} {u : Value} (hx : E.enc x = [u]) {g o c : Nat} (hc : w.cell? ⟨g, o, none⟩ = some u)
    (h63 : la.length + 1 ≤ maxLen) (hbytes : (la.length + 1) * bytes ≤ 140737488355328) :
    ∃ v' w', (Builtin.append_ #[t, t] ty #[va, .slice (some ⟨g, o, none⟩) 1 c]).run P w = .ok v' w' ∧ Two E e E' e' w0 w' v' (la ++ [x]) vb lb ∧ w.grownBy w' va.ownBlock := by
  obtain ⟨i, z, ht, hi, hz, hsize, hby, hzs⟩ := he
  have hb := h.a.2
  have hnews : ∀ j y, ([u] : List Value)[j]? = some y → w.cell? ((⟨g, o, none⟩ : Addr).add j) = some y := fun j y hj => by
    cases j with
    | zero => simp at hj; subst hj; rw [add_off, Nat.add_zero]; exact hc
    | succ j => simp at hj
  have h1 : ∀ y ∈ ([u] : List Value), y.oneCell' = true := fun y hy => E.one x y (by rw [hx]; exact hy)
  obtain ⟨v', w', hrun, h2, h3, _, h5⟩ := run_append_own_at (P := P) w w0.heap.size t ty e i z E.k bytes ht hi hz hsize hby hzs E.pos va la.length _ h.a.1 ⟨g, o, none⟩ 1 c [u] (by rw [hk]; rfl) hnews h1 h63 hbytes hb.size
  have hbl := hb.grown h3 hb.size (fun k hk => (h.a.1.lt k hk).1)
  refine ⟨v', w', hrun, ⟨⟨?_, hbl⟩, own_kept2 h.b h3 h.swap.ne hbl, ?_⟩, h3⟩
  · rw [List.length_append, List.flatMap_append]
    have : ([x] : List α).flatMap E.enc = [u] := by simp [hx]
    rw [this]
    exact h2
  · rcases h5 with h5 | h5
    · rw [h5]; exact h.ne
    · right
      rw [h5]
      intro hh
      have := h.lt.2 _ hh.symm
      omega

variable {P : Program} {ops : Array Oper} {o : Oper} {a : Act} {K : Act → World → Prop} {Q : Exit → Act → World → Prop} {F : Prop}
theorem step_two_a (w : World) (hgd : o.guard = none) (s x : Operand) (t : TypeId)
    (ho : o.op = .call { callee := .builtin .append, args := #[s, x], argTypes := #[t, t] }) (bytes : Nat) (he : ElemOf P t e E.k bytes) (hk : E.k = 1)
    (hs : a.eval s = va) (h : Two E e E' e' w0 w va la vb lb) (H : Nat) (hH : ∀ k, va.ownBlock = some k → k < H) {y : α} {u : Value} (hy : E.enc y = [u]) {g oo c : Nat} (hx : a.eval x = .slice (some ⟨g, oo, none⟩) 1 c) (hc : w.cell? ⟨g, oo, none⟩ = some u)
    (h63 : la.length + 1 ≤ maxLen) (hbytes : (la.length + 1) * bytes ≤ 140737488355328)
    (k : ∀ v' w', Two E e E' e' w0 w' v' (la ++ [y]) vb lb → (∀ g o u, H ≤ g → w.cell? ⟨g, o, none⟩ = some u → w'.cell? ⟨g, o, none⟩ = some u) → K (a.put o.dst v') w') :
    if Region.wanted o (yielded ops a.tmps) = true then Oper.wp P o a w K Q else F := by
  have hw : Region.wanted o (yielded ops a.tmps) = true := by simp [Region.wanted, hgd]
  rw [if_pos hw]
  obtain ⟨v', w', hrun, h2, h3⟩ := h.run_a (P := P) hk t o.type bytes he hy (c := c) hc h63 hbytes
  unfold Oper.wp execOp
  simp only [ho, resolve, invoke, builtin, Sem.run_bind, Sem.run_pure, Result.andThen_ok, List.map_toArray, List.map_cons, List.map_nil, hs, hx, hrun]
  exact k v' w' h2 fun g o u hg hcell => h3.cell hcell (fun e => by have := hH g (by simpa using e.symm); omega)
theorem step_two_b (w : World) (hgd : o.guard = none) (s x : Operand) (t : TypeId)
    (ho : o.op = .call { callee := .builtin .append, args := #[s, x], argTypes := #[t, t] }) (bytes : Nat) (he : ElemOf P t e' E'.k bytes) (hk : E'.k = 1)
    (hs : a.eval s = vb) (h : Two E e E' e' w0 w va la vb lb) (H : Nat) (hH : ∀ k, vb.ownBlock = some k → k < H) {y : β} {u : Value} (hy : E'.enc y = [u]) {g oo c : Nat} (hx : a.eval x = .slice (some ⟨g, oo, none⟩) 1 c) (hc : w.cell? ⟨g, oo, none⟩ = some u)
    (h63 : lb.length + 1 ≤ maxLen) (hbytes : (lb.length + 1) * bytes ≤ 140737488355328)
    (k : ∀ v' w', Two E e E' e' w0 w' va la v' (lb ++ [y]) → (∀ g o u, H ≤ g → w.cell? ⟨g, o, none⟩ = some u → w'.cell? ⟨g, o, none⟩ = some u) → K (a.put o.dst v') w') :
    if Region.wanted o (yielded ops a.tmps) = true then Oper.wp P o a w K Q else F :=
  step_two_a w hgd s x t ho bytes he hk hs h.swap H hH hy hx hc h63 hbytes fun v' w' h2 h3 => k v' w' h2.swap h3
end

end Go.Proofs.YtblkejnckbeieaaGreatDoor
