/- What every law's row asks behind its walk: the law returned true and nothing that was there has turned.
  What the bound of an '..UptoSaid' gives: a list's length.
  Laying of flat data into a world's variable; an argument that is a text.
  Chapter 11: trees of plain signs: their text, and its length's laws. -/
import Derived.Test.YtblkejnckbeieaaGreatDoorZk25
import Derived.Test.YtblkejnckbeieaaGreatDoorZk28
import Derived.Test.YtblkejnckbeieaaGreatDoorRows
import Derived.WalkKit
import Derived.ProofKit
import Derived.OpenShut
import Derived.ShutString
import Derived.ChangeOld
import Derived.Below
import Derived.JoinedCond
import Derived.Lib.ItoaNum
namespace Go.Proofs.YtblkejnckbeieaaGreatDoor
open Go.ChangeShapes Go.WideShapes Go.ChangeAt Go.RowKit

theorem ownKnob_ : ownKnob Tryz.prog.godebug = none := by kernel_rfl
theorem laidOut_ : laidOutB Tryz.prog = true := by kernel_rfl

/-- The arguments read behind the call as they did ahead of it. -/
theorem trodAll_below {H : Type} {enc : TypeId × Value → H} {P : Program} {W W' : World} (hl : laidOutB P = true) (hb : Below W.heap.size W W') :
    ∀ (ts : List TypeId) (vs : List Value) (ds : List (DataW H)) (ps : List MemPlace), (ts.all fun t => P.readableRec t && decide (t < P.types.size)) = true →
      DataW.TrodAll enc P W 0 (fun _ => true) true ts vs ds ps → (∀ x ∈ ps, x.block < W.heap.size) → DataW.TrodAll enc P W' 0 (fun b => decide (b < W.heap.size)) true ts vs ds ps
  | [], [], [], _, _, h, _ => h
  | t :: ts, v :: vs, d :: ds, ps, hr, h, hlt => by
    obtain ⟨p, q, h1, h2, rfl⟩ := h
    simp only [List.all_cons, Bool.and_eq_true, decide_eq_true_eq] at hr
    exact ⟨p, q, Below.trod hl hr.1.1 hr.1.2 h1 hb (fun x hx => hlt x (List.mem_append_left _ hx)), trodAll_below hl hb ts vs ds q (by simpa using hr.2) h2 (fun x hx => hlt x (List.mem_append_right _ hx)), rfl⟩
  | [], _ :: _, _, _, _, h, _ => h.elim
  | [], [], _ :: _, _, _, h, _ => h.elim
  | _ :: _, [], _, _, _, h, _ => h.elim
  | _ :: _, _ :: _, [], _, _, h, _ => h.elim

/-- The row's step behind the walk, of a law that lists no variable. -/
theorem law_post {H : Type} {enc : TypeId × Value → H} {P : Program} {f : Func} {s : ChangeSpec} {tb : TypeId} {W W' : World} {args : Array Value} {ds gs : List (DataW H)} {before : List MemPlace}
    (hl : laidOutB P = true) (hr : (f.params.toList.all fun t => P.readableRec t && decide (t < P.types.size)) = true) (hvars : s.vars = []) (hres : f.resultTypes = #[tb]) (hub : P.underlying tb = some .bool)
    (hW : DataW.Whole enc P f.params.toList s.vars false W args.toList ds gs before) (hfn : s.fn H (ds ++ gs) = { results := [.lit (.bool true)], args := ds })
    (hb : Below W.heap.size W W') : s.post enc P f false true false false W args (.bool true) W' := by
  have hW' := hW
  obtain ⟨p, q, hA, hV, rfl, hfz, hnd⟩ := hW
  rw [hvars] at hV
  obtain ⟨rfl, rfl⟩ := trodVars_none hV
  rw [List.append_nil] at hfn hW'
  refine ⟨ds, [], p, [], p, [], by simpa using hW', ?_, ?_, ?_, hb.frame _, fun h => by cases h⟩
  · rw [List.append_nil, hfn, hres]
    exact trodAll_mk1 (shut_bool hub _)
  · rw [List.append_nil, hfn]
    exact trodAll_below hl hb _ _ _ _ hr hA (fun x hx => hW'.lt x (by simpa using hx))
  · rw [hvars, List.append_nil, hfn]
    rfl

end Go.Proofs.YtblkejnckbeieaaGreatDoor

namespace Go.Proofs.YtblkejnckbeieaaGreatDoor

theorem bulk_one {H : Type} (d : DataW H) : 1 ≤ Rows.uptoBulk d := by
  cases d with
  | lit l => cases l <;> simp [Rows.uptoBulk]
  | nil => simp [Rows.uptoBulk]
  | ptr d => simp [Rows.uptoBulk]
  | slice elems spare => simp [Rows.uptoBulk]
  | agg parts => simp [Rows.uptoBulk]
  | iface t d => simp [Rows.uptoBulk]
  | map entries => simp [Rows.uptoBulk]
  | held h => simp [Rows.uptoBulk]
theorem bulk_len {H : Type} (l : List (DataW H)) : l.length ≤ Rows.uptoBulkAll l := by
  induction l with
  | nil => simp [Rows.uptoBulkAll]
  | cons x r ih => have := bulk_one x; simp only [Rows.uptoBulkAll, List.length_cons]; omega
theorem bulk_part {H : Type} {d : DataW H} {l : List (DataW H)} (h : d ∈ l) : Rows.uptoBulk d ≤ Rows.uptoBulkAll l := by
  induction l with
  | nil => cases h
  | cons x r ih =>
    simp only [Rows.uptoBulkAll]
    rcases List.mem_cons.1 h with rfl | h
    · omega
    · have := ih h; omega
/-- A list among what came in is no longer than the bound. -/
theorem bulk_list {H : Type} {d : DataW H} {ds : List (DataW H)} {n : Nat} (hk : Rows.uptoSmall H ds = true) (hd : d ∈ ds) (h : d = .nil ∨ ∃ elems spare, d = .slice elems spare ∧ elems.length = n) (h0 : d = .nil → n = 0) : n ≤ 1048576 := by
  have hb : Rows.uptoBulkAll ds ≤ 1048576 := of_decide_eq_true hk
  have hp := bulk_part hd
  rcases h with rfl | ⟨elems, spare, rfl, rfl⟩
  · rw [h0 rfl]; omega
  · have := bulk_len elems
    simp only [Rows.uptoBulk] at hp
    omega

end Go.Proofs.YtblkejnckbeieaaGreatDoor

namespace Go.Proofs.YtblkejnckbeieaaGreatDoor
open Go.ChangeShapes Go.WideShapes Go.ChangeAt Go.RowKit

mutual
/-- The cells of a datum that is all numbers. -/
def flatD : DataW Unit → List Value
  | .lit (.int k n) => [.int k n]
  | .lit (.bool b) => [.bool b]
  | .lit (.float k b) => [.float k b]
  | .agg parts => flatDs parts
  | _ => []
def flatDs : List (DataW Unit) → List Value
  | [] => []
  | d :: r => flatD d ++ flatDs r
end
def lay (d : DataW Unit) : Obj → Obj
  | .cells _ t frozen => .cells (flatD d).toArray t frozen
  | o => o

section
variable {H : Type} {enc : TypeId × Value → H} {P : Program} {W : World}
theorem open_text {t : TypeId} {v : Value} {d : DataW H} {p : List MemPlace} (ht : P.underlying t = some .string) (hv : ∃ s, v = .string s)
    (h : DataW.Trod enc P W 0 (fun _ => true) true t v d p) : ∃ s : ByteArray, v = .string s ∧ d = .lit (.string s.data.toList) ∧ p = [] ∧ s.size ≤ maxLen := by
  obtain ⟨s, rfl⟩ := hv
  obtain ⟨fuel, hf⟩ := h
  have hcs : (Value.string s).cells.toList = [.string s] := by simp [Value.cells]
  rw [hcs] at hf
  obtain ⟨s', e, hx, hn⟩ := DataW.trod_string ht hf
  simp only [List.cons.injEq, and_true, Value.string.injEq] at e
  subst e
  simp only [Prod.mk.injEq] at hx
  exact ⟨s, rfl, hx.1, hx.2, hn⟩
end

/-- A text among what came in is no longer than the bound. -/
theorem text_bulk {H : Type} {s : ByteArray} {ds : List (DataW H)} (hk : Rows.uptoSmall H ds = true) (hd : DataW.lit (.string s.data.toList) ∈ ds) : s.size ≤ 1048576 := by
  have hb : Rows.uptoBulkAll ds ≤ 1048576 := of_decide_eq_true hk
  have hp := bulk_part hd
  have h2 : s.data.toList.length = s.size := by rw [Array.length_toList]; rfl
  simp only [Rows.uptoBulk] at hp
  omega

end Go.Proofs.YtblkejnckbeieaaGreatDoor

namespace Go.Proofs.YtblkejnckbeieaaGreatDoor.SynP

/-- A class of one plain sign. -/
def Okc (f : Int → Bool) : Prop := ∃ c : Int, alnum c ∧ f = one c
theorem one_inj {a b : Int} (h : one a = one b) : a = b := by
  have := congrFun h a
  simp [one] at this
  exact this
open Classical in
/-- Its text. -/
noncomputable def clsTxt (f : Int → Bool) : List UInt8 := if h : Okc f then [UInt8.ofNat (Classical.choose h).toNat] else []
theorem clsTxt_one {c : Int} (hc : alnum c) : clsTxt (one c) = [UInt8.ofNat c.toNat] := by
  have h : Okc (one c) := ⟨c, hc, rfl⟩
  unfold clsTxt
  rw [dif_pos h]
  rw [← one_inj (Classical.choose_spec h).2]
def decS (n : Int) : List UInt8 := Lib.decDigits n.toNat
mutual
/-- Classes of one plain sign, few times, groups without names. -/
def okN : Nd → Prop
  | .mk kind set _ least most _ _ name kids => (kind = 1 → ∃ f, set = some f ∧ Okc f) ∧ (kind = 10 → 0 ≤ least ∧ least < 100 ∧ 0 ≤ most ∧ most < 100) ∧ (kind = 11 → name = []) ∧ (kind = 1 ∨ kind = 8 ∨ kind = 9 ∨ (kind = 10 ∨ kind = 11) ∧ kids ≠ []) ∧ okL kids
def okL : List Nd → Prop
  | [] => True
  | x :: l => okN x ∧ okL l
end
theorem okL_mem : ∀ {l : List Nd}, okL l → ∀ x ∈ l, okN x
  | [], _, x, hx => absurd hx List.not_mem_nil
  | y :: l, h, x, hx => by
    unfold okL at h
    rcases List.mem_cons.1 hx with rfl | hx
    · exact h.1
    · exact okL_mem h.2 x hx
/-- The text of a tree of plain signs. -/
noncomputable def shN (x : Nd) : List UInt8 := showN decS clsTxt x
noncomputable def kidsT (l : List Nd) : List (Nat × List UInt8) := l.map fun x => (x.kind, shN x)
theorem kidsT_eq (l : List Nd) : textsL decS clsTxt l = kidsT l := textsL_map _ _ l
section
variable (set : Option (Int → Bool)) (fold : Bool) (least most : Int) (lazy : Bool) (cap : Nat) (name : List UInt8) (kids : List Nd)
theorem sh0 : shN (.mk 0 set fold least most lazy cap name kids) = emptyT := by unfold shN showN; simp
theorem sh1 (f : Int → Bool) : shN (.mk 1 (some f) fold least most lazy cap name kids) = if fold then [40, 63, 105, 58] ++ clsTxt f ++ [41] else clsTxt f := by unfold shN showN; simp
theorem sh8 : shN (.mk 8 set fold least most lazy cap name kids) = (kidsT kids).flatMap (wrapT [8, 9]) := by unfold shN showN; simp [kidsT_eq]
theorem sh9 : shN (.mk 9 set fold least most lazy cap name kids) = barT ((kidsT kids).map (wrapT [9])) := by unfold shN showN; simp [kidsT_eq]
theorem sh10 : shN (.mk 10 set fold least most lazy cap name kids) = wrapT [8, 9, 10] (headT (kidsT kids)) ++ timesT_ decS least most lazy := by unfold shN showN; simp [kidsT_eq]
theorem sh11 : shN (.mk 11 set fold least most lazy cap name kids) = if name ≠ [] then [40, 63, 80, 60] ++ name ++ [62] ++ (headT (kidsT kids)).2 ++ [41] else 40 :: ((headT (kidsT kids)).2 ++ [41]) := by unfold shN showN; simp [kidsT_eq]
end
theorem wrapT_len (ks : List Nat) (x : Nat × List UInt8) : x.2.length ≤ (wrapT ks x).length := by
  unfold wrapT
  split
  · simp; omega
  · exact Nat.le_refl _
theorem flat_take_len {α : Type} (g : α → List UInt8) : ∀ (l : List α) (i : Nat), ((l.take i).flatMap g).length ≤ (l.flatMap g).length
  | [], i => by simp
  | x :: l, 0 => by simp
  | x :: l, i + 1 => by
    have := flat_take_len g l i
    simp at this ⊢
    omega
theorem flat_mem_len {α : Type} (g : α → List UInt8) : ∀ (l : List α) (x : α), x ∈ l → (g x).length ≤ (l.flatMap g).length
  | y :: l, x, h => by
    rcases List.mem_cons.1 h with rfl | h
    · simp
    · have := flat_mem_len g l x h
      simp at this ⊢
      omega
theorem bar_mem_len : ∀ (l : List (List UInt8)) (x : List UInt8), x ∈ l → x.length ≤ (barT l).length
  | [y], x, h => by
    rw [List.mem_singleton.1 h]
    exact Nat.le_refl _
  | y :: z :: l, x, h => by
    unfold barT
    rcases List.mem_cons.1 h with rfl | h
    · simp
    · have := bar_mem_len (z :: l) x h
      simp
      omega
theorem bar_lens : ∀ (l : List (List UInt8)), (l.map List.length).sum ≤ (barT l).length
  | [] => Nat.le_refl _
  | [x] => by simp [barT]
  | x :: y :: l => by
    have := bar_lens (y :: l)
    unfold barT
    simp only [List.map_cons, List.sum_cons, List.length_append, List.length_cons] at this ⊢
    omega
theorem bar_count : ∀ (l : List (List UInt8)), l.length ≤ (barT l).length + 1
  | [] => Nat.zero_le _
  | [x] => by simp
  | x :: y :: l => by
    have := bar_count (y :: l)
    unfold barT
    simp only [List.length_append, List.length_cons] at this ⊢
    omega
/-- The texts of kids are no longer than the whole. -/
theorem kid_len8 {l : List Nd} {x : Nd} (hx : x ∈ l) : (shN x).length ≤ ((kidsT l).flatMap (wrapT [8, 9])).length := by
  have h := flat_mem_len (wrapT [8, 9]) (kidsT l) (x.kind, shN x) (List.mem_map.2 ⟨x, hx, rfl⟩)
  exact Nat.le_trans (wrapT_len _ (x.kind, shN x)) h
theorem kid_len9 {l : List Nd} {x : Nd} (hx : x ∈ l) : (shN x).length ≤ (barT ((kidsT l).map (wrapT [9]))).length := by
  have h := bar_mem_len ((kidsT l).map (wrapT [9])) (wrapT [9] (x.kind, shN x)) (List.mem_map.2 ⟨_, List.mem_map.2 ⟨x, hx, rfl⟩, rfl⟩)
  exact Nat.le_trans (wrapT_len _ (x.kind, shN x)) h
end Go.Proofs.YtblkejnckbeieaaGreatDoor.SynP
