/- What the JSON parser's kids holds, and how it grows. -/
import Derived.Test.YtemcflfgoelpiaaJsonW
namespace Go.Proofs.Ytemcflfgoelpiaa
open Go.RowKit

theorem Mv.grown {p : Nat} {w a b : World} {r : Option Nat} (h : Mv p w a) (k : a.grownBy b r) (hr : ∀ g, r = some g → w.heap.size ≤ g) : Mv p w b :=
  ⟨k.os.trans h.os, k.tape.trans h.tape, k.output.trans h.output, Nat.le_trans h.size k.size, fun i hi hn => (k.block i (Nat.lt_of_lt_of_le hi h.size) (fun e => by have := hr i e.symm; omega)).trans (h.block i hi hn)⟩
theorem own_diff {α β : Type} {E : Enc α} {F : Enc β} {e f : TypeId} {base base' : Nat} {w : World} {v u : Value} {l : List α} {m : List β} (h : OwnB E e base w v l) (k : OwnB F f base' w u m) (hne : e ≠ f) : v.ownBlock = none ∨ v.ownBlock ≠ u.ownBlock := by
  rcases h.1.2 with ⟨rfl, _⟩ | ⟨g, cap, cur, rfl, _, hg, _⟩
  · exact .inl rfl
  · right
    rcases k.1.2 with ⟨rfl, _⟩ | ⟨g', cap', cur', rfl, _, hg', _⟩
    · intro e; simp [Value.ownBlock] at e
    · intro e'
      simp only [Value.ownBlock] at e'
      injection e' with e'
      subst e'
      rw [hg] at hg'
      injection hg' with hg'
      injection hg' with _ h2
      exact hne h2

/-- What kids holds at its loop's head. -/
structure KidsS (w wr : World) (b V : Nat) (s : ByteArray) (kd : Int) (ks : List (List UInt8)) (js : List JsonP.J) (rs : List Raw) (vk vj : Value) (l : List UInt8) : Prop where
  vw : w.heap.size = V
  lt : b < V
  mv : Mv b w wr
  at_ : At wr b s l
  res : wr.heap[V]? = some (.cells #[.int .i64 0, .string ⟨#[]⟩, .slice none 0 0, .slice none 0 0] 37)
  blk : wr.heap[V + 1]? = some (.cells #[.int .i64 kd, .string ⟨#[]⟩, vk, vj] 37)
  keys : OwnB Estr 9 (V + 2) wr vk (ks.map str)
  kids : OwnB Eval 37 (V + 2) wr vj rs
  len : rs.length = js.length
  lies : LiesL wr (fun k => V + 2 ≤ k ∧ some k ≠ vk.ownBlock ∧ some k ≠ vj.ownBlock) js rs

section
variable {w wr wx : World} {b V : Nat} {s : ByteArray} {kd : Int} {ks : List (List UInt8)} {js : List JsonP.J} {rs : List Raw} {vk vj : Value} {l l' : List UInt8}
theorem KidsS.lt1 (h : KidsS w wr b V s kd ks js rs vk vj l) : V + 1 < wr.heap.size := (Array.getElem?_eq_some_iff.1 h.blk).1
theorem KidsS.step (h : KidsS w wr b V s kd ks js rs vk vj l) (k : Mv b wr wx) (ha : At wx b s l') : KidsS w wx b V s kd ks js rs vk vj l' := by
  have h1 := h.lt1
  have h2 := h.lt
  exact ⟨h.vw, h.lt, h.mv.step k, ha, (k.heap (by omega) (by omega)).trans h.res, (k.heap h1 (by omega)).trans h.blk, h.keys.mv k (by omega), h.kids.mv k (by omega), h.len, LiesL.on (Stand.mv k (fun hA => by have := hA.1; omega)) _ _ h.lies⟩
theorem KidsS.below (h : KidsS w wr b V s kd ks js rs vk vj l) (k : Below wr.heap.size wr wx) : KidsS w wx b V s kd ks js rs vk vj l := h.step (Mv.of_below k) (h.at_.below k)
theorem KidsS.blkG (h : KidsS w wr b V s kd ks js rs vk vj l) {r : Option Nat} (hg : wr.grownBy wx r) (hr : r = vk.ownBlock ∨ r = vj.ownBlock) : wx.heap[V + 1]? = some (.cells #[.int .i64 kd, .string ⟨#[]⟩, vk, vj] 37) := by
  refine (hg.block (V + 1) h.lt1 (fun e => ?_)).trans h.blk
  rcases hr with hr | hr
  · rw [hr] at e; have := (h.keys.lt _ e.symm).1; omega
  · rw [hr] at e; have := (h.kids.lt _ e.symm).1; omega
/-- Behind the append of a key and its store. -/
theorem KidsS.addKey (h : KidsS w wr b V s kd ks js rs vk vj l) {vk' : Value} {x : List UInt8} (ho : OwnB Estr 9 (V + 2) wx vk' (ks.map str ++ [str x])) (hg : wr.grownBy wx vk.ownBlock) (hat : vk'.ownBlock = vk.ownBlock ∨ vk'.ownBlock = some wr.heap.size) :
    KidsS w (wx.setCell ⟨V + 1, 2, none⟩ vk') b V s kd (ks ++ [x]) js rs vk' vj l := by
  have h1 := h.lt1
  have h2 := h.lt
  have hlt := fun g (e : vk.ownBlock = some g) => h.keys.lt g e
  have hb : ∀ i, i < V + 2 → some i ≠ vk.ownBlock := fun i hi e => by have := (hlt i e.symm).1; omega
  have hblk : ∀ i, i < V + 2 → wx.heap[i]? = wr.heap[i]? := fun i hi => hg.block i (by omega) (hb i hi)
  have hset : ∀ i, i ≠ V + 1 → (wx.setCell ⟨V + 1, 2, none⟩ vk').heap[i]? = wx.heap[i]? := fun i hi => Below.heap_setCell wx ⟨V + 1, 2, none⟩ vk' i (fun e => hi e)
  refine ⟨h.vw, h.lt, (h.mv.grown hg (fun g e => by have := (hlt g e).1; have := h.vw; omega)).set ⟨V + 1, 2, none⟩ (.inr (by have := h.vw; show _ ≤ V + 1; omega)) _,
    h.at_.far ((hset b (by omega)).trans (hblk b (by omega))), ((hset V (by omega)).trans (hblk V (by omega))).trans h.res, ?_, ?_, ?_, h.len, ?_⟩
  · have := (hblk (V + 1) (by omega)).trans h.blk
    simp only [World.setCell, Array.getElem?_modify, if_true, this, Option.map_some]
    rfl
  · rw [List.map_append]
    exact ho.setBelow (a := ⟨V + 1, 2, none⟩) (by show V + 1 < V + 2; omega) _
  · exact (h.kids.grown hg ((own_diff h.kids h.keys (by decide)))).setBelow (a := ⟨V + 1, 2, none⟩) (by show V + 1 < V + 2; omega) _
  · have k1 : LiesL wr (fun k => (V + 2 ≤ k ∧ some k ≠ vk.ownBlock ∧ some k ≠ vj.ownBlock) ∧ k < wr.heap.size) js rs := LiesL.mono (fun k hA hlt => ⟨hA, hlt⟩) _ _ h.lies
    have k2 := LiesL.on (Stand.grown hg (fun k hA => hA.1.2.1)) _ _ k1
    have k3 := LiesL.on (Stand.set (w := wx) ⟨V + 1, 2, none⟩ vk' (fun hA => by have := hA.1.1; simp only at this; omega)) _ _ k2
    refine LiesL.mono (fun k hA _ => ⟨hA.1.1, ?_, hA.1.2.2⟩) _ _ k3
    rcases hat with e | e
    · rw [e]; exact hA.1.2.1
    · rw [e]; intro e'; injection e' with e'; have := hA.2; omega
/-- Behind the append of a kid and its store. -/
theorem KidsS.addKid (h : KidsS w wr b V s kd ks js rs vk vj l) {vj' : Value} {j : JsonP.J} {r : Raw} (hl : Lies wr (fun k => V + 2 ≤ k ∧ some k ≠ vk.ownBlock ∧ some k ≠ vj.ownBlock) j r) (ho : OwnB Eval 37 (V + 2) wx vj' (rs ++ [r])) (hg : wr.grownBy wx vj.ownBlock) (hat : vj'.ownBlock = vj.ownBlock ∨ vj'.ownBlock = some wr.heap.size) :
    KidsS w (wx.setCell ⟨V + 1, 3, none⟩ vj') b V s kd ks (js ++ [j]) (rs ++ [r]) vk vj' l := by
  have h1 := h.lt1
  have h2 := h.lt
  have hlt := fun g (e : vj.ownBlock = some g) => h.kids.lt g e
  have hb : ∀ i, i < V + 2 → some i ≠ vj.ownBlock := fun i hi e => by have := (hlt i e.symm).1; omega
  have hblk : ∀ i, i < V + 2 → wx.heap[i]? = wr.heap[i]? := fun i hi => hg.block i (by omega) (hb i hi)
  have hset : ∀ i, i ≠ V + 1 → (wx.setCell ⟨V + 1, 3, none⟩ vj').heap[i]? = wx.heap[i]? := fun i hi => Below.heap_setCell wx ⟨V + 1, 3, none⟩ vj' i (fun e => hi e)
  refine ⟨h.vw, h.lt, (h.mv.grown hg (fun g e => by have := (hlt g e).1; have := h.vw; omega)).set ⟨V + 1, 3, none⟩ (.inr (by have := h.vw; show _ ≤ V + 1; omega)) _,
    h.at_.far ((hset b (by omega)).trans (hblk b (by omega))), ((hset V (by omega)).trans (hblk V (by omega))).trans h.res, ?_, ?_, ?_, ?_, ?_⟩
  · have := (hblk (V + 1) (by omega)).trans h.blk
    simp only [World.setCell, Array.getElem?_modify, if_true, this, Option.map_some]
    rfl
  · exact (h.keys.grown hg ((own_diff h.keys h.kids (by decide)))).setBelow (a := ⟨V + 1, 3, none⟩) (by show V + 1 < V + 2; omega) _
  · exact ho.setBelow (a := ⟨V + 1, 3, none⟩) (by show V + 1 < V + 2; omega) _
  · rw [List.length_append, List.length_append, h.len]; rfl
  · have k0 := LiesL.snoc hl _ _ h.len h.lies
    have k1 : LiesL wr (fun k => (V + 2 ≤ k ∧ some k ≠ vk.ownBlock ∧ some k ≠ vj.ownBlock) ∧ k < wr.heap.size) (js ++ [j]) (rs ++ [r]) := LiesL.mono (fun k hA hlt => ⟨hA, hlt⟩) _ _ k0
    have k2 := LiesL.on (Stand.grown hg (fun k hA => hA.1.2.2)) _ _ k1
    have k3 := LiesL.on (Stand.set (w := wx) ⟨V + 1, 3, none⟩ vj' (fun hA => by have := hA.1.1; simp only at this; omega)) _ _ k2
    refine LiesL.mono (fun k hA _ => ⟨hA.1.1, hA.1.2.1, ?_⟩) _ _ k3
    rcases hat with e | e
    · rw [e]; exact hA.1.2.2
    · rw [e]; intro e'; injection e' with e'; have := hA.2; omega
/-- The kid's rows lie aside of the two rows that grow. -/
theorem KidsS.aside (h : KidsS w wr b V s kd ks js rs vk vj l) {j : JsonP.J} {r : Raw} (hl : Lies wx (fun k => wr.heap.size ≤ k) j r) : Lies wx (fun k => V + 2 ≤ k ∧ some k ≠ vk.ownBlock ∧ some k ≠ vj.ownBlock) j r :=
  Lies.mono (fun k hk _ => ⟨by have := h.lt1; omega, fun e => by have := (h.keys.lt k e.symm).2; omega, fun e => by have := (h.kids.lt k e.symm).2; omega⟩) _ _ hl
/-- Behind the store of the result. -/
theorem KidsS.ret {A A' : Option Addr} {n c n' c' : Nat} (h : KidsS w wr b V s kd ks js rs (.slice A n c) (.slice A' n' c') l) (k : Nat) (hk : kd = k) :
    Mv b w ((((wr.setCell ⟨V, 0, none⟩ (.int .i64 kd)).setCell ⟨V, 1, none⟩ (.string ⟨#[]⟩)).setCell ⟨V, 2, none⟩ (.slice A n c)).setCell ⟨V, 3, none⟩ (.slice A' n' c')) ∧
    At ((((wr.setCell ⟨V, 0, none⟩ (.int .i64 kd)).setCell ⟨V, 1, none⟩ (.string ⟨#[]⟩)).setCell ⟨V, 2, none⟩ (.slice A n c)).setCell ⟨V, 3, none⟩ (.slice A' n' c')) b s l ∧
    Lies ((((wr.setCell ⟨V, 0, none⟩ (.int .i64 kd)).setCell ⟨V, 1, none⟩ (.string ⟨#[]⟩)).setCell ⟨V, 2, none⟩ (.slice A n c)).setCell ⟨V, 3, none⟩ (.slice A' n' c')) (fun k => w.heap.size ≤ k) (.mk k [] ks js) ⟨kd, ⟨#[]⟩, A, n, c, A', n', c'⟩ := by
  have h1 := h.lt1
  have h2 := h.lt
  have hn : n = ks.length := by
    obtain ⟨_, _, e, _⟩ := h.keys.form
    injection e with _ e _
    rw [e, List.length_map]
  have hn' : n' = rs.length := by
    obtain ⟨_, _, e, _⟩ := h.kids.form
    injection e with _ e _
  have hc : n ≤ c ∧ c ≤ maxLen := by
    obtain ⟨_, _, e, q1, q2⟩ := h.keys.form
    injection e with _ e1 e2
    subst e2
    exact ⟨by omega, q2⟩
  have hc' : n' ≤ c' ∧ c' ≤ maxLen := by
    obtain ⟨_, _, e, q1, q2⟩ := h.kids.form
    injection e with _ e1 e2
    subst e2
    exact ⟨by omega, q2⟩
  have hS : ∀ (a0 a1 a2 a3 : Value), Stand (fun k => k ≠ V) wr ((((wr.setCell ⟨V, 0, none⟩ a0).setCell ⟨V, 1, none⟩ a1).setCell ⟨V, 2, none⟩ a2).setCell ⟨V, 3, none⟩ a3) := fun a0 a1 a2 a3 => by
    have hst : ∀ (w : World) (o : Nat) (u : Value), Stand (fun k => k ≠ V) w (w.setCell ⟨V, o, none⟩ u) := fun w o u => Stand.set ⟨V, o, none⟩ u (fun h => h rfl)
    refine ⟨by simp [World.setCell], fun k hk hlt => ?_⟩
    rw [(hst _ 3 a3).block k hk (by simpa [World.setCell] using hlt), (hst _ 2 a2).block k hk (by simpa [World.setCell] using hlt), (hst _ 1 a1).block k hk (by simpa [World.setCell] using hlt), (hst _ 0 a0).block k hk hlt]
  have hSt := hS (.int .i64 kd) (.string ⟨#[]⟩) (.slice A n c) (.slice A' n' c')
  refine ⟨(((h.mv.set ⟨V, 0, none⟩ (.inr (Nat.le_of_eq h.vw)) _).set ⟨V, 1, none⟩ (.inr (Nat.le_of_eq h.vw)) _).set ⟨V, 2, none⟩ (.inr (Nat.le_of_eq h.vw)) _).set ⟨V, 3, none⟩ (.inr (Nat.le_of_eq h.vw)) _, h.at_.far (hSt.block b (by omega) h.at_.lt), ?_⟩
  unfold Lies
  have hA2 : ∀ k, V + 2 ≤ k → k ≠ V ∧ w.heap.size ≤ k := fun k hk => by have := h.vw; omega
  refine ⟨hk, rfl, hn, hc.1, hc.2, ?_, hn'.trans h.len, hc'.1, hc'.2, rs, h.len, ?_, ?_⟩
  · have := (h.keys.seqP (A := fun k => k ≠ V ∧ w.heap.size ≤ k) (by rw [hn, List.length_map]) hA2).on ⟨hSt.size, fun k hk hlt => hSt.block k hk.1 hlt⟩
    exact this.mono (fun k hk _ => hk.2)
  · have := (h.kids.seqP (A := fun k => k ≠ V ∧ w.heap.size ≤ k) hn' hA2).on ⟨hSt.size, fun k hk hlt => hSt.block k hk.1 hlt⟩
    exact this.mono (fun k hk _ => hk.2)
  · have k1 : LiesL wr (fun k => k ≠ V ∧ w.heap.size ≤ k) js rs := LiesL.mono (fun k hA _ => hA2 k hA.1) _ _ h.lies
    have k2 := LiesL.on ⟨hSt.size, fun k hk hlt => hSt.block k hk.1 hlt⟩ _ _ k1
    exact LiesL.mono (fun k hA _ => hA.2) _ _ k2
end

theorem KidsS.start {w : World} {b : Nat} {s : ByteArray} {l : List UInt8} (h : At w b s l) (kd : Int) :
    KidsS w ((w.alloc (.cells #[.int .i64 0, .string ⟨#[]⟩, .slice none 0 0, .slice none 0 0] 37)).alloc (.cells #[.int .i64 kd, .string ⟨#[]⟩, .slice none 0 0, .slice none 0 0] 37)) b w.heap.size s kd [] [] [] (.slice none 0 0) (.slice none 0 0) l := by
  refine ⟨rfl, h.lt, ((Mv.rfl_ b w).alloc _).alloc _, (h.below ((Below.refl _ w).alloc (Nat.le_refl _) _)).below ((Below.refl _ _).alloc (Nat.le_refl _) _), (Below.heap_alloc _ _ _ (by simp)).trans (heap_alloc_new w _), ?_, OwnB.nil_ (by simp), OwnB.nil_ (by simp), rfl, by unfold LiesL; trivial⟩
  have := heap_alloc_new (w.alloc (.cells #[.int .i64 0, .string ⟨#[]⟩, .slice none 0 0, .slice none 0 0] 37)) (.cells #[.int .i64 kd, .string ⟨#[]⟩, .slice none 0 0, .slice none 0 0] 37)
  simpa using this

end Go.Proofs.Ytemcflfgoelpiaa
