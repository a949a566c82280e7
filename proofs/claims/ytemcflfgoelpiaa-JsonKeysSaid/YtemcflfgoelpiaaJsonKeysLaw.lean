/- The walk of the law JsonKeys. -/
import Derived.Test.YtemcflfgoelpiaaJsonShow
import Derived.Test.YtemcflfgoelpiaaJsonClean
import Derived.Test.YtemcflfgoelpiaaJsonKeyP
import Derived.Test.YtemcflfgoelpiaaJsonNumsLaw
import Derived.Test.YtemcflfgoelpiaaStepCall
import Derived.Deep.RegionWith
import Derived.Deep.DeepCutAuto
namespace Go.Proofs.Ytemcflfgoelpiaa
open Go.RowKit

/-- An object of texts, shown. -/
theorem showT_obj (ps : List (List Int × List Int)) (h : JsonP.AllS ps) : JsonP.showT (.mk 6 [] (JsonP.keysOf ps) (JsonP.kidsOf ps)) = JsonP.objT ps := by
  have hq : ∀ rs : List Int, (∀ r ∈ rs, DecP.Scalar r) → DecP.runes (DecP.encs rs) = rs := fun rs hr => by
    have := DecP.runes_encs rs hr []
    rw [List.append_nil, DecP.runes_nil, List.append_nil] at this
    exact this
  have hp : ∀ ps : List (List Int × List Int), JsonP.AllS ps → JsonP.pieces true (JsonP.keysOf ps) (JsonP.kidsOf ps) = ps.map JsonP.pair := by
    intro ps
    induction ps with
    | nil => intro _; rfl
    | cons p ps ih =>
      intro h
      have h0 := h p (by simp)
      show (JsonP.quote (DecP.runes (DecP.encs p.1)) ++ 58 :: JsonP.showT (.mk 4 (DecP.encs p.2) [] [])) :: JsonP.pieces true (JsonP.keysOf ps) (JsonP.kidsOf ps) = JsonP.pair p :: ps.map JsonP.pair
      rw [ih (fun x hx => h x (by simp [hx])), hq _ h0.1]
      have : JsonP.showT (.mk 4 (DecP.encs p.2) [] []) = JsonP.quote p.2 := by
        unfold JsonP.showT
        rw [if_neg (by decide), if_neg (by decide), if_neg (by decide), if_neg (by decide), if_pos rfl, hq _ h0.2]
      rw [this]
      rfl
  unfold JsonP.showT
  rw [if_neg (by decide), if_neg (by decide), if_neg (by decide), if_neg (by decide), if_neg (by decide), if_pos rfl, hp ps h]
  cases ps with
  | nil => rfl
  | cons p ps =>
    show 123 :: (JsonP.pair p ++ (ps.map JsonP.pair).flatMap (fun y => 44 :: y) ++ [125]) = 123 :: (JsonP.pair p ++ ((ps.flatMap fun p => 44 :: JsonP.pair p) ++ [125]))
    rw [List.flatMap_map, List.append_assoc]
theorem encs_len (rs : List Int) : (DecP.encs rs).length ≤ 4 * rs.length := by
  induction rs with
  | nil => exact Nat.le_refl _
  | cons r rs ih =>
    show (JsonP.encB r.toNat ++ DecP.encs rs).length ≤ _
    have : (JsonP.encB r.toNat).length ≤ 4 := by unfold JsonP.encB; repeat' (split <;> try simp)
    rw [List.length_append, List.length_cons]
    omega
theorem wt_obj (ps : List (List Int × List Int)) (h : ∀ p ∈ ps, p.1.length ≤ 1000 ∧ p.2.length ≤ 1000) (hn : ps.length ≤ 50) : JsonP.wt (.mk 6 [] (JsonP.keysOf ps) (JsonP.kidsOf ps)) ≤ 100000000 := by
  have key : ∀ ps : List (List Int × List Int), (∀ p ∈ ps, p.1.length ≤ 1000 ∧ p.2.length ≤ 1000) → 6 * ((JsonP.keysOf ps).map List.length).sum + JsonP.wts (JsonP.kidsOf ps) ≤ 50000 * ps.length := by
    intro ps
    induction ps with
    | nil => intro _; exact Nat.le_refl _
    | cons p ps ih =>
      intro h
      have h0 := h p (by simp)
      have h1 := ih fun x hx => h x (by simp [hx])
      have h2 := encs_len p.1
      have h3 := encs_len p.2
      show 6 * ((DecP.encs p.1).length + ((JsonP.keysOf ps).map List.length).sum) + (8 + (8 + 6 * (DecP.encs p.2).length + 6 * 0 + 0) + JsonP.wts (JsonP.kidsOf ps)) ≤ _
      rw [List.length_cons]
      omega
  have := key ps h
  unfold JsonP.wt
  simp only [List.length_nil]
  omega
theorem parse_obj (ps : List (List Int × List Int)) (h : JsonP.AllS ps) (hl : ∀ p ∈ ps, p.1.length ≤ 1000 ∧ p.2.length ≤ 1000) (hn : ps.length ≤ 50) : parseT (JsonP.objT ps) = .ok (.mk 6 [] (JsonP.keysOf ps) (JsonP.kidsOf ps)) [] := by
  have h1 := JsonP.show_len (.mk 6 [] (JsonP.keysOf ps) (JsonP.kidsOf ps))
  have key : ∀ ps : List (List Int × List Int), (∀ p ∈ ps, p.1.length ≤ 1000 ∧ p.2.length ≤ 1000) → (JsonP.objT ps).length ≤ 20000 * ps.length + 2 := by
    intro ps h
    have hp : ∀ p : List Int × List Int, p.1.length ≤ 1000 ∧ p.2.length ≤ 1000 → (JsonP.pair p).length ≤ 12005 := fun p hp => by
      have h1 := JsonP.quote_len p.1
      have h2 := JsonP.quote_len p.2
      unfold JsonP.pair
      rw [List.length_append, List.length_cons]
      omega
    have ht : ∀ ps : List (List Int × List Int), (∀ p ∈ ps, p.1.length ≤ 1000 ∧ p.2.length ≤ 1000) → (JsonP.tlO ps).length ≤ 20000 * ps.length + 1 := by
      intro ps
      induction ps with
      | nil => intro _; exact Nat.le_refl _
      | cons a ps ih =>
        intro h
        have h0 := hp a (h a (by simp))
        have h1 := ih fun x hx => h x (by simp [hx])
        rw [JsonP.tlO_cons, List.length_cons, List.length_append, List.length_cons]
        omega
    cases ps with
    | nil => exact Nat.le_refl _
    | cons a ps =>
      have h0 := hp a (h a (by simp))
      have h1 := ht ps fun x hx => h x (by simp [hx])
      show (123 :: (JsonP.pair a ++ JsonP.tlO ps)).length ≤ _
      rw [List.length_cons, List.length_append, List.length_cons]
      omega
  have h2 := key ps hl
  unfold parseT
  rw [if_neg (by omega), JsonP.obj_bad ps h]
  exact JsonP.obj_parse ps h

/-- The kids' cells. -/
def rawsOf (ts : List (List Int)) : List Raw := ts.map fun t => leafRaw 4 (str (DecP.encs t))
def keyT (ks : List (List Int)) : List ByteArray := ks.map fun k => str (DecP.encs k)
/-- What the law holds in its loop. -/
structure ObjS (w wr : World) (V : Nat) (ks ts : List (List Int)) (vk vj : Value) : Prop where
  bel : Below w.heap.size w wr
  le : w.heap.size ≤ V
  blk : wr.heap[V]? = some (.cells #[.int .i64 6, .string ⟨#[]⟩, vk, vj] 37)
  keys : OwnB Estr 9 (V + 1) wr vk (keyT ks)
  kids : OwnB Eval 37 (V + 1) wr vj (rawsOf ts)
section
variable {w wr wx : World} {V : Nat} {ks ts : List (List Int)} {vk vj : Value}
theorem ObjS.lt (h : ObjS w wr V ks ts vk vj) : V < wr.heap.size := (Array.getElem?_eq_some_iff.1 h.blk).1
theorem ObjS.below (h : ObjS w wr V ks ts vk vj) (k : Below wr.heap.size wr wx) : ObjS w wx V ks ts vk vj :=
  ⟨h.bel.trans (k.mono h.bel.size), h.le, (k.block _ h.lt).trans h.blk, h.keys.below k, h.kids.below k⟩
theorem ObjS.grown (h : ObjS w wr V ks ts vk vj) {r : Option Nat} (hg : wr.grownBy wx r) (hr : ∀ k, r = some k → V + 1 ≤ k) : Below w.heap.size w wx ∧ wx.heap[V]? = some (.cells #[.int .i64 6, .string ⟨#[]⟩, vk, vj] 37) := by
  have hle := h.le
  refine ⟨⟨hg.os.trans h.bel.os, hg.tape.trans h.bel.tape, hg.output.trans h.bel.output, Nat.le_trans h.bel.size hg.size, fun k hkk => (hg.block k (Nat.lt_of_lt_of_le hkk h.bel.size) (fun e => by have := hr k e.symm; omega)).trans (h.bel.block k hkk)⟩, ?_⟩
  exact (hg.block V h.lt (fun e => by have := hr V e.symm; omega)).trans h.blk
theorem ObjS.addKey (h : ObjS w wr V ks ts vk vj) {vk' : Value} {x : List Int} (ho : OwnB Estr 9 (V + 1) wx vk' (keyT ks ++ [str (DecP.encs x)])) (hg : wr.grownBy wx vk.ownBlock) :
    ObjS w (wx.setCell ⟨V, 2, none⟩ vk') V (ks ++ [x]) ts vk' vj := by
  obtain ⟨h1, h2⟩ := h.grown hg (fun k e => (h.keys.lt k e).1)
  refine ⟨h1.setCell (p := ⟨V, 2, none⟩) h.le _, h.le, ?_, ?_, ?_⟩
  · simp only [World.setCell, Array.getElem?_modify, if_true, h2, Option.map_some]
    rfl
  · have := ho.setBelow (a := ⟨V, 2, none⟩) (by show V < V + 1; omega) vk'
    simpa [keyT] using this
  · exact (h.kids.grown hg ((own_diff h.kids h.keys (by decide)))).setBelow (a := ⟨V, 2, none⟩) (by show V < V + 1; omega) _
theorem ObjS.addKid (h : ObjS w wr V ks ts vk vj) {vj' : Value} {x : List Int} (ho : OwnB Eval 37 (V + 1) wx vj' (rawsOf ts ++ [leafRaw 4 (str (DecP.encs x))])) (hg : wr.grownBy wx vj.ownBlock) :
    ObjS w (wx.setCell ⟨V, 3, none⟩ vj') V ks (ts ++ [x]) vk vj' := by
  obtain ⟨h1, h2⟩ := h.grown hg (fun k e => (h.kids.lt k e).1)
  refine ⟨h1.setCell (p := ⟨V, 3, none⟩) h.le _, h.le, ?_, ?_, ?_⟩
  · simp only [World.setCell, Array.getElem?_modify, if_true, h2, Option.map_some]
    rfl
  · exact (h.keys.grown hg ((own_diff h.keys h.kids (by decide)))).setBelow (a := ⟨V, 3, none⟩) (by show V < V + 1; omega) _
  · have := ho.setBelow (a := ⟨V, 3, none⟩) (by show V < V + 1; omega) vj'
    simpa [rawsOf] using this
theorem ObjS.start (w1 : World) (h : Below w.heap.size w w1) : ObjS w (w1.alloc (.cells #[.int .i64 6, .string ⟨#[]⟩, .slice none 0 0, .slice none 0 0] 37)) w1.heap.size [] [] (.slice none 0 0) (.slice none 0 0) :=
  ⟨h.alloc h.size _, h.size, heap_alloc_new w1 _, OwnB.nil_ (by simp), OwnB.nil_ (by simp)⟩
theorem lies_leaves (ts : List (List Int)) (A : Nat → Prop) (wr : World) : LiesL wr A (ts.map fun t => .mk 4 (DecP.encs t) [] []) (rawsOf ts) := by
  induction ts with
  | nil => show LiesL wr A [] []; unfold LiesL; trivial
  | cons t ts ih =>
    show LiesL wr A (_ :: _) (_ :: _)
    unfold LiesL
    exact ⟨Lies.leaf wr A 4 _, ih⟩
/-- The whole object lies there. -/
theorem ObjS.lies {A A' : Option Addr} {n c n' c' : Nat} (h : ObjS w wr V ks ts (.slice A n c) (.slice A' n' c')) :
    Lies wr (fun _ => True) (.mk 6 [] (ks.map DecP.encs) (ts.map fun t => .mk 4 (DecP.encs t) [] [])) ⟨6, ⟨#[]⟩, A, n, c, A', n', c'⟩ := by
  obtain ⟨_, _, e, q1, q2⟩ := h.keys.form
  injection e with e1 e2 e3
  subst e1; subst e2; subst e3
  obtain ⟨_, _, e, r1, r2⟩ := h.kids.form
  injection e with e1 e2 e3
  subst e1; subst e2; subst e3
  have hk : (keyT ks).length = ks.length := by simp [keyT]
  have ht : (rawsOf ts).length = ts.length := by simp [rawsOf]
  unfold Lies
  refine ⟨rfl, rfl, by simp [keyT], q1, q2, ?_, by simp [rawsOf], r1, r2, rawsOf ts, by simp [rawsOf], h.kids.seqP rfl (fun _ _ => trivial), lies_leaves ts _ _⟩
  have := h.keys.seqP (A := fun _ => True) rfl (fun _ _ => trivial)
  simpa [keyT, Function.comp_def] using this
end

def rn (x : ByteArray) : List Int := DecP.runes x.data.toList
theorem rn_len (x : ByteArray) : (rn x).length ≤ x.size := by
  have := DecP.runes_len x.data.toList
  rw [Array.length_toList] at this
  exact this
def szAt (L : List ByteArray) (j : Nat) : Nat := (L.getD j ⟨#[]⟩).size

theorem pairs_ok (K T : List ByteArray) (i : Nat) (hK : i ≤ K.length) (hT : i ≤ T.length) (hi : i ≤ 50) (h : ∀ j, j < i → szAt K j + szAt T j ≤ 1000) :
    ∃ ps : List (List Int × List Int), JsonP.keysOf ps = ((K.take i).map rn).map DecP.encs ∧ JsonP.kidsOf ps = ((T.take i).map rn).map (fun t => .mk 4 (DecP.encs t) [] []) ∧ JsonP.AllS ps ∧ (∀ p ∈ ps, p.1.length ≤ 1000 ∧ p.2.length ≤ 1000) ∧ ps.length ≤ 50 := by
  have l1 : (K.take i).length = i := by rw [List.length_take]; omega
  have l2 : (T.take i).length = i := by rw [List.length_take]; omega
  refine ⟨((K.take i).zip (T.take i)).map fun p => (rn p.1, rn p.2), ?_, ?_, ?_, ?_, ?_⟩
  · unfold JsonP.keysOf
    rw [List.map_map, List.map_map, ← List.map_fst_zip (l₁ := K.take i) (l₂ := T.take i) (by omega), List.map_map]
    rw [List.map_fst_zip (by omega)]
    rfl
  · unfold JsonP.kidsOf
    rw [List.map_map, List.map_map]
    conv => rhs; rw [← List.map_snd_zip (l₁ := K.take i) (l₂ := T.take i) (by omega), List.map_map]
    rfl
  · intro p hp
    obtain ⟨x, _, rfl⟩ := List.mem_map.1 hp
    exact ⟨DecP.runes_scalar _, DecP.runes_scalar _⟩
  · intro p hp
    obtain ⟨x, hx, rfl⟩ := List.mem_map.1 hp
    obtain ⟨j, hj, e⟩ := List.mem_iff_getElem.1 hx
    rw [List.getElem_zip] at e
    have hji : j < i := by rw [List.length_zip] at hj; omega
    have k1 : j < K.length := by omega
    have k2 : j < T.length := by omega
    have h1 := h j hji
    have r1 : szAt K j = (K[j]).size := by unfold szAt; rw [List.getD_eq_getElem?_getD, List.getElem?_eq_getElem k1]; rfl
    have r2 : szAt T j = (T[j]).size := by unfold szAt; rw [List.getD_eq_getElem?_getD, List.getElem?_eq_getElem k2]; rfl
    rw [List.getElem_take, List.getElem_take] at e
    subst e
    have a1 := rn_len K[j]
    have a2 := rn_len T[j]
    exact ⟨by show (rn K[j]).length ≤ _; omega, by show (rn T[j]).length ≤ _; omega⟩
  · rw [List.length_map, List.length_zip]; omega

set_option maxRecDepth 100000 in
set_option maxHeartbeats 6400000 in
theorem keys_any (A1 A2 : Option Addr) (c1 c2 : Nat) (K T : List ByteArray) (w : World) (hK : K.length ≤ 9223372036854775807) (hT : T.length ≤ 9223372036854775807) (hA1 : SeqAt Estr w w.heap.size A1 K) (hA2 : SeqAt Estr w w.heap.size A2 T)
    (hz1 : ∀ x ∈ K, x.size ≤ 140737488355328) (hz2 : ∀ x ∈ T, x.size ≤ 140737488355328) :
    Calls Try.prog 5 #[.slice A1 K.length c1, .slice A2 T.length c2] w fun e w' => e = .returned (.bool true) ∧ Below w.heap.size w w' := by
  have HA1 := Lib.hid hA1
  have HA2 := Lib.hid hA2
  have HZ1 := Lib.hid hz1
  have HZ2 := Lib.hid hz2
  clear hA1 hA2 hz1 hz2
  go_enter Try.func5, Try.ntmps5
  go_upto_region 4 with (go_at_call 7; refine (speaks_any _).mono ?_; rintro e w1 ⟨rfl, hb1⟩)
  have HS0 := Lib.hid (ObjS.start w1 hb1)
  obtain ⟨V, hV⟩ : ∃ V, w1.heap.size = V := ⟨_, rfl⟩
  rw [hV] at HS0 ⊢
  generalize w1.alloc (.cells #[.int .i64 6, .string ⟨#[]⟩, .slice none 0 0, .slice none 0 0] 37) = W at HS0 ⊢
  clear hb1 hV
  go_wp2_with fail
  go_loopw [6] (fun s6 wr => ∃ (i : Nat) (vk vj : Value), i ≤ 50 ∧ i ≤ K.length ∧ i ≤ T.length ∧ s6 = .int .i64 i ∧ Hid (∀ j, j < i → szAt K j + szAt T j ≤ 1000) ∧ Hid (ObjS w wr V ((K.take i).map rn) ((T.take i).map rn) vk vj)) (fun s6 _ => 51 - (intOf s6).toNat)
  case atStart => exact ⟨0, _, _, by omega, by omega, by omega, rfl, Lib.hid (fun j hj => absurd hj (Nat.not_lt_zero _)), HS0⟩
  case round =>
    obtain ⟨i, vk, vj, hi, hiK, hiT, rfl, HSz, HS⟩ := hrel
    clear HS0
    obtain ⟨Ak, ck, rfl, hk1, hk2⟩ := HS.out.keys.form
    obtain ⟨Aj, cj, rfl, hj1, hj2⟩ := HS.out.kids.form
    have e1 : (keyT ((K.take i).map rn)).length = i := by simp only [keyT, List.length_map, List.length_take]; omega
    have e2 : (rawsOf ((T.take i).map rn)).length = i := by simp only [rawsOf, List.length_map, List.length_take]; omega
    rw [e1] at hk1 HS
    rw [e2] at hj1 HS
    by_cases hlt : i < K.length ∧ i < T.length ∧ i < 50
    · obtain ⟨h1, h2, h3⟩ := hlt
      have g1 : (i : Int) < (K.length : Int) := by omega
      have g2 : (i : Int) < (T.length : Int) := by omega
      have g3 : (i : Int) < 50 := by omega
      have g0 : (0 : Int) ≤ (i : Int) := by omega
      obtain ⟨b1, o1, rfl, hw1, hb1⟩ := HA1.out.at_ (i := i) h1
      obtain ⟨b2, o2, rfl, hw2, hb2⟩ := HA2.out.at_ (i := i) h2
      have hx1 := hb1 0 (by decide)
      have hx2 := hb2 0 (by decide)
      have HT1 : (K.take (i + 1)).map rn = (K.take i).map rn ++ [rn (K[i]'h1)] := by rw [List.take_succ_eq_append_getElem h1, List.map_append]; rfl
      have HT2 : (T.take (i + 1)).map rn = (T.take i).map rn ++ [rn (T[i]'h2)] := by rw [List.take_succ_eq_append_getElem h2, List.map_append]; rfl
      have q1 := HZ1.out _ (List.getElem_mem h1)
      have q2 := HZ2.out _ (List.getElem_mem h2)
      have r1 : szAt K i = (K[i]'h1).size := by unfold szAt; rw [List.getD_eq_getElem?_getD, List.getElem?_eq_getElem h1]; rfl
      have r2 : szAt T i = (T[i]'h2).size := by unfold szAt; rw [List.getD_eq_getElem?_getD, List.getElem?_eq_getElem h2]; rfl
      obtain ⟨x1, hx1e⟩ : ∃ x, K[i]'h1 = x := ⟨_, rfl⟩
      obtain ⟨x2, hx2e⟩ : ∃ x, T[i]'h2 = x := ⟨_, rfl⟩
      rw [hx1e] at hx1 HT1 q1 r1
      rw [hx2e] at hx2 HT2 q2 r2
      have hcx1 : wr.cell? ⟨b1, o1 + i, none⟩ = some (.string x1) := (HS.out.bel.cell (p := ⟨b1, o1 + i, none⟩) hw1).trans (by simpa [Estr] using hx1)
      have hcx2 : wr.cell? ⟨b2, o2 + i, none⟩ = some (.string x2) := (HS.out.bel.cell (p := ⟨b2, o2 + i, none⟩) hw2).trans (by simpa [Estr] using hx2)
      have hv1 : b1 < wr.heap.size := Nat.lt_of_lt_of_le hw1 HS.out.bel.size
      have hv2 : b2 < wr.heap.size := Nat.lt_of_lt_of_le hw2 HS.out.bel.size
      have HX2 : Hid (w.cell? ⟨b2, o2 + i, none⟩ = some (.string x2)) := Lib.hid (by simpa [Estr] using hx2)
      have HTa := Lib.hid HT1
      have HTb := Lib.hid HT2
      have R1 := Lib.hid r1
      have R2 := Lib.hid r2
      clear hb1 hb2 hx1 hx2 HT1 HT2 hx1e hx2e r1 r2
      by_cases hbig : 1000 < x1.size + x2.size
      · have hb9 : (1000 : Int) < (x1.size : Int) + (x2.size : Int) := by omega
        go_upto_region 7 with fail
        go_quiet (fail)
        go_wp2
        go_ret
        exact ⟨rfl, below_drewN HS.out.bel _⟩
      · have hb9 : ¬ (1000 : Int) < (x1.size : Int) + (x2.size : Int) := by omega
        have hsm : x1.size ≤ 1000 ∧ x2.size ≤ 1000 := by omega
        obtain ⟨hs1, hs2⟩ := hsm
        have HSz2 : Hid (∀ j, j < i + 1 → szAt K j + szAt T j ≤ 1000) := Lib.hid fun j hj => by
          rcases Nat.lt_or_ge j i with h | h
          · exact HSz.out j h
          · obtain rfl : j = i := by omega
            rw [R1.out, R2.out]
            omega
        have HC1 : Hid (∀ W, Calls Try.prog 14 #[.string x1] W fun e w' => e = .returned (.string (str (DecP.encs (rn x1)))) ∧ Below W.heap.size W w') := Lib.hid fun W => clean_any x1 W (by omega)
        have HC2 : Hid (∀ W, Calls Try.prog 14 #[.string x2] W fun e w' => e = .returned (.string (str (DecP.encs (rn x2)))) ∧ Below W.heap.size W w') := Lib.hid fun W => clean_any x2 W (by omega)
        obtain ⟨y1, hy1⟩ : ∃ y, rn x1 = y := ⟨_, rfl⟩
        obtain ⟨y2, hy2⟩ : ∃ y, rn x2 = y := ⟨_, rfl⟩
        rw [hy1] at HC1 HTa
        rw [hy2] at HC2 HTb
        obtain ⟨KL, hKL⟩ : ∃ L, (K.take i).map rn = L := ⟨_, rfl⟩
        obtain ⟨TL, hTL⟩ : ∃ L, (T.take i).map rn = L := ⟨_, rfl⟩
        rw [hKL] at HS HTa e1
        rw [hTL] at HS HTb e2
        have E1 := Lib.hid e1
        have E2 := Lib.hid e2
        clear hy1 hy2 hKL hTL hbig q1 q2 e1 e2
        go_upto_region 7 with fail
        go_quiet (fail)
        have HSd : Hid (ObjS w (wr.drewN nq) V KL TL (.slice Ak i ck) (.slice Aj i cj)) := Lib.hid ⟨below_drewN HS.out.bel _, HS.out.le, HS.out.blk, HS.out.keys, HS.out.kids⟩
        have hd1 : (wr.drewN nq).cell? ⟨b1, o1 + i, none⟩ = some (.string x1) := hcx1
        have hd2 : (wr.drewN nq).cell? ⟨b2, o2 + i, none⟩ = some (.string x2) := hcx2
        have hdv : b2 < (wr.drewN nq).heap.size := hv2
        clear HS hcx1 hcx2 hv1 hv2
        generalize wr.drewN nq = wd at HSd hd1 hd2 hdv ⊢
        have hcV : wd.cell? ⟨V, 2, none⟩ = some (.slice Ak i ck) := Lib.cell_of_heap HSd.out.blk 2
        have zV := HSd.out.lt
        clear hd2 hdv
        go_upto_region 9 with fail
        go_cut [] (fun wx => ∃ (A5 : Option Addr) (c5 : Nat), Hid (ObjS w wx V (KL ++ [y1]) TL (.slice A5 (i + 1) c5) (.slice Aj i cj)))
        case first =>
          go_region_law (first
            | (refine step_append_one (E := Estr) (base := V + 1) (l := keyT KL) (str (DecP.encs y1)) ⟨w4.heap.size, 0, none⟩ 1 rfl (.tmp 41) (.tmp 47) 34 (by rfl) 16 elStrE (by rfl) (by exact HS4.out.keys.alloc _) (by rfl) (by exact news_new w4 _ _ _ rfl) (by rw [E1.out]; unfold maxLen; omega) (by rw [E1.out]; omega) ?_
               intro v5 w5 ho5 hg5 hat5
               have HS4a := Lib.hid (HS4.out.below ((Below.refl _ w4).alloc (Nat.le_refl _) (.cells #[.string (str (DecP.encs y1))] 9)))
               have hb5 := (HS4a.out.grown hg5 (fun k e => (HS4.out.keys.lt k e).1)).2
               have hc5 := fun o => Lib.cell_of_heap hb5 o
               have hz5 := fun o => Lib.frozen_of_heap hb5 o
               have HS5 := Lib.hid (HS4a.out.addKey ho5 hg5)
               have HG5 := Lib.hid hg5
               obtain ⟨A5, c5, rfl, hc5a, hc5b⟩ := ho5.form
               have HE5 : Hid ((keyT KL ++ [str (DecP.encs y1)]).length = i + 1) := Lib.hid (by rw [List.length_append, E1.out]; rfl)
               rw [HE5.out] at HS5 hc5a ⊢
               clear hb5 ho5 hg5 hat5)
            | (refine step_call1 (by rfl) 14 (.tmp 45) _ (by rfl) Try.func14 (by kernel_rfl) (by kernel_rfl) _ (by rfl) ?_
               refine (HC1.out _).mono ?_
               rintro e w4 ⟨rfl, hb4⟩
               simp only [CallEnd]
               have hb4' : Below wd.heap.size wd w4 := ⟨hb4.os, hb4.tape, hb4.output, hb4.size, hb4.block⟩
               have HS4 := Lib.hid (HSd.out.below hb4')
               have hc4 : w4.cell? ⟨V, 2, none⟩ = some (.slice Ak i ck) := Lib.cell_of_heap HS4.out.blk 2
               have hz4 : V < w4.heap.size := HS4.out.lt
               have HB4 := Lib.hid hb4'
               clear hb4 hb4'))
          all_goals
            go_wp2
            go_meet
            exact ⟨_, _, HS5⟩
        case rest =>
          obtain ⟨A5, c5, HS5⟩ := hcut
          obtain ⟨wd2, rfl⟩ : ∃ W5 : World, W5 = wc := ⟨_, rfl⟩
          clear hcV HSd hd1 zV
          have hd2 : wd2.cell? ⟨b2, o2 + i, none⟩ = some (.string x2) := (HS5.out.bel.cell (p := ⟨b2, o2 + i, none⟩) hw2).trans HX2.out
          have hcV : wd2.cell? ⟨V, 3, none⟩ = some (.slice Aj i cj) := Lib.cell_of_heap HS5.out.blk 3
          have zV := HS5.out.lt
          go_upto_region 10 with fail
          go_region_law (first
            | (refine step_append_one (E := Eval) (base := V + 1) (l := rawsOf TL) (leafRaw 4 (str (DecP.encs y2))) ⟨w4.heap.size, 0, none⟩ 1 rfl (.tmp 51) (.tmp 58) 35 (by rfl) 72 elValE (by rfl) (by exact HS4.out.kids.alloc _) (by rfl) (by exact news_new w4 _ _ _ rfl) (by rw [E2.out]; unfold maxLen; omega) (by rw [E2.out]; omega) ?_
               intro v5 w5 ho5 hg5 hat5
               have HS4a := Lib.hid (HS4.out.below ((Below.refl _ w4).alloc (Nat.le_refl _) (.cells #[.int .i64 4, .string (str (DecP.encs y2)), .slice none 0 0, .slice none 0 0] 37)))
               have hb5 := (HS4a.out.grown hg5 (fun k e => (HS4.out.kids.lt k e).1)).2
               have hc5 := fun o => Lib.cell_of_heap hb5 o
               have hz5 := fun o => Lib.frozen_of_heap hb5 o
               have HS7 := Lib.hid (HS4a.out.addKid ho5 hg5)
               obtain ⟨A7, c7, rfl, hc5a, hc5b⟩ := ho5.form
               have HE5 : Hid ((rawsOf TL ++ [leafRaw 4 (str (DecP.encs y2))]).length = i + 1) := Lib.hid (by rw [List.length_append, E2.out]; rfl)
               rw [HE5.out] at HS7 hc5a ⊢
               clear hb5 ho5 hg5 hat5)
            | (refine step_call1 (by rfl) 14 (.tmp 55) _ (by rfl) Try.func14 (by kernel_rfl) (by kernel_rfl) _ (by rfl) ?_
               refine (HC2.out _).mono ?_
               rintro e w4 ⟨rfl, hb4⟩
               simp only [CallEnd]
               have hb4' : Below wd2.heap.size wd2 w4 := ⟨hb4.os, hb4.tape, hb4.output, hb4.size, hb4.block⟩
               have HS4 := Lib.hid (HS5.out.below hb4')
               have hc4 : w4.cell? ⟨V, 3, none⟩ = some (.slice Aj i cj) := Lib.cell_of_heap HS4.out.blk 3
               have hz4 : V < w4.heap.size := HS4.out.lt
               clear hb4 hb4'))
          all_goals
            go_wp2
            exact ⟨⟨i + 1, _, _, by omega, by omega, by omega, by simp, HSz2, by rw [HTa.out, HTb.out]; exact HS7⟩, by simp only [intOf]; omega⟩
    · have hend : ¬ (i : Int) < (K.length : Int) ∨ ((i : Int) < (K.length : Int) ∧ ¬ (i : Int) < (T.length : Int)) ∨ ((i : Int) < (K.length : Int) ∧ (i : Int) < (T.length : Int) ∧ ¬ (i : Int) < 50) := by omega
      obtain ⟨ps, p1, p2, p3, p4, p5⟩ := pairs_ok K T i hiK hiT hi HSz.out
      have hlies := HS.out.lies
      rw [← p1, ← p2] at hlies
      have HLies := Lib.hid hlies
      have HPs : Hid (∀ W, Calls Try.prog 12 #[.string (str (JsonP.objT ps))] W fun e w' => Below W.heap.size W w' ∧ ∃ r : Raw, e = .returned (.tuple #[.agg r.cells.toArray, .agg #[.int .i64 0, .int .i64 0]]) ∧ Lies w' (fun k => W.heap.size ≤ k) (.mk 6 [] (JsonP.keysOf ps) (JsonP.kidsOf ps)) r) := Lib.hid fun W => by
        have := parse_any (str (JsonP.objT ps)) W
        rw [str_toList, parse_obj ps p3 p4 p5] at this
        exact this
      have HSh : Hid (Calls Try.prog 15 #[.agg #[.int .i64 6, .string ⟨#[]⟩, .slice Ak i ck, .slice Aj i cj]] wr fun e w' => e = .returned (.string (str (JsonP.objT ps))) ∧ Below wr.heap.size wr w') := Lib.hid (by
        have := show_all _ _ (Nat.le_refl _) (wt_obj ps p4 p5) ⟨6, ⟨#[]⟩, Ak, i, ck, Aj, i, cj⟩ _ wr HLies.out
        rw [showT_obj ps p3] at this
        exact this)
      obtain ⟨j, hj⟩ : ∃ j : JsonP.J, .mk 6 [] (JsonP.keysOf ps) (JsonP.kidsOf ps) = j := ⟨_, rfl⟩
      obtain ⟨q, hq⟩ : ∃ q, str (JsonP.objT ps) = q := ⟨_, rfl⟩
      rw [hj] at HLies HPs
      rw [hq] at HPs HSh
      have hcV : ∀ o, wr.cell? ⟨V, o, none⟩ = #[Value.int .i64 6, .string ⟨#[]⟩, .slice Ak i ck, .slice Aj i cj][o]? := fun o => Lib.cell_of_heap HS.out.blk o
      clear hlies p1 p2 p3 p4 p5 hj hq e1 e2 hlt
      rcases hend with h | ⟨h, h2⟩ | ⟨h, h2, h3⟩
      all_goals
        go_upto_region 12 with (first
          | (go_at_call 15; (with_reducible refine HSh.out.mono ?_); rintro e w4 ⟨rfl, hb4⟩)
          | (go_at_call 12; (with_reducible refine (HPs.out _).mono ?_); rintro e w5 ⟨hb5, ⟨rk, rt, ra, rn, rc, rb, rm, rd⟩, rfl, hl5⟩; simp only [Raw.cells]))
        have hz5 := hb5.size
        have hST : Below w5.heap.size w5 ((w5.alloc (.cells #[.int .i64 rk, .string rt, .slice ra rn rc, .slice rb rm rd] 37)).alloc (.cells #[.int .i64 0, .int .i64 0] 29)) := ((Below.refl _ w5).alloc (Nat.le_refl _) _).alloc (by simp) _
        have hBW : Below wr.heap.size wr ((w5.alloc (.cells #[.int .i64 rk, .string rt, .slice ra rn rc, .slice rb rm rd] 37)).alloc (.cells #[.int .i64 0, .int .i64 0] 29)) := hb4.trans ((hb5.trans (hST.mono hz5)).mono hb4.size)
        have hl6 := Lies.on (Stand.below hST) _ _ hl5
        have hl7 := Lies.on (Stand.below hBW) _ _ HLies.out
        have hSW := HS.out.below hBW
        have hVx : ((w5.alloc (.cells #[.int .i64 rk, .string rt, .slice ra rn rc, .slice rb rm rd] 37)).alloc (.cells #[.int .i64 0, .int .i64 0] 29)).heap[w5.heap.size]? = some (.cells #[.int .i64 rk, .string rt, .slice ra rn rc, .slice rb rm rd] 37) := (Below.heap_alloc _ _ _ (by simp)).trans (heap_alloc_new w5 _)
        have hF : ((w5.alloc (.cells #[.int .i64 rk, .string rt, .slice ra rn rc, .slice rb rm rd] 37)).alloc (.cells #[.int .i64 0, .int .i64 0] 29)).heap[w5.heap.size + 1]? = some (.cells #[.int .i64 0, .int .i64 0] 29) := by
          have := heap_alloc_new (w5.alloc (.cells #[.int .i64 rk, .string rt, .slice ra rn rc, .slice rb rm rd] 37)) (.cells #[.int .i64 0, .int .i64 0] 29)
          simpa using this
        generalize (w5.alloc (.cells #[.int .i64 rk, .string rt, .slice ra rn rc, .slice rb rm rd] 37)).alloc (.cells #[.int .i64 0, .int .i64 0] 29) = W at hl6 hl7 hSW hVx hF hBW ⊢
        obtain ⟨X, hXe⟩ : ∃ X, w5.heap.size = X := ⟨_, rfl⟩
        rw [hXe] at hVx hF ⊢
        have cX := fun o => Lib.cell_of_heap hVx o
        have cF := fun o => Lib.cell_of_heap hF o
        have cV : ∀ o, W.cell? ⟨V, o, none⟩ = #[Value.int .i64 6, .string ⟨#[]⟩, .slice Ak i ck, .slice Aj i cj][o]? := fun o => Lib.cell_of_heap hSW.blk o
        have hfe := faultEq_same 0 0
        have HEq : Hid (Calls Try.prog 13 #[.agg #[.int .i64 6, .string ⟨#[]⟩, .slice Ak i ck, .slice Aj i cj], .agg #[.int .i64 rk, .string rt, .slice ra rn rc, .slice rb rm rd]] W fun e w' => e = .returned (.bool true) ∧ Below W.heap.size W w') := Lib.hid (equal_all _ _ (Nat.le_refl _) ⟨6, ⟨#[]⟩, Ak, i, ck, Aj, i, cj⟩ ⟨rk, rt, ra, rn, rc, rb, rm, rd⟩ _ _ W hl7 hl6)
        have HBW := Lib.hid (HS.out.bel.trans (hBW.mono HS.out.bel.size))
        clear hb4 hb5 hST hl6 hl7 hSW hVx hF hz5 hXe hBW hl5 hcV HPs HSh
        go_wp2_with (go_at_call 13; (with_reducible refine HEq.out.mono ?_); rintro e w6 ⟨rfl, hb6⟩)
        go_ret
        exact ⟨rfl, HBW.out.trans (hb6.mono HBW.out.size)⟩

end Go.Proofs.Ytemcflfgoelpiaa
