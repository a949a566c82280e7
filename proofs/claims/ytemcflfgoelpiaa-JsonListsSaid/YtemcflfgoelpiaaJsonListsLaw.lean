/- The walk of the law JsonLists. -/
import Derived.Test.YtemcflfgoelpiaaJsonEq
import Derived.Test.YtemcflfgoelpiaaJsonListP
import Derived.Test.YtemcflfgoelpiaaJsonNumsLaw
namespace Go.Proofs.Ytemcflfgoelpiaa
open Go.RowKit

/-- What the law holds in its first loop. -/
structure ListS (w wr : World) (ls : List (List UInt8)) (js : List JsonP.J) (rs : List Raw) (v : Value) : Prop where
  bel : Below w.heap.size w wr
  own : OwnB Eval 37 w.heap.size wr v rs
  len : rs.length = js.length
  lies : LiesL wr (fun k => w.heap.size ≤ k ∧ some k ≠ v.ownBlock) js rs
  reads : JsonP.Reads ls js
  ok : ∀ l ∈ ls, l.length ≤ 9000 ∧ ∀ i, DecP.badAt l i = none
theorem ListS.below {w wr wx : World} {ls : List (List UInt8)} {js : List JsonP.J} {rs : List Raw} {v : Value} (h : ListS w wr ls js rs v) (k : Below wr.heap.size wr wx) : ListS w wx ls js rs v :=
  ⟨h.bel.trans (k.mono h.bel.size), h.own.below k, h.len, LiesL.on (Stand.below k) _ _ h.lies, h.reads, h.ok⟩
/-- Behind the append of a value that was read. -/
theorem ListS.add {w wr wx : World} {ls : List (List UInt8)} {js : List JsonP.J} {rs : List Raw} {v v' : Value} {l : List UInt8} {j : JsonP.J} {r : Raw} (h : ListS w wr ls js rs v) (hl : Lies wr (fun k => w.heap.size ≤ k ∧ some k ≠ v.ownBlock) j r)
    (ho : OwnB Eval 37 w.heap.size wx v' (rs ++ [r])) (hg : wr.grownBy wx v.ownBlock) (hat : v'.ownBlock = v.ownBlock ∨ v'.ownBlock = some wr.heap.size)
    (hp : JsonP.parse l = .ok j []) (hk : l.length ≤ 9000) (hb : ∀ i, DecP.badAt l i = none) : ListS w wx (ls ++ [l]) (js ++ [j]) (rs ++ [r]) v' := by
  have hlt := fun g (e : v.ownBlock = some g) => h.own.lt g e
  have hbel : Below w.heap.size w wx := ⟨hg.os.trans h.bel.os, hg.tape.trans h.bel.tape, hg.output.trans h.bel.output, Nat.le_trans h.bel.size hg.size, fun k hkk => (hg.block k (Nat.lt_of_lt_of_le hkk h.bel.size) (fun e => by have := (hlt k e.symm).1; omega)).trans (h.bel.block k hkk)⟩
  refine ⟨hbel, ho, by rw [List.length_append, List.length_append, h.len]; rfl, ?_, h.reads.snoc hp, fun x hx => ?_⟩
  · have k0 := LiesL.snoc hl js rs h.len h.lies
    have k1 : LiesL wr (fun k => (w.heap.size ≤ k ∧ some k ≠ v.ownBlock) ∧ k < wr.heap.size) (js ++ [j]) (rs ++ [r]) := LiesL.mono (fun k hA hlt => ⟨hA, hlt⟩) _ _ k0
    have k2 := LiesL.on (Stand.grown hg (fun k hA => hA.1.2)) _ _ k1
    refine LiesL.mono (fun k hA _ => ⟨hA.1.1, ?_⟩) _ _ k2
    rcases hat with e | e
    · rw [e]; exact hA.1.2
    · rw [e]; intro e'; injection e' with e'; have := hA.2; omega
  · rcases List.mem_append.1 hx with hx | hx
    · exact h.ok x hx
    · rw [List.mem_singleton.1 hx]; exact ⟨hk, hb⟩
theorem reads_len : ∀ (ls : List (List UInt8)) (js : List JsonP.J), JsonP.Reads ls js → ls.length = js.length
  | [], [], _ => rfl
  | [], _ :: _, h => by cases h
  | _ :: _, [], h => by cases h
  | _ :: ls, _ :: js, h => by rw [List.length_cons, List.length_cons, reads_len ls js h.2]
theorem str_app (a b : List UInt8) : str a ++ str b = str (a ++ b) := by simp [str, ByteArray.ext_iff]
/-- What Parse tells of a text: a fault, or a value. -/
theorem parseT_cases (l : List UInt8) : (∃ c : Nat, c ≠ 0 ∧ parseT l = .bad c) ∨ (∃ j, parseT l = .ok j [] ∧ JsonP.parse l = .ok j [] ∧ ∀ i, DecP.badAt l i = none) := by
  cases h : parseT l with
  | bad c =>
    refine .inl ⟨c, ?_, rfl⟩
    unfold parseT at h
    split at h
    · injection h with h; omega
    · split at h
      · injection h with h; omega
      · exact JsonP.parse_code h
  | ok j t =>
    right
    unfold parseT at h
    split at h
    · cases h
    · split at h
      · cases h
      · rename_i hb
        have ht : t = [] := by
          unfold JsonP.parse at h
          split at h
          · cases h
          · split at h
            · injection h with _ h; exact h.symm
            · cases h
        subst ht
        exact ⟨j, rfl, h, DecP.badAt_x hb⟩

theorem soFar_len (f : Bool) (ls : List (List UInt8)) (h : ∀ l ∈ ls, l.length ≤ 9000) : (JsonP.soFar f ls).length ≤ 9003 * ls.length := by
  have hpre : (JsonP.pre f).length ≤ 2 := by cases f <;> decide
  have key : ∀ ls : List (List UInt8), (∀ l ∈ ls, l.length ≤ 9000) → (ls.flatMap fun l => 44 :: (JsonP.pre f ++ l)).length ≤ 9003 * ls.length := by
    intro ls
    induction ls with
    | nil => intro _; exact Nat.le_refl _
    | cons a ls ih =>
      intro h
      have := ih fun l hl => h l (by simp [hl])
      have := h a (by simp)
      rw [List.flatMap_cons, List.length_append, List.length_cons, List.length_append, List.length_cons]
      omega
  cases ls with
  | nil => exact Nat.le_refl _
  | cons a ls =>
    have := key ls fun l hl => h l (by simp [hl])
    have := h a (by simp)
    show (JsonP.pre f ++ a ++ _).length ≤ _
    rw [List.length_append, List.length_append, List.length_cons]
    omega
theorem str_size (l : List UInt8) : (str l).size = l.length := by simp [str, ByteArray.size]
theorem str_snoc {f : Bool} {ls : List (List UInt8)} {q x : ByteArray} (hq : str (91 :: JsonP.soFar f ls) = q) :
    (if ls = [] then q else q ++ ⟨#[44]⟩) ++ str (JsonP.pre f) ++ x = str (91 :: JsonP.soFar f (ls ++ [x.data.toList])) := by
  rw [JsonP.soFar_snoc, ← hq]
  have hx : x = str x.data.toList := (str_list x).symm
  have h44 : (⟨#[44]⟩ : ByteArray) = str [44] := rfl
  rw [hx, h44]
  by_cases h : ls = []
  · subst h
    rw [if_pos rfl, if_pos rfl, str_app, str_app]
    simp [JsonP.soFar, str]
  · rw [if_neg h, if_neg h, str_app, str_app, str_app]
    simp [str]

theorem whole_parse (f : Bool) (ls : List (List UInt8)) (js : List JsonP.J) (h : JsonP.Reads ls js) (hn : ls.length ≤ 100) (ho : ∀ l ∈ ls, l.length ≤ 9000 ∧ ∀ i, DecP.badAt l i = none) :
    parseT (91 :: (JsonP.soFar f ls ++ [93])) = .ok (.mk 5 [] [] js) [] ∨ parseT (91 :: (JsonP.soFar f ls ++ [93])) = .bad 21 := by
  have hl := soFar_len f ls (fun l hl => (ho l hl).1)
  unfold parseT
  rw [if_neg (by rw [List.length_cons, List.length_append, List.length_singleton]; omega), JsonP.list_bad f ls (fun l hl => (ho l hl).2)]
  exact JsonP.list_parse f ls js h

set_option maxRecDepth 100000 in
set_option maxHeartbeats 6400000 in
theorem lists_any (A : Option Addr) (c : Nat) (L : List ByteArray) (f : Bool) (w : World) (hL : L.length ≤ 9223372036854775807) (hA : SeqAt Estr w w.heap.size A L) :
    Calls Try.prog 4 #[.slice A L.length c, .bool f] w fun e w' => e = .returned (.bool true) ∧ Below w.heap.size w w' := by
  have HA := Lib.hid hA
  clear hA
  go_enter Try.func4, Try.ntmps4
  go_upto_region 3 with (go_at_call 7; refine (speaks_any _).mono ?_; rintro e w1 ⟨rfl, hb1⟩)
  have HS0 : Hid (ListS w w1 [] [] [] (.slice none 0 0)) := Lib.hid ⟨hb1, OwnB.nil_ hb1.size, rfl, by unfold LiesL; trivial, trivial, fun l hl => by cases hl⟩
  clear hb1
  go_wp2_with fail
  go_loopw [5, 6, 7, 8] (fun s5 s6 s7 s8 wr => ∃ (i : Nat) (ls : List (List UInt8)) (js : List JsonP.J) (rs : List Raw), i ≤ 100 ∧ i ≤ L.length ∧ ls.length ≤ i ∧ s5 = .string (str (91 :: JsonP.soFar f ls)) ∧ s6 = .int .i64 ls.length ∧ s8 = .int .i64 i ∧ Hid (ListS w wr ls js rs s7)) (fun _ _ _ s8 _ => 101 - (intOf s8).toNat)
  case atStart => exact ⟨0, [], [], [], by omega, by omega, by simp, rfl, rfl, rfl, HS0⟩
  case round =>
    obtain ⟨i, ls, js, rs, hi, hiL, hli, rfl, rfl, rfl, HS⟩ := hrel
    clear HS0
    by_cases hlt : i < L.length ∧ i < 100
    · have hii : (i : Int) < (L.length : Int) := by omega
      have hi1 : (i : Int) < 100 := by omega
      have hi0 : (0 : Int) ≤ (i : Int) := by omega
      obtain ⟨b, off, rfl, hbw, hb0⟩ := HA.out.at_ (i := i) hlt.1
      have hx := hb0 0 (by decide)
      obtain ⟨x, hxe⟩ : ∃ x, L[i]'hlt.1 = x := ⟨_, rfl⟩
      rw [hxe] at hx
      have hcx : wr.cell? ⟨b, off + i, none⟩ = some (.string x) := (HS.out.bel.cell (p := ⟨b, off + i, none⟩) hbw).trans (by simpa [Estr] using hx)
      have hbr : b < wr.heap.size := Nat.lt_of_lt_of_le hbw HS.out.bel.size
      clear hb0 hx hxe
      have HSz := Lib.hid HS.out.bel.size
      rcases parseT_cases x.data.toList with ⟨c, hc, hp⟩ | ⟨j, hp, hpp, hpb⟩
      · have HP : Hid (∀ W, Calls Try.prog 12 #[.string x] W fun e w' => Below W.heap.size W w' ∧ ∃ p : Int, e = .returned (.tuple #[.agg #[.int .i64 0, .string ⟨#[]⟩, .slice none 0 0, .slice none 0 0], .agg #[.int .i64 c, .int .i64 p]])) := Lib.hid fun W => by
          have := parse_any x W
          rw [hp] at this
          exact this
        have hfe : ∀ p : Int, faultEq c p 0 0 = false := fun p => faultEq_code (by omega)
        clear hp hc
        go_wp2_with (go_at_call 12; refine (HP.out _).mono ?_; rintro e w2 ⟨hb2, p, rfl⟩)
        exact ⟨⟨i + 1, ls, js, rs, by omega, by omega, by omega, rfl, rfl, by simp, Lib.hid (HS.out.below ((hb2.alloc hb2.size _).alloc (by have := hb2.size; simp; omega) _))⟩, by simp only [intOf]; omega⟩
      · have HP : Hid (∀ W, Calls Try.prog 12 #[.string x] W fun e w' => Below W.heap.size W w' ∧ ∃ r : Raw, e = .returned (.tuple #[.agg r.cells.toArray, .agg #[.int .i64 0, .int .i64 0]]) ∧ Lies w' (fun k => W.heap.size ≤ k) j r) := Lib.hid fun W => by
          have := parse_any x W
          rw [hp] at this
          exact this
        clear hp
        go_upto_region 9 with (go_at_call 12; refine (HP.out _).mono ?_; rintro e w2 ⟨hb2, ⟨rk, rt, ra, rn, rc, rb, rm, rd⟩, rfl, hl2⟩; simp only [Raw.cells])
        have hzw := hb2.size
        have HB2 := Lib.hid hb2
        have HSx := Lib.hid (HS.out.below ((hb2.alloc hb2.size (.cells #[.int .i64 rk, .string rt, .slice ra rn rc, .slice rb rm rd] 37)).alloc (by have := hb2.size; simp; omega) (.cells #[.int .i64 0, .int .i64 0] 29)))
        have hST : Below w2.heap.size w2 ((w2.alloc (.cells #[.int .i64 rk, .string rt, .slice ra rn rc, .slice rb rm rd] 37)).alloc (.cells #[.int .i64 0, .int .i64 0] 29)) := ((Below.refl _ w2).alloc (Nat.le_refl _) _).alloc (by simp) _
        have HLx := Lib.hid (Lies.on (Stand.below hST) _ _ hl2)
        have hV : ((w2.alloc (.cells #[.int .i64 rk, .string rt, .slice ra rn rc, .slice rb rm rd] 37)).alloc (.cells #[.int .i64 0, .int .i64 0] 29)).heap[w2.heap.size]? = some (.cells #[.int .i64 rk, .string rt, .slice ra rn rc, .slice rb rm rd] 37) := (Below.heap_alloc _ _ _ (by simp)).trans (heap_alloc_new w2 _)
        have hF : ((w2.alloc (.cells #[.int .i64 rk, .string rt, .slice ra rn rc, .slice rb rm rd] 37)).alloc (.cells #[.int .i64 0, .int .i64 0] 29)).heap[w2.heap.size + 1]? = some (.cells #[.int .i64 0, .int .i64 0] 29) := by
          have := heap_alloc_new (w2.alloc (.cells #[.int .i64 rk, .string rt, .slice ra rn rc, .slice rb rm rd] 37)) (.cells #[.int .i64 0, .int .i64 0] 29)
          simpa using this
        have hcx2 : ((w2.alloc (.cells #[.int .i64 rk, .string rt, .slice ra rn rc, .slice rb rm rd] 37)).alloc (.cells #[.int .i64 0, .int .i64 0] 29)).cell? ⟨b, off + i, none⟩ = some (.string x) := (hST.cell (p := ⟨b, off + i, none⟩) (by show b < _; omega)).trans ((hb2.cell (p := ⟨b, off + i, none⟩) hbr).trans hcx)
        generalize (w2.alloc (.cells #[.int .i64 rk, .string rt, .slice ra rn rc, .slice rb rm rd] 37)).alloc (.cells #[.int .i64 0, .int .i64 0] 29) = W at HSx HLx hV hF hcx2 ⊢
        obtain ⟨V, hVe⟩ : ∃ V, w2.heap.size = V := ⟨_, rfl⟩
        rw [hVe] at hV hF ⊢
        have cV := fun o => Lib.cell_of_heap hV o
        have cF := fun o => Lib.cell_of_heap hF o
        have HV := Lib.hid hV
        clear hb2 hl2 hST hcx hVe hV hF
        have hfe := faultEq_same 0 0
        by_cases hbig : 9000 < x.size
        · have hb9 : (9000 : Int) < (x.size : Int) := by omega
          go_wp2
          exact ⟨⟨i + 1, ls, js, rs, by omega, by omega, by omega, rfl, rfl, by simp, HSx⟩, by simp only [intOf]; omega⟩
        · have hb9 : ¬ (9000 : Int) < (x.size : Int) := by omega
          obtain ⟨q, hq⟩ : ∃ q, str (91 :: JsonP.soFar f ls) = q := ⟨_, rfl⟩
          have HSn := Lib.hid (str_snoc (x := x) hq)
          have hqs : q.size ≤ 1000000 := by
            rw [← hq, str_size, List.length_cons]
            have := soFar_len f ls (fun l hl => (HS.out.ok l hl).1)
            omega
          rw [hq]
          have hxs : x.size ≤ 9000 := by omega
          have hrl : rs.length ≤ 100 := by
            have := HS.out.len
            have := reads_len _ _ HS.out.reads
            omega
          have HLy : Hid (Lies W (fun k => w.heap.size ≤ k ∧ some k ≠ u7.ownBlock) j ⟨rk, rt, ra, rn, rc, rb, rm, rd⟩) := Lib.hid (Lies.mono (fun k hk _ => ⟨Nat.le_trans HSz.out hk, fun e => by have := (HS.out.own.lt k e.symm).2; omega⟩) _ _ HLx.out)
          have HAd : Hid (∀ (o : Obj) (wx : World) (v' : Value), OwnB Eval 37 w.heap.size wx v' (rs ++ [⟨rk, rt, ra, rn, rc, rb, rm, rd⟩]) → (W.alloc o).grownBy wx u7.ownBlock → (v'.ownBlock = u7.ownBlock ∨ v'.ownBlock = some (W.alloc o).heap.size) → ListS w wx (ls ++ [x.data.toList]) (js ++ [j]) (rs ++ [⟨rk, rt, ra, rn, rc, rb, rm, rd⟩]) v') := Lib.hid fun o wx v' h1 h2 h3 =>
            (HSx.out.below ((Below.refl _ W).alloc (Nat.le_refl _) o)).add (Lies.on (Stand.below ((Below.refl _ W).alloc (Nat.le_refl _) o)) _ _ HLy.out) h1 h2 h3 hpp (by rw [Array.length_toList]; exact hxs) hpb
          clear hq
          obtain ⟨m, hm⟩ : ∃ m, ls.length = m := ⟨_, rfl⟩
          have HM := Lib.hid hm
          rw [hm]
          have hn1 : ¬ q.size + 1 > 9223372036854775807 := by omega
          have hn2 : ¬ q.size + 1 + 2 > 9223372036854775807 := by omega
          have hn3 : ¬ q.size + 1 + 2 + x.size > 9223372036854775807 := by omega
          have hn4 : ¬ q.size + 1 + x.size > 9223372036854775807 := by omega
          have hn5 : ¬ q.size + x.size > 9223372036854775807 := by omega
          have hn6 : ¬ q.size + 2 > 9223372036854775807 := by omega
          have hn7 : ¬ q.size + 2 + x.size > 9223372036854775807 := by omega
          have hmb : (m : Int) ≤ 100 := by omega
          by_cases hm0 : m = 0
          · subst hm0
            have hls : ls = [] := List.eq_nil_of_length_eq_zero HM.out
            cases f
            · have HSe : Hid (q ++ x = str (91 :: JsonP.soFar false (ls ++ [x.data.toList]))) := Lib.hid (by
                have := HSn.out
                rw [if_pos hls] at this
                rw [← this]
                apply ByteArray.ext
                simp [str, JsonP.pre])
              clear HSn
              go_wp2_with (at_builtin; (refine wpList_append_one (E := Eval) (base := w.heap.size) (l := rs) ⟨rk, rt, ra, rn, rc, rb, rm, rd⟩ ⟨W.heap.size, 0, none⟩ 1 rfl (.tmp 58) (.tmp 60) 35 rfl 72 elValE rfl (HSx.out.own.alloc _) rfl (news_new W _ _ _ rfl) (by unfold maxLen; omega) (by omega) ?_); intro v5 w5 ho5 hg5 hat5; have HS5 := Lib.hid (HAd.out _ _ _ ho5 hg5 hat5); clear ho5 hg5 hat5)
              exact ⟨⟨i + 1, ls ++ [x.data.toList], js ++ [j], rs ++ [⟨rk, rt, ra, rn, rc, rb, rm, rd⟩], by omega, by omega, by rw [List.length_append, List.length_singleton, HM.out]; omega, by rw [← HSe.out], by rw [List.length_append, List.length_singleton, HM.out]; first | rfl | simp, by simp, HS5⟩, by simp only [intOf]; omega⟩
            · have HSe : Hid (q ++ ⟨#[32, 10]⟩ ++ x = str (91 :: JsonP.soFar true (ls ++ [x.data.toList]))) := Lib.hid (by
                have := HSn.out
                rw [if_pos hls] at this
                rw [← this]
                apply ByteArray.ext
                simp [str, JsonP.pre])
              clear HSn
              go_wp2_with (at_builtin; (refine wpList_append_one (E := Eval) (base := w.heap.size) (l := rs) ⟨rk, rt, ra, rn, rc, rb, rm, rd⟩ ⟨W.heap.size, 0, none⟩ 1 rfl (.tmp 58) (.tmp 60) 35 rfl 72 elValE rfl (HSx.out.own.alloc _) rfl (news_new W _ _ _ rfl) (by unfold maxLen; omega) (by omega) ?_); intro v5 w5 ho5 hg5 hat5; have HS5 := Lib.hid (HAd.out _ _ _ ho5 hg5 hat5); clear ho5 hg5 hat5)
              exact ⟨⟨i + 1, ls ++ [x.data.toList], js ++ [j], rs ++ [⟨rk, rt, ra, rn, rc, rb, rm, rd⟩], by omega, by omega, by rw [List.length_append, List.length_singleton, HM.out]; omega, by rw [← HSe.out], by rw [List.length_append, List.length_singleton, HM.out]; first | rfl | simp, by simp, HS5⟩, by simp only [intOf]; omega⟩
          · have hm1 : (0 : Int) < (m : Int) := by omega
            have hls : ¬ ls = [] := fun e => hm0 (by rw [← HM.out, e]; rfl)
            cases f
            · have HSe : Hid (q ++ ⟨#[44]⟩ ++ x = str (91 :: JsonP.soFar false (ls ++ [x.data.toList]))) := Lib.hid (by
                have := HSn.out
                rw [if_neg hls] at this
                rw [← this]
                apply ByteArray.ext
                simp [str, JsonP.pre])
              clear HSn
              go_wp2_with (at_builtin; (refine wpList_append_one (E := Eval) (base := w.heap.size) (l := rs) ⟨rk, rt, ra, rn, rc, rb, rm, rd⟩ ⟨W.heap.size, 0, none⟩ 1 rfl (.tmp 58) (.tmp 60) 35 rfl 72 elValE rfl (HSx.out.own.alloc _) rfl (news_new W _ _ _ rfl) (by unfold maxLen; omega) (by omega) ?_); intro v5 w5 ho5 hg5 hat5; have HS5 := Lib.hid (HAd.out _ _ _ ho5 hg5 hat5); clear ho5 hg5 hat5)
              exact ⟨⟨i + 1, ls ++ [x.data.toList], js ++ [j], rs ++ [⟨rk, rt, ra, rn, rc, rb, rm, rd⟩], by omega, by omega, by rw [List.length_append, List.length_singleton, HM.out]; omega, by rw [← HSe.out], by rw [List.length_append, List.length_singleton, HM.out]; first | rfl | simp, by simp, HS5⟩, by simp only [intOf]; omega⟩
            · have HSe : Hid (q ++ ⟨#[44]⟩ ++ ⟨#[32, 10]⟩ ++ x = str (91 :: JsonP.soFar true (ls ++ [x.data.toList]))) := Lib.hid (by
                have := HSn.out
                rw [if_neg hls] at this
                rw [← this]
                apply ByteArray.ext
                simp [str, JsonP.pre])
              clear HSn
              go_wp2_with (at_builtin; (refine wpList_append_one (E := Eval) (base := w.heap.size) (l := rs) ⟨rk, rt, ra, rn, rc, rb, rm, rd⟩ ⟨W.heap.size, 0, none⟩ 1 rfl (.tmp 58) (.tmp 60) 35 rfl 72 elValE rfl (HSx.out.own.alloc _) rfl (news_new W _ _ _ rfl) (by unfold maxLen; omega) (by omega) ?_); intro v5 w5 ho5 hg5 hat5; have HS5 := Lib.hid (HAd.out _ _ _ ho5 hg5 hat5); clear ho5 hg5 hat5)
              exact ⟨⟨i + 1, ls ++ [x.data.toList], js ++ [j], rs ++ [⟨rk, rt, ra, rn, rc, rb, rm, rd⟩], by omega, by omega, by rw [List.length_append, List.length_singleton, HM.out]; omega, by rw [← HSe.out], by rw [List.length_append, List.length_singleton, HM.out]; first | rfl | simp, by simp, HS5⟩, by simp only [intOf]; omega⟩
    · have hend : ¬ (i : Int) < (L.length : Int) ∨ ((i : Int) < (L.length : Int) ∧ ¬ (i : Int) < 100) := by omega
      obtain ⟨q, hq⟩ : ∃ q, str (91 :: JsonP.soFar f ls) = q := ⟨_, rfl⟩
      have hqs : q.size ≤ 1000000 := by
        rw [← hq, str_size, List.length_cons]
        have := soFar_len f ls (fun l hl => (HS.out.ok l hl).1)
        omega
      have hqw : q ++ ⟨#[93]⟩ = str (91 :: (JsonP.soFar f ls ++ [93])) := by
        rw [← hq, show (⟨#[93]⟩ : ByteArray) = str [93] from rfl, str_app]
        rfl
      have hwl : (q ++ ⟨#[93]⟩).data.toList = 91 :: (JsonP.soFar f ls ++ [93]) := by rw [hqw]; simp [str]
      rw [hq]
      have hn1 : ¬ q.size + 1 > 9223372036854775807 := by omega
      have hlj := reads_len _ _ HS.out.reads
      obtain ⟨m, hm⟩ : ∃ m, ls.length = m := ⟨_, rfl⟩
      have HM := Lib.hid hm
      have hmb : (m : Int) ≤ 100 := by omega
      have hjm : js.length = m := by omega
      have HJm := Lib.hid hjm
      have hwp := whole_parse f ls js HS.out.reads (by omega) HS.out.ok
      rw [hm]
      rw [← hwl] at hwp
      have HSz := Lib.hid HS.out.bel.size
      clear hq hqw hwl hm hlj hjm hlt
      rcases hend with h | ⟨h, h2⟩
      all_goals
        rcases hwp with hwp | hwp
        · have HP : Hid (∀ W, Calls Try.prog 12 #[.string (q ++ ⟨#[93]⟩)] W fun e w' => Below W.heap.size W w' ∧ ∃ (rc1 rc2 : Nat) (ra1 ra2 : Option Addr) (rs2 : List Raw), e = .returned (.tuple #[.agg #[.int .i64 5, .string ⟨#[]⟩, .slice ra1 0 rc1, .slice ra2 m rc2], .agg #[.int .i64 0, .int .i64 0]]) ∧ rs2.length = m ∧ SeqP Eval w' (fun k => W.heap.size ≤ k) ra2 rs2 ∧ LiesL w' (fun k => W.heap.size ≤ k) js rs2) := Lib.hid fun W => by
            have := parse_any (q ++ ⟨#[93]⟩) W
            rw [hwp] at this
            refine this.mono fun e w' hh => ?_
            obtain ⟨hb, ⟨rk, rt, ra, rn, rc, rb, rm, rd⟩, he, hl⟩ := hh
            unfold Lies at hl
            obtain ⟨e1, e2, e3, _, _, _, e4, _, _, rs2, e5, e6, e7⟩ := hl
            simp only [List.length_nil] at e1 e2 e3 e4
            subst e1; subst e2; subst e3; subst e4
            rw [HJm.out] at he e5
            exact ⟨hb, _, _, _, _, rs2, he, e5, e6, e7⟩
          clear hwp
          go_upto_region 18 with (go_at_call 12; refine (HP.out _).mono ?_; rintro e w2 ⟨hb2, rc1, rc2, ra1, ra2, rs2, rfl, hn2, hs2, hl2⟩)
          have hz2 := hb2.size
          have hST : Below w2.heap.size w2 ((w2.alloc (.cells #[.int .i64 5, .string ⟨#[]⟩, .slice ra1 0 rc1, .slice ra2 m rc2] 37)).alloc (.cells #[.int .i64 0, .int .i64 0] 29)) := ((Below.refl _ w2).alloc (Nat.le_refl _) _).alloc (by simp) _
          have hSW := HS.out.below (hb2.trans (hST.mono hz2))
          have hs3 := hs2.on (Stand.below hST)
          have hl3 := LiesL.on (Stand.below hST) _ _ hl2
          have hV : ((w2.alloc (.cells #[.int .i64 5, .string ⟨#[]⟩, .slice ra1 0 rc1, .slice ra2 m rc2] 37)).alloc (.cells #[.int .i64 0, .int .i64 0] 29)).heap[w2.heap.size]? = some (.cells #[.int .i64 5, .string ⟨#[]⟩, .slice ra1 0 rc1, .slice ra2 m rc2] 37) := (Below.heap_alloc _ _ _ (by simp)).trans (heap_alloc_new w2 _)
          have hF : ((w2.alloc (.cells #[.int .i64 5, .string ⟨#[]⟩, .slice ra1 0 rc1, .slice ra2 m rc2] 37)).alloc (.cells #[.int .i64 0, .int .i64 0] 29)).heap[w2.heap.size + 1]? = some (.cells #[.int .i64 0, .int .i64 0] 29) := by
            have := heap_alloc_new (w2.alloc (.cells #[.int .i64 5, .string ⟨#[]⟩, .slice ra1 0 rc1, .slice ra2 m rc2] 37)) (.cells #[.int .i64 0, .int .i64 0] 29)
            simpa using this
          generalize (w2.alloc (.cells #[.int .i64 5, .string ⟨#[]⟩, .slice ra1 0 rc1, .slice ra2 m rc2] 37)).alloc (.cells #[.int .i64 0, .int .i64 0] 29) = W at hSW hs3 hl3 hV hF ⊢
          obtain ⟨V, hVe⟩ : ∃ V, w2.heap.size = V := ⟨_, rfl⟩
          rw [hVe] at hV hF ⊢
          have cV := fun o => Lib.cell_of_heap hV o
          have cF := fun o => Lib.cell_of_heap hF o
          have hfe := faultEq_same 0 0
          have HSW := Lib.hid hSW
          have HS3 := Lib.hid hs3
          have HL3 := Lib.hid hl3
          have HV := Lib.hid hV
          obtain ⟨A7, c7, h7, h8, h9⟩ := hSW.own.form
          have hrm : rs.length = m := by rw [hSW.len, HJm.out]
          rw [hrm] at h7 h8
          subst h7
          have HR := Lib.hid hrm
          have HN2 := Lib.hid hn2
          clear hb2 hST hs2 hl2 hz2 hSW hs3 hl3 hVe hV hF HS HP hrm hn2
          go_upto_region 22 with fail
          clear cV cF hfe
          go_wp2_with fail
          go_loopw [13] (fun s13 wr => ∃ k : Nat, k ≤ m ∧ s13 = .int .i64 k ∧ Hid (Below W.heap.size W wr)) (fun s13 _ => m + 1 - (intOf s13).toNat)
          case atStart => exact ⟨0, Nat.zero_le _, rfl, Lib.hid (Below.refl _ W)⟩
          case round =>
            obtain ⟨k, hk, rfl, HB⟩ := hrel
            by_cases hkm : k < m
            · have hkk : (k : Int) < (m : Int) := by omega
              have hk0 : (0 : Int) ≤ (k : Int) := by omega
              obtain ⟨p1, o1, rfl, q1, x1⟩ := HS3.out.raws_ (by rw [HN2.out]; omega)
              obtain ⟨p2, o2, rfl, q2, x2⟩ := (HSW.out.own.seqP (A := fun _ => True) (by rw [HR.out]) (fun _ _ => trivial)).raws_ (by rw [HR.out]; omega)
              have hkj : k < js.length := by rw [HJm.out]; exact hkm
              have hk1 : k < rs2.length := by rw [HN2.out]; exact hkm
              have hk2 : k < rs.length := by rw [HR.out]; exact hkm
              have y1 := x1 k hk1
              have y2 := x2 k hk2
              have k1 := LiesL.at_ js rs2 k hkj hk1 HL3.out
              have k2 := LiesL.at_ js rs k hkj hk2 HSW.out.lies
              obtain ⟨z1, hz1⟩ : ∃ z, rs2[k]'hk1 = z := ⟨_, rfl⟩
              obtain ⟨z2, hz2⟩ : ∃ z, rs[k]'hk2 = z := ⟨_, rfl⟩
              rw [hz1] at y1 k1
              rw [hz2] at y2 k2
              have HC : Hid (∀ wx, Below W.heap.size W wx → Calls Try.prog 13 #[.agg z1.cells.toArray, .agg z2.cells.toArray] wx fun e w' => e = .returned (.bool true) ∧ Below wx.heap.size wx w') := Lib.hid fun wx hb =>
                equal_all _ _ (Nat.le_refl _) z1 z2 _ _ wx (Lies.on (Stand.below hb) _ _ k1) (Lies.on (Stand.below hb) _ _ k2)
              obtain ⟨a1, a2, a3, a4, a5, a6, a7, a8⟩ := z1
              obtain ⟨d1, d2, d3, d4, d5, d6, d7, d8⟩ := z2
              have zV := (Array.getElem?_eq_some_iff.1 HV.out).1
              simp only [Raw.cells] at HC
              clear x1 x2 k1 k2 hz1 hz2 hkj hk1 hk2
              go_upto_region 25 with fail
              go_cut [103] (fun s103 wx => s103 = .bool false ∧ Below W.heap.size W wx)
              case first =>
                have lb : ∀ (x : Later wr), Below W.heap.size W x.here := fun x => HB.out.trans (x.below.mono HB.out.size)
                have l1 : ∀ (x : Later wr) o, x.here.cell? ⟨V, o, none⟩ = #[Value.int .i64 5, .string ⟨#[]⟩, .slice ra1 0 rc1, .slice (some ⟨p1, o1, none⟩) m rc2][o]? := fun x o => ((lb x).cell (p := ⟨V, o, none⟩) zV).trans (Lib.cell_of_heap HV.out o)
                have l3 : ∀ (x : Later wr), x.here.cell? ⟨p1, o1 + k * 4, none⟩ = some (.int .i64 a1) := fun x => ((lb x).cell (p := ⟨p1, o1 + k * 4, none⟩) q1).trans (y1 0 (by decide))
                have l4 : ∀ (x : Later wr), x.here.cell? ⟨p1, o1 + k * 4 + 1, none⟩ = some (.string a2) := fun x => ((lb x).cell (p := ⟨p1, o1 + k * 4 + 1, none⟩) q1).trans (y1 1 (by decide))
                have l5 : ∀ (x : Later wr), x.here.cell? ⟨p1, o1 + k * 4 + 2, none⟩ = some (.slice a3 a4 a5) := fun x => ((lb x).cell (p := ⟨p1, o1 + k * 4 + 2, none⟩) q1).trans (y1 2 (by decide))
                have l6 : ∀ (x : Later wr), x.here.cell? ⟨p1, o1 + k * 4 + 3, none⟩ = some (.slice a6 a7 a8) := fun x => ((lb x).cell (p := ⟨p1, o1 + k * 4 + 3, none⟩) q1).trans (y1 3 (by decide))
                have m3 : ∀ (x : Later wr), x.here.cell? ⟨p2, o2 + k * 4, none⟩ = some (.int .i64 d1) := fun x => ((lb x).cell (p := ⟨p2, o2 + k * 4, none⟩) q2).trans (y2 0 (by decide))
                have m4 : ∀ (x : Later wr), x.here.cell? ⟨p2, o2 + k * 4 + 1, none⟩ = some (.string d2) := fun x => ((lb x).cell (p := ⟨p2, o2 + k * 4 + 1, none⟩) q2).trans (y2 1 (by decide))
                have m5 : ∀ (x : Later wr), x.here.cell? ⟨p2, o2 + k * 4 + 2, none⟩ = some (.slice d3 d4 d5) := fun x => ((lb x).cell (p := ⟨p2, o2 + k * 4 + 2, none⟩) q2).trans (y2 2 (by decide))
                have m6 : ∀ (x : Later wr), x.here.cell? ⟨p2, o2 + k * 4 + 3, none⟩ = some (.slice d6 d7 d8) := fun x => ((lb x).cell (p := ⟨p2, o2 + k * 4 + 3, none⟩) q2).trans (y2 3 (by decide))
                have HLb := Lib.hid lb
                clear y1 y2 lb
                refine wp_region_later (by kernel_rfl) (by kernel_rfl) ?_
                repeat (any_goals (first
                  | go_big_quiet_step ((go_at_call 13; exact later_of (HC.out _ (HLb.out _))))
                  | quiet_step ((go_at_call 13; exact later_of (HC.out _ (HLb.out _))))))
                all_goals
                  refine wpQuiet_nil ?_
                  first | rintro _ ⟨⟨wx, hbx⟩, rfl⟩ | (rintro ⟨wx, hbx⟩)
                  go_wp2
                  go_meet
                  exact ⟨rfl, HLb.out ⟨_, hbx⟩⟩
              case rest =>
                obtain ⟨rfl, hbx⟩ := hcut
                have HB2 := Lib.hid hbx
                clear hbx y1 y2
                go_wp2
                exact ⟨⟨k + 1, by omega, by simp, HB2⟩, by simp only [intOf]; omega⟩
            · obtain rfl : k = m := by omega
              have hkk : ¬ (k : Int) < (k : Int) := by omega
              go_wp2
              go_ret
              exact ⟨rfl, HSW.out.bel.trans (HB.out.mono HSW.out.bel.size)⟩
        · have HP : Hid (∀ W, Calls Try.prog 12 #[.string (q ++ ⟨#[93]⟩)] W fun e w' => Below W.heap.size W w' ∧ ∃ p : Int, e = .returned (.tuple #[.agg #[.int .i64 0, .string ⟨#[]⟩, .slice none 0 0, .slice none 0 0], .agg #[.int .i64 21, .int .i64 p]])) := Lib.hid fun W => by
            have := parse_any (q ++ ⟨#[93]⟩) W
            rw [hwp] at this
            exact this
          clear hwp
          go_wp2_with (go_at_call 12; refine (HP.out _).mono ?_; rintro e w2 ⟨hb2, p, rfl⟩)
          go_ret
          exact ⟨rfl, HS.out.bel.trans ((((hb2.mono HSz.out)).alloc (by have := hb2.size; have := HSz.out; omega) _).alloc (by have := hb2.size; have := HSz.out; simp; omega) _)⟩

end Go.Proofs.Ytemcflfgoelpiaa
