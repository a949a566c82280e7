/- The walk of the law JsonNumbers. -/
import Derived.Test.YtemcflfgoelpiaaQuote
import Derived.Test.YtemcflfgoelpiaaJsonS
import Derived.Test.YtemcflfgoelpiaaJsonNumsP
import Derived.Test.YtemcflfgoelpiaaFaultEq
namespace Go.Proofs.Ytemcflfgoelpiaa
open Go.RowKit

theorem quote_abc : JsonP.quote (DecP.runes (ByteArray.mk #[97, 10, 1]).data.toList) = [34, 97, 92, 110, 92, 117, 48, 48, 48, 49, 34] := by
  rw [show (ByteArray.mk #[97, 10, 1]).data.toList = [97, 10, 1] from rfl, DecP.runes_ascii _ (by decide), DecP.runes_ascii _ (by decide), DecP.runes_ascii _ (by decide), DecP.runes_nil]
  decide
set_option maxRecDepth 100000 in
theorem speaks_any (w : World) : Calls Try.prog 7 #[] w fun e w' => e = .returned (.bool true) ∧ Below w.heap.size w w' := by
  have HQ : Hid (∀ W, Calls Try.prog 8 #[.string ⟨#[97, 10, 1]⟩] W fun e w' => e = .returned (.string ⟨#[34, 97, 92, 110, 92, 117, 48, 48, 48, 49, 34]⟩) ∧ Below W.heap.size W w') := Lib.hid fun W => by
    have := quote_any ⟨#[97, 10, 1]⟩ W (by decide)
    rw [quote_abc] at this
    exact this
  go_enter Try.func7, Try.ntmps7
  go_wp2_with (go_at_call 8; refine (HQ.out _).mono ?_; rintro e w1 ⟨rfl, hb1⟩)
  go_ret
  exact ⟨rfl, hb1⟩

set_option maxRecDepth 100000 in
theorem show_num (t : ByteArray) (k a : Value) (w : World) : Calls Try.prog 15 #[.agg #[.int .i64 3, .string t, k, a]] w fun e w' => e = .returned (.string t) ∧ Below w.heap.size w w' := by
  go_enter Try.func15, Try.ntmps15
  go_wp2
  go_ret
  exact ⟨rfl, (Below.refl _ w).alloc (Nat.le_refl _) _⟩

/-- What Parse tells of a text of numbers' characters. -/
theorem nums_parse {l : List UInt8} (h : ∀ c ∈ l, JsonP.isNum c = true) : (∃ c : Nat, c ≠ 0 ∧ parseT l = .bad c) ∨ (l.length ≤ 1048576 ∧ parseT l = .ok (.mk 3 l [] []) [] ∧ JsonP.Dg l [] ∧ JsonP.HeadOk (JsonP.opt JsonP.isMinus l)) := by
  unfold parseT
  split
  · exact .inl ⟨2, by decide, rfl⟩
  · rename_i hl
    rw [JsonP.num_x h]
    rcases JsonP.num_parse h with e | ⟨e, h1, h2⟩
    · exact .inl ⟨20, by decide, e⟩
    · exact .inr ⟨by omega, e, h1, h2⟩
theorem str_list (s : ByteArray) : str s.data.toList = s := by
  cases s; simp [str]
theorem num_cases (c : UInt8) : (48 ≤ c.toNat ∧ c.toNat ≤ 57) ∨ c = 45 ∨ c = 43 ∨ c = 46 ∨ c = 101 ∨ c = 69 ∨ (JsonP.isNum c = false ∧ c.toNat ≠ 45 ∧ c.toNat ≠ 43 ∧ c.toNat ≠ 46 ∧ c.toNat ≠ 101 ∧ c.toNat ≠ 69 ∧ (c.toNat < 48 ∨ 57 < c.toNat)) := by
  have : ∀ k : Fin 256, (48 ≤ (UInt8.ofNat k.val).toNat ∧ (UInt8.ofNat k.val).toNat ≤ 57) ∨ (UInt8.ofNat k.val) = 45 ∨ (UInt8.ofNat k.val) = 43 ∨ (UInt8.ofNat k.val) = 46 ∨ (UInt8.ofNat k.val) = 101 ∨ (UInt8.ofNat k.val) = 69 ∨ (JsonP.isNum (UInt8.ofNat k.val) = false ∧ (UInt8.ofNat k.val).toNat ≠ 45 ∧ (UInt8.ofNat k.val).toNat ≠ 43 ∧ (UInt8.ofNat k.val).toNat ≠ 46 ∧ (UInt8.ofNat k.val).toNat ≠ 101 ∧ (UInt8.ofNat k.val).toNat ≠ 69 ∧ ((UInt8.ofNat k.val).toNat < 48 ∨ 57 < (UInt8.ofNat k.val).toNat)) := by decide +kernel
  have h := this ⟨c.toNat, UInt8.toNat_lt c⟩
  simpa using h
theorem dig_num {c : UInt8} (h1 : 48 ≤ c.toNat) (h2 : c.toNat ≤ 57) : JsonP.isNum c = true := by
  have : JsonP.isDg c = true := by simp [JsonP.isDg, UInt8.le_iff_toNat_le, h1, h2]
  simp [JsonP.isNum, this]
theorem take_num {s : ByteArray} {k : Nat} (hk : k < s.size) (h : ∀ c ∈ s.data.toList.take k, JsonP.isNum c = true) (hc : JsonP.isNum s[k] = true) : ∀ c ∈ s.data.toList.take (k + 1), JsonP.isNum c = true := by
  intro c hm
  have hkl : k < s.data.toList.length := by rw [Array.length_toList]; exact hk
  rw [List.take_succ_eq_append_getElem hkl, List.mem_append, List.mem_singleton] at hm
  rcases hm with hm | hm
  · exact h c hm
  · rw [hm, Array.getElem_toList]; exact hc

/-- What a text of numbers' characters that reads tells of its first and its last bytes. -/
theorem last_dig {s : ByteArray} (h : JsonP.Dg s.data.toList []) : ∃ h0 : 0 < s.size, 48 ≤ (s[s.size - 1]'(by omega)).toNat ∧ (s[s.size - 1]'(by omega)).toNat ≤ 57 := by
  obtain ⟨q, c, hc, e⟩ := h
  have hl : s.data.toList.length = q.length + 1 := by rw [e]; simp
  have hz : s.size = q.length + 1 := by rw [← hl, Array.length_toList]; rfl
  refine ⟨by omega, ?_⟩
  have hg : s[s.size - 1]'(by omega) = c := by
    have h1 : s.data.toList[s.size - 1]? = some c := by rw [e, hz]; simp
    rw [List.getElem?_eq_getElem (by omega), Option.some.injEq, Array.getElem_toList] at h1
    exact h1
  rw [hg]
  simpa [JsonP.isDg, UInt8.le_iff_toNat_le] using hc

set_option maxRecDepth 100000 in
set_option maxHeartbeats 6400000 in
theorem numbers_any (s : ByteArray) (w : World) (hs : s.size ≤ 140737488355328) : Calls Try.prog 6 #[.string s] w fun e w' => e = .returned (.bool true) ∧ Below w.heap.size w w' := by
  go_enter Try.func6, Try.ntmps6
  go_upto_region 3 with (go_at_call 7; refine (speaks_any _).mono ?_; rintro e w1 ⟨rfl, hb1⟩)
  have HB1 := Lib.hid hb1
  clear hb1
  go_wp2_with fail
  go_loopw [3] (fun s3 wr => ∃ k : Nat, k ≤ s.size ∧ s3 = .int .i64 k ∧ wr = w1 ∧ Hid (∀ c ∈ s.data.toList.take k, JsonP.isNum c = true)) (fun s3 _ => s.size + 1 - (intOf s3).toNat)
  case atStart => exact ⟨0, Nat.zero_le _, rfl, rfl, Lib.hid (by simp)⟩
  case round =>
    obtain ⟨k, hk, rfl, rfl, HN⟩ := hrel
    by_cases hlt : k < s.size
    · have hii : (k : Int) < (s.size : Int) := by omega
      have hi0 : (0 : Int) ≤ (k : Int) := by omega
      obtain ⟨c, hc⟩ : ∃ c, s[k] = c := ⟨_, rfl⟩
      have HN2 : Hid (JsonP.isNum c = true → ∀ c ∈ s.data.toList.take (k + 1), JsonP.isNum c = true) := Lib.hid fun h => take_num hlt HN.out (by rw [hc]; exact h)
      rcases num_cases c with ⟨h1, h2⟩ | h | h | h | h | h | ⟨h, n1, n2, n3, n4, n5, h1 | h1⟩
      · have m1 : ¬ (c.toNat : Int) < 48 := by omega
        have m2 : ¬ 57 < (c.toNat : Int) := by omega
        have HG := Lib.hid (HN2.out (dig_num h1 h2))
        clear HN2 h1 h2
        go_wp2
        exact ⟨⟨k + 1, by omega, by simp, trivial, HG⟩, by simp only [intOf]; omega⟩
      · subst h
        have HG := Lib.hid (HN2.out (by decide))
        clear HN2
        go_wp2
        exact ⟨⟨k + 1, by omega, by simp, trivial, HG⟩, by simp only [intOf]; omega⟩
      · subst h
        have HG := Lib.hid (HN2.out (by decide))
        clear HN2
        go_wp2
        exact ⟨⟨k + 1, by omega, by simp, trivial, HG⟩, by simp only [intOf]; omega⟩
      · subst h
        have HG := Lib.hid (HN2.out (by decide))
        clear HN2
        go_wp2
        exact ⟨⟨k + 1, by omega, by simp, trivial, HG⟩, by simp only [intOf]; omega⟩
      · subst h
        have HG := Lib.hid (HN2.out (by decide))
        clear HN2
        go_wp2
        exact ⟨⟨k + 1, by omega, by simp, trivial, HG⟩, by simp only [intOf]; omega⟩
      · subst h
        have HG := Lib.hid (HN2.out (by decide))
        clear HN2
        go_wp2
        exact ⟨⟨k + 1, by omega, by simp, trivial, HG⟩, by simp only [intOf]; omega⟩
      · have m1 : (c.toNat : Int) < 48 := by omega
        have m2 : ¬ (c.toNat : Int) = 45 := by omega
        have m3 : ¬ (c.toNat : Int) = 43 := by omega
        have m4 : ¬ (c.toNat : Int) = 46 := by omega
        have m5 : ¬ (c.toNat : Int) = 101 := by omega
        have m6 : ¬ (c.toNat : Int) = 69 := by omega
        clear HN2 HN n1 n2 n3 n4 n5 h1 h
        go_wp2
        go_ret
        exact ⟨rfl, HB1.out⟩
      · have m0 : ¬ (c.toNat : Int) < 48 := by omega
        have m1 : 57 < (c.toNat : Int) := by omega
        have m2 : ¬ (c.toNat : Int) = 45 := by omega
        have m3 : ¬ (c.toNat : Int) = 43 := by omega
        have m4 : ¬ (c.toNat : Int) = 46 := by omega
        have m5 : ¬ (c.toNat : Int) = 101 := by omega
        have m6 : ¬ (c.toNat : Int) = 69 := by omega
        clear HN2 HN n1 n2 n3 n4 n5 h1 h
        go_wp2
        go_ret
        exact ⟨rfl, HB1.out⟩
    · obtain rfl : k = s.size := by omega
      have hall : ∀ c ∈ s.data.toList, JsonP.isNum c = true := fun c hc => HN.out c (by rw [List.take_of_length_le (by rw [Array.length_toList]; exact Nat.le_refl _)]; exact hc)
      have hii : ¬ (s.size : Int) < (s.size : Int) := by omega
      clear HN
      have HM1 := HB1.out.size
      rcases nums_parse hall with ⟨c, hc, hp⟩ | ⟨hsz, hp, hd, hh⟩
      · have HP : Hid (∀ W, Calls Try.prog 12 #[.string s] W fun e w' => Below W.heap.size W w' ∧ ∃ p : Int, e = .returned (.tuple #[.agg #[.int .i64 0, .string ⟨#[]⟩, .slice none 0 0, .slice none 0 0], .agg #[.int .i64 c, .int .i64 p]])) := Lib.hid fun W => by
          have := parse_any s W
          rw [hp] at this
          exact this
        have hfe : ∀ p : Int, faultEq c p 0 0 = false := fun p => faultEq_code (by omega)
        clear hp hall hc
        go_wp2_with (go_at_call 12; refine (HP.out _).mono ?_; rintro e w2 ⟨hb2, p, rfl⟩)
        go_ret
        exact ⟨rfl, HB1.out.trans (((hb2.mono HM1).alloc (by have := hb2.size; omega) _).alloc (by have := hb2.size; simp; omega) _)⟩
      · have HP : Hid (∀ W, Calls Try.prog 12 #[.string s] W fun e w' => Below W.heap.size W w' ∧ ∃ (a1 a2 : Option Addr) (c1 c2 : Nat), e = .returned (.tuple #[.agg #[.int .i64 3, .string s, .slice a1 0 c1, .slice a2 0 c2], .agg #[.int .i64 0, .int .i64 0]])) := Lib.hid fun W => by
          have := parse_any s W
          rw [hp] at this
          refine this.mono fun e w' h => ?_
          obtain ⟨hb, ⟨rk, rt, ra, rn, rc, ra2, rn2, rc2⟩, he, hl⟩ := h
          obtain ⟨e1, e2, e3, _, _, _, e4, _⟩ := hl
          simp only [List.length_nil] at e1 e2 e3 e4
          subst e1; subst e2; subst e3; subst e4
          rw [str_list] at he
          exact ⟨hb, _, _, _, _, he⟩
        obtain ⟨h0, hl1, hl2⟩ := last_dig hd
        have HH := Lib.hid hh
        clear hp hall hd hh
        have HW1 := Lib.hid HM1
        have hz : (s.data.toList).length = s.size := Array.length_toList
        have h0i : (0 : Int) < (s.size : Int) := by omega
        have h1i : (0 : Int) ≤ (s.size : Int) - 1 := by omega
        have h2i : (s.size : Int) - 1 < (s.size : Int) := by omega
        have hsi : (s.size : Int) ≤ 1048576 := by omega
        clear HM1 hsz
        go_upto_region 12 with (go_at_call 12; refine (HP.out _).mono ?_; rintro e w2 ⟨hb2, a1, a2, c1, c2, rfl⟩)
        have hz2 := hb2.size
        have hbw : Below w.heap.size w ((w2.alloc (.cells #[.int .i64 3, .string s, .slice a1 0 c1, .slice a2 0 c2] 37)).alloc (.cells #[.int .i64 0, .int .i64 0] 29)) := HB1.out.trans (((hb2.mono HW1.out).alloc (by have := HW1.out; omega) _).alloc (by have := HW1.out; simp; omega) _)
        have hV : ((w2.alloc (.cells #[.int .i64 3, .string s, .slice a1 0 c1, .slice a2 0 c2] 37)).alloc (.cells #[.int .i64 0, .int .i64 0] 29)).heap[w2.heap.size]? = some (.cells #[.int .i64 3, .string s, .slice a1 0 c1, .slice a2 0 c2] 37) := (Below.heap_alloc _ _ _ (by simp)).trans (heap_alloc_new w2 _)
        generalize (w2.alloc (.cells #[.int .i64 3, .string s, .slice a1 0 c1, .slice a2 0 c2] 37)).alloc (.cells #[.int .i64 0, .int .i64 0] 29) = W at hbw hV ⊢
        obtain ⟨V, hVe⟩ : ∃ V, w2.heap.size = V := ⟨_, rfl⟩
        rw [hVe] at hV ⊢
        have hcV := fun o => Lib.cell_of_heap hV o
        have HBW := Lib.hid hbw
        clear hb2 hz2 hVe hV hbw
        obtain ⟨c0, hc0⟩ : ∃ c0, s[0]'(by omega) = c0 := ⟨_, rfl⟩
        go_upto_if 60 with fail
        go_cut [7] (fun s7 wx => ∃ D : ByteArray, s7 = .string D ∧ Hid (JsonP.HeadOk D.data.toList) ∧ D.size ≤ 1048576 ∧ wx = W)
        case first =>
          have hsl : s.data.toList = c0 :: s.data.toList.drop 1 := by
            have := drop_cons (s := s) (i := 0) h0
            rw [List.drop_zero, hc0] at this
            exact this
          by_cases h45 : c0 = 45
          · subst h45
            have he : (s.extract 1 s.size).data.toList = JsonP.opt JsonP.isMinus s.data.toList := by
              rw [ByteArray.data_extract, Array.toList_extract, List.extract_eq_take_drop, hsl]
              show List.take (s.size - 1) (s.data.toList.drop 1) = s.data.toList.drop 1
              exact List.take_of_length_le (by rw [List.length_drop, hz]; exact Nat.le_refl _)
            have HE := Lib.hid he
            clear he hsl
            go_wp2
            go_meet
            refine ⟨_, rfl, Lib.hid (by rw [HE.out]; exact HH.out), ?_, rfl⟩
            rw [ByteArray.size_extract]
            omega
          · have hn45 : ¬ (c0.toNat : Int) = 45 := fun e => h45 (UInt8.toNat_inj.1 (by rw [show (45 : UInt8).toNat = 45 from rfl]; omega))
            have he : s.data.toList = JsonP.opt JsonP.isMinus s.data.toList := by
              rw [hsl]
              show _ = (JsonP.has JsonP.isMinus (c0 :: s.data.toList.drop 1)).getD _
              rw [show JsonP.has JsonP.isMinus (c0 :: s.data.toList.drop 1) = none by
                show (if JsonP.isMinus c0 = true then _ else _) = _
                rw [if_neg (by simpa [JsonP.isMinus] using h45)]]
              rfl
            have HE := Lib.hid he
            clear he hsl h45
            go_wp2
            go_meet
            refine ⟨_, rfl, Lib.hid (by rw [HE.out]; exact HH.out), ?_, rfl⟩
            omega
        case rest =>
          obtain ⟨D, rfl, HD, hD, rfl⟩ := hcut
          obtain ⟨d0, dt, hdl, hdg, h48⟩ := HD.out
          have hDz : D.size = dt.length + 1 := by
            have := congrArg List.length hdl
            rw [Array.length_toList] at this
            simpa using this
          have hD0 : 0 < D.size := by omega
          have hDi : (0 : Int) < (D.size : Int) := by omega
          have hg0 : D[0]'hD0 = d0 := by
            have h1 := drop_cons (s := D) (i := 0) hD0
            rw [List.drop_zero, hdl] at h1
            injection h1 with h1 _
            exact h1.symm
          have hdg2 : 48 ≤ d0.toNat ∧ d0.toNat ≤ 57 := by simpa [JsonP.isDg, UInt8.le_iff_toNat_le] using hdg
          have k1 : (48 : Int) ≤ (d0.toNat : Int) := by omega
          have k2 : (d0.toNat : Int) ≤ 57 := by omega
          obtain ⟨L, hL⟩ : ∃ L, s[s.size - 1]'(by omega) = L := ⟨_, rfl⟩
          rw [hL] at hl1 hl2
          have k3 : (48 : Int) ≤ (L.toNat : Int) := by omega
          have k4 : (L.toNat : Int) ≤ 57 := by omega
          have hL2 : s[((s.size : Int) - 1).toNat]'(by omega) = L := by rw [← hL]; congr 1; omega
          clear HD hdg hdg2 HH
          by_cases hc : d0 = 48
          · subst hc
            rcases h48 rfl with rfl | ⟨e, t', rfl, he⟩
            · have hDe : D.size = 1 := by rw [hDz]; rfl
              clear h48 hdl hDz k1 k2
              go_wp2_with (go_at_call 15; refine (show_num _ _ _ _).mono ?_; rintro e w3 ⟨rfl, hb3⟩)
              go_ret
              exact ⟨rfl, HBW.out.trans (hb3.mono HBW.out.size)⟩
            · have hDe : ¬ (D.size : Int) = 1 := by rw [hDz]; simp only [List.length_cons]; omega
              have hD1 : 1 < D.size := by rw [hDz]; simp only [List.length_cons]; omega
              have hDi1 : (1 : Int) < (D.size : Int) := by omega
              have hg1 : D[1]'hD1 = e := by
                have h1 := drop_cons (s := D) (i := 1) hD1
                rw [hdl] at h1
                injection h1 with h1 _
                exact h1.symm
              clear h48 hdl hDz k1 k2
              rcases he with rfl | rfl | rfl
              all_goals
                go_wp2_with (go_at_call 15; refine (show_num _ _ _ _).mono ?_; rintro e w3 ⟨rfl, hb3⟩)
                go_ret
                exact ⟨rfl, HBW.out.trans (hb3.mono HBW.out.size)⟩
          · have k5 : ¬ (d0.toNat : Int) = 48 := fun e => hc (UInt8.toNat_inj.1 (by rw [show (48 : UInt8).toNat = 48 from rfl]; omega))
            clear h48 hdl hDz hc
            go_wp2_with (go_at_call 15; refine (show_num _ _ _ _).mono ?_; rintro e w3 ⟨rfl, hb3⟩)
            go_ret
            exact ⟨rfl, HBW.out.trans (hb3.mono HBW.out.size)⟩

end Go.Proofs.Ytemcflfgoelpiaa