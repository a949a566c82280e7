/- Chapter 08, the walk of SetsLaws. -/
import Derived.Test.YtapjkahpblbnmaaMade
namespace Go.Proofs.Ytapjkahpblbnmaa
open Go.RowKit SetPure

theorem hold_size_eq {W w : World} {L : List (Value × (Int → Bool))} {v : Value} {f : Int → Bool} (h : Hold W w L) (hv : (v, f) ∈ L) {k : Nat} (hk : cntF f = k) : Calls Try.prog 16 #[v] w fun e w' => e = .returned (.int .i64 (k : Nat)) ∧ Hold W w' L := by
  subst hk
  exact hold_size h hv

set_option maxHeartbeats 4000000 in
theorem laws_any (A A' A2 : Option Addr) (c c' c2 : Nat) (l m n : List Rg) (w : World) (hl : l.length ≤ 8796093022208) (hm : m.length ≤ 8796093022208) (hn : n.length ≤ 8796093022208) (hA : SeqAt Epair w w.heap.size A l) (hA' : SeqAt Epair w w.heap.size A' m) (hA2 : SeqAt Epair w w.heap.size A2 n) :
    Calls Try.prog 5 #[.slice A l.length c, .slice A' m.length c', .slice A2 n.length c2] w fun e w' => e = .returned (.bool true) ∧ Below w.heap.size w w' := by
  have HA := Lib.hid hA
  have HA' := Lib.hid hA'
  have HA2 := Lib.hid hA2
  clear hA hA' hA2
  have HM1 : Hid True := trivial
  have HM2 : Hid True := trivial
  have HM3 : Hid True := trivial
  obtain ⟨k1, hk1⟩ : ∃ k, cntF (fun z => inB l z && inR z) = k := ⟨_, rfl⟩
  obtain ⟨k2, hk2⟩ : ∃ k, cntF (fun z => inR z && !(inB l z && inR z)) = k := ⟨_, rfl⟩
  obtain ⟨k3, hk3⟩ : ∃ k, cntF (fun z => inB l z && inR z || inB m z && inR z) = k := ⟨_, rfl⟩
  obtain ⟨k4, hk4⟩ : ∃ k, cntF (fun z => inB m z && inR z) = k := ⟨_, rfl⟩
  obtain ⟨k5, hk5⟩ : ∃ k, cntF (fun z => inB l z && inR z && (inB m z && inR z)) = k := ⟨_, rfl⟩
  have b1 : k1 ≤ 1114112 := hk1 ▸ cntF_le _
  have b2 : k2 ≤ 1114112 := hk2 ▸ cntF_le _
  have b3 : k3 ≤ 1114112 := hk3 ▸ cntF_le _
  have b4 : k4 ≤ 1114112 := hk4 ▸ cntF_le _
  have b5 : k5 ≤ 1114112 := hk5 ▸ cntF_le _
  have s1 : k1 + k2 = 1114112 := by rw [← hk1, ← hk2]; exact cntF_not _
  have s2 : k3 + k5 = k1 + k4 := by rw [← hk1, ← hk3, ← hk4, ← hk5]; exact cntF_both _ _
  have d1 : ((k1 : Int) + (k2 : Int) == 1114112) = true := by simp; omega
  have d2 : ((k3 : Int) == (k1 : Int) + (k4 : Int) - (k5 : Int)) = true := by simp; omega
  have e1 : (k1 : Int) + (k2 : Int) = 1114112 := by omega
  have e2 : (k3 : Int) = (k1 : Int) + (k4 : Int) - (k5 : Int) := by omega
  have HK1 := Lib.hid hk1
  have HK2 := Lib.hid hk2
  have HK3 := Lib.hid hk3
  have HK4 := Lib.hid hk4
  have HK5 := Lib.hid hk5
  clear hk1 hk2 hk3 hk4 hk5
  go_enter Try.func5, Try.ntmps5
  go_wp2_with (first
    | (go_at_call 8; refine (speaks_any _).mono ?_; rintro e w1 ⟨rfl, hb1⟩; have hH := (Hold.start w).go hb1)
    | (go_at_call 9; clear HM1; refine (made_any A c l _ hl ((HA.out.below hH.1).more hH.1.size)).mono ?_; rintro e w1 ⟨v1, vb1, rfl, hs1, _, hb1⟩; have hH := hH.add hb1 hs1)
    | (go_at_call 9; clear HM2; refine (made_any A' c' m _ hm ((HA'.out.below hH.1).more hH.1.size)).mono ?_; rintro e w1 ⟨v2, vb2, rfl, hs2, _, hb2⟩; have hH := hH.add hb2 hs2)
    | (go_at_call 9; clear HM3; refine (made_any A2 c2 n _ hn ((HA2.out.below hH.1).more hH.1.size)).mono ?_; rintro e w1 ⟨v3, vb3, rfl, hs3, _, hb3⟩; have hH := hH.add hb3 hs3)
    | (go_at_call 11; refine (hold_same hH (by repeat (first | exact List.Mem.head _ | apply List.Mem.tail)) (by repeat (first | exact List.Mem.head _ | apply List.Mem.tail)) (by intro z hz; simp only [hz]; cases inB l z <;> cases inB m z <;> cases inB n z <;> rfl)).mono ?_; rintro e w1 ⟨rfl, hH⟩)
    | (go_at_call 16; refine (hold_size_eq hH (by repeat (first | exact List.Mem.head _ | apply List.Mem.tail)) (by first | (with_reducible exact HK1.out) | (with_reducible exact HK2.out) | (with_reducible exact HK3.out) | (with_reducible exact HK4.out) | (with_reducible exact HK5.out))).mono ?_; rintro e w1 ⟨rfl, hH⟩)
    | (go_at_call 12; refine (hold_or hH (by repeat (first | exact List.Mem.head _ | apply List.Mem.tail)) (by repeat (first | exact List.Mem.head _ | apply List.Mem.tail))).mono ?_; rintro e w1 ⟨x1, rfl, hH⟩)
    | (go_at_call 13; refine (hold_and hH (by repeat (first | exact List.Mem.head _ | apply List.Mem.tail)) (by repeat (first | exact List.Mem.head _ | apply List.Mem.tail))).mono ?_; rintro e w1 ⟨x1, rfl, hH⟩)
    | (go_at_call 14; refine (hold_not hH (by repeat (first | exact List.Mem.head _ | apply List.Mem.tail))).mono ?_; rintro e w1 ⟨x1, rfl, hH⟩)
    | (go_at_call 15; refine (hold_less hH (by repeat (first | exact List.Mem.head _ | apply List.Mem.tail)) (by repeat (first | exact List.Mem.head _ | apply List.Mem.tail))).mono ?_; rintro e w1 ⟨x1, rfl, hH⟩))
  go_ret
  exact ⟨rfl, hH.1⟩

end Go.Proofs.Ytapjkahpblbnmaa
