/- The walk of ucd's Class at the names of unions, at 'Any', and at what is no name. -/
import Derived.Test.YtpidgcjioocmhaaUcdClass
namespace Go.Proofs.Ytpidgcjioocmhaa
open Go.RowKit SetPure Go.WideShapes

def nameU (u : Nat) : ByteArray := if u = 0 then ⟨#[76]⟩ else ⟨#[78]⟩
def idxU (u : Nat) : List Nat := if u = 0 then [0, 1, 2] else [3]
theorem nameU_apart : ∀ u : Fin 2, ∀ j : Fin 15, nameC j ≠ nameU u := by decide +kernel
theorem nameU_not_any : ∀ u : Fin 2, nameU u ≠ ⟨#[65, 110, 121]⟩ := by decide +kernel
theorem idxU_lt : ∀ u : Fin 2, ∀ i ∈ idxU u, i < 15 := by decide

/-- What 'unions' hands back. -/
def RetUnions (w : World) (e : Ending) (w' : World) : Prop := ∃ g : Nat, e = .returned (.slice (some ⟨g, 0, none⟩) 2 2) ∧ Below w.heap.size w w' ∧ g < w'.heap.size ∧
  ∀ u, u < 2 → w'.cell? ⟨g, u * 2, none⟩ = some (.string (nameU u)) ∧ ∃ b, w'.cell? ⟨g, u * 2 + 1, none⟩ = some (.slice (some ⟨b, 0, none⟩) (idxU u).length (idxU u).length) ∧ b < w'.heap.size ∧
    ∀ k, k < (idxU u).length → w'.cell? ⟨b, k, none⟩ = some (.string (nameC ((idxU u).getD k 0)))

set_option maxHeartbeats 800000 in
theorem unions_any (w : World) : Calls Try.prog 41 #[] w (RetUnions w) := by
  go_enter Try.func41, Try.ntmps41
  go_wp2
  go_ret
  refine ⟨w.heap.size + 2, rfl, (((Below.refl _ w).alloc (Nat.le_refl _) _).alloc (by simp) _).alloc (by simp <;> omega) _, by simp, fun u hu => ?_⟩
  obtain rfl | rfl : u = 0 ∨ u = 1 := by omega
  · refine ⟨by go_simp; rfl, w.heap.size, by go_simp; rfl, by simp; omega, fun k hk => ?_⟩
    have hk : k < 3 := hk
    obtain rfl | rfl | rfl : k = 0 ∨ k = 1 ∨ k = 2 := by omega
    all_goals (go_simp; rfl)
  · refine ⟨by go_simp; rfl, w.heap.size + 1, by go_simp; rfl, by simp, fun k hk => ?_⟩
    have hk : k < 1 := hk
    obtain rfl : k = 0 := by omega
    go_simp; rfl

/-- What is in the first k classes of a union. -/
def unionF (idx : List Nat) (k : Nat) (z : Int) : Bool := (idx.take k).any fun i => inB (rangesC i) z && inR z
theorem unionF_succ {idx : List Nat} {k : Nat} (hk : k < idx.length) (z : Int) : unionF idx (k + 1) z = (unionF idx k z || (inB (rangesC (idx.getD k 0)) z && inR z)) := by
  unfold unionF
  rw [List.take_add_one, List.getElem?_eq_getElem hk, List.getD_eq_getElem?_getD, List.getElem?_eq_getElem hk, List.any_append]
  simp
theorem Hold.congr {W w : World} {L : List (Value × (Int → Bool))} {v : Value} {f g : Int → Bool} (h : Hold W w ((v, f) :: L)) (e : ∀ z, f z = g z) : Hold W w ((v, g) :: L) :=
  ⟨h.1, fun p hp => by
    rcases List.mem_cons.1 hp with rfl | hp
    · exact (h.get (List.Mem.head _)).congr e
    · exact h.2 p (List.mem_cons_of_mem _ hp)⟩
theorem Hold.tail {W w : World} {L : List (Value × (Int → Bool))} {p : Value × (Int → Bool)} (h : Hold W w (p :: L)) : Hold W w L := ⟨h.1, fun q hq => h.2 q (List.mem_cons_of_mem _ hq)⟩
theorem Hold.drop2 {W w : World} {L : List (Value × (Int → Bool))} {p q r : Value × (Int → Bool)} (h : Hold W w (p :: q :: r :: L)) : Hold W w (p :: L) :=
  ⟨h.1, fun s hs => by
    rcases List.mem_cons.1 hs with rfl | hs
    · exact h.2 _ (List.Mem.head _)
    · exact h.2 s (List.mem_cons_of_mem _ (List.mem_cons_of_mem _ (List.mem_cons_of_mem _ hs)))⟩
theorem Hold.base {W w0 w : World} {L : List (Value × (Int → Bool))} (h : Hold W w L) (hb : Below w0.heap.size w0 w) : Hold w0 w L := ⟨hb, h.2⟩
theorem Hold.rebase {W w0 w : World} {L : List (Value × (Int → Bool))} (h0 : Below W.heap.size W w0) (h : Hold w0 w L) : Hold W w L := ⟨h0.trans (h.1.mono h0.size), h.2⟩
theorem Hold.nil_ {W w : World} {L : List (Value × (Int → Bool))} (h : Hold W w L) : Hold W w ((.slice none 0 0, fun _ => false) :: L) :=
  h.add (Below.refl _ w) ⟨[], ⟨⟨none, 0, rfl, by simp, by simp [maxLen], SeqAt.nil_⟩, trivial⟩, fun _ => rfl⟩

set_option maxHeartbeats 3200000 in
theorem class_union (u : Nat) (hu : u < 2) (W w : World) (L : List (Value × (Int → Bool))) (hH : Hold W w L) :
    Calls Try.prog 21 #[.string (nameU u)] w fun e w' => ∃ x, e = .returned (.tuple #[x, .bool true]) ∧ Hold W w' ((x, unionF (idxU u) (idxU u).length) :: L) := by
  have hb0 : ((nameU u).toList == [65, 110, 121]) = false := by
    have h := str_ne (nameU_not_any ⟨u, hu⟩)
    rwa [any_list] at h
  have HN := Lib.hid (fun j (hj : j < 15) => nameU_apart ⟨u, hu⟩ ⟨j, hj⟩)
  have HU := Lib.hid (show u = 1 → nameU 0 ≠ nameU u by rintro rfl; decide +kernel)
  have HI := Lib.hid (fun k (hk : k < (idxU u).length) => idxU_lt ⟨u, hu⟩ ((idxU u).getD k 0) (by rw [List.getD_eq_getElem?_getD, List.getElem?_eq_getElem hk]; exact List.getElem_mem hk))
  have hil : (idxU u).length ≤ 3 := by obtain rfl | rfl : u = 0 ∨ u = 1 := by omega
                                       · decide
                                       · decide
  obtain ⟨s, hs⟩ : ∃ s, nameU u = s := ⟨_, rfl⟩
  obtain ⟨idx, hidx⟩ : ∃ idx, idxU u = idx := ⟨_, rfl⟩
  rw [hs] at hb0 HN HU ⊢
  rw [hidx] at HI hil ⊢
  simp only at HN
  go_enter Try.func21, Try.ntmps21
  go_wp2_with (go_at_call 39; refine (classes_any _).mono ?_; rintro e w1 ⟨g, rfl, hb1, hg, hT⟩; have HT := Lib.hid hT; clear hT)
  have hH1 := hH.go hb1
  go_loopw [20] (fun k wr => ∃ j : Nat, j ≤ 15 ∧ k = .int .i64 j ∧ Below w1.heap.size w1 wr) (fun k _ => 16 - (intOf k).toNat)
  case atStart => exact ⟨0, by omega, rfl, Below.refl _ _⟩
  case round =>
    obtain ⟨j, hj, rfl, hbw⟩ := hrel
    have hz := hbw.size
    by_cases hlt : j < 15
    · obtain ⟨t0, A, t1, hA⟩ := HT.out j hlt
      have c0 := (hbw.cell (p := ⟨g, j * 2, none⟩) hg).trans t0
      have c1 := (hbw.cell (p := ⟨g, j * 2 + 1, none⟩) hg).trans t1
      clear t0 t1 hA
      have hne := str_ne (HN.out j hlt)
      generalize nameC j = t at *
      go_wp2
      go_roundw
      case rel => exact ⟨j + 1, by omega, by go_num, hbw.alloc hz _⟩
      case measure => simp [intOf]; omega
    · obtain rfl : j = 15 := by omega
      have hH2 := hH1.go hbw
      clear HT HN hH1 hbw hz
      go_wp2_with (go_at_call 41; refine (unions_any _).mono ?_; rintro e w2 ⟨g2, rfl, hb2, hg2, hT2⟩; have HT := Lib.hid hT2; clear hT2)
      have hH3 := hH2.go hb2
      go_loopw [34] (fun k wr => ∃ m : Nat, m ≤ u ∧ k = .int .i64 m ∧ Below w2.heap.size w2 wr) (fun k _ => 3 - (intOf k).toNat)
      case atStart => exact ⟨0, by omega, rfl, Below.refl _ _⟩
      case round =>
        obtain ⟨m, hm, rfl, hbw⟩ := hrel
        have hz := hbw.size
        obtain ⟨t0, b, t1, hb, hC⟩ := HT.out m (by omega)
        have c0 := (hbw.cell (p := ⟨g2, m * 2, none⟩) hg2).trans t0
        have c1 := (hbw.cell (p := ⟨g2, m * 2 + 1, none⟩) hg2).trans t1
        have HC := Lib.hid hC
        clear t0 t1 hC
        rcases Nat.lt_or_eq_of_le hm with hlt | rfl
        · obtain ⟨rfl, rfl⟩ : m = 0 ∧ u = 1 := by omega
          have hne := str_ne (HU.out rfl)
          generalize nameU 0 = t at *
          go_wp2
          go_roundw
          case rel => exact ⟨1, by omega, by go_num, hbw.alloc hz _⟩
          case measure => simp [intOf]
        · rw [hs] at c0
          rw [hidx] at c1 HC
          have hH4 := hH3.go hbw
          have hW2 := hH3.1
          have hm2 : (m : Int) < 2 := by omega
          clear HT HU hH2 hH3
          go_wp2
          go_loopw [8, 10, 11, 12, 45] (fun v _ _ _ i wx => ∃ k : Nat, k ≤ idx.length ∧ i = .int .i64 k ∧ Hold w2 wx ((v, unionF idx k) :: L))
            (fun _ _ _ _ i _ => idx.length + 1 - (intOf i).toNat)
          case atStart => exact ⟨0, by omega, rfl, (((hH4.alloc _).base (hbw.alloc hz _)).nil_).congr (fun z => by simp [unionF])⟩
          case round =>
            obtain ⟨k, hk, rfl, hHk⟩ := hrel
            have hbk := hHk.1
            by_cases hlk : k < idx.length
            · have ck := (hbk.cell (p := ⟨b, k, none⟩) hb).trans (HC.out k hlk)
              have hn := HI.out k hlk
              have HF := Lib.hid (fun z => (unionF_succ hlk z).symm)
              generalize idx.getD k 0 = n at *
              have HB := Lib.hid (class_base n hn w2 _ _ hHk)
              generalize nameC n = t at *
              have hki : (k : Int) < (idx.length : Int) := by omega
              go_wp2_with (first
                | (go_at_call 21; refine HB.out.mono ?_; rintro e w5 ⟨x5, rfl, hH5⟩)
                | (go_at_call 19; refine (hold_or hH5 (by repeat (first | exact List.Mem.head _ | apply List.Mem.tail)) (by repeat (first | exact List.Mem.head _ | apply List.Mem.tail))).mono ?_; rintro e w6 ⟨x6, rfl, hH6⟩))
              go_roundw
              case rel => exact ⟨k + 1, by omega, by go_num, hH6.drop2.congr HF.out⟩
              case measure => simp [intOf]; omega
            · obtain rfl : k = idx.length := by omega
              go_wp2
              go_ret2
              exact ⟨_, rfl, Hold.rebase hW2 hHk⟩

end Go.Proofs.Ytpidgcjioocmhaa
