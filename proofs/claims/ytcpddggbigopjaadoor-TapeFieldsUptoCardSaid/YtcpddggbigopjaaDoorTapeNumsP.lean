/- Chapter 06, the plain law of TapeNumbers. -/
import Derived.Test.YtcpddggbigopjaaDoorTapePure
namespace Go.Proofs.YtcpddggbigopjaaDoor
open Go.RowKit
namespace TapePure

theorem octF_step {m : Int} {d : UInt8} {l : List UInt8} (h0 : 0 ≤ m) (hm : m ≤ most) (hd : (d.toNat : Int) = 48 + m % 8) : octF (m / 8) (d :: l) = octF m l := by
  show (if _ then (if _ then _ else _) else _) = _
  have e : 8 * (m / 8) + ((d.toNat : Int) - 48) = m := by rw [hd]; omega
  rw [if_pos (by rw [hd]; omega), e, if_neg (by omega)]
theorem dropWhile_all {α : Type} {p : α → Bool} : ∀ {l : List α}, (∀ x ∈ l, p x = true) → l.dropWhile p = []
  | [], _ => rfl
  | x :: t, h => by
    rw [List.dropWhile_cons_of_pos (h x (List.mem_cons_self ..))]
    exact dropWhile_all fun y hy => h y (List.mem_cons_of_mem _ hy)
theorem trimS_all {l cs : List UInt8} (h : ∀ x ∈ l, cs.contains x = true) : Lib.trimS l cs = [] := by
  have e : Lib.trimRightS l cs = [] := by
    unfold Lib.trimRightS
    rw [List.reverse_eq_nil_iff]
    exact dropWhile_all fun x hx => h x (List.mem_reverse.1 hx)
  unfold Lib.trimS
  rw [e]; rfl
theorem octF_blank {v : Int} {l : List UInt8} (h : ∀ x ∈ l, x = 32 ∨ x = 0) : octF v l = (v, true) := by
  cases l with
  | nil => rfl
  | cons c t =>
    show (if _ then _ else _) = _
    have hc : c = 32 ∨ c = 0 := h c (List.mem_cons_self ..)
    rw [if_neg (by rcases hc with rfl | rfl <;> decide), if_pos (trimS_all (fun x hx => by rcases h x hx with rfl | rfl <;> decide))]
theorem numL_low {l : List UInt8} (hn : l ≠ []) (h : ∀ x ∈ l, (x.toNat : Int) < 128) : numL l = octF 0 (Lib.trimLeftS l [32]) := by
  cases l with
  | nil => exact absurd rfl hn
  | cons c t =>
    show (if _ then _ else _) = _
    rw [if_neg (by have := h c (List.mem_cons_self ..); omega)]
theorem num_blank {b1 ds b2 : List UInt8} {n : Int} (h1 : ∀ x ∈ b1, x = 32) (hd : ∀ x ∈ ds, 48 ≤ (x.toNat : Int) ∧ (x.toNat : Int) ≤ 55) (h2 : ∀ x ∈ b2, x = 32 ∨ x = 0) (hn : ∀ rest, octF 0 (ds ++ rest) = octF n rest) :
    numL (b1 ++ ds ++ b2 ++ [32]) = (n, true) := by
  have hb : ∀ x ∈ b2 ++ [32], x = 32 ∨ x = 0 := fun x hx => by
    rcases List.mem_append.1 hx with hx | hx
    · exact h2 x hx
    · exact .inl (List.mem_singleton.1 hx)
  rw [numL_low (by simp) (fun x hx => by
    simp only [List.mem_append, List.mem_singleton] at hx
    rcases hx with ((hx | hx) | hx) | rfl
    · rw [h1 x hx]; decide
    · have := hd x hx; omega
    · rcases h2 x hx with rfl | rfl <;> decide
    · decide)]
  have e : Lib.trimLeftS (b1 ++ ds ++ b2 ++ [32]) [32] = Lib.trimLeftS (ds ++ (b2 ++ [32])) [32] := by
    unfold Lib.trimLeftS
    rw [List.append_assoc, List.append_assoc, List.dropWhile_append_of_pos (fun x hx => by rw [h1 x hx]; decide)]
  rw [e]
  cases ds with
  | nil =>
    have h0 := hn []
    have : (0 : Int) = n := congrArg Prod.fst h0
    subst this
    rw [List.nil_append]
    refine octF_blank fun x hx => hb x ?_
    unfold Lib.trimLeftS at hx
    exact (List.dropWhile_suffix _).subset hx
  | cons d t =>
    have hdd := hd d (List.mem_cons_self ..)
    have e2 : Lib.trimLeftS ((d :: t) ++ (b2 ++ [32])) [32] = (d :: t) ++ (b2 ++ [32]) := by
      unfold Lib.trimLeftS
      rw [List.cons_append, List.dropWhile_cons_of_neg]
      intro hc
      have : d = 32 := by simpa using hc
      rw [this] at hdd
      exact absurd hdd.1 (by decide)
    rw [e2, hn, octF_blank hb]

def b8 (l : List Int) : List UInt8 := l.map fun n => UInt8.ofNat n.toNat
theorem b8_nat {x : Int} (h0 : 0 ≤ x) (h1 : x ≤ 255) : ((UInt8.ofNat x.toNat).toNat : Int) = x := by rw [UInt8.toNat_ofNat']; omega
theorem binF_step {v x : Int} {l : List UInt8} (h0 : 0 ≤ x) (h1 : x ≤ 255) (hm : 256 * v + x ≤ most) : binF v (UInt8.ofNat x.toNat :: l) = binF (256 * v + x) l := by
  show (if _ then _ else _) = _
  rw [b8_nat h0 h1, if_neg (by omega)]
theorem num_bin {l : List UInt8} {n : Int} (h : binF 0 l = (n, true)) : numL (128 :: l) = (n, true) := by
  have e : numL (128 :: l) = if 128 ≤ ((128 : UInt8).toNat : Int) then binF (((128 : UInt8).toNat : Int) - 128) l else octF 0 (Lib.trimLeftS (128 :: l) [32]) := rfl
  rw [e, if_pos (by decide)]
  exact h

end TapePure
end Go.Proofs.YtcpddggbigopjaaDoor
