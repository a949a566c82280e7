/- The parts of a sine and a cosine; numbers cut to whole ones. -/
import Derived.Test.YtnjmefjcaiepfaaDoorWOrd
namespace Go.Proofs.YtnjmefjcaiepfaaDoor.WaveP

/-- The numbers of a polynomial, one after the other. -/
theorem poly5 {z a0 c1 c2 c3 c4 c5 r : Nat} (h : poly z [c1, c2, c3, c4, c5] a0 = some r) : ∃ m1 a1 m2 a2 m3 a3 m4 a4 m5, mulO a0 z = some m1 ∧ addO m1 c1 = some a1 ∧ mulO a1 z = some m2 ∧ addO m2 c2 = some a2 ∧ mulO a2 z = some m3 ∧ addO m3 c3 = some a3 ∧ mulO a3 z = some m4 ∧ addO m4 c4 = some a4 ∧ mulO a4 z = some m5 ∧ addO m5 c5 = some r := by
  unfold poly at h
  obtain ⟨m1, h1, h⟩ := Option.bind_eq_some_iff.1 h
  obtain ⟨a1, g1, h⟩ := Option.bind_eq_some_iff.1 h
  unfold poly at h
  obtain ⟨m2, h2, h⟩ := Option.bind_eq_some_iff.1 h
  obtain ⟨a2, g2, h⟩ := Option.bind_eq_some_iff.1 h
  unfold poly at h
  obtain ⟨m3, h3, h⟩ := Option.bind_eq_some_iff.1 h
  obtain ⟨a3, g3, h⟩ := Option.bind_eq_some_iff.1 h
  unfold poly at h
  obtain ⟨m4, h4, h⟩ := Option.bind_eq_some_iff.1 h
  obtain ⟨a4, g4, h⟩ := Option.bind_eq_some_iff.1 h
  unfold poly at h
  obtain ⟨m5, h5, h⟩ := Option.bind_eq_some_iff.1 h
  obtain ⟨a5, g5, h⟩ := Option.bind_eq_some_iff.1 h
  unfold poly at h
  injection h with h
  subst h
  exact ⟨m1, a1, m2, a2, m3, a3, m4, a4, m5, h1, g1, h2, g2, h3, g3, h4, g4, h5, g5⟩
/-- What 'kern' works out. -/
structure Kern (z zz h h1 z4 pc mc c z3 ps ms s : Nat) : Prop where
  a : mulO z z = some zz
  b : mulO 4602678819172646912 zz = some h
  c' : subO 4607182418800017408 h = some h1
  d : mulO zz zz = some z4
  e : poly zz cosT 13666448263388469915 = some pc
  f : mulO z4 pc = some mc
  g : addO h1 mc = some c
  i : mulO z zz = some z3
  j : poly zz sinT 4460209587652500685 = some ps
  k : mulO z3 ps = some ms
  l : addO z ms = some s
theorem kern_parts {z s c : Nat} (h : kern z = some (s, c)) : ∃ zz h h1 z4 pc mc z3 ps ms, Kern z zz h h1 z4 pc mc c z3 ps ms s := by
  unfold kern at h
  obtain ⟨zz, a, h⟩ := Option.bind_eq_some_iff.1 h
  obtain ⟨hh, b, h⟩ := Option.bind_eq_some_iff.1 h
  obtain ⟨h1, c', h⟩ := Option.bind_eq_some_iff.1 h
  obtain ⟨z4, d, h⟩ := Option.bind_eq_some_iff.1 h
  obtain ⟨pc, e, h⟩ := Option.bind_eq_some_iff.1 h
  obtain ⟨mc, f, h⟩ := Option.bind_eq_some_iff.1 h
  obtain ⟨c0, g, h⟩ := Option.bind_eq_some_iff.1 h
  obtain ⟨z3, i, h⟩ := Option.bind_eq_some_iff.1 h
  obtain ⟨ps, j, h⟩ := Option.bind_eq_some_iff.1 h
  obtain ⟨ms, k, h⟩ := Option.bind_eq_some_iff.1 h
  obtain ⟨s0, l, h⟩ := Option.bind_eq_some_iff.1 h
  injection h with h
  injection h with e1 e2
  subst e1; subst e2
  exact ⟨_, _, _, _, _, _, _, _, _, a, b, c', d, e, f, g, i, j, k, l⟩
/-- What 'left' works out. -/
structure Left (x y a x1 b x2 c z : Nat) : Prop where
  a' : mulO y 4605249456957292544 = some a
  b' : subO x a = some x1
  c' : mulO y 4495793288086814720 = some b
  d : subO x1 b = some x2
  e : mulO y 4388835458085048688 = some c
  f : subO x2 c = some z
theorem left_parts {x y j j' z : Nat} (h : left x y j = some (j', z)) : j' = j ∧ ∃ a x1 b x2 c, Left x y a x1 b x2 c z := by
  unfold left at h
  obtain ⟨a, h1, h⟩ := Option.bind_eq_some_iff.1 h
  obtain ⟨x1, h2, h⟩ := Option.bind_eq_some_iff.1 h
  obtain ⟨b, h3, h⟩ := Option.bind_eq_some_iff.1 h
  obtain ⟨x2, h4, h⟩ := Option.bind_eq_some_iff.1 h
  obtain ⟨c, h5, h⟩ := Option.bind_eq_some_iff.1 h
  obtain ⟨z0, h6, h⟩ := Option.bind_eq_some_iff.1 h
  injection h with h
  injection h with e1 e2
  subst e1; subst e2
  exact ⟨rfl, _, _, _, _, _, h1, h2, h3, h4, h5, h6⟩
theorem reduce_parts {x j z : Nat} (h : reduce x = some (j, z)) : ∃ m, mulO x 4608412980311869571 = some m ∧
    ((truncN m % 2 = 1 ∧ j = truncN m + 1 ∧ ∃ y, addO (natW (truncN m)) 4607182418800017408 = some y ∧ ∃ a x1 b x2 c, Left x y a x1 b x2 c z) ∨ (truncN m % 2 = 0 ∧ j = truncN m ∧ ∃ a x1 b x2 c, Left x (natW (truncN m)) a x1 b x2 c z)) := by
  unfold reduce at h
  obtain ⟨m, h1, h⟩ := Option.bind_eq_some_iff.1 h
  rw [strict_eq] at h
  refine ⟨m, h1, ?_⟩
  by_cases hp : truncN m % 2 = 1
  · rw [beq_t hp, cond_true] at h
    obtain ⟨y, h2, h⟩ := Option.bind_eq_some_iff.1 h
    obtain ⟨e, hl⟩ := left_parts h
    exact .inl ⟨hp, e, y, h2, hl⟩
  · rw [beq_f hp, cond_false] at h
    obtain ⟨e, hl⟩ := left_parts h
    exact .inr ⟨by omega, e, hl⟩
theorem sincos_parts {x s c : Nat} (h : sincosP x = some (s, c)) : ∃ j z s0 c0, reduce x = some (j, z) ∧ kern z = some (s0, c0) ∧
    ((j = 0 ∧ s = s0 ∧ c = c0) ∨ (j = 2 ∧ s = c0 ∧ c = flipW s0) ∨ (j = 4 ∧ s = flipW s0 ∧ c = flipW c0)) := by
  unfold sincosP at h
  obtain ⟨⟨j, z⟩, h1, h⟩ := Option.bind_eq_some_iff.1 h
  obtain ⟨⟨s0, c0⟩, h2, h⟩ := Option.bind_eq_some_iff.1 h
  refine ⟨j, z, s0, c0, h1, h2, ?_⟩
  dsimp only at h
  by_cases e0 : j = 0
  · rw [beq_t e0, cond_true] at h
    injection h with h; injection h with h3 h4
    exact .inl ⟨e0, h3.symm, h4.symm⟩
  · rw [beq_f e0, cond_false] at h
    by_cases e2 : j = 2
    · rw [beq_t e2, cond_true] at h
      injection h with h; injection h with h3 h4
      exact .inr (.inl ⟨e2, h3.symm, h4.symm⟩)
    · rw [beq_f e2, cond_false] at h
      by_cases e4 : j = 4
      · rw [beq_t e4, cond_true] at h
        injection h with h; injection h with h3 h4
        exact .inr (.inr ⟨e4, h3.symm, h4.symm⟩)
      · rw [beq_f e4, cond_false] at h; cases h

/-- Cut to a whole number. -/
theorem trunc_eq {x : Nat} (h : fin x = true) (hs : sg x = false) : (fmt.read x).toInt .zero = some ((truncN x : Nat) : Int) := by
  rw [read_fin h, hs]
  have hcut : ∀ n d, Ieee.Toward.zero.cut false n d = n / 2 ^ d := fun n d => by
    unfold Ieee.Toward.cut
    dsimp only
    rw [Nat.one_shiftLeft]
    show n / 2 ^ min d (n.log2 + 2) + 0 = _
    rw [Nat.add_zero]
    rcases Nat.le_total d (n.log2 + 2) with h1 | h1
    · rw [Nat.min_eq_left h1]
    · rw [Nat.min_eq_right h1]
      have a1 := Nat.lt_log2_self (n := n)
      have a2 : 2 ^ (n.log2 + 1) ≤ 2 ^ (n.log2 + 2) := Nat.pow_le_pow_right (by decide) (by omega)
      have a3 : 2 ^ (n.log2 + 2) ≤ 2 ^ d := Nat.pow_le_pow_right (by decide) h1
      rw [Nat.div_eq_of_lt (by omega), Nat.div_eq_of_lt (by omega)]
  unfold Ieee.Datum.toInt Ieee.Datum.integral
  dsimp only
  rw [hcut, Nat.shiftLeft_eq]
  show some (Ieee.signed false _ 0) = _
  unfold Ieee.signed truncN
  rw [if_neg (by decide), Nat.shiftLeft_zero]
  congr 2
  by_cases hp : 1074 ≤ pl (rg x)
  · rw [ble_t hp, cond_true, show ((pl (rg x) : Int) - 1074).toNat = pl (rg x) - 1074 by omega, show (-((pl (rg x) : Int) - 1074)).toNat = 0 by omega, Nat.pow_zero, Nat.div_one]
  · rw [ble_f hp, cond_false, show ((pl (rg x) : Int) - 1074).toNat = 0 by omega, show (-((pl (rg x) : Int) - 1074)).toNat = 1074 - pl (rg x) by omega, Nat.pow_zero, Nat.mul_one]
theorem wd_false (r : Nat) : wd false r = r := by unfold wd; rw [cond_false]
theorem nearest_nat (n : Nat) : fmt.nearest false n 0 = natW n := by
  rw [nearest_eq (p := c74) (b := 0) _ _ _ (by unfold c74; omega), word_wd, wd_false]
  unfold natW
  exact Eq.refl _
theorem natW_eq (n : Nat) : fmt.write (.number false n 0) = natW n := nearest_nat n

end Go.Proofs.YtnjmefjcaiepfaaDoor.WaveP
