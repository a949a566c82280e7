/- The plain law of UTF-8's bytes: what a scalar's bytes are, and which rows of ranges of bytes tell a range of scalars. -/
import Derived.Test.YtemjgnpkhomofaaSetPure
namespace Go.Proofs.Ytemjgnpkhomofaa
open SetPure
namespace UtfPure

def isScalar (r : Int) : Bool := decide (0 ≤ r) && decide (r ≤ 1114111) && (decide (r < 55296) || decide (57343 < r))
def encU (r : Int) : List Int :=
  if r < 128 then [r] else if r < 2048 then [192 + r / 64, 128 + r % 64] else if r < 65536 then [224 + r / 4096, 128 + r / 64 % 64, 128 + r % 64]
  else [240 + r / 262144, 128 + r / 4096 % 64, 128 + r / 64 % 64, 128 + r % 64]
/-- The class of a scalar: how many bytes it has, and on which side of the numbers that are none it lies. -/
def klass (r : Int) : Nat := if r < 128 then 1 else if r < 2048 then 2 else if r < 55296 then 3 else if r < 57344 then 0 else if r < 65536 then 4 else 5

def fits : List Rg → List Int → Bool
  | [], [] => true
  | r :: w, b :: s => (decide (r.1 ≤ b) && decide (b ≤ r.2)) && fits w s
  | _, _ => false
def rowOf (a b : Int) : List Rg := (encU a).zip (encU b)

/-- Where a range is cut in two, at the first of some powers at which it must be. -/
def cutAt (a b : Int) : List Int → Option Int
  | [] => none
  | p :: ps => if a / p = b / p then none else if a % p ≠ 0 then some (a / p * p + (p - 1)) else if b % p ≠ p - 1 then some (b / p * p - 1) else cutAt a b ps
def levels : List Int := [64, 4096, 262144]
/-- The pieces of a range of one class. -/
def piecesF : Nat → Int → Int → List Rg
  | 0, a, b => [(a, b)]
  | n + 1, a, b => match cutAt a b levels with
    | none => [(a, b)]
    | some m => piecesF n a m ++ piecesF n (m + 1) b
def pieces (a b : Int) : List Rg := piecesF (b - a).toNat a b

theorem cut_lt64 {a b m : Int} (h0 : 0 ≤ a) (hab : a ≤ b) (h : cutAt a b levels = some m) : a ≤ m ∧ m < b := by
  unfold levels at h
  simp only [cutAt] at h
  split at h
  · cases h
  · split at h
    · injection h with h; omega
    · split at h
      · injection h with h; omega
      · split at h
        · cases h
        · split at h
          · injection h with h; omega
          · split at h
            · injection h with h; omega
            · split at h
              · cases h
              · split at h
                · injection h with h; omega
                · split at h
                  · injection h with h; omega
                  · cases h
theorem piecesF_more (n m : Nat) : ∀ (a b : Int), 0 ≤ a → a ≤ b → b - a ≤ n → b - a ≤ m → piecesF n a b = piecesF m a b := by
  induction n generalizing m with
  | zero =>
    intro a b h0 h1 h2 h3
    obtain rfl : a = b := by omega
    cases m with
    | zero => rfl
    | succ m => simp [piecesF, cutAt, levels]
  | succ n ih =>
    intro a b h0 h1 h2 h3
    cases m with
    | zero =>
      obtain rfl : a = b := by omega
      simp [piecesF, cutAt, levels]
    | succ m =>
      simp only [piecesF]
      cases hc : cutAt a b levels with
      | none => rfl
      | some c =>
        obtain ⟨c1, c2⟩ := cut_lt64 h0 h1 hc
        simp only
        rw [ih m a c h0 c1 (by omega) (by omega), ih m (c + 1) b (by omega) (by omega) (by omega) (by omega)]
theorem pieces_none {a b : Int} (h : cutAt a b levels = none) : pieces a b = [(a, b)] := by
  unfold pieces
  cases (b - a).toNat with
  | zero => rfl
  | succ n => simp [piecesF, h]
theorem pieces_some {a b m : Int} (h0 : 0 ≤ a) (hab : a ≤ b) (h : cutAt a b levels = some m) : pieces a b = pieces a m ++ pieces (m + 1) b := by
  obtain ⟨c1, c2⟩ := cut_lt64 h0 hab h
  unfold pieces
  obtain ⟨n, hn⟩ : ∃ n, (b - a).toNat = n + 1 := ⟨(b - a).toNat - 1, by omega⟩
  rw [hn]
  simp only [piecesF, h]
  rw [piecesF_more n (m - a).toNat a m h0 c1 (by omega) (by omega), piecesF_more n (b - (m + 1)).toNat (m + 1) b (by omega) (by omega) (by omega) (by omega)]

/-- A piece: a range of one class that no power cuts. -/
structure Leaf (r : Rg) : Prop where
  lo : 0 ≤ r.1
  le : r.1 ≤ r.2
  hi : r.2 ≤ 1114111
  same : klass r.1 = klass r.2
  some_ : klass r.1 ≠ 0
  whole : r.2 < 128 ∨ cutAt r.1 r.2 levels = none

theorem klass_between {a b z : Int} (h1 : a ≤ z) (h2 : z ≤ b) (h : klass a = klass b) : klass z = klass a := by
  unfold klass at *
  repeat' split at h
  all_goals (repeat' split) <;> omega

/-- The pieces of a range rise, one behind the other, without a gap. -/
theorem pieces_spec (n : Nat) : ∀ (a b : Int), (b - a).toNat ≤ n → 0 ≤ a → a ≤ b → b ≤ 1114111 → klass a = klass b → klass a ≠ 0 →
    (∀ r ∈ pieces a b, Leaf r ∧ a ≤ r.1 ∧ r.2 ≤ b) ∧ (pieces a b).Pairwise (fun p q => p.2 < q.1) ∧ ∀ z, InS (pieces a b) z ↔ a ≤ z ∧ z ≤ b := by
  induction n with
  | zero =>
    intro a b hn h0 h1 h2 h3 h4
    obtain rfl : a = b := by omega
    have hc : cutAt a a levels = none := by simp [cutAt, levels]
    rw [pieces_none hc]
    refine ⟨fun r hr => ?_, List.pairwise_singleton _ _, fun z => by simp [InS]⟩
    obtain rfl := List.mem_singleton.1 hr
    exact ⟨⟨h0, h1, h2, h3, h4, .inr hc⟩, Int.le_refl _, Int.le_refl _⟩
  | succ n ih =>
    intro a b hn h0 h1 h2 h3 h4
    cases hc : cutAt a b levels with
    | none =>
      rw [pieces_none hc]
      refine ⟨fun r hr => ?_, List.pairwise_singleton _ _, fun z => by simp [InS]⟩
      obtain rfl := List.mem_singleton.1 hr
      exact ⟨⟨h0, h1, h2, h3, h4, .inr hc⟩, Int.le_refl _, Int.le_refl _⟩
    | some m =>
      obtain ⟨c1, c2⟩ := cut_lt64 h0 h1 hc
      rw [pieces_some h0 h1 hc]
      have km := klass_between c1 (Int.le_of_lt c2) h3
      have km1 := klass_between (show a ≤ m + 1 by omega) (show m + 1 ≤ b by omega) h3
      obtain ⟨i1, i2, i3⟩ := ih a m (by omega) h0 c1 (by omega) km.symm h4
      obtain ⟨j1, j2, j3⟩ := ih (m + 1) b (by omega) (by omega) (by omega) h2 (km1.trans h3) (by rw [km1]; exact h4)
      refine ⟨fun r hr => ?_, List.pairwise_append.2 ⟨i2, j2, fun p hp q hq => ?_⟩, fun z => ?_⟩
      · rcases List.mem_append.1 hr with hr | hr
        · obtain ⟨k1, k2, k3⟩ := i1 r hr; exact ⟨k1, k2, by omega⟩
        · obtain ⟨k1, k2, k3⟩ := j1 r hr; exact ⟨k1, by omega, k3⟩
      · have := (i1 p hp).2.2
        have := (j1 q hq).2.1
        omega
      · rw [InS_append, i3, j3]; omega

/-! ### A piece's row -/
theorem fits_nil (s : List Int) : fits [] s = true ↔ s = [] := by cases s <;> simp [fits]
theorem fits_cons (r : Rg) (w : List Rg) (s : List Int) : fits (r :: w) s = true ↔ ∃ b t, s = b :: t ∧ r.1 ≤ b ∧ b ≤ r.2 ∧ fits w t = true := by
  cases s with
  | nil => simp [fits]
  | cons b t =>
    simp only [fits, Bool.and_eq_true, decide_eq_true_eq, List.cons.injEq]
    constructor
    · rintro ⟨⟨h1, h2⟩, h3⟩; exact ⟨b, t, ⟨rfl, rfl⟩, h1, h2, h3⟩
    · rintro ⟨b', t', ⟨rfl, rfl⟩, h1, h2, h3⟩; exact ⟨⟨h1, h2⟩, h3⟩

theorem enc1 {r : Int} (h : klass r = 1) (h0 : 0 ≤ r) : encU r = [r] ∧ r < 128 := by
  unfold klass at h; unfold encU
  split at h
  · rename_i c; rw [if_pos c]; exact ⟨rfl, c⟩
  · repeat' split at h
    all_goals omega
theorem enc2 {r : Int} (h : klass r = 2) : encU r = [192 + r / 64, 128 + r % 64] ∧ 128 ≤ r ∧ r < 2048 := by
  unfold klass at h; unfold encU
  repeat' split at h
  all_goals first | omega | skip
  rename_i c1 c2
  rw [if_neg c1, if_pos c2]
  exact ⟨rfl, by omega, c2⟩
theorem enc3 {r : Int} (h : klass r = 3 ∨ klass r = 4) : encU r = [224 + r / 4096, 128 + r / 64 % 64, 128 + r % 64] ∧ 2048 ≤ r ∧ r < 65536 := by
  have hr : 2048 ≤ r ∧ r < 65536 := by
    unfold klass at h
    repeat' split at h
    all_goals omega
  unfold encU
  rw [if_neg (by omega), if_neg (by omega), if_pos hr.2]
  exact ⟨rfl, hr⟩
theorem enc5 {r : Int} (h : klass r = 5) : encU r = [240 + r / 262144, 128 + r / 4096 % 64, 128 + r / 64 % 64, 128 + r % 64] ∧ 65536 ≤ r := by
  have hr : 65536 ≤ r := by
    unfold klass at h
    repeat' split at h
    all_goals omega
  unfold encU
  rw [if_neg (by omega), if_neg (by omega), if_neg (by omega)]
  exact ⟨rfl, hr⟩
theorem klass_le (r : Int) : klass r ≤ 5 := by unfold klass; repeat' split
                                               all_goals omega

theorem cut_none {a b : Int} (h : cutAt a b levels = none) : a / 64 = b / 64 ∨ (a % 64 = 0 ∧ b % 64 = 63 ∧ (a / 4096 = b / 4096 ∨ (a % 4096 = 0 ∧ b % 4096 = 4095 ∧ (a / 262144 = b / 262144 ∨ (a % 262144 = 0 ∧ b % 262144 = 262143))))) := by
  unfold levels at h
  simp only [cutAt] at h
  split at h
  · exact .inl ‹_›
  · split at h
    · cases h
    · split at h
      · cases h
      · refine .inr ⟨by omega, by omega, ?_⟩
        split at h
        · exact .inl ‹_›
        · split at h
          · cases h
          · split at h
            · cases h
            · refine .inr ⟨by omega, by omega, ?_⟩
              split at h
              · exact .inl ‹_›
              · split at h
                · cases h
                · split at h
                  · cases h
                  · exact .inr ⟨by omega, by omega⟩

theorem fits_leaf1 {a b : Int} (h0 : 0 ≤ a) (ha : klass a = 1) (hb : klass b = 1) (hab : a ≤ b) (s : List Int) : fits (rowOf a b) s = true ↔ ∃ z, a ≤ z ∧ z ≤ b ∧ s = encU z := by
  obtain ⟨ea, a2⟩ := enc1 ha h0
  obtain ⟨eb, b2⟩ := enc1 hb (by omega)
  have er : rowOf a b = [(a, b)] := by unfold rowOf; rw [ea, eb]; rfl
  rw [er]
  simp only [fits_cons, fits_nil]
  constructor
  · rintro ⟨x, t, rfl, h1, h2, rfl⟩
    have hk := klass_between h1 h2 (ha.trans hb.symm)
    exact ⟨x, h1, h2, (enc1 (hk.trans ha) (by omega)).1.symm⟩
  · rintro ⟨z, h1, h2, rfl⟩
    have hk := klass_between h1 h2 (ha.trans hb.symm)
    exact ⟨z, [], (enc1 (hk.trans ha) (by omega)).1, h1, h2, rfl⟩
theorem fits_leaf2 {a b : Int} (ha : klass a = 2) (hb : klass b = 2) (hab : a ≤ b) (hc : cutAt a b levels = none) (s : List Int) : fits (rowOf a b) s = true ↔ ∃ z, a ≤ z ∧ z ≤ b ∧ s = encU z := by
  obtain ⟨ea, a1, a2⟩ := enc2 ha
  obtain ⟨eb, b1, b2⟩ := enc2 hb
  have er : rowOf a b = [(192 + a / 64, 192 + b / 64), (128 + a % 64, 128 + b % 64)] := by unfold rowOf; rw [ea, eb]; rfl
  have hn := cut_none hc
  rw [er]
  simp only [fits_cons, fits_nil]
  constructor
  · rintro ⟨x, t, rfl, h1, h2, y, t, rfl, h3, h4, rfl⟩
    have z1 : a ≤ 64 * (x - 192) + (y - 128) := by rcases hn with h | ⟨h, h', _⟩ <;> omega
    have z2 : 64 * (x - 192) + (y - 128) ≤ b := by rcases hn with h | ⟨h, h', _⟩ <;> omega
    have hk := klass_between z1 z2 (ha.trans hb.symm)
    refine ⟨_, z1, z2, ?_⟩
    rw [(enc2 (hk.trans ha)).1, show (64 * (x - 192) + (y - 128)) / 64 = x - 192 by omega, show (64 * (x - 192) + (y - 128)) % 64 = y - 128 by omega, show 192 + (x - 192) = x by omega, show 128 + (y - 128) = y by omega]
  · rintro ⟨z, h1, h2, rfl⟩
    have hk := klass_between h1 h2 (ha.trans hb.symm)
    refine ⟨_, _, (enc2 (hk.trans ha)).1, ?_, ?_, _, _, rfl, ?_, ?_, rfl⟩ <;> rcases hn with h | ⟨h, h', _⟩ <;> omega
theorem fits_leaf3 {a b : Int} (ha : klass a = 3 ∨ klass a = 4) (hab : a ≤ b) (hs : klass a = klass b) (hc : cutAt a b levels = none) (s : List Int) : fits (rowOf a b) s = true ↔ ∃ z, a ≤ z ∧ z ≤ b ∧ s = encU z := by
  obtain ⟨ea, a1, a2⟩ := enc3 ha
  obtain ⟨eb, b1, b2⟩ := enc3 (hs ▸ ha)
  have er : rowOf a b = [(224 + a / 4096, 224 + b / 4096), (128 + a / 64 % 64, 128 + b / 64 % 64), (128 + a % 64, 128 + b % 64)] := by unfold rowOf; rw [ea, eb]; rfl
  have hn := cut_none hc
  have hn : a / 64 = b / 64 ∨ (a % 64 = 0 ∧ b % 64 = 63 ∧ a / 4096 = b / 4096) ∨ (a % 4096 = 0 ∧ b % 4096 = 4095) := by
    rcases hn with h | ⟨h, h', h'' | ⟨h3, h4, _⟩⟩
    · exact .inl h
    · exact .inr (.inl ⟨h, h', h''⟩)
    · exact .inr (.inr ⟨h3, h4⟩)
  rw [er]
  simp only [fits_cons, fits_nil]
  constructor
  · rintro ⟨x, t, rfl, h1, h2, y, t, rfl, h3, h4, v, t, rfl, h5, h6, rfl⟩
    have z1 : a ≤ 4096 * (x - 224) + 64 * (y - 128) + (v - 128) := by rcases hn with h | ⟨h, h', h''⟩ | ⟨h, h'⟩ <;> omega
    have z2 : 4096 * (x - 224) + 64 * (y - 128) + (v - 128) ≤ b := by rcases hn with h | ⟨h, h', h''⟩ | ⟨h, h'⟩ <;> omega
    have hk := klass_between z1 z2 hs
    refine ⟨_, z1, z2, ?_⟩
    rw [(enc3 (by rw [hk]; exact ha)).1, show (4096 * (x - 224) + 64 * (y - 128) + (v - 128)) / 4096 = x - 224 by omega, show (4096 * (x - 224) + 64 * (y - 128) + (v - 128)) / 64 % 64 = y - 128 by omega, show (4096 * (x - 224) + 64 * (y - 128) + (v - 128)) % 64 = v - 128 by omega, show 224 + (x - 224) = x by omega, show 128 + (y - 128) = y by omega, show 128 + (v - 128) = v by omega]
  · rintro ⟨z, h1, h2, rfl⟩
    have hk := klass_between h1 h2 hs
    refine ⟨_, _, (enc3 (by rw [hk]; exact ha)).1, ?_, ?_, _, _, rfl, ?_, ?_, _, _, rfl, ?_, ?_, rfl⟩ <;> rcases hn with h | ⟨h, h', h''⟩ | ⟨h, h'⟩ <;> omega
set_option maxHeartbeats 4000000 in
theorem fits_leaf5 {a b : Int} (ha : klass a = 5) (hab : a ≤ b) (hs : klass a = klass b) (hc : cutAt a b levels = none) (s : List Int) : fits (rowOf a b) s = true ↔ ∃ z, a ≤ z ∧ z ≤ b ∧ s = encU z := by
  obtain ⟨ea, a1⟩ := enc5 ha
  obtain ⟨eb, b1⟩ := enc5 (hs ▸ ha)
  have er : rowOf a b = [(240 + a / 262144, 240 + b / 262144), (128 + a / 4096 % 64, 128 + b / 4096 % 64), (128 + a / 64 % 64, 128 + b / 64 % 64), (128 + a % 64, 128 + b % 64)] := by unfold rowOf; rw [ea, eb]; rfl
  have hn := cut_none hc
  have hn : a / 64 = b / 64 ∨ (a % 64 = 0 ∧ b % 64 = 63 ∧ a / 4096 = b / 4096) ∨ (a % 4096 = 0 ∧ b % 4096 = 4095 ∧ a / 262144 = b / 262144) ∨ (a % 262144 = 0 ∧ b % 262144 = 262143) := by
    rcases hn with h | ⟨h, h', h'' | ⟨h3, h4, h5 | ⟨h6, h7⟩⟩⟩
    · exact .inl h
    · exact .inr (.inl ⟨h, h', h''⟩)
    · exact .inr (.inr (.inl ⟨h3, h4, h5⟩))
    · exact .inr (.inr (.inr ⟨h6, h7⟩))
  rw [er]
  simp only [fits_cons, fits_nil]
  constructor
  · rintro ⟨x, t, rfl, h1, h2, y, t, rfl, h3, h4, v, t, rfl, h5, h6, q, t, rfl, h7, h8, rfl⟩
    have z1 : a ≤ 262144 * (x - 240) + 4096 * (y - 128) + 64 * (v - 128) + (q - 128) := by rcases hn with h | ⟨h, h', h''⟩ | ⟨h, h', h''⟩ | ⟨h, h'⟩ <;> omega
    have z2 : 262144 * (x - 240) + 4096 * (y - 128) + 64 * (v - 128) + (q - 128) ≤ b := by rcases hn with h | ⟨h, h', h''⟩ | ⟨h, h', h''⟩ | ⟨h, h'⟩ <;> omega
    have hk := klass_between z1 z2 hs
    refine ⟨_, z1, z2, ?_⟩
    rw [(enc5 (by rw [hk]; exact ha)).1, show (262144 * (x - 240) + 4096 * (y - 128) + 64 * (v - 128) + (q - 128)) / 262144 = x - 240 by omega, show (262144 * (x - 240) + 4096 * (y - 128) + 64 * (v - 128) + (q - 128)) / 4096 % 64 = y - 128 by omega, show (262144 * (x - 240) + 4096 * (y - 128) + 64 * (v - 128) + (q - 128)) / 64 % 64 = v - 128 by omega, show (262144 * (x - 240) + 4096 * (y - 128) + 64 * (v - 128) + (q - 128)) % 64 = q - 128 by omega, show 240 + (x - 240) = x by omega, show 128 + (y - 128) = y by omega, show 128 + (v - 128) = v by omega, show 128 + (q - 128) = q by omega]
  · rintro ⟨z, h1, h2, rfl⟩
    have hk := klass_between h1 h2 hs
    refine ⟨_, _, (enc5 (by rw [hk]; exact ha)).1, ?_, ?_, _, _, rfl, ?_, ?_, _, _, rfl, ?_, ?_, _, _, rfl, ?_, ?_, rfl⟩ <;> rcases hn with h | ⟨h, h', h''⟩ | ⟨h, h', h''⟩ | ⟨h, h'⟩ <;> omega
/-- The texts that fit a piece's row are the bytes of its scalars. -/
theorem fits_leaf {r : Rg} (h : Leaf r) (s : List Int) : fits (rowOf r.1 r.2) s = true ↔ ∃ z, r.1 ≤ z ∧ z ≤ r.2 ∧ s = encU z := by
  have hk := klass_le r.1
  have hn := h.some_
  have hw : klass r.1 ≠ 1 → cutAt r.1 r.2 levels = none := fun h1 => by
    rcases h.whole with h2 | h2
    · exfalso
      have := h.same
      apply h1
      rw [this]
      unfold klass
      rw [if_pos h2]
    · exact h2
  have h12345 : klass r.1 = 1 ∨ klass r.1 = 2 ∨ (klass r.1 = 3 ∨ klass r.1 = 4) ∨ klass r.1 = 5 := by omega
  rcases h12345 with h1 | h1 | h1 | h1
  · exact fits_leaf1 h.lo h1 (h.same ▸ h1) h.le s
  · exact fits_leaf2 h1 (h.same ▸ h1) h.le (hw (by omega)) s
  · exact fits_leaf3 h1 h.le h.same (hw (by omega)) s
  · exact fits_leaf5 h1 h.le h.same (hw (by omega)) s

end UtfPure
end Go.Proofs.Ytemjgnpkhomofaa
