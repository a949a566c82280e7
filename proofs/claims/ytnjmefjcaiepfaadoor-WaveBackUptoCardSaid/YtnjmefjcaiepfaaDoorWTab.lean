/- The program's sine and cosine over words, and a near root of one. -/
import Derived.Test.YtnjmefjcaiepfaaDoorWDiv
namespace Go.Proofs.YtnjmefjcaiepfaaDoor.WaveP

/-- A number that is worked out first. -/
def strict {α : Type} (n : Nat) (k : Nat → α) : α := match n with
  | 0 => k 0
  | m + 1 => k (m + 1)
theorem strict_eq {α : Type} (n : Nat) (k : Nat → α) : strict n k = k n := by cases n <;> rfl
def mulO (x y : Nat) : Option Nat := bif fin x && fin y then strict (mulN x y) some else none
def addO (x y : Nat) : Option Nat := bif fin x && fin y then strict (addN x y) some else none
def subO (x y : Nat) : Option Nat := bif fin x && fin y then strict (subN x y) some else none
def divO (x y : Nat) : Option Nat := bif fin x && (fin y && !Nat.beq (mg (rg y)) 0) then strict (divN x y) some else none
theorem bif_some {α : Type} {b : Bool} {x : Option α} {r : α} (h : (bif b then x else none) = some r) : b = true ∧ x = some r := by
  cases b
  · cases h
  · exact ⟨rfl, h⟩
theorem and_t {a b : Bool} (h : (a && b) = true) : a = true ∧ b = true := by cases a <;> cases b <;> first | (cases h; done) | exact ⟨rfl, rfl⟩
theorem mulO_some {x y r : Nat} (h : mulO x y = some r) : fmt.mul x y = some r := by
  obtain ⟨h1, h2⟩ := bif_some h
  obtain ⟨hx, hy⟩ := and_t h1
  rw [strict_eq] at h2
  rw [mul_eq hx hy]; exact h2
theorem addO_some {x y r : Nat} (h : addO x y = some r) : fmt.add x y = some r := by
  obtain ⟨h1, h2⟩ := bif_some h
  obtain ⟨hx, hy⟩ := and_t h1
  rw [strict_eq] at h2
  rw [add_eq hx hy]; exact h2
theorem subO_some {x y r : Nat} (h : subO x y = some r) : fmt.sub x y = some r := by
  obtain ⟨h1, h2⟩ := bif_some h
  obtain ⟨hx, hy⟩ := and_t h1
  rw [strict_eq] at h2
  rw [sub_eq hx hy]; exact h2
theorem divO_some {x y r : Nat} (h : divO x y = some r) : fmt.div x y = some r := by
  obtain ⟨h1, h2⟩ := bif_some h
  obtain ⟨hx, h3⟩ := and_t h1
  obtain ⟨hy, h4⟩ := and_t h3
  rw [strict_eq] at h2
  rw [div_eq hx hy (fun e => by rw [beq_t e] at h4; cases h4)]; exact h2
/-- A polynomial, its first number ahead. -/
def poly (z : Nat) : List Nat → Nat → Option Nat
  | [], acc => some acc
  | c :: cs, acc => (mulO acc z).bind fun m => (addO m c).bind fun a => poly z cs a
/-- The word of a whole number. -/
def natW (n : Nat) : Nat := rnd n c74 0
/-- A number cut to a whole one. -/
def truncN (x : Nat) : Nat := bif Nat.ble 1074 (pl (rg x)) then mg (rg x) * 2 ^ (pl (rg x) - 1074) else mg (rg x) / 2 ^ (1074 - pl (rg x))
def cosT : List Nat := [4477121864728985349, 13732177093698800582, 4537941361668146421, 13787419979223748497, 4586165620538955083]
def sinT : List Nat := [13716528389658582877, 4523617212962785441, 13774824197404483331, 4575957461383575504, 13818544856648471880]
def kern (z : Nat) : Option (Nat × Nat) :=
  (mulO z z).bind fun zz =>
  (mulO 4602678819172646912 zz).bind fun h =>
  (subO 4607182418800017408 h).bind fun h1 =>
  (mulO zz zz).bind fun z4 =>
  (poly zz cosT 13666448263388469915).bind fun pc =>
  (mulO z4 pc).bind fun mc =>
  (addO h1 mc).bind fun c =>
  (mulO z zz).bind fun z3 =>
  (poly zz sinT 4460209587652500685).bind fun ps =>
  (mulO z3 ps).bind fun ms =>
  (addO z ms).bind fun s => some (s, c)
/-- What is left over of so many eighths. -/
def left (x y j : Nat) : Option (Nat × Nat) :=
  (mulO y 4605249456957292544).bind fun a =>
  (subO x a).bind fun x1 =>
  (mulO y 4495793288086814720).bind fun b =>
  (subO x1 b).bind fun x2 =>
  (mulO y 4388835458085048688).bind fun c =>
  (subO x2 c).bind fun z => some (j, z)
/-- How many eighths, and what is left over. -/
def reduce (x : Nat) : Option (Nat × Nat) :=
  (mulO x 4608412980311869571).bind fun m =>
  strict (truncN m) fun t =>
  bif Nat.beq (t % 2) 1 then
    (addO (natW t) 4607182418800017408).bind fun y => left x y (t + 1)
  else left x (natW t) t
/-- The sine and the cosine of a word above nought and below a whole turn's half. -/
def sincosP (x : Nat) : Option (Nat × Nat) :=
  (reduce x).bind fun p => (kern p.2).bind fun q =>
  bif Nat.beq p.1 0 then some (q.1, q.2)
  else bif Nat.beq p.1 2 then some (q.2, wd (!sg q.1) (rg q.1))
  else bif Nat.beq p.1 4 then some (wd (!sg q.1) (rg q.1), wd (!sg q.2) (rg q.2))
  else none
/-- The angle's word: so many of 2^l parts of a turn. -/
def angle (k l : Nat) : Option Nat := (mulO 4618760256179416344 (natW k)).bind fun a => divO a (natW (2 ^ l))

/-- The near root: its parts over zr. -/
def zu : Nat := 972276023905897739692434485
def zp : Int := 2 ^ 200 - (zu : Int) * zu
def zq : Int := 2 * (zu : Int) * 2 ^ 100
def zr : Nat := 2 ^ 200 + zu * zu
def c964 : Nat := 964
def c1024 : Nat := 1024
def sval (w : Nat) : Int := bif sg w then -((un (rg w) : Nat) : Int) else ((un (rg w) : Nat) : Int)
def force {α : Type} (x : Int) (k : Int → α) : α := match x with
  | .ofNat n => strict n fun n => k (.ofNat n)
  | .negSucc n => strict n fun n => k (.negSucc n)
def closeI (w : Nat) (P : Int) : Bool := Nat.ble (sval w - P * ((2 ^ c964 : Nat) : Int)).natAbs (2 ^ c1024)
/-- From the place k on, n places. -/
def chkT : Nat → Nat → Int → Int → Bool
  | 0, _, _, _ => true
  | n + 1, k, P, Q =>
    (match (angle k 12).bind sincosP with
      | some (s, c) => closeI c P && closeI s Q
      | none => false) &&
    force ((P * zp - Q * zq) / (zr : Int)) fun P' => force ((P * zq + Q * zp) / (zr : Int)) fun Q' => chkT n (k + 1) P' Q'
/-- So many places further on. -/
def zgo : Nat → Int → Int → (Int → Int → Bool) → Bool
  | 0, P, Q, k => k P Q
  | n + 1, P, Q, k => force ((P * zp - Q * zq) / (zr : Int)) fun P' => force ((P * zq + Q * zp) / (zr : Int)) fun Q' => zgo n P' Q' k
/-- The places 128 b + 1 and on. -/
def blk (b n : Nat) : Bool := zgo (128 * b + 1) (2 ^ 110) 0 fun P Q => chkT n (128 * b + 1) P Q
/-- The angles of fewer parts are angles of 4096. -/
def chkL : Nat → Nat → Nat → Bool
  | _, _, 0 => true
  | l, k, n + 1 => (match angle k l, angle (k * 2 ^ (12 - l)) 12 with
    | some a, some b => Nat.beq a b
    | _, _ => false) && chkL l (k + 1) n
end Go.Proofs.YtnjmefjcaiepfaaDoor.WaveP
