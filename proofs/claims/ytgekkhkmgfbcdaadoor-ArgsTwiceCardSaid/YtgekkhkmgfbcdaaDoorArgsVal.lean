/- Chapter 25: the places of all values: keys, where each value lies; the walk of args' places. -/
import Derived.Test.YtgekkhkmgfbcdaaDoorArgsPack
namespace Go.Proofs.YtgekkhkmgfbcdaaDoor
open Go.Shelf Go.RowKit

/-- The keys, in order. -/
def keyN : Nat → ByteArray
  | 0 => ⟨#[99, 111, 110, 116, 97, 105, 110, 101, 114]⟩
  | 1 => ⟨#[99, 111, 100, 105, 110, 103]⟩
  | 2 => ⟨#[109, 111, 100, 101]⟩
  | 3 => ⟨#[109, 111, 115, 116]⟩
  | 4 => ⟨#[115, 116, 97, 116, 101, 115]⟩
  | 5 => ⟨#[115, 116, 114, 105, 99, 116]⟩
  | 6 => ⟨#[105, 110, 118, 101, 114, 116]⟩
  | 7 => ⟨#[109, 117, 108, 116, 105]⟩
  | 8 => ⟨#[110, 97, 109, 101, 100]⟩
  | 9 => ⟨#[102, 111, 108, 100]⟩
  | 10 => ⟨#[108, 105, 110, 101, 115]⟩
  | 11 => ⟨#[100, 111, 116]⟩
  | 12 => ⟨#[115, 104, 111, 114, 116]⟩
  | 13 => ⟨#[108, 97, 122, 121]⟩
  | 14 => ⟨#[119, 111, 114, 100, 115]⟩
  | 15 => ⟨#[112, 97, 116, 116, 101, 114, 110]⟩
  | 16 => ⟨#[116, 101, 109, 112, 108, 97, 116, 101]⟩
  | _ => ⟨#[98, 108, 111, 98]⟩
/-- A value's place among the options' cells. -/
def offN : Nat → Nat
  | 0 => 0 | 1 => 1 | 2 => 2 | 3 => 3 | 4 => 14
  | 5 => 4 | 6 => 5 | 7 => 6 | 8 => 7 | 9 => 8 | 10 => 9 | 11 => 10 | 12 => 11 | 13 => 12 | 14 => 13
  | 15 => 15 | _ => 16
/-- Where a value lies: the options at block po, the blob at block pb. -/
def valA (po pb j : Nat) : Addr := if j = 17 then ⟨pb, 0, none⟩ else ⟨po, offN j, none⟩
/-- A place's four cells. -/
def encPl (po pb j : Nat) : List Value :=
  [.string (keyN j), if j < 5 then .pointer (some (valA po pb j)) else .pointer none, if 5 ≤ j ∧ j < 15 then .pointer (some (valA po pb j)) else .pointer none, if 15 ≤ j then .pointer (some (valA po pb j)) else .pointer none]
def allPl (po pb : Nat) (R : List Nat) : List Value := R.flatMap (encPl po pb)

set_option maxRecDepth 100000 in
set_option maxHeartbeats 1000000 in
theorem places_any (po pb : Nat) (w : World) :
    Calls Tryd.prog 25 #[.pointer (some ⟨po, 0, none⟩), .pointer (some ⟨pb, 0, none⟩)] w fun e w' =>
      e = .returned (.slice (some ⟨w.heap.size, 0, none⟩) 18 18) ∧ w' = (w.alloc (.cells (allPl po pb (List.range 18)).toArray 78)).drew := by
  go_enter Tryd.func25, Tryd.ntmps25
  go_wp2
  simp only [List.append_eq, List.cons_append, List.nil_append]
  go_still_tail 77, (by kernel_rfl)
  go_wp2
  go_ret
  exact ⟨rfl, rfl⟩

end Go.Proofs.YtgekkhkmgfbcdaaDoor
