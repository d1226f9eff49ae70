/- Slots, plainly: a table as who sits where. No program in sight. -/
import Derived.Test.YtcaipfdnadlkdaaSl14
namespace Go.Proofs.Ytcaipfdnadlkdaa
open Go Go.RowKit
set_option linter.unusedVariables false
set_option linter.unusedSimpArgs false
structure W8 where
  w0 : Int
  w1 : Int
  w2 : Int
  w3 : Int
  w4 : Int
  w5 : Int
  w6 : Int
  w7 : Int
def L8 (W : W8) : List Int := [W.w0, W.w1, W.w2, W.w3, W.w4, W.w5, W.w6, W.w7]
def dU (x : Int) : Bool := decide (0 ≤ x)
def aU (x : Int) : Int := if 0 ≤ x then x else 0
def wW (W : List Int) (j : Nat) : Int := W.getD j 0
/-- the least free slot of the last k -/
def atF (W : List Int) : Nat → Int
  | 0 => -1
  | k + 1 => if wW W (7 - k) < 0 then ((7 - k : Nat) : Int) else atF W k
/-- does one of the last k bear a number? -/
def thF (W : List Int) (n : Int) : Nat → Bool
  | 0 => false
  | k + 1 => thF W n k || decide (wW W (7 - k) = n)
def WOk (W : W8) : Prop := (∀ j, j < 8 → wW (L8 W) j = -1 ∨ (0 ≤ wW (L8 W) j ∧ wW (L8 W) j ≤ 63)) ∧ ∀ i j, i < 8 → j < 8 → 0 ≤ wW (L8 W) i → wW (L8 W) i = wW (L8 W) j → i = j
end Go.Proofs.Ytcaipfdnadlkdaa
