/- Slots, plainly: tables as eight marks and eight addresses. No program in sight. -/
import Derived.Test.YtcaipfdnadlkdaaSxRk
namespace Go.Proofs.Ytcaipfdnadlkdaa
open Go.RowKit
set_option linter.unusedVariables false
structure Tab where
  u : List Bool
  a : List Int
def addrB (a : Int) : Bool := decide (0 ≤ a) && decide (a ≤ 63)
def slot8 (a : Int) : Bool := decide (0 ≤ a) && decide (a < 8)
def findGo : Int → List Bool → List Int → Int → Int × Bool
  | k, u :: us, a :: az, x => if u = true ∧ a = x then (k, true) else findGo (k + 1) us az x
  | _, _, _, _ => (0, false)
def findT (t : Tab) (x : Int) : Int × Bool := findGo 0 t.u t.a x
def goodGo (U : List Bool) (A : List Int) : Int → List Bool → List Int → Bool
  | k, u :: us, a :: az => (if u = true then decide ((findGo 0 U A a).1 = k) && addrB a else decide (a = 0)) && goodGo U A (k + 1) us az
  | _, _, _ => true
def goodT (t : Tab) : Bool := goodGo t.u t.a 0 t.u t.a
def idxGo (v : Bool) : Int → List Bool → Int
  | k, b :: bs => if v = b then k else idxGo v (k + 1) bs
  | _, [] => -1
def maskGo : Nat → List Bool → Int → Int
  | k, u :: us, m => maskGo (k + 1) us (if u = true then bits .or .i64 m (2 ^ k) else m)
  | _, [], m => m
end Go.Proofs.Ytcaipfdnadlkdaa
