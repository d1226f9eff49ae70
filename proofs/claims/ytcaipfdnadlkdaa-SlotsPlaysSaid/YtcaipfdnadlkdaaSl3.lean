/- Slots, plainly: what the calls answer. No program in sight. -/
import Derived.Test.YtcaipfdnadlkdaaSl0
namespace Go.Proofs.Ytcaipfdnadlkdaa
open Go Go.RowKit
set_option linter.unusedVariables false
def gdG (U : List Bool) (A : List Int) : Bool := goodGo U A 0 U A
def takeG (U : List Bool) (A : List Int) (a : Int) : (List Bool × List Int) × Int × Int :=
  if (goodGo U A 0 U A && addrB a) = true then
    if (findGo 0 U A a).2 = true then ((U, A), 0, 7)
    else if idxGo false 0 U < 0 then ((U, A), 0, 5)
    else ((U.set (idxGo false 0 U).toNat true, A.set (idxGo false 0 U).toNat a), idxGo false 0 U, 0)
  else ((U, A), 0, 1)
def freeG (U : List Bool) (A : List Int) (i : Int) : (List Bool × List Int) × Int :=
  if (goodGo U A 0 U A && slot8 i) = true then
    if U.getD i.toNat false = true then ((U.set i.toNat false, A.set i.toNat 0), 0) else ((U, A), 6)
  else ((U, A), 1)
def findG (U : List Bool) (A : List Int) (a : Int) : Int × Bool := if goodGo U A 0 U A = true then findGo 0 U A a else (0, false)
def firstG (U : List Bool) (A : List Int) : Int × Bool := if idxGo true 0 U < 0 ∨ goodGo U A 0 U A = false then (0, false) else (idxGo true 0 U, true)
def maskG (U : List Bool) (A : List Int) : Int := if goodGo U A 0 U A = true then maskGo 0 U 0 else 0
end Go.Proofs.Ytcaipfdnadlkdaa
