/- Slots, plainly: the reference's own good table. No program in sight. -/
import Derived.Test.YtcaipfdnadlkdaaSl3
namespace Go.Proofs.Ytcaipfdnadlkdaa
open Go Go.RowKit
set_option linter.unusedVariables false
def inB (n lo hi : Int) : Bool := decide (lo ≤ n) && decide (n ≤ hi)
/-- a used slot whose address was met before -/
def clG (u : Bool) (a : Int) : List Bool → List Int → Bool
  | v :: vs, b :: bs => (u && v && decide (a = b)) || clG u a vs bs
  | _, _ => false
def goodR : List Bool → List Int → List Bool → List Int → Bool
  | PU, PA, u :: us, a :: az => (if u = true then inB a 0 63 else decide (a = 0)) && !clG u a PU PA && goodR (PU ++ [u]) (PA ++ [a]) us az
  | _, _, _, _ => true
end Go.Proofs.Ytcaipfdnadlkdaa
