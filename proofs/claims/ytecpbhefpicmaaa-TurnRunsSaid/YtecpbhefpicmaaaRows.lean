/-
  No cell of these rows narrows 'for every input' (looked for: loops, veiled, ifaces, maps, wideKeys, modest, calm, conditions, laid).
  DERIVED. THE GIVEN ROWS OF THIS SEAT. 4 by the template 'for every input the law returns true; each argument reads behind the call as it read before'; 0 by the template 'total and deterministic' (their statements: YtecpbhefpicmaaaTotals.lean).
  GIVEN WITH THE SEED: the statements are not yours to turn. If you find one false, say at which input.
  Laid BY PROGRAM, IN A SANDBOX (cutbox-rows.mjs): the forced cells as the released guide's own fill.sh prints them over the translation 6062c2863f421152… (all of the seat's roots in one cut). By AI agents, Wed Nov 11 2026. No macro, syntax, notation, axiom, sorry.
-/
import Derived.Test.YtecpbhefpicmaaaChecked
import GoSem.Claim
import GoSem.ClaimJoined
import GoSem.ClaimMapViews
import Derived.JoinedTies
import Derived.KernelRfl
namespace Go.Proofs.Ytecpbhefpicmaaa
/- THE CELL 'sum', in the pinned program and in every row, IS THE sha256 OF THE DUMP (.gsa) THAT YtecpbhefpicmaaaProg.lean LOADS. Nothing in Lean hashes anything: it is a label: what it is worth is what the hold of that sum in a sandbox is worth. -/
noncomputable def Try.pinned : Pinned := { name := "ytecpbhefpicmaaa", sum := "6062c2863f421152080df9e1412a99237a246ad52c7b83d6b59daf0c391c7585", checked := Try.checked }
namespace Rows
def none {H : Type} : Left H := { results := [], args := [] }

/-- 'palanquinlaw23.TurnKnown': WHATEVER THE INPUT: true; the input reads as it did. -/
def turnKnownSpec : ChangeSpec := { name := "turnKnown", fn := fun _ => fun
  | [] => { results := [.lit (.bool true)], args := [] }
  | _ => none }
def turnKnownRow : OpenClaim := { program := "ytecpbhefpicmaaa", sum := "6062c2863f421152080df9e1412a99237a246ad52c7b83d6b59daf0c391c7585", func := "palanquin/palanquinlaw23.TurnKnown", spec := "turnKnown", apart := false }
def TurnKnownSaid : Prop := turnKnownRow.holds Try.pinned (OpenSpec.ofChange turnKnownSpec)

/-- ITS FALSE NEIGHBOUR: 'it returns false'. Refute it at one input. -/
def turnKnownWrong : ChangeSpec := { name := "turnKnown", fn := fun _ => fun
  | [] => { results := [.lit (.bool false)], args := [] }
  | _ => none }
def TurnKnownWrongFalsely : Prop := turnKnownRow.holds Try.pinned (OpenSpec.ofChange turnKnownWrong)

/-- 'palanquinlaw23.TurnSays': WHATEVER THE INPUT: true; the input reads as it did. -/
def turnSaysSpec : ChangeSpec := { name := "turnSays", fn := fun _ => fun
  | [d1, d2, d3, d4] => { results := [.lit (.bool true)], args := [d1, d2, d3, d4] }
  | _ => none }
def turnSaysRow : OpenClaim := { program := "ytecpbhefpicmaaa", sum := "6062c2863f421152080df9e1412a99237a246ad52c7b83d6b59daf0c391c7585", func := "palanquin/palanquinlaw23.TurnSays", spec := "turnSays", apart := false }
def TurnSaysSaid : Prop := turnSaysRow.holds Try.pinned (OpenSpec.ofChange turnSaysSpec)

/-- ITS FALSE NEIGHBOUR: 'it returns false'. Refute it at one input. -/
def turnSaysWrong : ChangeSpec := { name := "turnSays", fn := fun _ => fun
  | [d1, d2, d3, d4] => { results := [.lit (.bool false)], args := [d1, d2, d3, d4] }
  | _ => none }
def TurnSaysWrongFalsely : Prop := turnSaysRow.holds Try.pinned (OpenSpec.ofChange turnSaysWrong)

/-- 'palanquinlaw23.TurnRuns': WHATEVER THE INPUT: true; the input reads as it did. -/
def turnRunsSpec : ChangeSpec := { name := "turnRuns", fn := fun _ => fun
  | [d] => { results := [.lit (.bool true)], args := [d] }
  | _ => none }
def turnRunsRow : OpenClaim := { program := "ytecpbhefpicmaaa", sum := "6062c2863f421152080df9e1412a99237a246ad52c7b83d6b59daf0c391c7585", func := "palanquin/palanquinlaw23.TurnRuns", spec := "turnRuns", apart := false }
def TurnRunsSaid : Prop := turnRunsRow.holds Try.pinned (OpenSpec.ofChange turnRunsSpec)

/-- ITS FALSE NEIGHBOUR: 'it returns false'. Refute it at one input. -/
def turnRunsWrong : ChangeSpec := { name := "turnRuns", fn := fun _ => fun
  | [d] => { results := [.lit (.bool false)], args := [d] }
  | _ => none }
def TurnRunsWrongFalsely : Prop := turnRunsRow.holds Try.pinned (OpenSpec.ofChange turnRunsWrong)

/-- 'palanquinlaw23.TurnBegins': WHATEVER THE INPUT: true; the input reads as it did. -/
def turnBeginsSpec : ChangeSpec := { name := "turnBegins", fn := fun _ => fun
  | [d1, d2, d3, d4] => { results := [.lit (.bool true)], args := [d1, d2, d3, d4] }
  | _ => none }
def turnBeginsRow : OpenClaim := { program := "ytecpbhefpicmaaa", sum := "6062c2863f421152080df9e1412a99237a246ad52c7b83d6b59daf0c391c7585", func := "palanquin/palanquinlaw23.TurnBegins", spec := "turnBegins", apart := false }
def TurnBeginsSaid : Prop := turnBeginsRow.holds Try.pinned (OpenSpec.ofChange turnBeginsSpec)

/-- ITS FALSE NEIGHBOUR: 'it returns false'. Refute it at one input. -/
def turnBeginsWrong : ChangeSpec := { name := "turnBegins", fn := fun _ => fun
  | [d1, d2, d3, d4] => { results := [.lit (.bool false)], args := [d1, d2, d3, d4] }
  | _ => none }
def TurnBeginsWrongFalsely : Prop := turnBeginsRow.holds Try.pinned (OpenSpec.ofChange turnBeginsWrong)

/- THE SECOND FORM. 'bulk': how many values and letters a reading holds, each counted each time it is reached (what is shared counts as often as it is met; a slice's spare places count too). A statement '..UptoSaid' is the law's where the arguments, and the package variables that the reading takes, are together of bulk at most 1048576: NARROWER than '..Said'. Prove '..Said' where nothing that the law and all that it calls make is longer than what came in: it says more and counts as full. Else prove '..UptoSaid'. A law counts once. -/
mutual
def uptoBulk {H : Type} : DataW H → Nat
  | .lit (.string bytes) => bytes.length + 1
  | .lit _ => 1
  | .nil => 1
  | .ptr d => uptoBulk d + 1
  | .slice elems spare => uptoBulkAll elems + uptoBulkAll spare + 1
  | .agg parts => uptoBulkAll parts + 1
  | .iface _ d => uptoBulk d + 1
  | .map entries => uptoBulkEntries entries + 1
  | .held _ => 1
def uptoBulkAll {H : Type} : List (DataW H) → Nat
  | [] => 0
  | d :: r => uptoBulk d + uptoBulkAll r
def uptoBulkEntries {H : Type} : List (Lit × DataW H) → Nat
  | [] => 0
  | x :: r => uptoBulkEntry x + uptoBulkEntries r
def uptoBulkEntry {H : Type} : Lit × DataW H → Nat
  | (.string bytes, d) => bytes.length + uptoBulk d + 1
  | (_, d) => uptoBulk d + 1
 end
def uptoSmall : (H : Type) → List (DataW H) → Bool := fun _ ds => decide (uptoBulkAll ds ≤ 1048576)
def OpenSpec.upto (s : _root_.Go.ChangeSpec) : _root_.Go.OpenSpec := { _root_.Go.OpenSpec.ofChange s with cond := some uptoSmall }

/-- 'palanquinlaw23.TurnKnown', WHERE WHAT IT READS IS OF BULK AT MOST 1048576: true; the input reads as it did. -/
def turnKnownUptoRow : OpenClaim := { program := "ytecpbhefpicmaaa", sum := "6062c2863f421152080df9e1412a99237a246ad52c7b83d6b59daf0c391c7585", func := "palanquin/palanquinlaw23.TurnKnown", spec := "turnKnown", apart := false, narrowed := true }
def TurnKnownUptoSaid : Prop := turnKnownUptoRow.holds Try.pinned (OpenSpec.upto turnKnownSpec)

/-- 'palanquinlaw23.TurnSays', WHERE WHAT IT READS IS OF BULK AT MOST 1048576: true; the input reads as it did. -/
def turnSaysUptoRow : OpenClaim := { program := "ytecpbhefpicmaaa", sum := "6062c2863f421152080df9e1412a99237a246ad52c7b83d6b59daf0c391c7585", func := "palanquin/palanquinlaw23.TurnSays", spec := "turnSays", apart := false, narrowed := true }
def TurnSaysUptoSaid : Prop := turnSaysUptoRow.holds Try.pinned (OpenSpec.upto turnSaysSpec)

/-- 'palanquinlaw23.TurnRuns', WHERE WHAT IT READS IS OF BULK AT MOST 1048576: true; the input reads as it did. -/
def turnRunsUptoRow : OpenClaim := { program := "ytecpbhefpicmaaa", sum := "6062c2863f421152080df9e1412a99237a246ad52c7b83d6b59daf0c391c7585", func := "palanquin/palanquinlaw23.TurnRuns", spec := "turnRuns", apart := false, narrowed := true }
def TurnRunsUptoSaid : Prop := turnRunsUptoRow.holds Try.pinned (OpenSpec.upto turnRunsSpec)

/-- 'palanquinlaw23.TurnBegins', WHERE WHAT IT READS IS OF BULK AT MOST 1048576: true; the input reads as it did. -/
def turnBeginsUptoRow : OpenClaim := { program := "ytecpbhefpicmaaa", sum := "6062c2863f421152080df9e1412a99237a246ad52c7b83d6b59daf0c391c7585", func := "palanquin/palanquinlaw23.TurnBegins", spec := "turnBegins", apart := false, narrowed := true }
def TurnBeginsUptoSaid : Prop := turnBeginsUptoRow.holds Try.pinned (OpenSpec.upto turnBeginsSpec)

end Rows
end Go.Proofs.Ytecpbhefpicmaaa
