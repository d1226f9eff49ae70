/-
  No cell of these rows narrows 'for every input' (looked for: loops, veiled, ifaces, maps, wideKeys, modest, calm, conditions, laid).
  DERIVED. THE GIVEN ROWS OF THIS SEAT. 4 by the template 'for every input the law returns true; each argument reads behind the call as it read before'; 0 by the template 'total and deterministic' (their statements: YtbidfmlomiimnaaTotals.lean).
  GIVEN WITH THE SEED: the statements are not yours to turn. If you find one false, say at which input.
  Laid BY PROGRAM, IN A SANDBOX (cutbox-rows.mjs): the forced cells as the released guide's own fill.sh prints them over the translation f46ba9319e2358b7… (all of the seat's roots in one cut). By AI agents, Wed Nov 11 2026. No macro, syntax, notation, axiom, sorry.
-/
import Derived.Test.YtbidfmlomiimnaaChecked
import GoSem.Claim
import GoSem.ClaimJoined
import GoSem.ClaimMapViews
import Derived.JoinedTies
import Derived.KernelRfl
namespace Go.Proofs.Ytbidfmlomiimnaa
/- THE CELL 'sum', in the pinned program and in every row, IS THE sha256 OF THE DUMP (.gsa) THAT YtbidfmlomiimnaaProg.lean LOADS. Nothing in Lean hashes anything: it is a label: what it is worth is what the hold of that sum in a sandbox is worth. -/
noncomputable def Try.pinned : Pinned := { name := "ytbidfmlomiimnaa", sum := "f46ba9319e2358b7f0d6cc07edb08eee99eb3a2abb09c73ed0dfbff49d3c69e3", checked := Try.checked }
namespace Rows
def none {H : Type} : Left H := { results := [], args := [] }

/-- 'palanquinlaw22.CastKeys': WHATEVER THE INPUT: true; the input reads as it did. -/
def castKeysSpec : ChangeSpec := { name := "castKeys", fn := fun _ => fun
  | [d1, d2] => { results := [.lit (.bool true)], args := [d1, d2] }
  | _ => none }
def castKeysRow : OpenClaim := { program := "ytbidfmlomiimnaa", sum := "f46ba9319e2358b7f0d6cc07edb08eee99eb3a2abb09c73ed0dfbff49d3c69e3", func := "palanquin/palanquinlaw22.CastKeys", spec := "castKeys", apart := false }
def CastKeysSaid : Prop := castKeysRow.holds Try.pinned (OpenSpec.ofChange castKeysSpec)

/-- ITS FALSE NEIGHBOUR: 'it returns false'. Refute it at one input. -/
def castKeysWrong : ChangeSpec := { name := "castKeys", fn := fun _ => fun
  | [d1, d2] => { results := [.lit (.bool false)], args := [d1, d2] }
  | _ => none }
def CastKeysWrongFalsely : Prop := castKeysRow.holds Try.pinned (OpenSpec.ofChange castKeysWrong)

/-- 'palanquinlaw22.CastKnown': WHATEVER THE INPUT: true; the input reads as it did. -/
def castKnownSpec : ChangeSpec := { name := "castKnown", fn := fun _ => fun
  | [] => { results := [.lit (.bool true)], args := [] }
  | _ => none }
def castKnownRow : OpenClaim := { program := "ytbidfmlomiimnaa", sum := "f46ba9319e2358b7f0d6cc07edb08eee99eb3a2abb09c73ed0dfbff49d3c69e3", func := "palanquin/palanquinlaw22.CastKnown", spec := "castKnown", apart := false }
def CastKnownSaid : Prop := castKnownRow.holds Try.pinned (OpenSpec.ofChange castKnownSpec)

/-- ITS FALSE NEIGHBOUR: 'it returns false'. Refute it at one input. -/
def castKnownWrong : ChangeSpec := { name := "castKnown", fn := fun _ => fun
  | [] => { results := [.lit (.bool false)], args := [] }
  | _ => none }
def CastKnownWrongFalsely : Prop := castKnownRow.holds Try.pinned (OpenSpec.ofChange castKnownWrong)

/-- 'palanquinlaw22.CastSays': WHATEVER THE INPUT: true; the input reads as it did. -/
def castSaysSpec : ChangeSpec := { name := "castSays", fn := fun _ => fun
  | [d1, d2, d3] => { results := [.lit (.bool true)], args := [d1, d2, d3] }
  | _ => none }
def castSaysRow : OpenClaim := { program := "ytbidfmlomiimnaa", sum := "f46ba9319e2358b7f0d6cc07edb08eee99eb3a2abb09c73ed0dfbff49d3c69e3", func := "palanquin/palanquinlaw22.CastSays", spec := "castSays", apart := false }
def CastSaysSaid : Prop := castSaysRow.holds Try.pinned (OpenSpec.ofChange castSaysSpec)

/-- ITS FALSE NEIGHBOUR: 'it returns false'. Refute it at one input. -/
def castSaysWrong : ChangeSpec := { name := "castSays", fn := fun _ => fun
  | [d1, d2, d3] => { results := [.lit (.bool false)], args := [d1, d2, d3] }
  | _ => none }
def CastSaysWrongFalsely : Prop := castSaysRow.holds Try.pinned (OpenSpec.ofChange castSaysWrong)

/-- 'palanquinlaw22.CastRuns': WHATEVER THE INPUT: true; the input reads as it did. -/
def castRunsSpec : ChangeSpec := { name := "castRuns", fn := fun _ => fun
  | [d] => { results := [.lit (.bool true)], args := [d] }
  | _ => none }
def castRunsRow : OpenClaim := { program := "ytbidfmlomiimnaa", sum := "f46ba9319e2358b7f0d6cc07edb08eee99eb3a2abb09c73ed0dfbff49d3c69e3", func := "palanquin/palanquinlaw22.CastRuns", spec := "castRuns", apart := false }
def CastRunsSaid : Prop := castRunsRow.holds Try.pinned (OpenSpec.ofChange castRunsSpec)

/-- ITS FALSE NEIGHBOUR: 'it returns false'. Refute it at one input. -/
def castRunsWrong : ChangeSpec := { name := "castRuns", fn := fun _ => fun
  | [d] => { results := [.lit (.bool false)], args := [d] }
  | _ => none }
def CastRunsWrongFalsely : Prop := castRunsRow.holds Try.pinned (OpenSpec.ofChange castRunsWrong)

/- THE SECOND FORM. 'bulk': how many values and letters a reading holds, each counted each time it is reached (what is shared counts as often as it is met; a slice's spare places count too). A statement '..UptoSaid' is the law's where the arguments, and the package variables that the reading takes, are together of bulk at most 1048576: NARROWER than '..Said'. Prove '..Said' where nothing that the law and all that it calls make is longer than what came in: it says more and counts as full. Else prove '..UptoSaid'. A law counts once. -/
mutual
def uptoBulk {H : Type} : DataW H → Nat
  | .lit (.string bytes) => bytes.length + 1
  | .lit _ => 1
  | .nil => 1
  | .ptr d => uptoBulk d + 1
  | .slice elems spare => uptoBulkAll elems + uptoBulkAll spare + 1
  | .agg parts => uptoBulkAll parts + 1
  | .iface _ d => uptoBulk d + 1
  | .map entries => uptoBulkEntries entries + 1
  | .held _ => 1
def uptoBulkAll {H : Type} : List (DataW H) → Nat
  | [] => 0
  | d :: r => uptoBulk d + uptoBulkAll r
def uptoBulkEntries {H : Type} : List (Lit × DataW H) → Nat
  | [] => 0
  | x :: r => uptoBulkEntry x + uptoBulkEntries r
def uptoBulkEntry {H : Type} : Lit × DataW H → Nat
  | (.string bytes, d) => bytes.length + uptoBulk d + 1
  | (_, d) => uptoBulk d + 1
 end
def uptoSmall : (H : Type) → List (DataW H) → Bool := fun _ ds => decide (uptoBulkAll ds ≤ 1048576)
def OpenSpec.upto (s : _root_.Go.ChangeSpec) : _root_.Go.OpenSpec := { _root_.Go.OpenSpec.ofChange s with cond := some uptoSmall }

/-- 'palanquinlaw22.CastKeys', WHERE WHAT IT READS IS OF BULK AT MOST 1048576: true; the input reads as it did. -/
def castKeysUptoRow : OpenClaim := { program := "ytbidfmlomiimnaa", sum := "f46ba9319e2358b7f0d6cc07edb08eee99eb3a2abb09c73ed0dfbff49d3c69e3", func := "palanquin/palanquinlaw22.CastKeys", spec := "castKeys", apart := false, narrowed := true }
def CastKeysUptoSaid : Prop := castKeysUptoRow.holds Try.pinned (OpenSpec.upto castKeysSpec)

/-- 'palanquinlaw22.CastKnown', WHERE WHAT IT READS IS OF BULK AT MOST 1048576: true; the input reads as it did. -/
def castKnownUptoRow : OpenClaim := { program := "ytbidfmlomiimnaa", sum := "f46ba9319e2358b7f0d6cc07edb08eee99eb3a2abb09c73ed0dfbff49d3c69e3", func := "palanquin/palanquinlaw22.CastKnown", spec := "castKnown", apart := false, narrowed := true }
def CastKnownUptoSaid : Prop := castKnownUptoRow.holds Try.pinned (OpenSpec.upto castKnownSpec)

/-- 'palanquinlaw22.CastSays', WHERE WHAT IT READS IS OF BULK AT MOST 1048576: true; the input reads as it did. -/
def castSaysUptoRow : OpenClaim := { program := "ytbidfmlomiimnaa", sum := "f46ba9319e2358b7f0d6cc07edb08eee99eb3a2abb09c73ed0dfbff49d3c69e3", func := "palanquin/palanquinlaw22.CastSays", spec := "castSays", apart := false, narrowed := true }
def CastSaysUptoSaid : Prop := castSaysUptoRow.holds Try.pinned (OpenSpec.upto castSaysSpec)

/-- 'palanquinlaw22.CastRuns', WHERE WHAT IT READS IS OF BULK AT MOST 1048576: true; the input reads as it did. -/
def castRunsUptoRow : OpenClaim := { program := "ytbidfmlomiimnaa", sum := "f46ba9319e2358b7f0d6cc07edb08eee99eb3a2abb09c73ed0dfbff49d3c69e3", func := "palanquin/palanquinlaw22.CastRuns", spec := "castRuns", apart := false, narrowed := true }
def CastRunsUptoSaid : Prop := castRunsUptoRow.holds Try.pinned (OpenSpec.upto castRunsSpec)

end Rows
end Go.Proofs.Ytbidfmlomiimnaa
