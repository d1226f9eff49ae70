/-
  No cell of these rows narrows 'for every input' (looked for: loops, veiled, ifaces, maps, wideKeys, modest, calm, conditions, laid).
  DERIVED. THE GIVEN ROWS OF THIS SEAT. 4 by the template 'for every input the law returns true; each argument reads behind the call as it read before'; 0 by the template 'total and deterministic' (their statements: YtkbpphbhkjloiaaTotals.lean).
  GIVEN WITH THE SEED: the statements are not yours to turn. If you find one false, say at which input.
  Laid BY PROGRAM, IN A SANDBOX (cutbox-rows.mjs): the forced cells as the released guide's own fill.sh prints them over the translation e9e1b19cc8ec2f02… (all of the seat's roots in one cut). By AI agents, Wed Nov 11 2026. No macro, syntax, notation, axiom, sorry.
-/
import Derived.Test.YtkbpphbhkjloiaaChecked
import GoSem.Claim
import GoSem.ClaimJoined
import GoSem.ClaimMapViews
import Derived.JoinedTies
import Derived.KernelRfl
namespace Go.Proofs.Ytkbpphbhkjloiaa
/- THE CELL 'sum', in the pinned program and in every row, IS THE sha256 OF THE DUMP (.gsa) THAT YtkbpphbhkjloiaaProg.lean LOADS. Nothing in Lean hashes anything: it is a label: what it is worth is what the hold of that sum in a sandbox is worth. -/
noncomputable def Try.pinned : Pinned := { name := "ytkbpphbhkjloiaa", sum := "e9e1b19cc8ec2f022b73abfaa8fdecc3adef976203a679e1b1a760e5927f3596", checked := Try.checked }
namespace Rows
def none {H : Type} : Left H := { results := [], args := [] }

/-- 'palanquinlaw12.KidBack': WHATEVER THE INPUT: true; the input reads as it did. -/
def kidBackSpec : ChangeSpec := { name := "kidBack", fn := fun _ => fun
  | [d1, d2, d3, d4, d5, d6] => { results := [.lit (.bool true)], args := [d1, d2, d3, d4, d5, d6] }
  | _ => none }
def kidBackRow : OpenClaim := { program := "ytkbpphbhkjloiaa", sum := "e9e1b19cc8ec2f022b73abfaa8fdecc3adef976203a679e1b1a760e5927f3596", func := "palanquin/palanquinlaw12.KidBack", spec := "kidBack", apart := false }
def KidBackSaid : Prop := kidBackRow.holds Try.pinned (OpenSpec.ofChange kidBackSpec)

/-- ITS FALSE NEIGHBOUR: 'it returns false'. Refute it at one input. -/
def kidBackWrong : ChangeSpec := { name := "kidBack", fn := fun _ => fun
  | [d1, d2, d3, d4, d5, d6] => { results := [.lit (.bool false)], args := [d1, d2, d3, d4, d5, d6] }
  | _ => none }
def KidBackWrongFalsely : Prop := kidBackRow.holds Try.pinned (OpenSpec.ofChange kidBackWrong)

/-- 'palanquinlaw12.KidKnown': WHATEVER THE INPUT: true; the input reads as it did. -/
def kidKnownSpec : ChangeSpec := { name := "kidKnown", fn := fun _ => fun
  | [] => { results := [.lit (.bool true)], args := [] }
  | _ => none }
def kidKnownRow : OpenClaim := { program := "ytkbpphbhkjloiaa", sum := "e9e1b19cc8ec2f022b73abfaa8fdecc3adef976203a679e1b1a760e5927f3596", func := "palanquin/palanquinlaw12.KidKnown", spec := "kidKnown", apart := false }
def KidKnownSaid : Prop := kidKnownRow.holds Try.pinned (OpenSpec.ofChange kidKnownSpec)

/-- ITS FALSE NEIGHBOUR: 'it returns false'. Refute it at one input. -/
def kidKnownWrong : ChangeSpec := { name := "kidKnown", fn := fun _ => fun
  | [] => { results := [.lit (.bool false)], args := [] }
  | _ => none }
def KidKnownWrongFalsely : Prop := kidKnownRow.holds Try.pinned (OpenSpec.ofChange kidKnownWrong)

/-- 'palanquinlaw12.KidSays': WHATEVER THE INPUT: true; the input reads as it did. -/
def kidSaysSpec : ChangeSpec := { name := "kidSays", fn := fun _ => fun
  | [d1, d2, d3, d4, d5] => { results := [.lit (.bool true)], args := [d1, d2, d3, d4, d5] }
  | _ => none }
def kidSaysRow : OpenClaim := { program := "ytkbpphbhkjloiaa", sum := "e9e1b19cc8ec2f022b73abfaa8fdecc3adef976203a679e1b1a760e5927f3596", func := "palanquin/palanquinlaw12.KidSays", spec := "kidSays", apart := false }
def KidSaysSaid : Prop := kidSaysRow.holds Try.pinned (OpenSpec.ofChange kidSaysSpec)

/-- ITS FALSE NEIGHBOUR: 'it returns false'. Refute it at one input. -/
def kidSaysWrong : ChangeSpec := { name := "kidSays", fn := fun _ => fun
  | [d1, d2, d3, d4, d5] => { results := [.lit (.bool false)], args := [d1, d2, d3, d4, d5] }
  | _ => none }
def KidSaysWrongFalsely : Prop := kidSaysRow.holds Try.pinned (OpenSpec.ofChange kidSaysWrong)

/-- 'palanquinlaw12.KidLess': WHATEVER THE INPUT: true; the input reads as it did. -/
def kidLessSpec : ChangeSpec := { name := "kidLess", fn := fun _ => fun
  | [d1, d2, d3] => { results := [.lit (.bool true)], args := [d1, d2, d3] }
  | _ => none }
def kidLessRow : OpenClaim := { program := "ytkbpphbhkjloiaa", sum := "e9e1b19cc8ec2f022b73abfaa8fdecc3adef976203a679e1b1a760e5927f3596", func := "palanquin/palanquinlaw12.KidLess", spec := "kidLess", apart := false }
def KidLessSaid : Prop := kidLessRow.holds Try.pinned (OpenSpec.ofChange kidLessSpec)

/-- ITS FALSE NEIGHBOUR: 'it returns false'. Refute it at one input. -/
def kidLessWrong : ChangeSpec := { name := "kidLess", fn := fun _ => fun
  | [d1, d2, d3] => { results := [.lit (.bool false)], args := [d1, d2, d3] }
  | _ => none }
def KidLessWrongFalsely : Prop := kidLessRow.holds Try.pinned (OpenSpec.ofChange kidLessWrong)

/- THE SECOND FORM. 'bulk': how many values and letters a reading holds, each counted each time it is reached (what is shared counts as often as it is met; a slice's spare places count too). A statement '..UptoSaid' is the law's where the arguments, and the package variables that the reading takes, are together of bulk at most 1048576: NARROWER than '..Said'. Prove '..Said' where nothing that the law and all that it calls make is longer than what came in: it says more and counts as full. Else prove '..UptoSaid'. A law counts once. -/
mutual
def uptoBulk {H : Type} : DataW H → Nat
  | .lit (.string bytes) => bytes.length + 1
  | .lit _ => 1
  | .nil => 1
  | .ptr d => uptoBulk d + 1
  | .slice elems spare => uptoBulkAll elems + uptoBulkAll spare + 1
  | .agg parts => uptoBulkAll parts + 1
  | .iface _ d => uptoBulk d + 1
  | .map entries => uptoBulkEntries entries + 1
  | .held _ => 1
def uptoBulkAll {H : Type} : List (DataW H) → Nat
  | [] => 0
  | d :: r => uptoBulk d + uptoBulkAll r
def uptoBulkEntries {H : Type} : List (Lit × DataW H) → Nat
  | [] => 0
  | x :: r => uptoBulkEntry x + uptoBulkEntries r
def uptoBulkEntry {H : Type} : Lit × DataW H → Nat
  | (.string bytes, d) => bytes.length + uptoBulk d + 1
  | (_, d) => uptoBulk d + 1
 end
def uptoSmall : (H : Type) → List (DataW H) → Bool := fun _ ds => decide (uptoBulkAll ds ≤ 1048576)
def OpenSpec.upto (s : _root_.Go.ChangeSpec) : _root_.Go.OpenSpec := { _root_.Go.OpenSpec.ofChange s with cond := some uptoSmall }

/-- 'palanquinlaw12.KidBack', WHERE WHAT IT READS IS OF BULK AT MOST 1048576: true; the input reads as it did. -/
def kidBackUptoRow : OpenClaim := { program := "ytkbpphbhkjloiaa", sum := "e9e1b19cc8ec2f022b73abfaa8fdecc3adef976203a679e1b1a760e5927f3596", func := "palanquin/palanquinlaw12.KidBack", spec := "kidBack", apart := false, narrowed := true }
def KidBackUptoSaid : Prop := kidBackUptoRow.holds Try.pinned (OpenSpec.upto kidBackSpec)

/-- 'palanquinlaw12.KidKnown', WHERE WHAT IT READS IS OF BULK AT MOST 1048576: true; the input reads as it did. -/
def kidKnownUptoRow : OpenClaim := { program := "ytkbpphbhkjloiaa", sum := "e9e1b19cc8ec2f022b73abfaa8fdecc3adef976203a679e1b1a760e5927f3596", func := "palanquin/palanquinlaw12.KidKnown", spec := "kidKnown", apart := false, narrowed := true }
def KidKnownUptoSaid : Prop := kidKnownUptoRow.holds Try.pinned (OpenSpec.upto kidKnownSpec)

/-- 'palanquinlaw12.KidSays', WHERE WHAT IT READS IS OF BULK AT MOST 1048576: true; the input reads as it did. -/
def kidSaysUptoRow : OpenClaim := { program := "ytkbpphbhkjloiaa", sum := "e9e1b19cc8ec2f022b73abfaa8fdecc3adef976203a679e1b1a760e5927f3596", func := "palanquin/palanquinlaw12.KidSays", spec := "kidSays", apart := false, narrowed := true }
def KidSaysUptoSaid : Prop := kidSaysUptoRow.holds Try.pinned (OpenSpec.upto kidSaysSpec)

/-- 'palanquinlaw12.KidLess', WHERE WHAT IT READS IS OF BULK AT MOST 1048576: true; the input reads as it did. -/
def kidLessUptoRow : OpenClaim := { program := "ytkbpphbhkjloiaa", sum := "e9e1b19cc8ec2f022b73abfaa8fdecc3adef976203a679e1b1a760e5927f3596", func := "palanquin/palanquinlaw12.KidLess", spec := "kidLess", apart := false, narrowed := true }
def KidLessUptoSaid : Prop := kidLessUptoRow.holds Try.pinned (OpenSpec.upto kidLessSpec)

end Rows
end Go.Proofs.Ytkbpphbhkjloiaa
