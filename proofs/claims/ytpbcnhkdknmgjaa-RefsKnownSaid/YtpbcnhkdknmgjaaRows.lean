/-
  No cell of these rows narrows 'for every input' (looked for: loops, veiled, ifaces, maps, wideKeys, modest, calm, conditions, laid).
  DERIVED. THE GIVEN ROWS OF THIS SEAT. 4 by the template 'for every input the law returns true; each argument reads behind the call as it read before'; 0 by the template 'total and deterministic' (their statements: YtpbcnhkdknmgjaaTotals.lean).
  GIVEN WITH THE SEED: the statements are not yours to turn. If you find one false, say at which input.
  Laid BY PROGRAM, IN A SANDBOX (cutbox-rows.mjs): the forced cells as the released guide's own fill.sh prints them over the translation 5369fd773564edcb… (all of the seat's roots in one cut). By AI agents, Wed Nov 11 2026. No macro, syntax, notation, axiom, sorry.
-/
import Derived.Test.YtpbcnhkdknmgjaaChecked
import GoSem.Claim
import GoSem.ClaimJoined
import GoSem.ClaimMapViews
import Derived.JoinedTies
import Derived.KernelRfl
namespace Go.Proofs.Ytpbcnhkdknmgjaa
/- THE CELL 'sum', in the pinned program and in every row, IS THE sha256 OF THE DUMP (.gsa) THAT YtpbcnhkdknmgjaaProg.lean LOADS. Nothing in Lean hashes anything: it is a label: what it is worth is what the hold of that sum in a sandbox is worth. -/
noncomputable def Try.pinned : Pinned := { name := "ytpbcnhkdknmgjaa", sum := "5369fd773564edcb69b2c9e4dd0e6e3857df6817924b72ddc04b6492a78bd1df", checked := Try.checked }
namespace Rows
def none {H : Type} : Left H := { results := [], args := [] }

/-- 'palanquinlaw21.RefsKnown': WHATEVER THE INPUT: true; the input reads as it did. -/
def refsKnownSpec : ChangeSpec := { name := "refsKnown", fn := fun _ => fun
  | [] => { results := [.lit (.bool true)], args := [] }
  | _ => none }
def refsKnownRow : OpenClaim := { program := "ytpbcnhkdknmgjaa", sum := "5369fd773564edcb69b2c9e4dd0e6e3857df6817924b72ddc04b6492a78bd1df", func := "palanquin/palanquinlaw21.RefsKnown", spec := "refsKnown", apart := false }
def RefsKnownSaid : Prop := refsKnownRow.holds Try.pinned (OpenSpec.ofChange refsKnownSpec)

/-- ITS FALSE NEIGHBOUR: 'it returns false'. Refute it at one input. -/
def refsKnownWrong : ChangeSpec := { name := "refsKnown", fn := fun _ => fun
  | [] => { results := [.lit (.bool false)], args := [] }
  | _ => none }
def RefsKnownWrongFalsely : Prop := refsKnownRow.holds Try.pinned (OpenSpec.ofChange refsKnownWrong)

/-- 'palanquinlaw21.RefsSays': WHATEVER THE INPUT: true; the input reads as it did. -/
def refsSaysSpec : ChangeSpec := { name := "refsSays", fn := fun _ => fun
  | [d1, d2, d3] => { results := [.lit (.bool true)], args := [d1, d2, d3] }
  | _ => none }
def refsSaysRow : OpenClaim := { program := "ytpbcnhkdknmgjaa", sum := "5369fd773564edcb69b2c9e4dd0e6e3857df6817924b72ddc04b6492a78bd1df", func := "palanquin/palanquinlaw21.RefsSays", spec := "refsSays", apart := false }
def RefsSaysSaid : Prop := refsSaysRow.holds Try.pinned (OpenSpec.ofChange refsSaysSpec)

/-- ITS FALSE NEIGHBOUR: 'it returns false'. Refute it at one input. -/
def refsSaysWrong : ChangeSpec := { name := "refsSays", fn := fun _ => fun
  | [d1, d2, d3] => { results := [.lit (.bool false)], args := [d1, d2, d3] }
  | _ => none }
def RefsSaysWrongFalsely : Prop := refsSaysRow.holds Try.pinned (OpenSpec.ofChange refsSaysWrong)

/-- 'palanquinlaw21.RefsPlays': WHATEVER THE INPUT: true; the input reads as it did. -/
def refsPlaysSpec : ChangeSpec := { name := "refsPlays", fn := fun _ => fun
  | [d] => { results := [.lit (.bool true)], args := [d] }
  | _ => none }
def refsPlaysRow : OpenClaim := { program := "ytpbcnhkdknmgjaa", sum := "5369fd773564edcb69b2c9e4dd0e6e3857df6817924b72ddc04b6492a78bd1df", func := "palanquin/palanquinlaw21.RefsPlays", spec := "refsPlays", apart := false }
def RefsPlaysSaid : Prop := refsPlaysRow.holds Try.pinned (OpenSpec.ofChange refsPlaysSpec)

/-- ITS FALSE NEIGHBOUR: 'it returns false'. Refute it at one input. -/
def refsPlaysWrong : ChangeSpec := { name := "refsPlays", fn := fun _ => fun
  | [d] => { results := [.lit (.bool false)], args := [d] }
  | _ => none }
def RefsPlaysWrongFalsely : Prop := refsPlaysRow.holds Try.pinned (OpenSpec.ofChange refsPlaysWrong)

/-- 'palanquinlaw21.RefsFit': WHATEVER THE INPUT: true; the input reads as it did. -/
def refsFitSpec : ChangeSpec := { name := "refsFit", fn := fun _ => fun
  | [d1, d2, d3, d4] => { results := [.lit (.bool true)], args := [d1, d2, d3, d4] }
  | _ => none }
def refsFitRow : OpenClaim := { program := "ytpbcnhkdknmgjaa", sum := "5369fd773564edcb69b2c9e4dd0e6e3857df6817924b72ddc04b6492a78bd1df", func := "palanquin/palanquinlaw21.RefsFit", spec := "refsFit", apart := false }
def RefsFitSaid : Prop := refsFitRow.holds Try.pinned (OpenSpec.ofChange refsFitSpec)

/-- ITS FALSE NEIGHBOUR: 'it returns false'. Refute it at one input. -/
def refsFitWrong : ChangeSpec := { name := "refsFit", fn := fun _ => fun
  | [d1, d2, d3, d4] => { results := [.lit (.bool false)], args := [d1, d2, d3, d4] }
  | _ => none }
def RefsFitWrongFalsely : Prop := refsFitRow.holds Try.pinned (OpenSpec.ofChange refsFitWrong)

/- THE SECOND FORM. 'bulk': how many values and letters a reading holds, each counted each time it is reached (what is shared counts as often as it is met; a slice's spare places count too). A statement '..UptoSaid' is the law's where the arguments, and the package variables that the reading takes, are together of bulk at most 1048576: NARROWER than '..Said'. Prove '..Said' where nothing that the law and all that it calls make is longer than what came in: it says more and counts as full. Else prove '..UptoSaid'. A law counts once. -/
mutual
def uptoBulk {H : Type} : DataW H → Nat
  | .lit (.string bytes) => bytes.length + 1
  | .lit _ => 1
  | .nil => 1
  | .ptr d => uptoBulk d + 1
  | .slice elems spare => uptoBulkAll elems + uptoBulkAll spare + 1
  | .agg parts => uptoBulkAll parts + 1
  | .iface _ d => uptoBulk d + 1
  | .map entries => uptoBulkEntries entries + 1
  | .held _ => 1
def uptoBulkAll {H : Type} : List (DataW H) → Nat
  | [] => 0
  | d :: r => uptoBulk d + uptoBulkAll r
def uptoBulkEntries {H : Type} : List (Lit × DataW H) → Nat
  | [] => 0
  | x :: r => uptoBulkEntry x + uptoBulkEntries r
def uptoBulkEntry {H : Type} : Lit × DataW H → Nat
  | (.string bytes, d) => bytes.length + uptoBulk d + 1
  | (_, d) => uptoBulk d + 1
 end
def uptoSmall : (H : Type) → List (DataW H) → Bool := fun _ ds => decide (uptoBulkAll ds ≤ 1048576)
def OpenSpec.upto (s : _root_.Go.ChangeSpec) : _root_.Go.OpenSpec := { _root_.Go.OpenSpec.ofChange s with cond := some uptoSmall }

/-- 'palanquinlaw21.RefsKnown', WHERE WHAT IT READS IS OF BULK AT MOST 1048576: true; the input reads as it did. -/
def refsKnownUptoRow : OpenClaim := { program := "ytpbcnhkdknmgjaa", sum := "5369fd773564edcb69b2c9e4dd0e6e3857df6817924b72ddc04b6492a78bd1df", func := "palanquin/palanquinlaw21.RefsKnown", spec := "refsKnown", apart := false, narrowed := true }
def RefsKnownUptoSaid : Prop := refsKnownUptoRow.holds Try.pinned (OpenSpec.upto refsKnownSpec)

/-- 'palanquinlaw21.RefsSays', WHERE WHAT IT READS IS OF BULK AT MOST 1048576: true; the input reads as it did. -/
def refsSaysUptoRow : OpenClaim := { program := "ytpbcnhkdknmgjaa", sum := "5369fd773564edcb69b2c9e4dd0e6e3857df6817924b72ddc04b6492a78bd1df", func := "palanquin/palanquinlaw21.RefsSays", spec := "refsSays", apart := false, narrowed := true }
def RefsSaysUptoSaid : Prop := refsSaysUptoRow.holds Try.pinned (OpenSpec.upto refsSaysSpec)

/-- 'palanquinlaw21.RefsPlays', WHERE WHAT IT READS IS OF BULK AT MOST 1048576: true; the input reads as it did. -/
def refsPlaysUptoRow : OpenClaim := { program := "ytpbcnhkdknmgjaa", sum := "5369fd773564edcb69b2c9e4dd0e6e3857df6817924b72ddc04b6492a78bd1df", func := "palanquin/palanquinlaw21.RefsPlays", spec := "refsPlays", apart := false, narrowed := true }
def RefsPlaysUptoSaid : Prop := refsPlaysUptoRow.holds Try.pinned (OpenSpec.upto refsPlaysSpec)

/-- 'palanquinlaw21.RefsFit', WHERE WHAT IT READS IS OF BULK AT MOST 1048576: true; the input reads as it did. -/
def refsFitUptoRow : OpenClaim := { program := "ytpbcnhkdknmgjaa", sum := "5369fd773564edcb69b2c9e4dd0e6e3857df6817924b72ddc04b6492a78bd1df", func := "palanquin/palanquinlaw21.RefsFit", spec := "refsFit", apart := false, narrowed := true }
def RefsFitUptoSaid : Prop := refsFitUptoRow.holds Try.pinned (OpenSpec.upto refsFitSpec)

end Rows
end Go.Proofs.Ytpbcnhkdknmgjaa
