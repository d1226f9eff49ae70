/-
  No cell of these rows narrows 'for every input' (looked for: loops, veiled, ifaces, maps, wideKeys, modest, calm, conditions, laid).
  DERIVED. THE GIVEN ROWS OF THIS SEAT. 5 by the template 'for every input the law returns true; each argument reads behind the call as it read before'; 0 by the template 'total and deterministic' (their statements: YtplpmnippkkkkaaTotals.lean).
  GIVEN WITH THE SEED: the statements are not yours to turn. If you find one false, say at which input.
  Laid BY PROGRAM, IN A SANDBOX (cutbox-rows.mjs): the forced cells as the released guide's own fill.sh prints them over the translation 9fb9e5550de135c5… (all of the seat's roots in one cut). By AI agents, Wed Nov 11 2026. No macro, syntax, notation, axiom, sorry.
-/
import Derived.Test.YtplpmnippkkkkaaChecked
import GoSem.Claim
import GoSem.ClaimJoined
import GoSem.ClaimMapViews
import Derived.JoinedTies
import Derived.KernelRfl
namespace Go.Proofs.Ytplpmnippkkkkaa
/- THE CELL 'sum', in the pinned program and in every row, IS THE sha256 OF THE DUMP (.gsa) THAT YtplpmnippkkkkaaProg.lean LOADS. Nothing in Lean hashes anything: it is a label: what it is worth is what the hold of that sum in a sandbox is worth. -/
noncomputable def Try.pinned : Pinned := { name := "ytplpmnippkkkkaa", sum := "9fb9e5550de135c53ec7f5ddaac051b58c14fc96eaa650e85be789581cfff007", checked := Try.checked }
namespace Rows
def none {H : Type} : Left H := { results := [], args := [] }

/-- 'palanquinlaw26.CountsPlays': WHATEVER THE INPUT: true; the input reads as it did. -/
def countsPlaysSpec : ChangeSpec := { name := "countsPlays", fn := fun _ => fun
  | [d1, d2] => { results := [.lit (.bool true)], args := [d1, d2] }
  | _ => none }
def countsPlaysRow : OpenClaim := { program := "ytplpmnippkkkkaa", sum := "9fb9e5550de135c53ec7f5ddaac051b58c14fc96eaa650e85be789581cfff007", func := "palanquin/palanquinlaw26.CountsPlays", spec := "countsPlays", inPlace := ["sync/atomic.AddInt64", "sync/atomic.LoadInt64"], apart := false }
def CountsPlaysSaid : Prop := countsPlaysRow.holds Try.pinned (OpenSpec.ofChange countsPlaysSpec)

/-- ITS FALSE NEIGHBOUR: 'it returns false'. Refute it at one input. -/
def countsPlaysWrong : ChangeSpec := { name := "countsPlays", fn := fun _ => fun
  | [d1, d2] => { results := [.lit (.bool false)], args := [d1, d2] }
  | _ => none }
def CountsPlaysWrongFalsely : Prop := countsPlaysRow.holds Try.pinned (OpenSpec.ofChange countsPlaysWrong)

/-- 'palanquinlaw26.PostOrder': WHATEVER THE INPUT: true; the input reads as it did. -/
def postOrderSpec : ChangeSpec := { name := "postOrder", fn := fun _ => fun
  | [d1, d2] => { results := [.lit (.bool true)], args := [d1, d2] }
  | _ => none }
def postOrderRow : OpenClaim := { program := "ytplpmnippkkkkaa", sum := "9fb9e5550de135c53ec7f5ddaac051b58c14fc96eaa650e85be789581cfff007", func := "palanquin/palanquinlaw26.PostOrder", spec := "postOrder", inPlace := ["sync/atomic.AddInt64", "sync/atomic.LoadInt64"], apart := false }
def PostOrderSaid : Prop := postOrderRow.holds Try.pinned (OpenSpec.ofChange postOrderSpec)

/-- ITS FALSE NEIGHBOUR: 'it returns false'. Refute it at one input. -/
def postOrderWrong : ChangeSpec := { name := "postOrder", fn := fun _ => fun
  | [d1, d2] => { results := [.lit (.bool false)], args := [d1, d2] }
  | _ => none }
def PostOrderWrongFalsely : Prop := postOrderRow.holds Try.pinned (OpenSpec.ofChange postOrderWrong)

/-- 'palanquinlaw26.PostKnown': WHATEVER THE INPUT: true; the input reads as it did. -/
def postKnownSpec : ChangeSpec := { name := "postKnown", fn := fun _ => fun
  | [] => { results := [.lit (.bool true)], args := [] }
  | _ => none }
def postKnownRow : OpenClaim := { program := "ytplpmnippkkkkaa", sum := "9fb9e5550de135c53ec7f5ddaac051b58c14fc96eaa650e85be789581cfff007", func := "palanquin/palanquinlaw26.PostKnown", spec := "postKnown", inPlace := ["sync/atomic.AddInt64", "sync/atomic.LoadInt64"], apart := false }
def PostKnownSaid : Prop := postKnownRow.holds Try.pinned (OpenSpec.ofChange postKnownSpec)

/-- ITS FALSE NEIGHBOUR: 'it returns false'. Refute it at one input. -/
def postKnownWrong : ChangeSpec := { name := "postKnown", fn := fun _ => fun
  | [] => { results := [.lit (.bool false)], args := [] }
  | _ => none }
def PostKnownWrongFalsely : Prop := postKnownRow.holds Try.pinned (OpenSpec.ofChange postKnownWrong)

/-- 'palanquinlaw26.PostPlays': WHATEVER THE INPUT: true; the input reads as it did. -/
def postPlaysSpec : ChangeSpec := { name := "postPlays", fn := fun _ => fun
  | [d1, d2] => { results := [.lit (.bool true)], args := [d1, d2] }
  | _ => none }
def postPlaysRow : OpenClaim := { program := "ytplpmnippkkkkaa", sum := "9fb9e5550de135c53ec7f5ddaac051b58c14fc96eaa650e85be789581cfff007", func := "palanquin/palanquinlaw26.PostPlays", spec := "postPlays", inPlace := ["sync/atomic.AddInt64", "sync/atomic.LoadInt64"], apart := false }
def PostPlaysSaid : Prop := postPlaysRow.holds Try.pinned (OpenSpec.ofChange postPlaysSpec)

/-- ITS FALSE NEIGHBOUR: 'it returns false'. Refute it at one input. -/
def postPlaysWrong : ChangeSpec := { name := "postPlays", fn := fun _ => fun
  | [d1, d2] => { results := [.lit (.bool false)], args := [d1, d2] }
  | _ => none }
def PostPlaysWrongFalsely : Prop := postPlaysRow.holds Try.pinned (OpenSpec.ofChange postPlaysWrong)

/-- 'palanquinlaw26.PostApart': WHATEVER THE INPUT: true; the input reads as it did. -/
def postApartSpec : ChangeSpec := { name := "postApart", fn := fun _ => fun
  | [d1, d2] => { results := [.lit (.bool true)], args := [d1, d2] }
  | _ => none }
def postApartRow : OpenClaim := { program := "ytplpmnippkkkkaa", sum := "9fb9e5550de135c53ec7f5ddaac051b58c14fc96eaa650e85be789581cfff007", func := "palanquin/palanquinlaw26.PostApart", spec := "postApart", inPlace := ["sync/atomic.AddInt64", "sync/atomic.LoadInt64"], apart := false }
def PostApartSaid : Prop := postApartRow.holds Try.pinned (OpenSpec.ofChange postApartSpec)

/-- ITS FALSE NEIGHBOUR: 'it returns false'. Refute it at one input. -/
def postApartWrong : ChangeSpec := { name := "postApart", fn := fun _ => fun
  | [d1, d2] => { results := [.lit (.bool false)], args := [d1, d2] }
  | _ => none }
def PostApartWrongFalsely : Prop := postApartRow.holds Try.pinned (OpenSpec.ofChange postApartWrong)

/- THE SECOND FORM. 'bulk': how many values and letters a reading holds, each counted each time it is reached (what is shared counts as often as it is met; a slice's spare places count too). A statement '..UptoSaid' is the law's where the arguments, and the package variables that the reading takes, are together of bulk at most 1048576: NARROWER than '..Said'. Prove '..Said' where nothing that the law and all that it calls make is longer than what came in: it says more and counts as full. Else prove '..UptoSaid'. A law counts once. -/
mutual
def uptoBulk {H : Type} : DataW H → Nat
  | .lit (.string bytes) => bytes.length + 1
  | .lit _ => 1
  | .nil => 1
  | .ptr d => uptoBulk d + 1
  | .slice elems spare => uptoBulkAll elems + uptoBulkAll spare + 1
  | .agg parts => uptoBulkAll parts + 1
  | .iface _ d => uptoBulk d + 1
  | .map entries => uptoBulkEntries entries + 1
  | .held _ => 1
def uptoBulkAll {H : Type} : List (DataW H) → Nat
  | [] => 0
  | d :: r => uptoBulk d + uptoBulkAll r
def uptoBulkEntries {H : Type} : List (Lit × DataW H) → Nat
  | [] => 0
  | x :: r => uptoBulkEntry x + uptoBulkEntries r
def uptoBulkEntry {H : Type} : Lit × DataW H → Nat
  | (.string bytes, d) => bytes.length + uptoBulk d + 1
  | (_, d) => uptoBulk d + 1
 end
def uptoSmall : (H : Type) → List (DataW H) → Bool := fun _ ds => decide (uptoBulkAll ds ≤ 1048576)
def OpenSpec.upto (s : _root_.Go.ChangeSpec) : _root_.Go.OpenSpec := { _root_.Go.OpenSpec.ofChange s with cond := some uptoSmall }

/-- 'palanquinlaw26.CountsPlays', WHERE WHAT IT READS IS OF BULK AT MOST 1048576: true; the input reads as it did. -/
def countsPlaysUptoRow : OpenClaim := { program := "ytplpmnippkkkkaa", sum := "9fb9e5550de135c53ec7f5ddaac051b58c14fc96eaa650e85be789581cfff007", func := "palanquin/palanquinlaw26.CountsPlays", spec := "countsPlays", inPlace := ["sync/atomic.AddInt64", "sync/atomic.LoadInt64"], apart := false, narrowed := true }
def CountsPlaysUptoSaid : Prop := countsPlaysUptoRow.holds Try.pinned (OpenSpec.upto countsPlaysSpec)

/-- 'palanquinlaw26.PostOrder', WHERE WHAT IT READS IS OF BULK AT MOST 1048576: true; the input reads as it did. -/
def postOrderUptoRow : OpenClaim := { program := "ytplpmnippkkkkaa", sum := "9fb9e5550de135c53ec7f5ddaac051b58c14fc96eaa650e85be789581cfff007", func := "palanquin/palanquinlaw26.PostOrder", spec := "postOrder", inPlace := ["sync/atomic.AddInt64", "sync/atomic.LoadInt64"], apart := false, narrowed := true }
def PostOrderUptoSaid : Prop := postOrderUptoRow.holds Try.pinned (OpenSpec.upto postOrderSpec)

/-- 'palanquinlaw26.PostKnown', WHERE WHAT IT READS IS OF BULK AT MOST 1048576: true; the input reads as it did. -/
def postKnownUptoRow : OpenClaim := { program := "ytplpmnippkkkkaa", sum := "9fb9e5550de135c53ec7f5ddaac051b58c14fc96eaa650e85be789581cfff007", func := "palanquin/palanquinlaw26.PostKnown", spec := "postKnown", inPlace := ["sync/atomic.AddInt64", "sync/atomic.LoadInt64"], apart := false, narrowed := true }
def PostKnownUptoSaid : Prop := postKnownUptoRow.holds Try.pinned (OpenSpec.upto postKnownSpec)

/-- 'palanquinlaw26.PostPlays', WHERE WHAT IT READS IS OF BULK AT MOST 1048576: true; the input reads as it did. -/
def postPlaysUptoRow : OpenClaim := { program := "ytplpmnippkkkkaa", sum := "9fb9e5550de135c53ec7f5ddaac051b58c14fc96eaa650e85be789581cfff007", func := "palanquin/palanquinlaw26.PostPlays", spec := "postPlays", inPlace := ["sync/atomic.AddInt64", "sync/atomic.LoadInt64"], apart := false, narrowed := true }
def PostPlaysUptoSaid : Prop := postPlaysUptoRow.holds Try.pinned (OpenSpec.upto postPlaysSpec)

/-- 'palanquinlaw26.PostApart', WHERE WHAT IT READS IS OF BULK AT MOST 1048576: true; the input reads as it did. -/
def postApartUptoRow : OpenClaim := { program := "ytplpmnippkkkkaa", sum := "9fb9e5550de135c53ec7f5ddaac051b58c14fc96eaa650e85be789581cfff007", func := "palanquin/palanquinlaw26.PostApart", spec := "postApart", inPlace := ["sync/atomic.AddInt64", "sync/atomic.LoadInt64"], apart := false, narrowed := true }
def PostApartUptoSaid : Prop := postApartUptoRow.holds Try.pinned (OpenSpec.upto postApartSpec)

end Rows
end Go.Proofs.Ytplpmnippkkkkaa
