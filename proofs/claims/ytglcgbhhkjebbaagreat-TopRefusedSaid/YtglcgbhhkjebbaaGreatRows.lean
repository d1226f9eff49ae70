/-
  No cell of these rows narrows 'for every input' (looked for: loops, veiled, ifaces, maps, wideKeys, modest, calm, conditions, laid).
  DERIVED. THE GIVEN ROWS OF THIS SEAT. 5 by the template 'for every input the law returns true; each argument reads behind the call as it read before'; 0 by the template 'total and deterministic' (their statements: YtglcgbhhkjebbaaGreatTotals.lean).
  GIVEN WITH THE SEED: the statements are not yours to turn. If you find one false, say at which input.
  Laid BY PROGRAM, IN A SANDBOX (cutbox-rows.mjs): the forced cells as the released guide's own fill.sh prints them over the translation 07d637d2dcce7d05… (all of the seat's roots in one cut). By AI agents, Wed Nov 11 2026. No macro, syntax, notation, axiom, sorry.
-/
import Derived.Test.YtglcgbhhkjebbaaGreatChecked
import GoSem.Claim
import GoSem.ClaimJoined
import GoSem.ClaimMapViews
import Derived.JoinedTies
import Derived.KernelRfl
namespace Go.Proofs.YtglcgbhhkjebbaaGreat
/- THE CELL 'sum', in the pinned program and in every row, IS THE sha256 OF THE DUMP (.gsa) THAT YtglcgbhhkjebbaaGreatProg.lean LOADS. Nothing in Lean hashes anything: it is a label: what it is worth is what the hold of that sum in a sandbox is worth. -/
noncomputable def Tryz.pinned : Pinned := { name := "ytglcgbhhkjebbaagreat", sum := "07d637d2dcce7d058e1e50bbc8f1d5403f9e47d45525864ffd3c423da4e5e40b", checked := Tryz.checked }
namespace Rows
def none {H : Type} : Left H := { results := [], args := [] }

/-- 'palanquintop.TopGone': WHATEVER THE INPUT: true; the input reads as it did. -/
def topGoneSpec : ChangeSpec := { name := "topGone", fn := fun _ => fun
  | [d] => { results := [.lit (.bool true)], args := [d] }
  | _ => none }
def topGoneRow : OpenClaim := { program := "ytglcgbhhkjebbaagreat", sum := "07d637d2dcce7d058e1e50bbc8f1d5403f9e47d45525864ffd3c423da4e5e40b", func := "palanquin/palanquintop.TopGone", spec := "topGone", inPlace := ["sync/atomic.AddInt64"], unfollowed := true, recurses := true, apart := false }
def TopGoneSaid : Prop := topGoneRow.holds Tryz.pinned (OpenSpec.ofChange topGoneSpec)

/-- ITS FALSE NEIGHBOUR: 'it returns false'. Refute it at one input. -/
def topGoneWrong : ChangeSpec := { name := "topGone", fn := fun _ => fun
  | [d] => { results := [.lit (.bool false)], args := [d] }
  | _ => none }
def TopGoneWrongFalsely : Prop := topGoneRow.holds Tryz.pinned (OpenSpec.ofChange topGoneWrong)

/-- 'palanquintop.TopEpochs': WHATEVER THE INPUT: true; the input reads as it did. -/
def topEpochsSpec : ChangeSpec := { name := "topEpochs", fn := fun _ => fun
  | [d] => { results := [.lit (.bool true)], args := [d] }
  | _ => none }
def topEpochsRow : OpenClaim := { program := "ytglcgbhhkjebbaagreat", sum := "07d637d2dcce7d058e1e50bbc8f1d5403f9e47d45525864ffd3c423da4e5e40b", func := "palanquin/palanquintop.TopEpochs", spec := "topEpochs", inPlace := ["sync/atomic.AddInt64"], unfollowed := true, recurses := true, apart := false }
def TopEpochsSaid : Prop := topEpochsRow.holds Tryz.pinned (OpenSpec.ofChange topEpochsSpec)

/-- ITS FALSE NEIGHBOUR: 'it returns false'. Refute it at one input. -/
def topEpochsWrong : ChangeSpec := { name := "topEpochs", fn := fun _ => fun
  | [d] => { results := [.lit (.bool false)], args := [d] }
  | _ => none }
def TopEpochsWrongFalsely : Prop := topEpochsRow.holds Tryz.pinned (OpenSpec.ofChange topEpochsWrong)

/-- 'palanquintop.TopKeys': WHATEVER THE INPUT: true; the input reads as it did. -/
def topKeysSpec : ChangeSpec := { name := "topKeys", fn := fun _ => fun
  | [d] => { results := [.lit (.bool true)], args := [d] }
  | _ => none }
def topKeysRow : OpenClaim := { program := "ytglcgbhhkjebbaagreat", sum := "07d637d2dcce7d058e1e50bbc8f1d5403f9e47d45525864ffd3c423da4e5e40b", func := "palanquin/palanquintop.TopKeys", spec := "topKeys", inPlace := ["sync/atomic.AddInt64"], unfollowed := true, recurses := true, apart := false }
def TopKeysSaid : Prop := topKeysRow.holds Tryz.pinned (OpenSpec.ofChange topKeysSpec)

/-- ITS FALSE NEIGHBOUR: 'it returns false'. Refute it at one input. -/
def topKeysWrong : ChangeSpec := { name := "topKeys", fn := fun _ => fun
  | [d] => { results := [.lit (.bool false)], args := [d] }
  | _ => none }
def TopKeysWrongFalsely : Prop := topKeysRow.holds Tryz.pinned (OpenSpec.ofChange topKeysWrong)

/-- 'palanquintop.TopRefused': WHATEVER THE INPUT: true; the input reads as it did. -/
def topRefusedSpec : ChangeSpec := { name := "topRefused", fn := fun _ => fun
  | [d] => { results := [.lit (.bool true)], args := [d] }
  | _ => none }
def topRefusedRow : OpenClaim := { program := "ytglcgbhhkjebbaagreat", sum := "07d637d2dcce7d058e1e50bbc8f1d5403f9e47d45525864ffd3c423da4e5e40b", func := "palanquin/palanquintop.TopRefused", spec := "topRefused", inPlace := ["sync/atomic.AddInt64"], unfollowed := true, recurses := true, apart := false }
def TopRefusedSaid : Prop := topRefusedRow.holds Tryz.pinned (OpenSpec.ofChange topRefusedSpec)

/-- ITS FALSE NEIGHBOUR: 'it returns false'. Refute it at one input. -/
def topRefusedWrong : ChangeSpec := { name := "topRefused", fn := fun _ => fun
  | [d] => { results := [.lit (.bool false)], args := [d] }
  | _ => none }
def TopRefusedWrongFalsely : Prop := topRefusedRow.holds Tryz.pinned (OpenSpec.ofChange topRefusedWrong)

/-- 'palanquintop.TopApart': WHATEVER THE INPUT: true; the input reads as it did. -/
def topApartSpec : ChangeSpec := { name := "topApart", fn := fun _ => fun
  | [d1, d2] => { results := [.lit (.bool true)], args := [d1, d2] }
  | _ => none }
def topApartRow : OpenClaim := { program := "ytglcgbhhkjebbaagreat", sum := "07d637d2dcce7d058e1e50bbc8f1d5403f9e47d45525864ffd3c423da4e5e40b", func := "palanquin/palanquintop.TopApart", spec := "topApart", inPlace := ["sync/atomic.AddInt64"], unfollowed := true, recurses := true, apart := false }
def TopApartSaid : Prop := topApartRow.holds Tryz.pinned (OpenSpec.ofChange topApartSpec)

/-- ITS FALSE NEIGHBOUR: 'it returns false'. Refute it at one input. -/
def topApartWrong : ChangeSpec := { name := "topApart", fn := fun _ => fun
  | [d1, d2] => { results := [.lit (.bool false)], args := [d1, d2] }
  | _ => none }
def TopApartWrongFalsely : Prop := topApartRow.holds Tryz.pinned (OpenSpec.ofChange topApartWrong)

/- THE SECOND FORM. 'bulk': how many values and letters a reading holds, each counted each time it is reached (what is shared counts as often as it is met; a slice's spare places count too). A statement '..UptoSaid' is the law's where the arguments, and the package variables that the reading takes, are together of bulk at most 1048576: NARROWER than '..Said'. Prove '..Said' where nothing that the law and all that it calls make is longer than what came in: it says more and counts as full. Else prove '..UptoSaid'. A law counts once. -/
mutual
def uptoBulk {H : Type} : DataW H → Nat
  | .lit (.string bytes) => bytes.length + 1
  | .lit _ => 1
  | .nil => 1
  | .ptr d => uptoBulk d + 1
  | .slice elems spare => uptoBulkAll elems + uptoBulkAll spare + 1
  | .agg parts => uptoBulkAll parts + 1
  | .iface _ d => uptoBulk d + 1
  | .map entries => uptoBulkEntries entries + 1
  | .held _ => 1
def uptoBulkAll {H : Type} : List (DataW H) → Nat
  | [] => 0
  | d :: r => uptoBulk d + uptoBulkAll r
def uptoBulkEntries {H : Type} : List (Lit × DataW H) → Nat
  | [] => 0
  | x :: r => uptoBulkEntry x + uptoBulkEntries r
def uptoBulkEntry {H : Type} : Lit × DataW H → Nat
  | (.string bytes, d) => bytes.length + uptoBulk d + 1
  | (_, d) => uptoBulk d + 1
 end
def uptoSmall : (H : Type) → List (DataW H) → Bool := fun _ ds => decide (uptoBulkAll ds ≤ 1048576)
def OpenSpec.upto (s : _root_.Go.ChangeSpec) : _root_.Go.OpenSpec := { _root_.Go.OpenSpec.ofChange s with cond := some uptoSmall }

/-- 'palanquintop.TopGone', WHERE WHAT IT READS IS OF BULK AT MOST 1048576: true; the input reads as it did. -/
def topGoneUptoRow : OpenClaim := { program := "ytglcgbhhkjebbaagreat", sum := "07d637d2dcce7d058e1e50bbc8f1d5403f9e47d45525864ffd3c423da4e5e40b", func := "palanquin/palanquintop.TopGone", spec := "topGone", inPlace := ["sync/atomic.AddInt64"], unfollowed := true, recurses := true, apart := false, narrowed := true }
def TopGoneUptoSaid : Prop := topGoneUptoRow.holds Tryz.pinned (OpenSpec.upto topGoneSpec)

/-- 'palanquintop.TopEpochs', WHERE WHAT IT READS IS OF BULK AT MOST 1048576: true; the input reads as it did. -/
def topEpochsUptoRow : OpenClaim := { program := "ytglcgbhhkjebbaagreat", sum := "07d637d2dcce7d058e1e50bbc8f1d5403f9e47d45525864ffd3c423da4e5e40b", func := "palanquin/palanquintop.TopEpochs", spec := "topEpochs", inPlace := ["sync/atomic.AddInt64"], unfollowed := true, recurses := true, apart := false, narrowed := true }
def TopEpochsUptoSaid : Prop := topEpochsUptoRow.holds Tryz.pinned (OpenSpec.upto topEpochsSpec)

/-- 'palanquintop.TopKeys', WHERE WHAT IT READS IS OF BULK AT MOST 1048576: true; the input reads as it did. -/
def topKeysUptoRow : OpenClaim := { program := "ytglcgbhhkjebbaagreat", sum := "07d637d2dcce7d058e1e50bbc8f1d5403f9e47d45525864ffd3c423da4e5e40b", func := "palanquin/palanquintop.TopKeys", spec := "topKeys", inPlace := ["sync/atomic.AddInt64"], unfollowed := true, recurses := true, apart := false, narrowed := true }
def TopKeysUptoSaid : Prop := topKeysUptoRow.holds Tryz.pinned (OpenSpec.upto topKeysSpec)

/-- 'palanquintop.TopRefused', WHERE WHAT IT READS IS OF BULK AT MOST 1048576: true; the input reads as it did. -/
def topRefusedUptoRow : OpenClaim := { program := "ytglcgbhhkjebbaagreat", sum := "07d637d2dcce7d058e1e50bbc8f1d5403f9e47d45525864ffd3c423da4e5e40b", func := "palanquin/palanquintop.TopRefused", spec := "topRefused", inPlace := ["sync/atomic.AddInt64"], unfollowed := true, recurses := true, apart := false, narrowed := true }
def TopRefusedUptoSaid : Prop := topRefusedUptoRow.holds Tryz.pinned (OpenSpec.upto topRefusedSpec)

/-- 'palanquintop.TopApart', WHERE WHAT IT READS IS OF BULK AT MOST 1048576: true; the input reads as it did. -/
def topApartUptoRow : OpenClaim := { program := "ytglcgbhhkjebbaagreat", sum := "07d637d2dcce7d058e1e50bbc8f1d5403f9e47d45525864ffd3c423da4e5e40b", func := "palanquin/palanquintop.TopApart", spec := "topApart", inPlace := ["sync/atomic.AddInt64"], unfollowed := true, recurses := true, apart := false, narrowed := true }
def TopApartUptoSaid : Prop := topApartUptoRow.holds Tryz.pinned (OpenSpec.upto topApartSpec)

end Rows
end Go.Proofs.YtglcgbhhkjebbaaGreat
