/-
  No cell of these rows narrows 'for every input' (looked for: loops, veiled, ifaces, maps, wideKeys, modest, calm, conditions, laid).
  DERIVED. THE GIVEN ROWS OF THIS SEAT. 12 by the template 'for every input the law returns true; each argument reads behind the call as it read before'; 0 by the template 'total and deterministic' (their statements: YtcaipfdnadlkdaaTotals.lean).
  GIVEN WITH THE SEED: the statements are not yours to turn. If you find one false, say at which input.
  Laid BY PROGRAM, IN A SANDBOX (cutbox-rows.mjs): the forced cells as the released guide's own fill.sh prints them over the translation 36a11307b0779337… (all of the seat's roots in one cut). By AI agents, Wed Nov 11 2026. No macro, syntax, notation, axiom, sorry.
-/
import Derived.Test.YtcaipfdnadlkdaaChecked
import GoSem.Claim
import GoSem.ClaimJoined
import GoSem.ClaimMapViews
import Derived.JoinedTies
import Derived.KernelRfl
namespace Go.Proofs.Ytcaipfdnadlkdaa
/- THE CELL 'sum', in the pinned program and in every row, IS THE sha256 OF THE DUMP (.gsa) THAT YtcaipfdnadlkdaaProg.lean LOADS. Nothing in Lean hashes anything: it is a label: what it is worth is what the hold of that sum in a sandbox is worth. -/
noncomputable def Try.pinned : Pinned := { name := "ytcaipfdnadlkdaa", sum := "36a11307b077933705c8fc9a3ef6011e3b6dd89805b19d6d6365001570d141f9", checked := Try.checked }
namespace Rows
def none {H : Type} : Left H := { results := [], args := [] }

/-- 'palanquinlaw18.RekeyAll': WHATEVER THE INPUT: true; the input reads as it did. -/
def rekeyAllSpec : ChangeSpec := { name := "rekeyAll", fn := fun _ => fun
  | [d1, d2] => { results := [.lit (.bool true)], args := [d1, d2] }
  | _ => none }
def rekeyAllRow : OpenClaim := { program := "ytcaipfdnadlkdaa", sum := "36a11307b077933705c8fc9a3ef6011e3b6dd89805b19d6d6365001570d141f9", func := "palanquin/palanquinlaw18.RekeyAll", spec := "rekeyAll", apart := false }
def RekeyAllSaid : Prop := rekeyAllRow.holds Try.pinned (OpenSpec.ofChange rekeyAllSpec)

/-- ITS FALSE NEIGHBOUR: 'it returns false'. Refute it at one input. -/
def rekeyAllWrong : ChangeSpec := { name := "rekeyAll", fn := fun _ => fun
  | [d1, d2] => { results := [.lit (.bool false)], args := [d1, d2] }
  | _ => none }
def RekeyAllWrongFalsely : Prop := rekeyAllRow.holds Try.pinned (OpenSpec.ofChange rekeyAllWrong)

/-- 'palanquinlaw18.RekeyPlays': WHATEVER THE INPUT: true; the input reads as it did. -/
def rekeyPlaysSpec : ChangeSpec := { name := "rekeyPlays", fn := fun _ => fun
  | [d1, d2] => { results := [.lit (.bool true)], args := [d1, d2] }
  | _ => none }
def rekeyPlaysRow : OpenClaim := { program := "ytcaipfdnadlkdaa", sum := "36a11307b077933705c8fc9a3ef6011e3b6dd89805b19d6d6365001570d141f9", func := "palanquin/palanquinlaw18.RekeyPlays", spec := "rekeyPlays", apart := false }
def RekeyPlaysSaid : Prop := rekeyPlaysRow.holds Try.pinned (OpenSpec.ofChange rekeyPlaysSpec)

/-- ITS FALSE NEIGHBOUR: 'it returns false'. Refute it at one input. -/
def rekeyPlaysWrong : ChangeSpec := { name := "rekeyPlays", fn := fun _ => fun
  | [d1, d2] => { results := [.lit (.bool false)], args := [d1, d2] }
  | _ => none }
def RekeyPlaysWrongFalsely : Prop := rekeyPlaysRow.holds Try.pinned (OpenSpec.ofChange rekeyPlaysWrong)

/-- 'palanquinlaw18.RekeyKnown': WHATEVER THE INPUT: true; the input reads as it did. -/
def rekeyKnownSpec : ChangeSpec := { name := "rekeyKnown", fn := fun _ => fun
  | [] => { results := [.lit (.bool true)], args := [] }
  | _ => none }
def rekeyKnownRow : OpenClaim := { program := "ytcaipfdnadlkdaa", sum := "36a11307b077933705c8fc9a3ef6011e3b6dd89805b19d6d6365001570d141f9", func := "palanquin/palanquinlaw18.RekeyKnown", spec := "rekeyKnown", apart := false }
def RekeyKnownSaid : Prop := rekeyKnownRow.holds Try.pinned (OpenSpec.ofChange rekeyKnownSpec)

/-- ITS FALSE NEIGHBOUR: 'it returns false'. Refute it at one input. -/
def rekeyKnownWrong : ChangeSpec := { name := "rekeyKnown", fn := fun _ => fun
  | [] => { results := [.lit (.bool false)], args := [] }
  | _ => none }
def RekeyKnownWrongFalsely : Prop := rekeyKnownRow.holds Try.pinned (OpenSpec.ofChange rekeyKnownWrong)

/-- 'palanquinlaw18.RekeySays': WHATEVER THE INPUT: true; the input reads as it did. -/
def rekeySaysSpec : ChangeSpec := { name := "rekeySays", fn := fun _ => fun
  | [d1, d2, d3, d4, d5] => { results := [.lit (.bool true)], args := [d1, d2, d3, d4, d5] }
  | _ => none }
def rekeySaysRow : OpenClaim := { program := "ytcaipfdnadlkdaa", sum := "36a11307b077933705c8fc9a3ef6011e3b6dd89805b19d6d6365001570d141f9", func := "palanquin/palanquinlaw18.RekeySays", spec := "rekeySays", apart := false }
def RekeySaysSaid : Prop := rekeySaysRow.holds Try.pinned (OpenSpec.ofChange rekeySaysSpec)

/-- ITS FALSE NEIGHBOUR: 'it returns false'. Refute it at one input. -/
def rekeySaysWrong : ChangeSpec := { name := "rekeySays", fn := fun _ => fun
  | [d1, d2, d3, d4, d5] => { results := [.lit (.bool false)], args := [d1, d2, d3, d4, d5] }
  | _ => none }
def RekeySaysWrongFalsely : Prop := rekeySaysRow.holds Try.pinned (OpenSpec.ofChange rekeySaysWrong)

/-- 'palanquinlaw17.SlotsPlays': WHATEVER THE INPUT: true; the input reads as it did. -/
def slotsPlaysSpec : ChangeSpec := { name := "slotsPlays", fn := fun _ => fun
  | [d] => { results := [.lit (.bool true)], args := [d] }
  | _ => none }
def slotsPlaysRow : OpenClaim := { program := "ytcaipfdnadlkdaa", sum := "36a11307b077933705c8fc9a3ef6011e3b6dd89805b19d6d6365001570d141f9", func := "palanquin/palanquinlaw17.SlotsPlays", spec := "slotsPlays", apart := false }
def SlotsPlaysSaid : Prop := slotsPlaysRow.holds Try.pinned (OpenSpec.ofChange slotsPlaysSpec)

/-- ITS FALSE NEIGHBOUR: 'it returns false'. Refute it at one input. -/
def slotsPlaysWrong : ChangeSpec := { name := "slotsPlays", fn := fun _ => fun
  | [d] => { results := [.lit (.bool false)], args := [d] }
  | _ => none }
def SlotsPlaysWrongFalsely : Prop := slotsPlaysRow.holds Try.pinned (OpenSpec.ofChange slotsPlaysWrong)

/-- 'palanquinlaw17.SlotsKnown': WHATEVER THE INPUT: true; the input reads as it did. -/
def slotsKnownSpec : ChangeSpec := { name := "slotsKnown", fn := fun _ => fun
  | [] => { results := [.lit (.bool true)], args := [] }
  | _ => none }
def slotsKnownRow : OpenClaim := { program := "ytcaipfdnadlkdaa", sum := "36a11307b077933705c8fc9a3ef6011e3b6dd89805b19d6d6365001570d141f9", func := "palanquin/palanquinlaw17.SlotsKnown", spec := "slotsKnown", apart := false }
def SlotsKnownSaid : Prop := slotsKnownRow.holds Try.pinned (OpenSpec.ofChange slotsKnownSpec)

/-- ITS FALSE NEIGHBOUR: 'it returns false'. Refute it at one input. -/
def slotsKnownWrong : ChangeSpec := { name := "slotsKnown", fn := fun _ => fun
  | [] => { results := [.lit (.bool false)], args := [] }
  | _ => none }
def SlotsKnownWrongFalsely : Prop := slotsKnownRow.holds Try.pinned (OpenSpec.ofChange slotsKnownWrong)

/-- 'palanquinlaw17.SlotsSays': WHATEVER THE INPUT: true; the input reads as it did. -/
def slotsSaysSpec : ChangeSpec := { name := "slotsSays", fn := fun _ => fun
  | [d1, d2, d3] => { results := [.lit (.bool true)], args := [d1, d2, d3] }
  | _ => none }
def slotsSaysRow : OpenClaim := { program := "ytcaipfdnadlkdaa", sum := "36a11307b077933705c8fc9a3ef6011e3b6dd89805b19d6d6365001570d141f9", func := "palanquin/palanquinlaw17.SlotsSays", spec := "slotsSays", apart := false }
def SlotsSaysSaid : Prop := slotsSaysRow.holds Try.pinned (OpenSpec.ofChange slotsSaysSpec)

/-- ITS FALSE NEIGHBOUR: 'it returns false'. Refute it at one input. -/
def slotsSaysWrong : ChangeSpec := { name := "slotsSays", fn := fun _ => fun
  | [d1, d2, d3] => { results := [.lit (.bool false)], args := [d1, d2, d3] }
  | _ => none }
def SlotsSaysWrongFalsely : Prop := slotsSaysRow.holds Try.pinned (OpenSpec.ofChange slotsSaysWrong)

/-- 'palanquinlaw17.SlotsBack': WHATEVER THE INPUT: true; the input reads as it did. -/
def slotsBackSpec : ChangeSpec := { name := "slotsBack", fn := fun _ => fun
  | [d1, d2] => { results := [.lit (.bool true)], args := [d1, d2] }
  | _ => none }
def slotsBackRow : OpenClaim := { program := "ytcaipfdnadlkdaa", sum := "36a11307b077933705c8fc9a3ef6011e3b6dd89805b19d6d6365001570d141f9", func := "palanquin/palanquinlaw17.SlotsBack", spec := "slotsBack", apart := false }
def SlotsBackSaid : Prop := slotsBackRow.holds Try.pinned (OpenSpec.ofChange slotsBackSpec)

/-- ITS FALSE NEIGHBOUR: 'it returns false'. Refute it at one input. -/
def slotsBackWrong : ChangeSpec := { name := "slotsBack", fn := fun _ => fun
  | [d1, d2] => { results := [.lit (.bool false)], args := [d1, d2] }
  | _ => none }
def SlotsBackWrongFalsely : Prop := slotsBackRow.holds Try.pinned (OpenSpec.ofChange slotsBackWrong)

/-- 'palanquinlaw19.RoomSilent': WHATEVER THE INPUT: true; the input reads as it did. -/
def roomSilentSpec : ChangeSpec := { name := "roomSilent", fn := fun _ => fun
  | [d1, d2, d3] => { results := [.lit (.bool true)], args := [d1, d2, d3] }
  | _ => none }
def roomSilentRow : OpenClaim := { program := "ytcaipfdnadlkdaa", sum := "36a11307b077933705c8fc9a3ef6011e3b6dd89805b19d6d6365001570d141f9", func := "palanquin/palanquinlaw19.RoomSilent", spec := "roomSilent", apart := false }
def RoomSilentSaid : Prop := roomSilentRow.holds Try.pinned (OpenSpec.ofChange roomSilentSpec)

/-- ITS FALSE NEIGHBOUR: 'it returns false'. Refute it at one input. -/
def roomSilentWrong : ChangeSpec := { name := "roomSilent", fn := fun _ => fun
  | [d1, d2, d3] => { results := [.lit (.bool false)], args := [d1, d2, d3] }
  | _ => none }
def RoomSilentWrongFalsely : Prop := roomSilentRow.holds Try.pinned (OpenSpec.ofChange roomSilentWrong)

/-- 'palanquinlaw19.RoomKnown': WHATEVER THE INPUT: true; the input reads as it did. -/
def roomKnownSpec : ChangeSpec := { name := "roomKnown", fn := fun _ => fun
  | [] => { results := [.lit (.bool true)], args := [] }
  | _ => none }
def roomKnownRow : OpenClaim := { program := "ytcaipfdnadlkdaa", sum := "36a11307b077933705c8fc9a3ef6011e3b6dd89805b19d6d6365001570d141f9", func := "palanquin/palanquinlaw19.RoomKnown", spec := "roomKnown", apart := false }
def RoomKnownSaid : Prop := roomKnownRow.holds Try.pinned (OpenSpec.ofChange roomKnownSpec)

/-- ITS FALSE NEIGHBOUR: 'it returns false'. Refute it at one input. -/
def roomKnownWrong : ChangeSpec := { name := "roomKnown", fn := fun _ => fun
  | [] => { results := [.lit (.bool false)], args := [] }
  | _ => none }
def RoomKnownWrongFalsely : Prop := roomKnownRow.holds Try.pinned (OpenSpec.ofChange roomKnownWrong)

/-- 'palanquinlaw19.RoomSays': WHATEVER THE INPUT: true; the input reads as it did. -/
def roomSaysSpec : ChangeSpec := { name := "roomSays", fn := fun _ => fun
  | [d1, d2, d3, d4, d5] => { results := [.lit (.bool true)], args := [d1, d2, d3, d4, d5] }
  | _ => none }
def roomSaysRow : OpenClaim := { program := "ytcaipfdnadlkdaa", sum := "36a11307b077933705c8fc9a3ef6011e3b6dd89805b19d6d6365001570d141f9", func := "palanquin/palanquinlaw19.RoomSays", spec := "roomSays", apart := false }
def RoomSaysSaid : Prop := roomSaysRow.holds Try.pinned (OpenSpec.ofChange roomSaysSpec)

/-- ITS FALSE NEIGHBOUR: 'it returns false'. Refute it at one input. -/
def roomSaysWrong : ChangeSpec := { name := "roomSays", fn := fun _ => fun
  | [d1, d2, d3, d4, d5] => { results := [.lit (.bool false)], args := [d1, d2, d3, d4, d5] }
  | _ => none }
def RoomSaysWrongFalsely : Prop := roomSaysRow.holds Try.pinned (OpenSpec.ofChange roomSaysWrong)

/-- 'palanquinlaw19.RoomPlays': WHATEVER THE INPUT: true; the input reads as it did. -/
def roomPlaysSpec : ChangeSpec := { name := "roomPlays", fn := fun _ => fun
  | [d1, d2] => { results := [.lit (.bool true)], args := [d1, d2] }
  | _ => none }
def roomPlaysRow : OpenClaim := { program := "ytcaipfdnadlkdaa", sum := "36a11307b077933705c8fc9a3ef6011e3b6dd89805b19d6d6365001570d141f9", func := "palanquin/palanquinlaw19.RoomPlays", spec := "roomPlays", apart := false }
def RoomPlaysSaid : Prop := roomPlaysRow.holds Try.pinned (OpenSpec.ofChange roomPlaysSpec)

/-- ITS FALSE NEIGHBOUR: 'it returns false'. Refute it at one input. -/
def roomPlaysWrong : ChangeSpec := { name := "roomPlays", fn := fun _ => fun
  | [d1, d2] => { results := [.lit (.bool false)], args := [d1, d2] }
  | _ => none }
def RoomPlaysWrongFalsely : Prop := roomPlaysRow.holds Try.pinned (OpenSpec.ofChange roomPlaysWrong)

/- THE SECOND FORM. 'bulk': how many values and letters a reading holds, each counted each time it is reached (what is shared counts as often as it is met; a slice's spare places count too). A statement '..UptoSaid' is the law's where the arguments, and the package variables that the reading takes, are together of bulk at most 1048576: NARROWER than '..Said'. Prove '..Said' where nothing that the law and all that it calls make is longer than what came in: it says more and counts as full. Else prove '..UptoSaid'. A law counts once. -/
mutual
def uptoBulk {H : Type} : DataW H → Nat
  | .lit (.string bytes) => bytes.length + 1
  | .lit _ => 1
  | .nil => 1
  | .ptr d => uptoBulk d + 1
  | .slice elems spare => uptoBulkAll elems + uptoBulkAll spare + 1
  | .agg parts => uptoBulkAll parts + 1
  | .iface _ d => uptoBulk d + 1
  | .map entries => uptoBulkEntries entries + 1
  | .held _ => 1
def uptoBulkAll {H : Type} : List (DataW H) → Nat
  | [] => 0
  | d :: r => uptoBulk d + uptoBulkAll r
def uptoBulkEntries {H : Type} : List (Lit × DataW H) → Nat
  | [] => 0
  | x :: r => uptoBulkEntry x + uptoBulkEntries r
def uptoBulkEntry {H : Type} : Lit × DataW H → Nat
  | (.string bytes, d) => bytes.length + uptoBulk d + 1
  | (_, d) => uptoBulk d + 1
 end
def uptoSmall : (H : Type) → List (DataW H) → Bool := fun _ ds => decide (uptoBulkAll ds ≤ 1048576)
def OpenSpec.upto (s : _root_.Go.ChangeSpec) : _root_.Go.OpenSpec := { _root_.Go.OpenSpec.ofChange s with cond := some uptoSmall }

/-- 'palanquinlaw18.RekeyAll', WHERE WHAT IT READS IS OF BULK AT MOST 1048576: true; the input reads as it did. -/
def rekeyAllUptoRow : OpenClaim := { program := "ytcaipfdnadlkdaa", sum := "36a11307b077933705c8fc9a3ef6011e3b6dd89805b19d6d6365001570d141f9", func := "palanquin/palanquinlaw18.RekeyAll", spec := "rekeyAll", apart := false, narrowed := true }
def RekeyAllUptoSaid : Prop := rekeyAllUptoRow.holds Try.pinned (OpenSpec.upto rekeyAllSpec)

/-- 'palanquinlaw18.RekeyPlays', WHERE WHAT IT READS IS OF BULK AT MOST 1048576: true; the input reads as it did. -/
def rekeyPlaysUptoRow : OpenClaim := { program := "ytcaipfdnadlkdaa", sum := "36a11307b077933705c8fc9a3ef6011e3b6dd89805b19d6d6365001570d141f9", func := "palanquin/palanquinlaw18.RekeyPlays", spec := "rekeyPlays", apart := false, narrowed := true }
def RekeyPlaysUptoSaid : Prop := rekeyPlaysUptoRow.holds Try.pinned (OpenSpec.upto rekeyPlaysSpec)

/-- 'palanquinlaw18.RekeyKnown', WHERE WHAT IT READS IS OF BULK AT MOST 1048576: true; the input reads as it did. -/
def rekeyKnownUptoRow : OpenClaim := { program := "ytcaipfdnadlkdaa", sum := "36a11307b077933705c8fc9a3ef6011e3b6dd89805b19d6d6365001570d141f9", func := "palanquin/palanquinlaw18.RekeyKnown", spec := "rekeyKnown", apart := false, narrowed := true }
def RekeyKnownUptoSaid : Prop := rekeyKnownUptoRow.holds Try.pinned (OpenSpec.upto rekeyKnownSpec)

/-- 'palanquinlaw18.RekeySays', WHERE WHAT IT READS IS OF BULK AT MOST 1048576: true; the input reads as it did. -/
def rekeySaysUptoRow : OpenClaim := { program := "ytcaipfdnadlkdaa", sum := "36a11307b077933705c8fc9a3ef6011e3b6dd89805b19d6d6365001570d141f9", func := "palanquin/palanquinlaw18.RekeySays", spec := "rekeySays", apart := false, narrowed := true }
def RekeySaysUptoSaid : Prop := rekeySaysUptoRow.holds Try.pinned (OpenSpec.upto rekeySaysSpec)

/-- 'palanquinlaw17.SlotsPlays', WHERE WHAT IT READS IS OF BULK AT MOST 1048576: true; the input reads as it did. -/
def slotsPlaysUptoRow : OpenClaim := { program := "ytcaipfdnadlkdaa", sum := "36a11307b077933705c8fc9a3ef6011e3b6dd89805b19d6d6365001570d141f9", func := "palanquin/palanquinlaw17.SlotsPlays", spec := "slotsPlays", apart := false, narrowed := true }
def SlotsPlaysUptoSaid : Prop := slotsPlaysUptoRow.holds Try.pinned (OpenSpec.upto slotsPlaysSpec)

/-- 'palanquinlaw17.SlotsKnown', WHERE WHAT IT READS IS OF BULK AT MOST 1048576: true; the input reads as it did. -/
def slotsKnownUptoRow : OpenClaim := { program := "ytcaipfdnadlkdaa", sum := "36a11307b077933705c8fc9a3ef6011e3b6dd89805b19d6d6365001570d141f9", func := "palanquin/palanquinlaw17.SlotsKnown", spec := "slotsKnown", apart := false, narrowed := true }
def SlotsKnownUptoSaid : Prop := slotsKnownUptoRow.holds Try.pinned (OpenSpec.upto slotsKnownSpec)

/-- 'palanquinlaw17.SlotsSays', WHERE WHAT IT READS IS OF BULK AT MOST 1048576: true; the input reads as it did. -/
def slotsSaysUptoRow : OpenClaim := { program := "ytcaipfdnadlkdaa", sum := "36a11307b077933705c8fc9a3ef6011e3b6dd89805b19d6d6365001570d141f9", func := "palanquin/palanquinlaw17.SlotsSays", spec := "slotsSays", apart := false, narrowed := true }
def SlotsSaysUptoSaid : Prop := slotsSaysUptoRow.holds Try.pinned (OpenSpec.upto slotsSaysSpec)

/-- 'palanquinlaw17.SlotsBack', WHERE WHAT IT READS IS OF BULK AT MOST 1048576: true; the input reads as it did. -/
def slotsBackUptoRow : OpenClaim := { program := "ytcaipfdnadlkdaa", sum := "36a11307b077933705c8fc9a3ef6011e3b6dd89805b19d6d6365001570d141f9", func := "palanquin/palanquinlaw17.SlotsBack", spec := "slotsBack", apart := false, narrowed := true }
def SlotsBackUptoSaid : Prop := slotsBackUptoRow.holds Try.pinned (OpenSpec.upto slotsBackSpec)

/-- 'palanquinlaw19.RoomSilent', WHERE WHAT IT READS IS OF BULK AT MOST 1048576: true; the input reads as it did. -/
def roomSilentUptoRow : OpenClaim := { program := "ytcaipfdnadlkdaa", sum := "36a11307b077933705c8fc9a3ef6011e3b6dd89805b19d6d6365001570d141f9", func := "palanquin/palanquinlaw19.RoomSilent", spec := "roomSilent", apart := false, narrowed := true }
def RoomSilentUptoSaid : Prop := roomSilentUptoRow.holds Try.pinned (OpenSpec.upto roomSilentSpec)

/-- 'palanquinlaw19.RoomKnown', WHERE WHAT IT READS IS OF BULK AT MOST 1048576: true; the input reads as it did. -/
def roomKnownUptoRow : OpenClaim := { program := "ytcaipfdnadlkdaa", sum := "36a11307b077933705c8fc9a3ef6011e3b6dd89805b19d6d6365001570d141f9", func := "palanquin/palanquinlaw19.RoomKnown", spec := "roomKnown", apart := false, narrowed := true }
def RoomKnownUptoSaid : Prop := roomKnownUptoRow.holds Try.pinned (OpenSpec.upto roomKnownSpec)

/-- 'palanquinlaw19.RoomSays', WHERE WHAT IT READS IS OF BULK AT MOST 1048576: true; the input reads as it did. -/
def roomSaysUptoRow : OpenClaim := { program := "ytcaipfdnadlkdaa", sum := "36a11307b077933705c8fc9a3ef6011e3b6dd89805b19d6d6365001570d141f9", func := "palanquin/palanquinlaw19.RoomSays", spec := "roomSays", apart := false, narrowed := true }
def RoomSaysUptoSaid : Prop := roomSaysUptoRow.holds Try.pinned (OpenSpec.upto roomSaysSpec)

/-- 'palanquinlaw19.RoomPlays', WHERE WHAT IT READS IS OF BULK AT MOST 1048576: true; the input reads as it did. -/
def roomPlaysUptoRow : OpenClaim := { program := "ytcaipfdnadlkdaa", sum := "36a11307b077933705c8fc9a3ef6011e3b6dd89805b19d6d6365001570d141f9", func := "palanquin/palanquinlaw19.RoomPlays", spec := "roomPlays", apart := false, narrowed := true }
def RoomPlaysUptoSaid : Prop := roomPlaysUptoRow.holds Try.pinned (OpenSpec.upto roomPlaysSpec)

end Rows
end Go.Proofs.Ytcaipfdnadlkdaa
