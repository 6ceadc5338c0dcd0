/-
  No cell of these rows narrows 'for every input' (looked for: loops, veiled, ifaces, maps, wideKeys, modest, calm, conditions, laid).
  DERIVED. THE GIVEN ROWS OF THIS SEAT. 5 by the template 'for every input the law returns true; each argument reads behind the call as it read before'; 0 by the template 'total and deterministic' (their statements: YtjfjpibjjliagaaTotals.lean).
  GIVEN WITH THE SEED: the statements are not yours to turn. If you find one false, say at which input.
  Laid BY PROGRAM, IN A SANDBOX (cutbox-rows.mjs): the forced cells as the released guide's own fill.sh prints them over the translation 21582e16faddc3a2… (all of the seat's roots in one cut). By AI agents, Wed Nov 11 2026. No macro, syntax, notation, axiom, sorry.
-/
import Derived.Test.YtjfjpibjjliagaaChecked
import GoSem.Claim
import GoSem.ClaimJoined
import GoSem.ClaimMapViews
import Derived.JoinedTies
import Derived.KernelRfl
namespace Go.Proofs.Ytjfjpibjjliagaa
/- THE CELL 'sum', in the pinned program and in every row, IS THE sha256 OF THE DUMP (.gsa) THAT YtjfjpibjjliagaaProg.lean LOADS. Nothing in Lean hashes anything: it is a label: what it is worth is what the hold of that sum in a sandbox is worth. -/
noncomputable def Try.pinned : Pinned := { name := "ytjfjpibjjliagaa", sum := "21582e16faddc3a222c5f059d6d95a44c0d1f2eabf0ad4e036da2cd1d76d15d6", checked := Try.checked }
namespace Rows
def none {H : Type} : Left H := { results := [], args := [] }

/-- 'castellanlaw17.FlowsPut': WHATEVER THE INPUT: true; the input reads as it did. -/
def flowsPutSpec : ChangeSpec := { name := "flowsPut", fn := fun _ => fun
  | [d1, d2, d3] => { results := [.lit (.bool true)], args := [d1, d2, d3] }
  | _ => none }
def flowsPutRow : OpenClaim := { program := "ytjfjpibjjliagaa", sum := "21582e16faddc3a222c5f059d6d95a44c0d1f2eabf0ad4e036da2cd1d76d15d6", func := "castellan/castellanlaw17.FlowsPut", spec := "flowsPut", plainKeys := false, apart := false }
def FlowsPutSaid : Prop := flowsPutRow.holds Try.pinned (OpenSpec.ofChange flowsPutSpec)

/-- ITS FALSE NEIGHBOUR: 'it returns false'. Refute it at one input. -/
def flowsPutWrong : ChangeSpec := { name := "flowsPut", fn := fun _ => fun
  | [d1, d2, d3] => { results := [.lit (.bool false)], args := [d1, d2, d3] }
  | _ => none }
def FlowsPutWrongFalsely : Prop := flowsPutRow.holds Try.pinned (OpenSpec.ofChange flowsPutWrong)

/-- 'castellanlaw17.FlowsFull': WHATEVER THE INPUT: true; the input reads as it did. -/
def flowsFullSpec : ChangeSpec := { name := "flowsFull", fn := fun _ => fun
  | [d1, d2, d3] => { results := [.lit (.bool true)], args := [d1, d2, d3] }
  | _ => none }
def flowsFullRow : OpenClaim := { program := "ytjfjpibjjliagaa", sum := "21582e16faddc3a222c5f059d6d95a44c0d1f2eabf0ad4e036da2cd1d76d15d6", func := "castellan/castellanlaw17.FlowsFull", spec := "flowsFull", plainKeys := false, apart := false }
def FlowsFullSaid : Prop := flowsFullRow.holds Try.pinned (OpenSpec.ofChange flowsFullSpec)

/-- ITS FALSE NEIGHBOUR: 'it returns false'. Refute it at one input. -/
def flowsFullWrong : ChangeSpec := { name := "flowsFull", fn := fun _ => fun
  | [d1, d2, d3] => { results := [.lit (.bool false)], args := [d1, d2, d3] }
  | _ => none }
def FlowsFullWrongFalsely : Prop := flowsFullRow.holds Try.pinned (OpenSpec.ofChange flowsFullWrong)

/-- 'castellanlaw17.FlowsFinds': WHATEVER THE INPUT: true; the input reads as it did. -/
def flowsFindsSpec : ChangeSpec := { name := "flowsFinds", fn := fun _ => fun
  | [d1, d2] => { results := [.lit (.bool true)], args := [d1, d2] }
  | _ => none }
def flowsFindsRow : OpenClaim := { program := "ytjfjpibjjliagaa", sum := "21582e16faddc3a222c5f059d6d95a44c0d1f2eabf0ad4e036da2cd1d76d15d6", func := "castellan/castellanlaw17.FlowsFinds", spec := "flowsFinds", plainKeys := false, apart := false }
def FlowsFindsSaid : Prop := flowsFindsRow.holds Try.pinned (OpenSpec.ofChange flowsFindsSpec)

/-- ITS FALSE NEIGHBOUR: 'it returns false'. Refute it at one input. -/
def flowsFindsWrong : ChangeSpec := { name := "flowsFinds", fn := fun _ => fun
  | [d1, d2] => { results := [.lit (.bool false)], args := [d1, d2] }
  | _ => none }
def FlowsFindsWrongFalsely : Prop := flowsFindsRow.holds Try.pinned (OpenSpec.ofChange flowsFindsWrong)

/-- 'castellanlaw17.FlowsPlays': WHATEVER THE INPUT: true; the input reads as it did. -/
def flowsPlaysSpec : ChangeSpec := { name := "flowsPlays", fn := fun _ => fun
  | [d1, d2] => { results := [.lit (.bool true)], args := [d1, d2] }
  | _ => none }
def flowsPlaysRow : OpenClaim := { program := "ytjfjpibjjliagaa", sum := "21582e16faddc3a222c5f059d6d95a44c0d1f2eabf0ad4e036da2cd1d76d15d6", func := "castellan/castellanlaw17.FlowsPlays", spec := "flowsPlays", plainKeys := false, apart := false }
def FlowsPlaysSaid : Prop := flowsPlaysRow.holds Try.pinned (OpenSpec.ofChange flowsPlaysSpec)

/-- ITS FALSE NEIGHBOUR: 'it returns false'. Refute it at one input. -/
def flowsPlaysWrong : ChangeSpec := { name := "flowsPlays", fn := fun _ => fun
  | [d1, d2] => { results := [.lit (.bool false)], args := [d1, d2] }
  | _ => none }
def FlowsPlaysWrongFalsely : Prop := flowsPlaysRow.holds Try.pinned (OpenSpec.ofChange flowsPlaysWrong)

/-- 'castellanlaw17.FlowsOfNothing': WHATEVER THE INPUT: true; the input reads as it did. -/
def flowsOfNothingSpec : ChangeSpec := { name := "flowsOfNothing", fn := fun _ => fun
  | [d] => { results := [.lit (.bool true)], args := [d] }
  | _ => none }
def flowsOfNothingRow : OpenClaim := { program := "ytjfjpibjjliagaa", sum := "21582e16faddc3a222c5f059d6d95a44c0d1f2eabf0ad4e036da2cd1d76d15d6", func := "castellan/castellanlaw17.FlowsOfNothing", spec := "flowsOfNothing", plainKeys := false, apart := false }
def FlowsOfNothingSaid : Prop := flowsOfNothingRow.holds Try.pinned (OpenSpec.ofChange flowsOfNothingSpec)

/-- ITS FALSE NEIGHBOUR: 'it returns false'. Refute it at one input. -/
def flowsOfNothingWrong : ChangeSpec := { name := "flowsOfNothing", fn := fun _ => fun
  | [d] => { results := [.lit (.bool false)], args := [d] }
  | _ => none }
def FlowsOfNothingWrongFalsely : Prop := flowsOfNothingRow.holds Try.pinned (OpenSpec.ofChange flowsOfNothingWrong)

/- THE SECOND FORM. 'bulk': how many values and letters a reading holds, each counted each time it is reached (what is shared counts as often as it is met; a slice's spare places count too). A statement '..UptoSaid' is the law's where the arguments, and the package variables that the reading takes, are together of bulk at most 1048576: NARROWER than '..Said'. Prove '..Said' where nothing that the law and all that it calls make is longer than what came in: it says more and counts as full. Else prove '..UptoSaid'. A law counts once. -/
mutual
def uptoBulk {H : Type} : DataW H → Nat
  | .lit (.string bytes) => bytes.length + 1
  | .lit _ => 1
  | .nil => 1
  | .ptr d => uptoBulk d + 1
  | .slice elems spare => uptoBulkAll elems + uptoBulkAll spare + 1
  | .agg parts => uptoBulkAll parts + 1
  | .iface _ d => uptoBulk d + 1
  | .map entries => uptoBulkEntries entries + 1
  | .held _ => 1
def uptoBulkAll {H : Type} : List (DataW H) → Nat
  | [] => 0
  | d :: r => uptoBulk d + uptoBulkAll r
def uptoBulkEntries {H : Type} : List (Lit × DataW H) → Nat
  | [] => 0
  | x :: r => uptoBulkEntry x + uptoBulkEntries r
def uptoBulkEntry {H : Type} : Lit × DataW H → Nat
  | (.string bytes, d) => bytes.length + uptoBulk d + 1
  | (_, d) => uptoBulk d + 1
 end
def uptoSmall : (H : Type) → List (DataW H) → Bool := fun _ ds => decide (uptoBulkAll ds ≤ 1048576)
def OpenSpec.upto (s : _root_.Go.ChangeSpec) : _root_.Go.OpenSpec := { _root_.Go.OpenSpec.ofChange s with cond := some uptoSmall }

/-- 'castellanlaw17.FlowsPut', WHERE WHAT IT READS IS OF BULK AT MOST 1048576: true; the input reads as it did. -/
def flowsPutUptoRow : OpenClaim := { program := "ytjfjpibjjliagaa", sum := "21582e16faddc3a222c5f059d6d95a44c0d1f2eabf0ad4e036da2cd1d76d15d6", func := "castellan/castellanlaw17.FlowsPut", spec := "flowsPut", plainKeys := false, apart := false, narrowed := true }
def FlowsPutUptoSaid : Prop := flowsPutUptoRow.holds Try.pinned (OpenSpec.upto flowsPutSpec)

/-- 'castellanlaw17.FlowsFull', WHERE WHAT IT READS IS OF BULK AT MOST 1048576: true; the input reads as it did. -/
def flowsFullUptoRow : OpenClaim := { program := "ytjfjpibjjliagaa", sum := "21582e16faddc3a222c5f059d6d95a44c0d1f2eabf0ad4e036da2cd1d76d15d6", func := "castellan/castellanlaw17.FlowsFull", spec := "flowsFull", plainKeys := false, apart := false, narrowed := true }
def FlowsFullUptoSaid : Prop := flowsFullUptoRow.holds Try.pinned (OpenSpec.upto flowsFullSpec)

/-- 'castellanlaw17.FlowsFinds', WHERE WHAT IT READS IS OF BULK AT MOST 1048576: true; the input reads as it did. -/
def flowsFindsUptoRow : OpenClaim := { program := "ytjfjpibjjliagaa", sum := "21582e16faddc3a222c5f059d6d95a44c0d1f2eabf0ad4e036da2cd1d76d15d6", func := "castellan/castellanlaw17.FlowsFinds", spec := "flowsFinds", plainKeys := false, apart := false, narrowed := true }
def FlowsFindsUptoSaid : Prop := flowsFindsUptoRow.holds Try.pinned (OpenSpec.upto flowsFindsSpec)

/-- 'castellanlaw17.FlowsPlays', WHERE WHAT IT READS IS OF BULK AT MOST 1048576: true; the input reads as it did. -/
def flowsPlaysUptoRow : OpenClaim := { program := "ytjfjpibjjliagaa", sum := "21582e16faddc3a222c5f059d6d95a44c0d1f2eabf0ad4e036da2cd1d76d15d6", func := "castellan/castellanlaw17.FlowsPlays", spec := "flowsPlays", plainKeys := false, apart := false, narrowed := true }
def FlowsPlaysUptoSaid : Prop := flowsPlaysUptoRow.holds Try.pinned (OpenSpec.upto flowsPlaysSpec)

/-- 'castellanlaw17.FlowsOfNothing', WHERE WHAT IT READS IS OF BULK AT MOST 1048576: true; the input reads as it did. -/
def flowsOfNothingUptoRow : OpenClaim := { program := "ytjfjpibjjliagaa", sum := "21582e16faddc3a222c5f059d6d95a44c0d1f2eabf0ad4e036da2cd1d76d15d6", func := "castellan/castellanlaw17.FlowsOfNothing", spec := "flowsOfNothing", plainKeys := false, apart := false, narrowed := true }
def FlowsOfNothingUptoSaid : Prop := flowsOfNothingUptoRow.holds Try.pinned (OpenSpec.upto flowsOfNothingSpec)

end Rows
end Go.Proofs.Ytjfjpibjjliagaa
