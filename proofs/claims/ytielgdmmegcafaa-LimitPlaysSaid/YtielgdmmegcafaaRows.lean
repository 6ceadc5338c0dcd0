/-
  No cell of these rows narrows 'for every input' (looked for: loops, veiled, ifaces, maps, wideKeys, modest, calm, conditions, laid).
  DERIVED. THE GIVEN ROWS OF THIS SEAT. 3 by the template 'for every input the law returns true; each argument reads behind the call as it read before'; 0 by the template 'total and deterministic' (their statements: YtielgdmmegcafaaTotals.lean).
  GIVEN WITH THE SEED: the statements are not yours to turn. If you find one false, say at which input.
  Laid BY PROGRAM, IN A SANDBOX (cutbox-rows.mjs): the forced cells as the released guide's own fill.sh prints them over the translation 73b152766404f090… (all of the seat's roots in one cut). By AI agents, Wed Nov 11 2026. No macro, syntax, notation, axiom, sorry.
-/
import Derived.Test.YtielgdmmegcafaaChecked
import GoSem.Claim
import GoSem.ClaimJoined
import GoSem.ClaimMapViews
import Derived.JoinedTies
import Derived.KernelRfl
namespace Go.Proofs.Ytielgdmmegcafaa
/- THE CELL 'sum', in the pinned program and in every row, IS THE sha256 OF THE DUMP (.gsa) THAT YtielgdmmegcafaaProg.lean LOADS. Nothing in Lean hashes anything: it is a label: what it is worth is what the hold of that sum in a sandbox is worth. -/
noncomputable def Try.pinned : Pinned := { name := "ytielgdmmegcafaa", sum := "73b152766404f09063208c4e2e99c4ae27354eb61b31058782edf8bf3f9ba486", checked := Try.checked }
namespace Rows
def none {H : Type} : Left H := { results := [], args := [] }

/-- 'castellanlaw18.LimitPlays': WHATEVER THE INPUT: true; the input reads as it did. -/
def limitPlaysSpec : ChangeSpec := { name := "limitPlays", fn := fun _ => fun
  | [d1, d2] => { results := [.lit (.bool true)], args := [d1, d2] }
  | _ => none }
def limitPlaysRow : OpenClaim := { program := "ytielgdmmegcafaa", sum := "73b152766404f09063208c4e2e99c4ae27354eb61b31058782edf8bf3f9ba486", func := "castellan/castellanlaw18.LimitPlays", spec := "limitPlays", inPlace := ["sync/atomic.StoreInt64", "sync/atomic.LoadInt64", "sync/atomic.CompareAndSwapInt64"], apart := false }
def LimitPlaysSaid : Prop := limitPlaysRow.holds Try.pinned (OpenSpec.ofChange limitPlaysSpec)

/-- ITS FALSE NEIGHBOUR: 'it returns false'. Refute it at one input. -/
def limitPlaysWrong : ChangeSpec := { name := "limitPlays", fn := fun _ => fun
  | [d1, d2] => { results := [.lit (.bool false)], args := [d1, d2] }
  | _ => none }
def LimitPlaysWrongFalsely : Prop := limitPlaysRow.holds Try.pinned (OpenSpec.ofChange limitPlaysWrong)

/-- 'castellanlaw18.LimitOfNothing': WHATEVER THE INPUT: true; the input reads as it did. -/
def limitOfNothingSpec : ChangeSpec := { name := "limitOfNothing", fn := fun _ => fun
  | [d] => { results := [.lit (.bool true)], args := [d] }
  | _ => none }
def limitOfNothingRow : OpenClaim := { program := "ytielgdmmegcafaa", sum := "73b152766404f09063208c4e2e99c4ae27354eb61b31058782edf8bf3f9ba486", func := "castellan/castellanlaw18.LimitOfNothing", spec := "limitOfNothing", inPlace := ["sync/atomic.StoreInt64", "sync/atomic.LoadInt64", "sync/atomic.CompareAndSwapInt64"], apart := false }
def LimitOfNothingSaid : Prop := limitOfNothingRow.holds Try.pinned (OpenSpec.ofChange limitOfNothingSpec)

/-- ITS FALSE NEIGHBOUR: 'it returns false'. Refute it at one input. -/
def limitOfNothingWrong : ChangeSpec := { name := "limitOfNothing", fn := fun _ => fun
  | [d] => { results := [.lit (.bool false)], args := [d] }
  | _ => none }
def LimitOfNothingWrongFalsely : Prop := limitOfNothingRow.holds Try.pinned (OpenSpec.ofChange limitOfNothingWrong)

/-- 'castellanlaw18.LimitSpends': WHATEVER THE INPUT: true; the input reads as it did. -/
def limitSpendsSpec : ChangeSpec := { name := "limitSpends", fn := fun _ => fun
  | [d] => { results := [.lit (.bool true)], args := [d] }
  | _ => none }
def limitSpendsRow : OpenClaim := { program := "ytielgdmmegcafaa", sum := "73b152766404f09063208c4e2e99c4ae27354eb61b31058782edf8bf3f9ba486", func := "castellan/castellanlaw18.LimitSpends", spec := "limitSpends", inPlace := ["sync/atomic.StoreInt64", "sync/atomic.LoadInt64", "sync/atomic.CompareAndSwapInt64"], apart := false }
def LimitSpendsSaid : Prop := limitSpendsRow.holds Try.pinned (OpenSpec.ofChange limitSpendsSpec)

/-- ITS FALSE NEIGHBOUR: 'it returns false'. Refute it at one input. -/
def limitSpendsWrong : ChangeSpec := { name := "limitSpends", fn := fun _ => fun
  | [d] => { results := [.lit (.bool false)], args := [d] }
  | _ => none }
def LimitSpendsWrongFalsely : Prop := limitSpendsRow.holds Try.pinned (OpenSpec.ofChange limitSpendsWrong)

/- THE SECOND FORM. 'bulk': how many values and letters a reading holds, each counted each time it is reached (what is shared counts as often as it is met; a slice's spare places count too). A statement '..UptoSaid' is the law's where the arguments, and the package variables that the reading takes, are together of bulk at most 1048576: NARROWER than '..Said'. Prove '..Said' where nothing that the law and all that it calls make is longer than what came in: it says more and counts as full. Else prove '..UptoSaid'. A law counts once. -/
mutual
def uptoBulk {H : Type} : DataW H → Nat
  | .lit (.string bytes) => bytes.length + 1
  | .lit _ => 1
  | .nil => 1
  | .ptr d => uptoBulk d + 1
  | .slice elems spare => uptoBulkAll elems + uptoBulkAll spare + 1
  | .agg parts => uptoBulkAll parts + 1
  | .iface _ d => uptoBulk d + 1
  | .map entries => uptoBulkEntries entries + 1
  | .held _ => 1
def uptoBulkAll {H : Type} : List (DataW H) → Nat
  | [] => 0
  | d :: r => uptoBulk d + uptoBulkAll r
def uptoBulkEntries {H : Type} : List (Lit × DataW H) → Nat
  | [] => 0
  | x :: r => uptoBulkEntry x + uptoBulkEntries r
def uptoBulkEntry {H : Type} : Lit × DataW H → Nat
  | (.string bytes, d) => bytes.length + uptoBulk d + 1
  | (_, d) => uptoBulk d + 1
 end
def uptoSmall : (H : Type) → List (DataW H) → Bool := fun _ ds => decide (uptoBulkAll ds ≤ 1048576)
def OpenSpec.upto (s : _root_.Go.ChangeSpec) : _root_.Go.OpenSpec := { _root_.Go.OpenSpec.ofChange s with cond := some uptoSmall }

/-- 'castellanlaw18.LimitPlays', WHERE WHAT IT READS IS OF BULK AT MOST 1048576: true; the input reads as it did. -/
def limitPlaysUptoRow : OpenClaim := { program := "ytielgdmmegcafaa", sum := "73b152766404f09063208c4e2e99c4ae27354eb61b31058782edf8bf3f9ba486", func := "castellan/castellanlaw18.LimitPlays", spec := "limitPlays", inPlace := ["sync/atomic.StoreInt64", "sync/atomic.LoadInt64", "sync/atomic.CompareAndSwapInt64"], apart := false, narrowed := true }
def LimitPlaysUptoSaid : Prop := limitPlaysUptoRow.holds Try.pinned (OpenSpec.upto limitPlaysSpec)

/-- 'castellanlaw18.LimitOfNothing', WHERE WHAT IT READS IS OF BULK AT MOST 1048576: true; the input reads as it did. -/
def limitOfNothingUptoRow : OpenClaim := { program := "ytielgdmmegcafaa", sum := "73b152766404f09063208c4e2e99c4ae27354eb61b31058782edf8bf3f9ba486", func := "castellan/castellanlaw18.LimitOfNothing", spec := "limitOfNothing", inPlace := ["sync/atomic.StoreInt64", "sync/atomic.LoadInt64", "sync/atomic.CompareAndSwapInt64"], apart := false, narrowed := true }
def LimitOfNothingUptoSaid : Prop := limitOfNothingUptoRow.holds Try.pinned (OpenSpec.upto limitOfNothingSpec)

/-- 'castellanlaw18.LimitSpends', WHERE WHAT IT READS IS OF BULK AT MOST 1048576: true; the input reads as it did. -/
def limitSpendsUptoRow : OpenClaim := { program := "ytielgdmmegcafaa", sum := "73b152766404f09063208c4e2e99c4ae27354eb61b31058782edf8bf3f9ba486", func := "castellan/castellanlaw18.LimitSpends", spec := "limitSpends", inPlace := ["sync/atomic.StoreInt64", "sync/atomic.LoadInt64", "sync/atomic.CompareAndSwapInt64"], apart := false, narrowed := true }
def LimitSpendsUptoSaid : Prop := limitSpendsUptoRow.holds Try.pinned (OpenSpec.upto limitSpendsSpec)

end Rows
end Go.Proofs.Ytielgdmmegcafaa
