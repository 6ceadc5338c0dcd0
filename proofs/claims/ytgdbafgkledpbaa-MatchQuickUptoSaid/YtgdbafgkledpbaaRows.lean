/-
  No cell of these rows narrows 'for every input' (looked for: loops, veiled, ifaces, maps, wideKeys, modest, calm, conditions, laid).
  DERIVED. THE GIVEN ROWS OF THIS SEAT. 5 by the template 'for every input the law returns true; each argument reads behind the call as it read before'; 0 by the template 'total and deterministic' (their statements: YtgdbafgkledpbaaTotals.lean).
  GIVEN WITH THE SEED: the statements are not yours to turn. If you find one false, say at which input.
  Laid BY PROGRAM, IN A SANDBOX (cutbox-rows.mjs): the forced cells as the released guide's own fill.sh prints them over the translation 7290d3affbd124d4… (all of the seat's roots in one cut). By AI agents, Wed Nov 11 2026. No macro, syntax, notation, axiom, sorry.
-/
import Derived.Test.YtgdbafgkledpbaaChecked
import GoSem.Claim
import GoSem.ClaimJoined
import GoSem.ClaimMapViews
import Derived.JoinedTies
import Derived.KernelRfl
namespace Go.Proofs.Ytgdbafgkledpbaa
/- THE CELL 'sum', in the pinned program and in every row, IS THE sha256 OF THE DUMP (.gsa) THAT YtgdbafgkledpbaaProg.lean LOADS. Nothing in Lean hashes anything: it is a label: what it is worth is what the hold of that sum in a sandbox is worth. -/
noncomputable def Try.pinned : Pinned := { name := "ytgdbafgkledpbaa", sum := "7290d3affbd124d4c5bc51d94869a2b9ab647bcc438b8aae238af22e17cfe765", checked := Try.checked }
namespace Rows
def none {H : Type} : Left H := { results := [], args := [] }

/-- 'castellanlaw15.MatchTells': WHATEVER THE INPUT: true; the input reads as it did. -/
def matchTellsSpec : ChangeSpec := { name := "matchTells", fn := fun _ => fun
  | [d1, d2, d3, d4, d5, d6, d7] => { results := [.lit (.bool true)], args := [d1, d2, d3, d4, d5, d6, d7] }
  | _ => none }
def matchTellsRow : OpenClaim := { program := "ytgdbafgkledpbaa", sum := "7290d3affbd124d4c5bc51d94869a2b9ab647bcc438b8aae238af22e17cfe765", func := "castellan/castellanlaw15.MatchTells", spec := "matchTells", unfollowed := true, recurses := true, apart := false }
def MatchTellsSaid : Prop := matchTellsRow.holds Try.pinned (OpenSpec.ofChange matchTellsSpec)

/-- ITS FALSE NEIGHBOUR: 'it returns false'. Refute it at one input. -/
def matchTellsWrong : ChangeSpec := { name := "matchTells", fn := fun _ => fun
  | [d1, d2, d3, d4, d5, d6, d7] => { results := [.lit (.bool false)], args := [d1, d2, d3, d4, d5, d6, d7] }
  | _ => none }
def MatchTellsWrongFalsely : Prop := matchTellsRow.holds Try.pinned (OpenSpec.ofChange matchTellsWrong)

/-- 'castellanlaw15.MatchQuick': WHATEVER THE INPUT: true; the input reads as it did. -/
def matchQuickSpec : ChangeSpec := { name := "matchQuick", fn := fun _ => fun
  | [d1, d2, d3, d4, d5] => { results := [.lit (.bool true)], args := [d1, d2, d3, d4, d5] }
  | _ => none }
def matchQuickRow : OpenClaim := { program := "ytgdbafgkledpbaa", sum := "7290d3affbd124d4c5bc51d94869a2b9ab647bcc438b8aae238af22e17cfe765", func := "castellan/castellanlaw15.MatchQuick", spec := "matchQuick", unfollowed := true, recurses := true, apart := false }
def MatchQuickSaid : Prop := matchQuickRow.holds Try.pinned (OpenSpec.ofChange matchQuickSpec)

/-- ITS FALSE NEIGHBOUR: 'it returns false'. Refute it at one input. -/
def matchQuickWrong : ChangeSpec := { name := "matchQuick", fn := fun _ => fun
  | [d1, d2, d3, d4, d5] => { results := [.lit (.bool false)], args := [d1, d2, d3, d4, d5] }
  | _ => none }
def MatchQuickWrongFalsely : Prop := matchQuickRow.holds Try.pinned (OpenSpec.ofChange matchQuickWrong)

/-- 'castellanlaw15.MatchLast': WHATEVER THE INPUT: true; the input reads as it did. -/
def matchLastSpec : ChangeSpec := { name := "matchLast", fn := fun _ => fun
  | [d1, d2, d3, d4] => { results := [.lit (.bool true)], args := [d1, d2, d3, d4] }
  | _ => none }
def matchLastRow : OpenClaim := { program := "ytgdbafgkledpbaa", sum := "7290d3affbd124d4c5bc51d94869a2b9ab647bcc438b8aae238af22e17cfe765", func := "castellan/castellanlaw15.MatchLast", spec := "matchLast", unfollowed := true, recurses := true, apart := false }
def MatchLastSaid : Prop := matchLastRow.holds Try.pinned (OpenSpec.ofChange matchLastSpec)

/-- ITS FALSE NEIGHBOUR: 'it returns false'. Refute it at one input. -/
def matchLastWrong : ChangeSpec := { name := "matchLast", fn := fun _ => fun
  | [d1, d2, d3, d4] => { results := [.lit (.bool false)], args := [d1, d2, d3, d4] }
  | _ => none }
def MatchLastWrongFalsely : Prop := matchLastRow.holds Try.pinned (OpenSpec.ofChange matchLastWrong)

/-- 'castellanlaw15.MatchSides': WHATEVER THE INPUT: true; the input reads as it did. -/
def matchSidesSpec : ChangeSpec := { name := "matchSides", fn := fun _ => fun
  | [d1, d2, d3] => { results := [.lit (.bool true)], args := [d1, d2, d3] }
  | _ => none }
def matchSidesRow : OpenClaim := { program := "ytgdbafgkledpbaa", sum := "7290d3affbd124d4c5bc51d94869a2b9ab647bcc438b8aae238af22e17cfe765", func := "castellan/castellanlaw15.MatchSides", spec := "matchSides", unfollowed := true, recurses := true, apart := false }
def MatchSidesSaid : Prop := matchSidesRow.holds Try.pinned (OpenSpec.ofChange matchSidesSpec)

/-- ITS FALSE NEIGHBOUR: 'it returns false'. Refute it at one input. -/
def matchSidesWrong : ChangeSpec := { name := "matchSides", fn := fun _ => fun
  | [d1, d2, d3] => { results := [.lit (.bool false)], args := [d1, d2, d3] }
  | _ => none }
def MatchSidesWrongFalsely : Prop := matchSidesRow.holds Try.pinned (OpenSpec.ofChange matchSidesWrong)

/-- 'castellanlaw15.MatchNone': WHATEVER THE INPUT: true; the input reads as it did. -/
def matchNoneSpec : ChangeSpec := { name := "matchNone", fn := fun _ => fun
  | [d1, d2, d3, d4, d5] => { results := [.lit (.bool true)], args := [d1, d2, d3, d4, d5] }
  | _ => none }
def matchNoneRow : OpenClaim := { program := "ytgdbafgkledpbaa", sum := "7290d3affbd124d4c5bc51d94869a2b9ab647bcc438b8aae238af22e17cfe765", func := "castellan/castellanlaw15.MatchNone", spec := "matchNone", unfollowed := true, recurses := true, apart := false }
def MatchNoneSaid : Prop := matchNoneRow.holds Try.pinned (OpenSpec.ofChange matchNoneSpec)

/-- ITS FALSE NEIGHBOUR: 'it returns false'. Refute it at one input. -/
def matchNoneWrong : ChangeSpec := { name := "matchNone", fn := fun _ => fun
  | [d1, d2, d3, d4, d5] => { results := [.lit (.bool false)], args := [d1, d2, d3, d4, d5] }
  | _ => none }
def MatchNoneWrongFalsely : Prop := matchNoneRow.holds Try.pinned (OpenSpec.ofChange matchNoneWrong)

/- THE SECOND FORM. 'bulk': how many values and letters a reading holds, each counted each time it is reached (what is shared counts as often as it is met; a slice's spare places count too). A statement '..UptoSaid' is the law's where the arguments, and the package variables that the reading takes, are together of bulk at most 1048576: NARROWER than '..Said'. Prove '..Said' where nothing that the law and all that it calls make is longer than what came in: it says more and counts as full. Else prove '..UptoSaid'. A law counts once. -/
mutual
def uptoBulk {H : Type} : DataW H → Nat
  | .lit (.string bytes) => bytes.length + 1
  | .lit _ => 1
  | .nil => 1
  | .ptr d => uptoBulk d + 1
  | .slice elems spare => uptoBulkAll elems + uptoBulkAll spare + 1
  | .agg parts => uptoBulkAll parts + 1
  | .iface _ d => uptoBulk d + 1
  | .map entries => uptoBulkEntries entries + 1
  | .held _ => 1
def uptoBulkAll {H : Type} : List (DataW H) → Nat
  | [] => 0
  | d :: r => uptoBulk d + uptoBulkAll r
def uptoBulkEntries {H : Type} : List (Lit × DataW H) → Nat
  | [] => 0
  | x :: r => uptoBulkEntry x + uptoBulkEntries r
def uptoBulkEntry {H : Type} : Lit × DataW H → Nat
  | (.string bytes, d) => bytes.length + uptoBulk d + 1
  | (_, d) => uptoBulk d + 1
 end
def uptoSmall : (H : Type) → List (DataW H) → Bool := fun _ ds => decide (uptoBulkAll ds ≤ 1048576)
def OpenSpec.upto (s : _root_.Go.ChangeSpec) : _root_.Go.OpenSpec := { _root_.Go.OpenSpec.ofChange s with cond := some uptoSmall }

/-- 'castellanlaw15.MatchTells', WHERE WHAT IT READS IS OF BULK AT MOST 1048576: true; the input reads as it did. -/
def matchTellsUptoRow : OpenClaim := { program := "ytgdbafgkledpbaa", sum := "7290d3affbd124d4c5bc51d94869a2b9ab647bcc438b8aae238af22e17cfe765", func := "castellan/castellanlaw15.MatchTells", spec := "matchTells", unfollowed := true, recurses := true, apart := false, narrowed := true }
def MatchTellsUptoSaid : Prop := matchTellsUptoRow.holds Try.pinned (OpenSpec.upto matchTellsSpec)

/-- 'castellanlaw15.MatchQuick', WHERE WHAT IT READS IS OF BULK AT MOST 1048576: true; the input reads as it did. -/
def matchQuickUptoRow : OpenClaim := { program := "ytgdbafgkledpbaa", sum := "7290d3affbd124d4c5bc51d94869a2b9ab647bcc438b8aae238af22e17cfe765", func := "castellan/castellanlaw15.MatchQuick", spec := "matchQuick", unfollowed := true, recurses := true, apart := false, narrowed := true }
def MatchQuickUptoSaid : Prop := matchQuickUptoRow.holds Try.pinned (OpenSpec.upto matchQuickSpec)

/-- 'castellanlaw15.MatchLast', WHERE WHAT IT READS IS OF BULK AT MOST 1048576: true; the input reads as it did. -/
def matchLastUptoRow : OpenClaim := { program := "ytgdbafgkledpbaa", sum := "7290d3affbd124d4c5bc51d94869a2b9ab647bcc438b8aae238af22e17cfe765", func := "castellan/castellanlaw15.MatchLast", spec := "matchLast", unfollowed := true, recurses := true, apart := false, narrowed := true }
def MatchLastUptoSaid : Prop := matchLastUptoRow.holds Try.pinned (OpenSpec.upto matchLastSpec)

/-- 'castellanlaw15.MatchSides', WHERE WHAT IT READS IS OF BULK AT MOST 1048576: true; the input reads as it did. -/
def matchSidesUptoRow : OpenClaim := { program := "ytgdbafgkledpbaa", sum := "7290d3affbd124d4c5bc51d94869a2b9ab647bcc438b8aae238af22e17cfe765", func := "castellan/castellanlaw15.MatchSides", spec := "matchSides", unfollowed := true, recurses := true, apart := false, narrowed := true }
def MatchSidesUptoSaid : Prop := matchSidesUptoRow.holds Try.pinned (OpenSpec.upto matchSidesSpec)

/-- 'castellanlaw15.MatchNone', WHERE WHAT IT READS IS OF BULK AT MOST 1048576: true; the input reads as it did. -/
def matchNoneUptoRow : OpenClaim := { program := "ytgdbafgkledpbaa", sum := "7290d3affbd124d4c5bc51d94869a2b9ab647bcc438b8aae238af22e17cfe765", func := "castellan/castellanlaw15.MatchNone", spec := "matchNone", unfollowed := true, recurses := true, apart := false, narrowed := true }
def MatchNoneUptoSaid : Prop := matchNoneUptoRow.holds Try.pinned (OpenSpec.upto matchNoneSpec)

end Rows
end Go.Proofs.Ytgdbafgkledpbaa
