/-
  No cell of these rows narrows 'for every input' (looked for: loops, veiled, ifaces, maps, wideKeys, modest, calm, conditions, laid).
  DERIVED. THE GIVEN ROWS OF THIS SEAT. 8 by the template 'for every input the law returns true; each argument reads behind the call as it read before'; 0 by the template 'total and deterministic' (their statements: YtdmghildjadjeaaTotals.lean).
  GIVEN WITH THE SEED: the statements are not yours to turn. If you find one false, say at which input.
  Laid BY PROGRAM, IN A SANDBOX (cutbox-rows.mjs): the forced cells as the released guide's own fill.sh prints them over the translation 1f168bcc34c4c3d5… (all of the seat's roots in one cut). By AI agents, Wed Nov 11 2026. No macro, syntax, notation, axiom, sorry.
-/
import Derived.Test.YtdmghildjadjeaaChecked
import GoSem.Claim
import GoSem.ClaimJoined
import GoSem.ClaimMapViews
import Derived.JoinedTies
import Derived.KernelRfl
namespace Go.Proofs.Ytdmghildjadjeaa
/- THE CELL 'sum', in the pinned program and in every row, IS THE sha256 OF THE DUMP (.gsa) THAT YtdmghildjadjeaaProg.lean LOADS. Nothing in Lean hashes anything: it is a label: what it is worth is what the hold of that sum in a sandbox is worth. -/
noncomputable def Try.pinned : Pinned := { name := "ytdmghildjadjeaa", sum := "1f168bcc34c4c3d5e8bcc9db14d085c7b66076120454697e9c4261b4818e41b8", checked := Try.checked }
namespace Rows
def none {H : Type} : Left H := { results := [], args := [] }

/-- 'castellanlaw11.RibBetter': WHATEVER THE INPUT: true; the input reads as it did. -/
def ribBetterSpec : ChangeSpec := { name := "ribBetter", fn := fun _ => fun
  | [d1, d2, d3] => { results := [.lit (.bool true)], args := [d1, d2, d3] }
  | _ => none }
def ribBetterRow : OpenClaim := { program := "ytdmghildjadjeaa", sum := "1f168bcc34c4c3d5e8bcc9db14d085c7b66076120454697e9c4261b4818e41b8", func := "castellan/castellanlaw11.RibBetter", spec := "ribBetter", inPlace := ["slices.overlaps[castellan/api.Route]"], unfollowed := true, recurses := true, apart := false }
def RibBetterSaid : Prop := ribBetterRow.holds Try.pinned (OpenSpec.ofChange ribBetterSpec)

/-- ITS FALSE NEIGHBOUR: 'it returns false'. Refute it at one input. -/
def ribBetterWrong : ChangeSpec := { name := "ribBetter", fn := fun _ => fun
  | [d1, d2, d3] => { results := [.lit (.bool false)], args := [d1, d2, d3] }
  | _ => none }
def RibBetterWrongFalsely : Prop := ribBetterRow.holds Try.pinned (OpenSpec.ofChange ribBetterWrong)

/-- 'castellanlaw11.RibMany': WHATEVER THE INPUT: true; the input reads as it did. -/
def ribManySpec : ChangeSpec := { name := "ribMany", fn := fun _ => fun
  | [d] => { results := [.lit (.bool true)], args := [d] }
  | _ => none }
def ribManyRow : OpenClaim := { program := "ytdmghildjadjeaa", sum := "1f168bcc34c4c3d5e8bcc9db14d085c7b66076120454697e9c4261b4818e41b8", func := "castellan/castellanlaw11.RibMany", spec := "ribMany", inPlace := ["slices.overlaps[castellan/api.Route]"], unfollowed := true, recurses := true, apart := false }
def RibManySaid : Prop := ribManyRow.holds Try.pinned (OpenSpec.ofChange ribManySpec)

/-- ITS FALSE NEIGHBOUR: 'it returns false'. Refute it at one input. -/
def ribManyWrong : ChangeSpec := { name := "ribMany", fn := fun _ => fun
  | [d] => { results := [.lit (.bool false)], args := [d] }
  | _ => none }
def RibManyWrongFalsely : Prop := ribManyRow.holds Try.pinned (OpenSpec.ofChange ribManyWrong)

/-- 'castellanlaw11.RibBest': WHATEVER THE INPUT: true; the input reads as it did. -/
def ribBestSpec : ChangeSpec := { name := "ribBest", fn := fun _ => fun
  | [d1, d2, d3, d4] => { results := [.lit (.bool true)], args := [d1, d2, d3, d4] }
  | _ => none }
def ribBestRow : OpenClaim := { program := "ytdmghildjadjeaa", sum := "1f168bcc34c4c3d5e8bcc9db14d085c7b66076120454697e9c4261b4818e41b8", func := "castellan/castellanlaw11.RibBest", spec := "ribBest", inPlace := ["slices.overlaps[castellan/api.Route]"], unfollowed := true, recurses := true, apart := false }
def RibBestSaid : Prop := ribBestRow.holds Try.pinned (OpenSpec.ofChange ribBestSpec)

/-- ITS FALSE NEIGHBOUR: 'it returns false'. Refute it at one input. -/
def ribBestWrong : ChangeSpec := { name := "ribBest", fn := fun _ => fun
  | [d1, d2, d3, d4] => { results := [.lit (.bool false)], args := [d1, d2, d3, d4] }
  | _ => none }
def RibBestWrongFalsely : Prop := ribBestRow.holds Try.pinned (OpenSpec.ofChange ribBestWrong)

/-- 'castellanlaw11.RibActive': WHATEVER THE INPUT: true; the input reads as it did. -/
def ribActiveSpec : ChangeSpec := { name := "ribActive", fn := fun _ => fun
  | [d1, d2, d3] => { results := [.lit (.bool true)], args := [d1, d2, d3] }
  | _ => none }
def ribActiveRow : OpenClaim := { program := "ytdmghildjadjeaa", sum := "1f168bcc34c4c3d5e8bcc9db14d085c7b66076120454697e9c4261b4818e41b8", func := "castellan/castellanlaw11.RibActive", spec := "ribActive", inPlace := ["slices.overlaps[castellan/api.Route]"], unfollowed := true, recurses := true, apart := false }
def RibActiveSaid : Prop := ribActiveRow.holds Try.pinned (OpenSpec.ofChange ribActiveSpec)

/-- ITS FALSE NEIGHBOUR: 'it returns false'. Refute it at one input. -/
def ribActiveWrong : ChangeSpec := { name := "ribActive", fn := fun _ => fun
  | [d1, d2, d3] => { results := [.lit (.bool false)], args := [d1, d2, d3] }
  | _ => none }
def RibActiveWrongFalsely : Prop := ribActiveRow.holds Try.pinned (OpenSpec.ofChange ribActiveWrong)

/-- 'castellanlaw11.RibPlays': WHATEVER THE INPUT: true; the input reads as it did. -/
def ribPlaysSpec : ChangeSpec := { name := "ribPlays", fn := fun _ => fun
  | [d1, d2] => { results := [.lit (.bool true)], args := [d1, d2] }
  | _ => none }
def ribPlaysRow : OpenClaim := { program := "ytdmghildjadjeaa", sum := "1f168bcc34c4c3d5e8bcc9db14d085c7b66076120454697e9c4261b4818e41b8", func := "castellan/castellanlaw11.RibPlays", spec := "ribPlays", inPlace := ["slices.overlaps[castellan/api.Route]"], unfollowed := true, recurses := true, apart := false }
def RibPlaysSaid : Prop := ribPlaysRow.holds Try.pinned (OpenSpec.ofChange ribPlaysSpec)

/-- ITS FALSE NEIGHBOUR: 'it returns false'. Refute it at one input. -/
def ribPlaysWrong : ChangeSpec := { name := "ribPlays", fn := fun _ => fun
  | [d1, d2] => { results := [.lit (.bool false)], args := [d1, d2] }
  | _ => none }
def RibPlaysWrongFalsely : Prop := ribPlaysRow.holds Try.pinned (OpenSpec.ofChange ribPlaysWrong)

/-- 'castellanlaw11.RibTold': WHATEVER THE INPUT: true; the input reads as it did. -/
def ribToldSpec : ChangeSpec := { name := "ribTold", fn := fun _ => fun
  | [d1, d2, d3, d4] => { results := [.lit (.bool true)], args := [d1, d2, d3, d4] }
  | _ => none }
def ribToldRow : OpenClaim := { program := "ytdmghildjadjeaa", sum := "1f168bcc34c4c3d5e8bcc9db14d085c7b66076120454697e9c4261b4818e41b8", func := "castellan/castellanlaw11.RibTold", spec := "ribTold", inPlace := ["slices.overlaps[castellan/api.Route]"], unfollowed := true, recurses := true, apart := false }
def RibToldSaid : Prop := ribToldRow.holds Try.pinned (OpenSpec.ofChange ribToldSpec)

/-- ITS FALSE NEIGHBOUR: 'it returns false'. Refute it at one input. -/
def ribToldWrong : ChangeSpec := { name := "ribTold", fn := fun _ => fun
  | [d1, d2, d3, d4] => { results := [.lit (.bool false)], args := [d1, d2, d3, d4] }
  | _ => none }
def RibToldWrongFalsely : Prop := ribToldRow.holds Try.pinned (OpenSpec.ofChange ribToldWrong)

/-- 'castellanlaw11.RibSet': WHATEVER THE INPUT: true; the input reads as it did. -/
def ribSetSpec : ChangeSpec := { name := "ribSet", fn := fun _ => fun
  | [d1, d2, d3] => { results := [.lit (.bool true)], args := [d1, d2, d3] }
  | _ => none }
def ribSetRow : OpenClaim := { program := "ytdmghildjadjeaa", sum := "1f168bcc34c4c3d5e8bcc9db14d085c7b66076120454697e9c4261b4818e41b8", func := "castellan/castellanlaw11.RibSet", spec := "ribSet", inPlace := ["slices.overlaps[castellan/api.Route]"], unfollowed := true, recurses := true, apart := false }
def RibSetSaid : Prop := ribSetRow.holds Try.pinned (OpenSpec.ofChange ribSetSpec)

/-- ITS FALSE NEIGHBOUR: 'it returns false'. Refute it at one input. -/
def ribSetWrong : ChangeSpec := { name := "ribSet", fn := fun _ => fun
  | [d1, d2, d3] => { results := [.lit (.bool false)], args := [d1, d2, d3] }
  | _ => none }
def RibSetWrongFalsely : Prop := ribSetRow.holds Try.pinned (OpenSpec.ofChange ribSetWrong)

/-- 'castellanlaw11.RibOfNothing': WHATEVER THE INPUT: true; the input reads as it did. -/
def ribOfNothingSpec : ChangeSpec := { name := "ribOfNothing", fn := fun _ => fun
  | [d] => { results := [.lit (.bool true)], args := [d] }
  | _ => none }
def ribOfNothingRow : OpenClaim := { program := "ytdmghildjadjeaa", sum := "1f168bcc34c4c3d5e8bcc9db14d085c7b66076120454697e9c4261b4818e41b8", func := "castellan/castellanlaw11.RibOfNothing", spec := "ribOfNothing", inPlace := ["slices.overlaps[castellan/api.Route]"], unfollowed := true, recurses := true, apart := false }
def RibOfNothingSaid : Prop := ribOfNothingRow.holds Try.pinned (OpenSpec.ofChange ribOfNothingSpec)

/-- ITS FALSE NEIGHBOUR: 'it returns false'. Refute it at one input. -/
def ribOfNothingWrong : ChangeSpec := { name := "ribOfNothing", fn := fun _ => fun
  | [d] => { results := [.lit (.bool false)], args := [d] }
  | _ => none }
def RibOfNothingWrongFalsely : Prop := ribOfNothingRow.holds Try.pinned (OpenSpec.ofChange ribOfNothingWrong)

/- THE SECOND FORM. 'bulk': how many values and letters a reading holds, each counted each time it is reached (what is shared counts as often as it is met; a slice's spare places count too). A statement '..UptoSaid' is the law's where the arguments, and the package variables that the reading takes, are together of bulk at most 1048576: NARROWER than '..Said'. Prove '..Said' where nothing that the law and all that it calls make is longer than what came in: it says more and counts as full. Else prove '..UptoSaid'. A law counts once. -/
mutual
def uptoBulk {H : Type} : DataW H → Nat
  | .lit (.string bytes) => bytes.length + 1
  | .lit _ => 1
  | .nil => 1
  | .ptr d => uptoBulk d + 1
  | .slice elems spare => uptoBulkAll elems + uptoBulkAll spare + 1
  | .agg parts => uptoBulkAll parts + 1
  | .iface _ d => uptoBulk d + 1
  | .map entries => uptoBulkEntries entries + 1
  | .held _ => 1
def uptoBulkAll {H : Type} : List (DataW H) → Nat
  | [] => 0
  | d :: r => uptoBulk d + uptoBulkAll r
def uptoBulkEntries {H : Type} : List (Lit × DataW H) → Nat
  | [] => 0
  | x :: r => uptoBulkEntry x + uptoBulkEntries r
def uptoBulkEntry {H : Type} : Lit × DataW H → Nat
  | (.string bytes, d) => bytes.length + uptoBulk d + 1
  | (_, d) => uptoBulk d + 1
 end
def uptoSmall : (H : Type) → List (DataW H) → Bool := fun _ ds => decide (uptoBulkAll ds ≤ 1048576)
def OpenSpec.upto (s : _root_.Go.ChangeSpec) : _root_.Go.OpenSpec := { _root_.Go.OpenSpec.ofChange s with cond := some uptoSmall }

/-- 'castellanlaw11.RibBetter', WHERE WHAT IT READS IS OF BULK AT MOST 1048576: true; the input reads as it did. -/
def ribBetterUptoRow : OpenClaim := { program := "ytdmghildjadjeaa", sum := "1f168bcc34c4c3d5e8bcc9db14d085c7b66076120454697e9c4261b4818e41b8", func := "castellan/castellanlaw11.RibBetter", spec := "ribBetter", inPlace := ["slices.overlaps[castellan/api.Route]"], unfollowed := true, recurses := true, apart := false, narrowed := true }
def RibBetterUptoSaid : Prop := ribBetterUptoRow.holds Try.pinned (OpenSpec.upto ribBetterSpec)

/-- 'castellanlaw11.RibMany', WHERE WHAT IT READS IS OF BULK AT MOST 1048576: true; the input reads as it did. -/
def ribManyUptoRow : OpenClaim := { program := "ytdmghildjadjeaa", sum := "1f168bcc34c4c3d5e8bcc9db14d085c7b66076120454697e9c4261b4818e41b8", func := "castellan/castellanlaw11.RibMany", spec := "ribMany", inPlace := ["slices.overlaps[castellan/api.Route]"], unfollowed := true, recurses := true, apart := false, narrowed := true }
def RibManyUptoSaid : Prop := ribManyUptoRow.holds Try.pinned (OpenSpec.upto ribManySpec)

/-- 'castellanlaw11.RibBest', WHERE WHAT IT READS IS OF BULK AT MOST 1048576: true; the input reads as it did. -/
def ribBestUptoRow : OpenClaim := { program := "ytdmghildjadjeaa", sum := "1f168bcc34c4c3d5e8bcc9db14d085c7b66076120454697e9c4261b4818e41b8", func := "castellan/castellanlaw11.RibBest", spec := "ribBest", inPlace := ["slices.overlaps[castellan/api.Route]"], unfollowed := true, recurses := true, apart := false, narrowed := true }
def RibBestUptoSaid : Prop := ribBestUptoRow.holds Try.pinned (OpenSpec.upto ribBestSpec)

/-- 'castellanlaw11.RibActive', WHERE WHAT IT READS IS OF BULK AT MOST 1048576: true; the input reads as it did. -/
def ribActiveUptoRow : OpenClaim := { program := "ytdmghildjadjeaa", sum := "1f168bcc34c4c3d5e8bcc9db14d085c7b66076120454697e9c4261b4818e41b8", func := "castellan/castellanlaw11.RibActive", spec := "ribActive", inPlace := ["slices.overlaps[castellan/api.Route]"], unfollowed := true, recurses := true, apart := false, narrowed := true }
def RibActiveUptoSaid : Prop := ribActiveUptoRow.holds Try.pinned (OpenSpec.upto ribActiveSpec)

/-- 'castellanlaw11.RibPlays', WHERE WHAT IT READS IS OF BULK AT MOST 1048576: true; the input reads as it did. -/
def ribPlaysUptoRow : OpenClaim := { program := "ytdmghildjadjeaa", sum := "1f168bcc34c4c3d5e8bcc9db14d085c7b66076120454697e9c4261b4818e41b8", func := "castellan/castellanlaw11.RibPlays", spec := "ribPlays", inPlace := ["slices.overlaps[castellan/api.Route]"], unfollowed := true, recurses := true, apart := false, narrowed := true }
def RibPlaysUptoSaid : Prop := ribPlaysUptoRow.holds Try.pinned (OpenSpec.upto ribPlaysSpec)

/-- 'castellanlaw11.RibTold', WHERE WHAT IT READS IS OF BULK AT MOST 1048576: true; the input reads as it did. -/
def ribToldUptoRow : OpenClaim := { program := "ytdmghildjadjeaa", sum := "1f168bcc34c4c3d5e8bcc9db14d085c7b66076120454697e9c4261b4818e41b8", func := "castellan/castellanlaw11.RibTold", spec := "ribTold", inPlace := ["slices.overlaps[castellan/api.Route]"], unfollowed := true, recurses := true, apart := false, narrowed := true }
def RibToldUptoSaid : Prop := ribToldUptoRow.holds Try.pinned (OpenSpec.upto ribToldSpec)

/-- 'castellanlaw11.RibSet', WHERE WHAT IT READS IS OF BULK AT MOST 1048576: true; the input reads as it did. -/
def ribSetUptoRow : OpenClaim := { program := "ytdmghildjadjeaa", sum := "1f168bcc34c4c3d5e8bcc9db14d085c7b66076120454697e9c4261b4818e41b8", func := "castellan/castellanlaw11.RibSet", spec := "ribSet", inPlace := ["slices.overlaps[castellan/api.Route]"], unfollowed := true, recurses := true, apart := false, narrowed := true }
def RibSetUptoSaid : Prop := ribSetUptoRow.holds Try.pinned (OpenSpec.upto ribSetSpec)

/-- 'castellanlaw11.RibOfNothing', WHERE WHAT IT READS IS OF BULK AT MOST 1048576: true; the input reads as it did. -/
def ribOfNothingUptoRow : OpenClaim := { program := "ytdmghildjadjeaa", sum := "1f168bcc34c4c3d5e8bcc9db14d085c7b66076120454697e9c4261b4818e41b8", func := "castellan/castellanlaw11.RibOfNothing", spec := "ribOfNothing", inPlace := ["slices.overlaps[castellan/api.Route]"], unfollowed := true, recurses := true, apart := false, narrowed := true }
def RibOfNothingUptoSaid : Prop := ribOfNothingUptoRow.holds Try.pinned (OpenSpec.upto ribOfNothingSpec)

end Rows
end Go.Proofs.Ytdmghildjadjeaa
