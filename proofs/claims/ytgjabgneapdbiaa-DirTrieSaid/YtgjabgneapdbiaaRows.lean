/-
  No cell of these rows narrows 'for every input' (looked for: loops, veiled, ifaces, maps, wideKeys, modest, calm, conditions, laid).
  DERIVED. THE GIVEN ROWS OF THIS SEAT. 16 by the template 'for every input the law returns true; each argument reads behind the call as it read before'; 0 by the template 'total and deterministic' (their statements: YtgjabgneapdbiaaTotals.lean).
  GIVEN WITH THE SEED: the statements are not yours to turn. If you find one false, say at which input.
  Laid BY PROGRAM, IN A SANDBOX (cutbox-rows.mjs): the forced cells as the released guide's own fill.sh prints them over the translation f6a585ccb373c3c1… (all of the seat's roots in one cut). By AI agents, Wed Nov 11 2026. No macro, syntax, notation, axiom, sorry.
-/
import Derived.Test.YtgjabgneapdbiaaChecked
import GoSem.Claim
import GoSem.ClaimJoined
import GoSem.ClaimMapViews
import Derived.JoinedTies
import Derived.KernelRfl
namespace Go.Proofs.Ytgjabgneapdbiaa
/- THE CELL 'sum', in the pinned program and in every row, IS THE sha256 OF THE DUMP (.gsa) THAT YtgjabgneapdbiaaProg.lean LOADS. Nothing in Lean hashes anything: it is a label: what it is worth is what the hold of that sum in a sandbox is worth. -/
noncomputable def Try.pinned : Pinned := { name := "ytgjabgneapdbiaa", sum := "f6a585ccb373c3c1a5480799c2de5769b3ae5b8065d680d9d7a7203627e512ea", checked := Try.checked }
namespace Rows
def none {H : Type} : Left H := { results := [], args := [] }

/-- 'castellanlaw9.TrieHalves': WHATEVER THE INPUT: true; the input reads as it did. -/
def trieHalvesSpec : ChangeSpec := { name := "trieHalves", fn := fun _ => fun
  | [d1, d2] => { results := [.lit (.bool true)], args := [d1, d2] }
  | _ => none }
def trieHalvesRow : OpenClaim := { program := "ytgjabgneapdbiaa", sum := "f6a585ccb373c3c1a5480799c2de5769b3ae5b8065d680d9d7a7203627e512ea", func := "castellan/castellanlaw9.TrieHalves", spec := "trieHalves", recurses := true, plainKeys := false, apart := false }
def TrieHalvesSaid : Prop := trieHalvesRow.holds Try.pinned (OpenSpec.ofChange trieHalvesSpec)

/-- ITS FALSE NEIGHBOUR: 'it returns false'. Refute it at one input. -/
def trieHalvesWrong : ChangeSpec := { name := "trieHalves", fn := fun _ => fun
  | [d1, d2] => { results := [.lit (.bool false)], args := [d1, d2] }
  | _ => none }
def TrieHalvesWrongFalsely : Prop := trieHalvesRow.holds Try.pinned (OpenSpec.ofChange trieHalvesWrong)

/-- 'castellanlaw9.TrieNodes': WHATEVER THE INPUT: true; the input reads as it did. -/
def trieNodesSpec : ChangeSpec := { name := "trieNodes", fn := fun _ => fun
  | [d1, d2] => { results := [.lit (.bool true)], args := [d1, d2] }
  | _ => none }
def trieNodesRow : OpenClaim := { program := "ytgjabgneapdbiaa", sum := "f6a585ccb373c3c1a5480799c2de5769b3ae5b8065d680d9d7a7203627e512ea", func := "castellan/castellanlaw9.TrieNodes", spec := "trieNodes", recurses := true, plainKeys := false, apart := false }
def TrieNodesSaid : Prop := trieNodesRow.holds Try.pinned (OpenSpec.ofChange trieNodesSpec)

/-- ITS FALSE NEIGHBOUR: 'it returns false'. Refute it at one input. -/
def trieNodesWrong : ChangeSpec := { name := "trieNodes", fn := fun _ => fun
  | [d1, d2] => { results := [.lit (.bool false)], args := [d1, d2] }
  | _ => none }
def TrieNodesWrongFalsely : Prop := trieNodesRow.holds Try.pinned (OpenSpec.ofChange trieNodesWrong)

/-- 'castellanlaw9.TrieLongest': WHATEVER THE INPUT: true; the input reads as it did. -/
def trieLongestSpec : ChangeSpec := { name := "trieLongest", fn := fun _ => fun
  | [d1, d2, d3] => { results := [.lit (.bool true)], args := [d1, d2, d3] }
  | _ => none }
def trieLongestRow : OpenClaim := { program := "ytgjabgneapdbiaa", sum := "f6a585ccb373c3c1a5480799c2de5769b3ae5b8065d680d9d7a7203627e512ea", func := "castellan/castellanlaw9.TrieLongest", spec := "trieLongest", recurses := true, plainKeys := false, apart := false }
def TrieLongestSaid : Prop := trieLongestRow.holds Try.pinned (OpenSpec.ofChange trieLongestSpec)

/-- ITS FALSE NEIGHBOUR: 'it returns false'. Refute it at one input. -/
def trieLongestWrong : ChangeSpec := { name := "trieLongest", fn := fun _ => fun
  | [d1, d2, d3] => { results := [.lit (.bool false)], args := [d1, d2, d3] }
  | _ => none }
def TrieLongestWrongFalsely : Prop := trieLongestRow.holds Try.pinned (OpenSpec.ofChange trieLongestWrong)

/-- 'castellanlaw9.TrieCovers': WHATEVER THE INPUT: true; the input reads as it did. -/
def trieCoversSpec : ChangeSpec := { name := "trieCovers", fn := fun _ => fun
  | [d1, d2] => { results := [.lit (.bool true)], args := [d1, d2] }
  | _ => none }
def trieCoversRow : OpenClaim := { program := "ytgjabgneapdbiaa", sum := "f6a585ccb373c3c1a5480799c2de5769b3ae5b8065d680d9d7a7203627e512ea", func := "castellan/castellanlaw9.TrieCovers", spec := "trieCovers", recurses := true, plainKeys := false, apart := false }
def TrieCoversSaid : Prop := trieCoversRow.holds Try.pinned (OpenSpec.ofChange trieCoversSpec)

/-- ITS FALSE NEIGHBOUR: 'it returns false'. Refute it at one input. -/
def trieCoversWrong : ChangeSpec := { name := "trieCovers", fn := fun _ => fun
  | [d1, d2] => { results := [.lit (.bool false)], args := [d1, d2] }
  | _ => none }
def TrieCoversWrongFalsely : Prop := trieCoversRow.holds Try.pinned (OpenSpec.ofChange trieCoversWrong)

/-- 'castellanlaw9.TrieSet': WHATEVER THE INPUT: true; the input reads as it did. -/
def trieSetSpec : ChangeSpec := { name := "trieSet", fn := fun _ => fun
  | [d1, d2] => { results := [.lit (.bool true)], args := [d1, d2] }
  | _ => none }
def trieSetRow : OpenClaim := { program := "ytgjabgneapdbiaa", sum := "f6a585ccb373c3c1a5480799c2de5769b3ae5b8065d680d9d7a7203627e512ea", func := "castellan/castellanlaw9.TrieSet", spec := "trieSet", recurses := true, plainKeys := false, apart := false }
def TrieSetSaid : Prop := trieSetRow.holds Try.pinned (OpenSpec.ofChange trieSetSpec)

/-- ITS FALSE NEIGHBOUR: 'it returns false'. Refute it at one input. -/
def trieSetWrong : ChangeSpec := { name := "trieSet", fn := fun _ => fun
  | [d1, d2] => { results := [.lit (.bool false)], args := [d1, d2] }
  | _ => none }
def TrieSetWrongFalsely : Prop := trieSetRow.holds Try.pinned (OpenSpec.ofChange trieSetWrong)

/-- 'castellanlaw9.TriePlays': WHATEVER THE INPUT: true; the input reads as it did. -/
def triePlaysSpec : ChangeSpec := { name := "triePlays", fn := fun _ => fun
  | [d] => { results := [.lit (.bool true)], args := [d] }
  | _ => none }
def triePlaysRow : OpenClaim := { program := "ytgjabgneapdbiaa", sum := "f6a585ccb373c3c1a5480799c2de5769b3ae5b8065d680d9d7a7203627e512ea", func := "castellan/castellanlaw9.TriePlays", spec := "triePlays", recurses := true, plainKeys := false, apart := false }
def TriePlaysSaid : Prop := triePlaysRow.holds Try.pinned (OpenSpec.ofChange triePlaysSpec)

/-- ITS FALSE NEIGHBOUR: 'it returns false'. Refute it at one input. -/
def triePlaysWrong : ChangeSpec := { name := "triePlays", fn := fun _ => fun
  | [d] => { results := [.lit (.bool false)], args := [d] }
  | _ => none }
def TriePlaysWrongFalsely : Prop := triePlaysRow.holds Try.pinned (OpenSpec.ofChange triePlaysWrong)

/-- 'castellanlaw9.TrieDel': WHATEVER THE INPUT: true; the input reads as it did. -/
def trieDelSpec : ChangeSpec := { name := "trieDel", fn := fun _ => fun
  | [d1, d2] => { results := [.lit (.bool true)], args := [d1, d2] }
  | _ => none }
def trieDelRow : OpenClaim := { program := "ytgjabgneapdbiaa", sum := "f6a585ccb373c3c1a5480799c2de5769b3ae5b8065d680d9d7a7203627e512ea", func := "castellan/castellanlaw9.TrieDel", spec := "trieDel", recurses := true, plainKeys := false, apart := false }
def TrieDelSaid : Prop := trieDelRow.holds Try.pinned (OpenSpec.ofChange trieDelSpec)

/-- ITS FALSE NEIGHBOUR: 'it returns false'. Refute it at one input. -/
def trieDelWrong : ChangeSpec := { name := "trieDel", fn := fun _ => fun
  | [d1, d2] => { results := [.lit (.bool false)], args := [d1, d2] }
  | _ => none }
def TrieDelWrongFalsely : Prop := trieDelRow.holds Try.pinned (OpenSpec.ofChange trieDelWrong)

/-- 'castellanlaw9.TrieBest': WHATEVER THE INPUT: true; the input reads as it did. -/
def trieBestSpec : ChangeSpec := { name := "trieBest", fn := fun _ => fun
  | [d1, d2] => { results := [.lit (.bool true)], args := [d1, d2] }
  | _ => none }
def trieBestRow : OpenClaim := { program := "ytgjabgneapdbiaa", sum := "f6a585ccb373c3c1a5480799c2de5769b3ae5b8065d680d9d7a7203627e512ea", func := "castellan/castellanlaw9.TrieBest", spec := "trieBest", recurses := true, plainKeys := false, apart := false }
def TrieBestSaid : Prop := trieBestRow.holds Try.pinned (OpenSpec.ofChange trieBestSpec)

/-- ITS FALSE NEIGHBOUR: 'it returns false'. Refute it at one input. -/
def trieBestWrong : ChangeSpec := { name := "trieBest", fn := fun _ => fun
  | [d1, d2] => { results := [.lit (.bool false)], args := [d1, d2] }
  | _ => none }
def TrieBestWrongFalsely : Prop := trieBestRow.holds Try.pinned (OpenSpec.ofChange trieBestWrong)

/-- 'castellanlaw9.TrieOfNothing': WHATEVER THE INPUT: true; the input reads as it did. -/
def trieOfNothingSpec : ChangeSpec := { name := "trieOfNothing", fn := fun _ => fun
  | [d1, d2] => { results := [.lit (.bool true)], args := [d1, d2] }
  | _ => none }
def trieOfNothingRow : OpenClaim := { program := "ytgjabgneapdbiaa", sum := "f6a585ccb373c3c1a5480799c2de5769b3ae5b8065d680d9d7a7203627e512ea", func := "castellan/castellanlaw9.TrieOfNothing", spec := "trieOfNothing", recurses := true, plainKeys := false, apart := false }
def TrieOfNothingSaid : Prop := trieOfNothingRow.holds Try.pinned (OpenSpec.ofChange trieOfNothingSpec)

/-- ITS FALSE NEIGHBOUR: 'it returns false'. Refute it at one input. -/
def trieOfNothingWrong : ChangeSpec := { name := "trieOfNothing", fn := fun _ => fun
  | [d1, d2] => { results := [.lit (.bool false)], args := [d1, d2] }
  | _ => none }
def TrieOfNothingWrongFalsely : Prop := trieOfNothingRow.holds Try.pinned (OpenSpec.ofChange trieOfNothingWrong)

/-- 'castellanlaw10.DirTrie': WHATEVER THE INPUT: true; the input reads as it did. -/
def dirTrieSpec : ChangeSpec := { name := "dirTrie", fn := fun _ => fun
  | [d1, d2] => { results := [.lit (.bool true)], args := [d1, d2] }
  | _ => none }
def dirTrieRow : OpenClaim := { program := "ytgjabgneapdbiaa", sum := "f6a585ccb373c3c1a5480799c2de5769b3ae5b8065d680d9d7a7203627e512ea", func := "castellan/castellanlaw10.DirTrie", spec := "dirTrie", inPlace := ["sync/atomic.LoadUint32", "(*internal/sync.Mutex).Lock", "internal/race.Disable", "sync/atomic.CompareAndSwapInt32", "internal/race.Enable", "internal/race.Acquire", "(*internal/sync.Mutex).lockSlow", "internal/sync.runtime_canSpin", "internal/sync.runtime_doSpin", "internal/sync.throw", "internal/sync.runtime_nanotime", "internal/sync.runtime_SemacquireMutex", "sync/atomic.AddInt32", "(*internal/sync.Mutex).Unlock", "internal/race.ReleaseMerge", "(*internal/sync.Mutex).unlockSlow", "internal/sync.fatal", "internal/sync.runtime_Semrelease", "sync/atomic.StoreUint32"], unfollowed := true, recurses := true, plainKeys := false, apart := false }
def DirTrieSaid : Prop := dirTrieRow.holds Try.pinned (OpenSpec.ofChange dirTrieSpec)

/-- ITS FALSE NEIGHBOUR: 'it returns false'. Refute it at one input. -/
def dirTrieWrong : ChangeSpec := { name := "dirTrie", fn := fun _ => fun
  | [d1, d2] => { results := [.lit (.bool false)], args := [d1, d2] }
  | _ => none }
def DirTrieWrongFalsely : Prop := dirTrieRow.holds Try.pinned (OpenSpec.ofChange dirTrieWrong)

/-- 'castellanlaw10.DirOwned': WHATEVER THE INPUT: true; the input reads as it did. -/
def dirOwnedSpec : ChangeSpec := { name := "dirOwned", fn := fun _ => fun
  | [d1, d2] => { results := [.lit (.bool true)], args := [d1, d2] }
  | _ => none }
def dirOwnedRow : OpenClaim := { program := "ytgjabgneapdbiaa", sum := "f6a585ccb373c3c1a5480799c2de5769b3ae5b8065d680d9d7a7203627e512ea", func := "castellan/castellanlaw10.DirOwned", spec := "dirOwned", inPlace := ["sync/atomic.LoadUint32", "(*internal/sync.Mutex).Lock", "internal/race.Disable", "sync/atomic.CompareAndSwapInt32", "internal/race.Enable", "internal/race.Acquire", "(*internal/sync.Mutex).lockSlow", "internal/sync.runtime_canSpin", "internal/sync.runtime_doSpin", "internal/sync.throw", "internal/sync.runtime_nanotime", "internal/sync.runtime_SemacquireMutex", "sync/atomic.AddInt32", "(*internal/sync.Mutex).Unlock", "internal/race.ReleaseMerge", "(*internal/sync.Mutex).unlockSlow", "internal/sync.fatal", "internal/sync.runtime_Semrelease", "sync/atomic.StoreUint32"], unfollowed := true, recurses := true, plainKeys := false, apart := false }
def DirOwnedSaid : Prop := dirOwnedRow.holds Try.pinned (OpenSpec.ofChange dirOwnedSpec)

/-- ITS FALSE NEIGHBOUR: 'it returns false'. Refute it at one input. -/
def dirOwnedWrong : ChangeSpec := { name := "dirOwned", fn := fun _ => fun
  | [d1, d2] => { results := [.lit (.bool false)], args := [d1, d2] }
  | _ => none }
def DirOwnedWrongFalsely : Prop := dirOwnedRow.holds Try.pinned (OpenSpec.ofChange dirOwnedWrong)

/-- 'castellanlaw10.DirLooks': WHATEVER THE INPUT: true; the input reads as it did. -/
def dirLooksSpec : ChangeSpec := { name := "dirLooks", fn := fun _ => fun
  | [d1, d2, d3] => { results := [.lit (.bool true)], args := [d1, d2, d3] }
  | _ => none }
def dirLooksRow : OpenClaim := { program := "ytgjabgneapdbiaa", sum := "f6a585ccb373c3c1a5480799c2de5769b3ae5b8065d680d9d7a7203627e512ea", func := "castellan/castellanlaw10.DirLooks", spec := "dirLooks", inPlace := ["sync/atomic.LoadUint32", "(*internal/sync.Mutex).Lock", "internal/race.Disable", "sync/atomic.CompareAndSwapInt32", "internal/race.Enable", "internal/race.Acquire", "(*internal/sync.Mutex).lockSlow", "internal/sync.runtime_canSpin", "internal/sync.runtime_doSpin", "internal/sync.throw", "internal/sync.runtime_nanotime", "internal/sync.runtime_SemacquireMutex", "sync/atomic.AddInt32", "(*internal/sync.Mutex).Unlock", "internal/race.ReleaseMerge", "(*internal/sync.Mutex).unlockSlow", "internal/sync.fatal", "internal/sync.runtime_Semrelease", "sync/atomic.StoreUint32"], unfollowed := true, recurses := true, plainKeys := false, apart := false }
def DirLooksSaid : Prop := dirLooksRow.holds Try.pinned (OpenSpec.ofChange dirLooksSpec)

/-- ITS FALSE NEIGHBOUR: 'it returns false'. Refute it at one input. -/
def dirLooksWrong : ChangeSpec := { name := "dirLooks", fn := fun _ => fun
  | [d1, d2, d3] => { results := [.lit (.bool false)], args := [d1, d2, d3] }
  | _ => none }
def DirLooksWrongFalsely : Prop := dirLooksRow.holds Try.pinned (OpenSpec.ofChange dirLooksWrong)

/-- 'castellanlaw10.DirBack': WHATEVER THE INPUT: true; the input reads as it did. -/
def dirBackSpec : ChangeSpec := { name := "dirBack", fn := fun _ => fun
  | [d1, d2, d3] => { results := [.lit (.bool true)], args := [d1, d2, d3] }
  | _ => none }
def dirBackRow : OpenClaim := { program := "ytgjabgneapdbiaa", sum := "f6a585ccb373c3c1a5480799c2de5769b3ae5b8065d680d9d7a7203627e512ea", func := "castellan/castellanlaw10.DirBack", spec := "dirBack", inPlace := ["sync/atomic.LoadUint32", "(*internal/sync.Mutex).Lock", "internal/race.Disable", "sync/atomic.CompareAndSwapInt32", "internal/race.Enable", "internal/race.Acquire", "(*internal/sync.Mutex).lockSlow", "internal/sync.runtime_canSpin", "internal/sync.runtime_doSpin", "internal/sync.throw", "internal/sync.runtime_nanotime", "internal/sync.runtime_SemacquireMutex", "sync/atomic.AddInt32", "(*internal/sync.Mutex).Unlock", "internal/race.ReleaseMerge", "(*internal/sync.Mutex).unlockSlow", "internal/sync.fatal", "internal/sync.runtime_Semrelease", "sync/atomic.StoreUint32"], unfollowed := true, recurses := true, plainKeys := false, apart := false }
def DirBackSaid : Prop := dirBackRow.holds Try.pinned (OpenSpec.ofChange dirBackSpec)

/-- ITS FALSE NEIGHBOUR: 'it returns false'. Refute it at one input. -/
def dirBackWrong : ChangeSpec := { name := "dirBack", fn := fun _ => fun
  | [d1, d2, d3] => { results := [.lit (.bool false)], args := [d1, d2, d3] }
  | _ => none }
def DirBackWrongFalsely : Prop := dirBackRow.holds Try.pinned (OpenSpec.ofChange dirBackWrong)

/-- 'castellanlaw10.DirPlays': WHATEVER THE INPUT: true; the input reads as it did. -/
def dirPlaysSpec : ChangeSpec := { name := "dirPlays", fn := fun _ => fun
  | [d1, d2] => { results := [.lit (.bool true)], args := [d1, d2] }
  | _ => none }
def dirPlaysRow : OpenClaim := { program := "ytgjabgneapdbiaa", sum := "f6a585ccb373c3c1a5480799c2de5769b3ae5b8065d680d9d7a7203627e512ea", func := "castellan/castellanlaw10.DirPlays", spec := "dirPlays", inPlace := ["sync/atomic.LoadUint32", "(*internal/sync.Mutex).Lock", "internal/race.Disable", "sync/atomic.CompareAndSwapInt32", "internal/race.Enable", "internal/race.Acquire", "(*internal/sync.Mutex).lockSlow", "internal/sync.runtime_canSpin", "internal/sync.runtime_doSpin", "internal/sync.throw", "internal/sync.runtime_nanotime", "internal/sync.runtime_SemacquireMutex", "sync/atomic.AddInt32", "(*internal/sync.Mutex).Unlock", "internal/race.ReleaseMerge", "(*internal/sync.Mutex).unlockSlow", "internal/sync.fatal", "internal/sync.runtime_Semrelease", "sync/atomic.StoreUint32"], unfollowed := true, recurses := true, plainKeys := false, apart := false }
def DirPlaysSaid : Prop := dirPlaysRow.holds Try.pinned (OpenSpec.ofChange dirPlaysSpec)

/-- ITS FALSE NEIGHBOUR: 'it returns false'. Refute it at one input. -/
def dirPlaysWrong : ChangeSpec := { name := "dirPlays", fn := fun _ => fun
  | [d1, d2] => { results := [.lit (.bool false)], args := [d1, d2] }
  | _ => none }
def DirPlaysWrongFalsely : Prop := dirPlaysRow.holds Try.pinned (OpenSpec.ofChange dirPlaysWrong)

/-- 'castellanlaw10.DirFull': WHATEVER THE INPUT: true; the input reads as it did. -/
def dirFullSpec : ChangeSpec := { name := "dirFull", fn := fun _ => fun
  | [d1, d2] => { results := [.lit (.bool true)], args := [d1, d2] }
  | _ => none }
def dirFullRow : OpenClaim := { program := "ytgjabgneapdbiaa", sum := "f6a585ccb373c3c1a5480799c2de5769b3ae5b8065d680d9d7a7203627e512ea", func := "castellan/castellanlaw10.DirFull", spec := "dirFull", inPlace := ["sync/atomic.LoadUint32", "(*internal/sync.Mutex).Lock", "internal/race.Disable", "sync/atomic.CompareAndSwapInt32", "internal/race.Enable", "internal/race.Acquire", "(*internal/sync.Mutex).lockSlow", "internal/sync.runtime_canSpin", "internal/sync.runtime_doSpin", "internal/sync.throw", "internal/sync.runtime_nanotime", "internal/sync.runtime_SemacquireMutex", "sync/atomic.AddInt32", "(*internal/sync.Mutex).Unlock", "internal/race.ReleaseMerge", "(*internal/sync.Mutex).unlockSlow", "internal/sync.fatal", "internal/sync.runtime_Semrelease", "sync/atomic.StoreUint32"], unfollowed := true, recurses := true, plainKeys := false, apart := false }
def DirFullSaid : Prop := dirFullRow.holds Try.pinned (OpenSpec.ofChange dirFullSpec)

/-- ITS FALSE NEIGHBOUR: 'it returns false'. Refute it at one input. -/
def dirFullWrong : ChangeSpec := { name := "dirFull", fn := fun _ => fun
  | [d1, d2] => { results := [.lit (.bool false)], args := [d1, d2] }
  | _ => none }
def DirFullWrongFalsely : Prop := dirFullRow.holds Try.pinned (OpenSpec.ofChange dirFullWrong)

/-- 'castellanlaw10.DirOfNothing': WHATEVER THE INPUT: true; the input reads as it did. -/
def dirOfNothingSpec : ChangeSpec := { name := "dirOfNothing", fn := fun _ => fun
  | [d1, d2] => { results := [.lit (.bool true)], args := [d1, d2] }
  | _ => none }
def dirOfNothingRow : OpenClaim := { program := "ytgjabgneapdbiaa", sum := "f6a585ccb373c3c1a5480799c2de5769b3ae5b8065d680d9d7a7203627e512ea", func := "castellan/castellanlaw10.DirOfNothing", spec := "dirOfNothing", inPlace := ["sync/atomic.LoadUint32", "(*internal/sync.Mutex).Lock", "internal/race.Disable", "sync/atomic.CompareAndSwapInt32", "internal/race.Enable", "internal/race.Acquire", "(*internal/sync.Mutex).lockSlow", "internal/sync.runtime_canSpin", "internal/sync.runtime_doSpin", "internal/sync.throw", "internal/sync.runtime_nanotime", "internal/sync.runtime_SemacquireMutex", "sync/atomic.AddInt32", "(*internal/sync.Mutex).Unlock", "internal/race.ReleaseMerge", "(*internal/sync.Mutex).unlockSlow", "internal/sync.fatal", "internal/sync.runtime_Semrelease", "sync/atomic.StoreUint32"], unfollowed := true, recurses := true, plainKeys := false, apart := false }
def DirOfNothingSaid : Prop := dirOfNothingRow.holds Try.pinned (OpenSpec.ofChange dirOfNothingSpec)

/-- ITS FALSE NEIGHBOUR: 'it returns false'. Refute it at one input. -/
def dirOfNothingWrong : ChangeSpec := { name := "dirOfNothing", fn := fun _ => fun
  | [d1, d2] => { results := [.lit (.bool false)], args := [d1, d2] }
  | _ => none }
def DirOfNothingWrongFalsely : Prop := dirOfNothingRow.holds Try.pinned (OpenSpec.ofChange dirOfNothingWrong)

/- THE SECOND FORM. 'bulk': how many values and letters a reading holds, each counted each time it is reached (what is shared counts as often as it is met; a slice's spare places count too). A statement '..UptoSaid' is the law's where the arguments, and the package variables that the reading takes, are together of bulk at most 1048576: NARROWER than '..Said'. Prove '..Said' where nothing that the law and all that it calls make is longer than what came in: it says more and counts as full. Else prove '..UptoSaid'. A law counts once. -/
mutual
def uptoBulk {H : Type} : DataW H → Nat
  | .lit (.string bytes) => bytes.length + 1
  | .lit _ => 1
  | .nil => 1
  | .ptr d => uptoBulk d + 1
  | .slice elems spare => uptoBulkAll elems + uptoBulkAll spare + 1
  | .agg parts => uptoBulkAll parts + 1
  | .iface _ d => uptoBulk d + 1
  | .map entries => uptoBulkEntries entries + 1
  | .held _ => 1
def uptoBulkAll {H : Type} : List (DataW H) → Nat
  | [] => 0
  | d :: r => uptoBulk d + uptoBulkAll r
def uptoBulkEntries {H : Type} : List (Lit × DataW H) → Nat
  | [] => 0
  | x :: r => uptoBulkEntry x + uptoBulkEntries r
def uptoBulkEntry {H : Type} : Lit × DataW H → Nat
  | (.string bytes, d) => bytes.length + uptoBulk d + 1
  | (_, d) => uptoBulk d + 1
 end
def uptoSmall : (H : Type) → List (DataW H) → Bool := fun _ ds => decide (uptoBulkAll ds ≤ 1048576)
def OpenSpec.upto (s : _root_.Go.ChangeSpec) : _root_.Go.OpenSpec := { _root_.Go.OpenSpec.ofChange s with cond := some uptoSmall }

/-- 'castellanlaw9.TrieHalves', WHERE WHAT IT READS IS OF BULK AT MOST 1048576: true; the input reads as it did. -/
def trieHalvesUptoRow : OpenClaim := { program := "ytgjabgneapdbiaa", sum := "f6a585ccb373c3c1a5480799c2de5769b3ae5b8065d680d9d7a7203627e512ea", func := "castellan/castellanlaw9.TrieHalves", spec := "trieHalves", recurses := true, plainKeys := false, apart := false, narrowed := true }
def TrieHalvesUptoSaid : Prop := trieHalvesUptoRow.holds Try.pinned (OpenSpec.upto trieHalvesSpec)

/-- 'castellanlaw9.TrieNodes', WHERE WHAT IT READS IS OF BULK AT MOST 1048576: true; the input reads as it did. -/
def trieNodesUptoRow : OpenClaim := { program := "ytgjabgneapdbiaa", sum := "f6a585ccb373c3c1a5480799c2de5769b3ae5b8065d680d9d7a7203627e512ea", func := "castellan/castellanlaw9.TrieNodes", spec := "trieNodes", recurses := true, plainKeys := false, apart := false, narrowed := true }
def TrieNodesUptoSaid : Prop := trieNodesUptoRow.holds Try.pinned (OpenSpec.upto trieNodesSpec)

/-- 'castellanlaw9.TrieLongest', WHERE WHAT IT READS IS OF BULK AT MOST 1048576: true; the input reads as it did. -/
def trieLongestUptoRow : OpenClaim := { program := "ytgjabgneapdbiaa", sum := "f6a585ccb373c3c1a5480799c2de5769b3ae5b8065d680d9d7a7203627e512ea", func := "castellan/castellanlaw9.TrieLongest", spec := "trieLongest", recurses := true, plainKeys := false, apart := false, narrowed := true }
def TrieLongestUptoSaid : Prop := trieLongestUptoRow.holds Try.pinned (OpenSpec.upto trieLongestSpec)

/-- 'castellanlaw9.TrieCovers', WHERE WHAT IT READS IS OF BULK AT MOST 1048576: true; the input reads as it did. -/
def trieCoversUptoRow : OpenClaim := { program := "ytgjabgneapdbiaa", sum := "f6a585ccb373c3c1a5480799c2de5769b3ae5b8065d680d9d7a7203627e512ea", func := "castellan/castellanlaw9.TrieCovers", spec := "trieCovers", recurses := true, plainKeys := false, apart := false, narrowed := true }
def TrieCoversUptoSaid : Prop := trieCoversUptoRow.holds Try.pinned (OpenSpec.upto trieCoversSpec)

/-- 'castellanlaw9.TrieSet', WHERE WHAT IT READS IS OF BULK AT MOST 1048576: true; the input reads as it did. -/
def trieSetUptoRow : OpenClaim := { program := "ytgjabgneapdbiaa", sum := "f6a585ccb373c3c1a5480799c2de5769b3ae5b8065d680d9d7a7203627e512ea", func := "castellan/castellanlaw9.TrieSet", spec := "trieSet", recurses := true, plainKeys := false, apart := false, narrowed := true }
def TrieSetUptoSaid : Prop := trieSetUptoRow.holds Try.pinned (OpenSpec.upto trieSetSpec)

/-- 'castellanlaw9.TriePlays', WHERE WHAT IT READS IS OF BULK AT MOST 1048576: true; the input reads as it did. -/
def triePlaysUptoRow : OpenClaim := { program := "ytgjabgneapdbiaa", sum := "f6a585ccb373c3c1a5480799c2de5769b3ae5b8065d680d9d7a7203627e512ea", func := "castellan/castellanlaw9.TriePlays", spec := "triePlays", recurses := true, plainKeys := false, apart := false, narrowed := true }
def TriePlaysUptoSaid : Prop := triePlaysUptoRow.holds Try.pinned (OpenSpec.upto triePlaysSpec)

/-- 'castellanlaw9.TrieDel', WHERE WHAT IT READS IS OF BULK AT MOST 1048576: true; the input reads as it did. -/
def trieDelUptoRow : OpenClaim := { program := "ytgjabgneapdbiaa", sum := "f6a585ccb373c3c1a5480799c2de5769b3ae5b8065d680d9d7a7203627e512ea", func := "castellan/castellanlaw9.TrieDel", spec := "trieDel", recurses := true, plainKeys := false, apart := false, narrowed := true }
def TrieDelUptoSaid : Prop := trieDelUptoRow.holds Try.pinned (OpenSpec.upto trieDelSpec)

/-- 'castellanlaw9.TrieBest', WHERE WHAT IT READS IS OF BULK AT MOST 1048576: true; the input reads as it did. -/
def trieBestUptoRow : OpenClaim := { program := "ytgjabgneapdbiaa", sum := "f6a585ccb373c3c1a5480799c2de5769b3ae5b8065d680d9d7a7203627e512ea", func := "castellan/castellanlaw9.TrieBest", spec := "trieBest", recurses := true, plainKeys := false, apart := false, narrowed := true }
def TrieBestUptoSaid : Prop := trieBestUptoRow.holds Try.pinned (OpenSpec.upto trieBestSpec)

/-- 'castellanlaw9.TrieOfNothing', WHERE WHAT IT READS IS OF BULK AT MOST 1048576: true; the input reads as it did. -/
def trieOfNothingUptoRow : OpenClaim := { program := "ytgjabgneapdbiaa", sum := "f6a585ccb373c3c1a5480799c2de5769b3ae5b8065d680d9d7a7203627e512ea", func := "castellan/castellanlaw9.TrieOfNothing", spec := "trieOfNothing", recurses := true, plainKeys := false, apart := false, narrowed := true }
def TrieOfNothingUptoSaid : Prop := trieOfNothingUptoRow.holds Try.pinned (OpenSpec.upto trieOfNothingSpec)

/-- 'castellanlaw10.DirTrie', WHERE WHAT IT READS IS OF BULK AT MOST 1048576: true; the input reads as it did. -/
def dirTrieUptoRow : OpenClaim := { program := "ytgjabgneapdbiaa", sum := "f6a585ccb373c3c1a5480799c2de5769b3ae5b8065d680d9d7a7203627e512ea", func := "castellan/castellanlaw10.DirTrie", spec := "dirTrie", inPlace := ["sync/atomic.LoadUint32", "(*internal/sync.Mutex).Lock", "internal/race.Disable", "sync/atomic.CompareAndSwapInt32", "internal/race.Enable", "internal/race.Acquire", "(*internal/sync.Mutex).lockSlow", "internal/sync.runtime_canSpin", "internal/sync.runtime_doSpin", "internal/sync.throw", "internal/sync.runtime_nanotime", "internal/sync.runtime_SemacquireMutex", "sync/atomic.AddInt32", "(*internal/sync.Mutex).Unlock", "internal/race.ReleaseMerge", "(*internal/sync.Mutex).unlockSlow", "internal/sync.fatal", "internal/sync.runtime_Semrelease", "sync/atomic.StoreUint32"], unfollowed := true, recurses := true, plainKeys := false, apart := false, narrowed := true }
def DirTrieUptoSaid : Prop := dirTrieUptoRow.holds Try.pinned (OpenSpec.upto dirTrieSpec)

/-- 'castellanlaw10.DirOwned', WHERE WHAT IT READS IS OF BULK AT MOST 1048576: true; the input reads as it did. -/
def dirOwnedUptoRow : OpenClaim := { program := "ytgjabgneapdbiaa", sum := "f6a585ccb373c3c1a5480799c2de5769b3ae5b8065d680d9d7a7203627e512ea", func := "castellan/castellanlaw10.DirOwned", spec := "dirOwned", inPlace := ["sync/atomic.LoadUint32", "(*internal/sync.Mutex).Lock", "internal/race.Disable", "sync/atomic.CompareAndSwapInt32", "internal/race.Enable", "internal/race.Acquire", "(*internal/sync.Mutex).lockSlow", "internal/sync.runtime_canSpin", "internal/sync.runtime_doSpin", "internal/sync.throw", "internal/sync.runtime_nanotime", "internal/sync.runtime_SemacquireMutex", "sync/atomic.AddInt32", "(*internal/sync.Mutex).Unlock", "internal/race.ReleaseMerge", "(*internal/sync.Mutex).unlockSlow", "internal/sync.fatal", "internal/sync.runtime_Semrelease", "sync/atomic.StoreUint32"], unfollowed := true, recurses := true, plainKeys := false, apart := false, narrowed := true }
def DirOwnedUptoSaid : Prop := dirOwnedUptoRow.holds Try.pinned (OpenSpec.upto dirOwnedSpec)

/-- 'castellanlaw10.DirLooks', WHERE WHAT IT READS IS OF BULK AT MOST 1048576: true; the input reads as it did. -/
def dirLooksUptoRow : OpenClaim := { program := "ytgjabgneapdbiaa", sum := "f6a585ccb373c3c1a5480799c2de5769b3ae5b8065d680d9d7a7203627e512ea", func := "castellan/castellanlaw10.DirLooks", spec := "dirLooks", inPlace := ["sync/atomic.LoadUint32", "(*internal/sync.Mutex).Lock", "internal/race.Disable", "sync/atomic.CompareAndSwapInt32", "internal/race.Enable", "internal/race.Acquire", "(*internal/sync.Mutex).lockSlow", "internal/sync.runtime_canSpin", "internal/sync.runtime_doSpin", "internal/sync.throw", "internal/sync.runtime_nanotime", "internal/sync.runtime_SemacquireMutex", "sync/atomic.AddInt32", "(*internal/sync.Mutex).Unlock", "internal/race.ReleaseMerge", "(*internal/sync.Mutex).unlockSlow", "internal/sync.fatal", "internal/sync.runtime_Semrelease", "sync/atomic.StoreUint32"], unfollowed := true, recurses := true, plainKeys := false, apart := false, narrowed := true }
def DirLooksUptoSaid : Prop := dirLooksUptoRow.holds Try.pinned (OpenSpec.upto dirLooksSpec)

/-- 'castellanlaw10.DirBack', WHERE WHAT IT READS IS OF BULK AT MOST 1048576: true; the input reads as it did. -/
def dirBackUptoRow : OpenClaim := { program := "ytgjabgneapdbiaa", sum := "f6a585ccb373c3c1a5480799c2de5769b3ae5b8065d680d9d7a7203627e512ea", func := "castellan/castellanlaw10.DirBack", spec := "dirBack", inPlace := ["sync/atomic.LoadUint32", "(*internal/sync.Mutex).Lock", "internal/race.Disable", "sync/atomic.CompareAndSwapInt32", "internal/race.Enable", "internal/race.Acquire", "(*internal/sync.Mutex).lockSlow", "internal/sync.runtime_canSpin", "internal/sync.runtime_doSpin", "internal/sync.throw", "internal/sync.runtime_nanotime", "internal/sync.runtime_SemacquireMutex", "sync/atomic.AddInt32", "(*internal/sync.Mutex).Unlock", "internal/race.ReleaseMerge", "(*internal/sync.Mutex).unlockSlow", "internal/sync.fatal", "internal/sync.runtime_Semrelease", "sync/atomic.StoreUint32"], unfollowed := true, recurses := true, plainKeys := false, apart := false, narrowed := true }
def DirBackUptoSaid : Prop := dirBackUptoRow.holds Try.pinned (OpenSpec.upto dirBackSpec)

/-- 'castellanlaw10.DirPlays', WHERE WHAT IT READS IS OF BULK AT MOST 1048576: true; the input reads as it did. -/
def dirPlaysUptoRow : OpenClaim := { program := "ytgjabgneapdbiaa", sum := "f6a585ccb373c3c1a5480799c2de5769b3ae5b8065d680d9d7a7203627e512ea", func := "castellan/castellanlaw10.DirPlays", spec := "dirPlays", inPlace := ["sync/atomic.LoadUint32", "(*internal/sync.Mutex).Lock", "internal/race.Disable", "sync/atomic.CompareAndSwapInt32", "internal/race.Enable", "internal/race.Acquire", "(*internal/sync.Mutex).lockSlow", "internal/sync.runtime_canSpin", "internal/sync.runtime_doSpin", "internal/sync.throw", "internal/sync.runtime_nanotime", "internal/sync.runtime_SemacquireMutex", "sync/atomic.AddInt32", "(*internal/sync.Mutex).Unlock", "internal/race.ReleaseMerge", "(*internal/sync.Mutex).unlockSlow", "internal/sync.fatal", "internal/sync.runtime_Semrelease", "sync/atomic.StoreUint32"], unfollowed := true, recurses := true, plainKeys := false, apart := false, narrowed := true }
def DirPlaysUptoSaid : Prop := dirPlaysUptoRow.holds Try.pinned (OpenSpec.upto dirPlaysSpec)

/-- 'castellanlaw10.DirFull', WHERE WHAT IT READS IS OF BULK AT MOST 1048576: true; the input reads as it did. -/
def dirFullUptoRow : OpenClaim := { program := "ytgjabgneapdbiaa", sum := "f6a585ccb373c3c1a5480799c2de5769b3ae5b8065d680d9d7a7203627e512ea", func := "castellan/castellanlaw10.DirFull", spec := "dirFull", inPlace := ["sync/atomic.LoadUint32", "(*internal/sync.Mutex).Lock", "internal/race.Disable", "sync/atomic.CompareAndSwapInt32", "internal/race.Enable", "internal/race.Acquire", "(*internal/sync.Mutex).lockSlow", "internal/sync.runtime_canSpin", "internal/sync.runtime_doSpin", "internal/sync.throw", "internal/sync.runtime_nanotime", "internal/sync.runtime_SemacquireMutex", "sync/atomic.AddInt32", "(*internal/sync.Mutex).Unlock", "internal/race.ReleaseMerge", "(*internal/sync.Mutex).unlockSlow", "internal/sync.fatal", "internal/sync.runtime_Semrelease", "sync/atomic.StoreUint32"], unfollowed := true, recurses := true, plainKeys := false, apart := false, narrowed := true }
def DirFullUptoSaid : Prop := dirFullUptoRow.holds Try.pinned (OpenSpec.upto dirFullSpec)

/-- 'castellanlaw10.DirOfNothing', WHERE WHAT IT READS IS OF BULK AT MOST 1048576: true; the input reads as it did. -/
def dirOfNothingUptoRow : OpenClaim := { program := "ytgjabgneapdbiaa", sum := "f6a585ccb373c3c1a5480799c2de5769b3ae5b8065d680d9d7a7203627e512ea", func := "castellan/castellanlaw10.DirOfNothing", spec := "dirOfNothing", inPlace := ["sync/atomic.LoadUint32", "(*internal/sync.Mutex).Lock", "internal/race.Disable", "sync/atomic.CompareAndSwapInt32", "internal/race.Enable", "internal/race.Acquire", "(*internal/sync.Mutex).lockSlow", "internal/sync.runtime_canSpin", "internal/sync.runtime_doSpin", "internal/sync.throw", "internal/sync.runtime_nanotime", "internal/sync.runtime_SemacquireMutex", "sync/atomic.AddInt32", "(*internal/sync.Mutex).Unlock", "internal/race.ReleaseMerge", "(*internal/sync.Mutex).unlockSlow", "internal/sync.fatal", "internal/sync.runtime_Semrelease", "sync/atomic.StoreUint32"], unfollowed := true, recurses := true, plainKeys := false, apart := false, narrowed := true }
def DirOfNothingUptoSaid : Prop := dirOfNothingUptoRow.holds Try.pinned (OpenSpec.upto dirOfNothingSpec)

end Rows
end Go.Proofs.Ytgjabgneapdbiaa
