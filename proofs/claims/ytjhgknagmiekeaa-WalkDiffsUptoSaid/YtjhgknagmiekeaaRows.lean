/-
  No cell of these rows narrows 'for every input' (looked for: loops, veiled, ifaces, maps, wideKeys, modest, calm, conditions, laid).
  DERIVED. THE GIVEN ROWS OF THIS SEAT. 17 by the template 'for every input the law returns true; each argument reads behind the call as it read before'; 0 by the template 'total and deterministic' (their statements: YtjhgknagmiekeaaTotals.lean).
  GIVEN WITH THE SEED: the statements are not yours to turn. If you find one false, say at which input.
  Laid BY PROGRAM, IN A SANDBOX (cutbox-rows.mjs): the forced cells as the released guide's own fill.sh prints them over the translation f937ffb895bfadbe… (all of the seat's roots in one cut). By AI agents, Wed Nov 11 2026. No macro, syntax, notation, axiom, sorry.
-/
import Derived.Test.YtjhgknagmiekeaaChecked
import GoSem.Claim
import GoSem.ClaimJoined
import GoSem.ClaimMapViews
import Derived.JoinedTies
import Derived.KernelRfl
namespace Go.Proofs.Ytjhgknagmiekeaa
/- THE CELL 'sum', in the pinned program and in every row, IS THE sha256 OF THE DUMP (.gsa) THAT YtjhgknagmiekeaaProg.lean LOADS. Nothing in Lean hashes anything: it is a label: what it is worth is what the hold of that sum in a sandbox is worth. -/
noncomputable def Try.pinned : Pinned := { name := "ytjhgknagmiekeaa", sum := "f937ffb895bfadbe8ead83bea31a629c3d9392a102f459c39f154428324caf05", checked := Try.checked }
namespace Rows
def none {H : Type} : Left H := { results := [], args := [] }

/-- 'musterlaw04.WalkUnder': WHATEVER THE INPUT: true; the input reads as it did. -/
def walkUnderSpec : ChangeSpec := { name := "walkUnder", fn := fun _ => fun
  | [d1, d2] => { results := [.lit (.bool true)], args := [d1, d2] }
  | _ => none }
def walkUnderRow : OpenClaim := { program := "ytjhgknagmiekeaa", sum := "f937ffb895bfadbe8ead83bea31a629c3d9392a102f459c39f154428324caf05", func := "muster/musterlaw04.WalkUnder", spec := "walkUnder", inPlace := ["slices.overlaps[*muster/radix.node[int]]"], unfollowed := true, recurses := true, apart := false }
def WalkUnderSaid : Prop := walkUnderRow.holds Try.pinned (OpenSpec.ofChange walkUnderSpec)

/-- ITS FALSE NEIGHBOUR: 'it returns false'. Refute it at one input. -/
def walkUnderWrong : ChangeSpec := { name := "walkUnder", fn := fun _ => fun
  | [d1, d2] => { results := [.lit (.bool false)], args := [d1, d2] }
  | _ => none }
def WalkUnderWrongFalsely : Prop := walkUnderRow.holds Try.pinned (OpenSpec.ofChange walkUnderWrong)

/-- 'musterlaw04.WalkLeft': WHATEVER THE INPUT: true; the input reads as it did. -/
def walkLeftSpec : ChangeSpec := { name := "walkLeft", fn := fun _ => fun
  | [d1, d2] => { results := [.lit (.bool true)], args := [d1, d2] }
  | _ => none }
def walkLeftRow : OpenClaim := { program := "ytjhgknagmiekeaa", sum := "f937ffb895bfadbe8ead83bea31a629c3d9392a102f459c39f154428324caf05", func := "muster/musterlaw04.WalkLeft", spec := "walkLeft", inPlace := ["slices.overlaps[*muster/radix.node[int]]"], unfollowed := true, recurses := true, apart := false }
def WalkLeftSaid : Prop := walkLeftRow.holds Try.pinned (OpenSpec.ofChange walkLeftSpec)

/-- ITS FALSE NEIGHBOUR: 'it returns false'. Refute it at one input. -/
def walkLeftWrong : ChangeSpec := { name := "walkLeft", fn := fun _ => fun
  | [d1, d2] => { results := [.lit (.bool false)], args := [d1, d2] }
  | _ => none }
def WalkLeftWrongFalsely : Prop := walkLeftRow.holds Try.pinned (OpenSpec.ofChange walkLeftWrong)

/-- 'musterlaw04.WalkFrom': WHATEVER THE INPUT: true; the input reads as it did. -/
def walkFromSpec : ChangeSpec := { name := "walkFrom", fn := fun _ => fun
  | [d1, d2] => { results := [.lit (.bool true)], args := [d1, d2] }
  | _ => none }
def walkFromRow : OpenClaim := { program := "ytjhgknagmiekeaa", sum := "f937ffb895bfadbe8ead83bea31a629c3d9392a102f459c39f154428324caf05", func := "muster/musterlaw04.WalkFrom", spec := "walkFrom", inPlace := ["slices.overlaps[*muster/radix.node[int]]"], unfollowed := true, recurses := true, apart := false }
def WalkFromSaid : Prop := walkFromRow.holds Try.pinned (OpenSpec.ofChange walkFromSpec)

/-- ITS FALSE NEIGHBOUR: 'it returns false'. Refute it at one input. -/
def walkFromWrong : ChangeSpec := { name := "walkFrom", fn := fun _ => fun
  | [d1, d2] => { results := [.lit (.bool false)], args := [d1, d2] }
  | _ => none }
def WalkFromWrongFalsely : Prop := walkFromRow.holds Try.pinned (OpenSpec.ofChange walkFromWrong)

/-- 'musterlaw04.WalkBetween': WHATEVER THE INPUT: true; the input reads as it did. -/
def walkBetweenSpec : ChangeSpec := { name := "walkBetween", fn := fun _ => fun
  | [d1, d2, d3] => { results := [.lit (.bool true)], args := [d1, d2, d3] }
  | _ => none }
def walkBetweenRow : OpenClaim := { program := "ytjhgknagmiekeaa", sum := "f937ffb895bfadbe8ead83bea31a629c3d9392a102f459c39f154428324caf05", func := "muster/musterlaw04.WalkBetween", spec := "walkBetween", inPlace := ["slices.overlaps[*muster/radix.node[int]]"], unfollowed := true, recurses := true, apart := false }
def WalkBetweenSaid : Prop := walkBetweenRow.holds Try.pinned (OpenSpec.ofChange walkBetweenSpec)

/-- ITS FALSE NEIGHBOUR: 'it returns false'. Refute it at one input. -/
def walkBetweenWrong : ChangeSpec := { name := "walkBetween", fn := fun _ => fun
  | [d1, d2, d3] => { results := [.lit (.bool false)], args := [d1, d2, d3] }
  | _ => none }
def WalkBetweenWrongFalsely : Prop := walkBetweenRow.holds Try.pinned (OpenSpec.ofChange walkBetweenWrong)

/-- 'musterlaw04.WalkAll': WHATEVER THE INPUT: true; the input reads as it did. -/
def walkAllSpec : ChangeSpec := { name := "walkAll", fn := fun _ => fun
  | [d] => { results := [.lit (.bool true)], args := [d] }
  | _ => none }
def walkAllRow : OpenClaim := { program := "ytjhgknagmiekeaa", sum := "f937ffb895bfadbe8ead83bea31a629c3d9392a102f459c39f154428324caf05", func := "muster/musterlaw04.WalkAll", spec := "walkAll", inPlace := ["slices.overlaps[*muster/radix.node[int]]"], unfollowed := true, recurses := true, apart := false }
def WalkAllSaid : Prop := walkAllRow.holds Try.pinned (OpenSpec.ofChange walkAllSpec)

/-- ITS FALSE NEIGHBOUR: 'it returns false'. Refute it at one input. -/
def walkAllWrong : ChangeSpec := { name := "walkAll", fn := fun _ => fun
  | [d] => { results := [.lit (.bool false)], args := [d] }
  | _ => none }
def WalkAllWrongFalsely : Prop := walkAllRow.holds Try.pinned (OpenSpec.ofChange walkAllWrong)

/-- 'musterlaw04.WalkAlong': WHATEVER THE INPUT: true; the input reads as it did. -/
def walkAlongSpec : ChangeSpec := { name := "walkAlong", fn := fun _ => fun
  | [d1, d2] => { results := [.lit (.bool true)], args := [d1, d2] }
  | _ => none }
def walkAlongRow : OpenClaim := { program := "ytjhgknagmiekeaa", sum := "f937ffb895bfadbe8ead83bea31a629c3d9392a102f459c39f154428324caf05", func := "muster/musterlaw04.WalkAlong", spec := "walkAlong", inPlace := ["slices.overlaps[*muster/radix.node[int]]"], unfollowed := true, recurses := true, apart := false }
def WalkAlongSaid : Prop := walkAlongRow.holds Try.pinned (OpenSpec.ofChange walkAlongSpec)

/-- ITS FALSE NEIGHBOUR: 'it returns false'. Refute it at one input. -/
def walkAlongWrong : ChangeSpec := { name := "walkAlong", fn := fun _ => fun
  | [d1, d2] => { results := [.lit (.bool false)], args := [d1, d2] }
  | _ => none }
def WalkAlongWrongFalsely : Prop := walkAlongRow.holds Try.pinned (OpenSpec.ofChange walkAlongWrong)

/-- 'musterlaw04.WalkCuts': WHATEVER THE INPUT: true; the input reads as it did. -/
def walkCutsSpec : ChangeSpec := { name := "walkCuts", fn := fun _ => fun
  | [d1, d2, d3] => { results := [.lit (.bool true)], args := [d1, d2, d3] }
  | _ => none }
def walkCutsRow : OpenClaim := { program := "ytjhgknagmiekeaa", sum := "f937ffb895bfadbe8ead83bea31a629c3d9392a102f459c39f154428324caf05", func := "muster/musterlaw04.WalkCuts", spec := "walkCuts", inPlace := ["slices.overlaps[*muster/radix.node[int]]"], unfollowed := true, recurses := true, apart := false }
def WalkCutsSaid : Prop := walkCutsRow.holds Try.pinned (OpenSpec.ofChange walkCutsSpec)

/-- ITS FALSE NEIGHBOUR: 'it returns false'. Refute it at one input. -/
def walkCutsWrong : ChangeSpec := { name := "walkCuts", fn := fun _ => fun
  | [d1, d2, d3] => { results := [.lit (.bool false)], args := [d1, d2, d3] }
  | _ => none }
def WalkCutsWrongFalsely : Prop := walkCutsRow.holds Try.pinned (OpenSpec.ofChange walkCutsWrong)

/-- 'musterlaw03.RadixShape': WHATEVER THE INPUT: true; the input reads as it did. -/
def radixShapeSpec : ChangeSpec := { name := "radixShape", fn := fun _ => fun
  | [d1, d2] => { results := [.lit (.bool true)], args := [d1, d2] }
  | _ => none }
def radixShapeRow : OpenClaim := { program := "ytjhgknagmiekeaa", sum := "f937ffb895bfadbe8ead83bea31a629c3d9392a102f459c39f154428324caf05", func := "muster/musterlaw03.RadixShape", spec := "radixShape", inPlace := ["slices.overlaps[*muster/radix.node[int]]"], unfollowed := true, recurses := true, apart := false }
def RadixShapeSaid : Prop := radixShapeRow.holds Try.pinned (OpenSpec.ofChange radixShapeSpec)

/-- ITS FALSE NEIGHBOUR: 'it returns false'. Refute it at one input. -/
def radixShapeWrong : ChangeSpec := { name := "radixShape", fn := fun _ => fun
  | [d1, d2] => { results := [.lit (.bool false)], args := [d1, d2] }
  | _ => none }
def RadixShapeWrongFalsely : Prop := radixShapeRow.holds Try.pinned (OpenSpec.ofChange radixShapeWrong)

/-- 'musterlaw04.WalkHeld': WHATEVER THE INPUT: true; the input reads as it did. -/
def walkHeldSpec : ChangeSpec := { name := "walkHeld", fn := fun _ => fun
  | [d] => { results := [.lit (.bool true)], args := [d] }
  | _ => none }
def walkHeldRow : OpenClaim := { program := "ytjhgknagmiekeaa", sum := "f937ffb895bfadbe8ead83bea31a629c3d9392a102f459c39f154428324caf05", func := "muster/musterlaw04.WalkHeld", spec := "walkHeld", inPlace := ["slices.overlaps[*muster/radix.node[int]]"], unfollowed := true, recurses := true, apart := false }
def WalkHeldSaid : Prop := walkHeldRow.holds Try.pinned (OpenSpec.ofChange walkHeldSpec)

/-- ITS FALSE NEIGHBOUR: 'it returns false'. Refute it at one input. -/
def walkHeldWrong : ChangeSpec := { name := "walkHeld", fn := fun _ => fun
  | [d] => { results := [.lit (.bool false)], args := [d] }
  | _ => none }
def WalkHeldWrongFalsely : Prop := walkHeldRow.holds Try.pinned (OpenSpec.ofChange walkHeldWrong)

/-- 'musterlaw03.RadixFresh': WHATEVER THE INPUT: true; the input reads as it did. -/
def radixFreshSpec : ChangeSpec := { name := "radixFresh", fn := fun _ => fun
  | [d1, d2, d3] => { results := [.lit (.bool true)], args := [d1, d2, d3] }
  | _ => none }
def radixFreshRow : OpenClaim := { program := "ytjhgknagmiekeaa", sum := "f937ffb895bfadbe8ead83bea31a629c3d9392a102f459c39f154428324caf05", func := "muster/musterlaw03.RadixFresh", spec := "radixFresh", inPlace := ["slices.overlaps[*muster/radix.node[int]]"], unfollowed := true, recurses := true, apart := false }
def RadixFreshSaid : Prop := radixFreshRow.holds Try.pinned (OpenSpec.ofChange radixFreshSpec)

/-- ITS FALSE NEIGHBOUR: 'it returns false'. Refute it at one input. -/
def radixFreshWrong : ChangeSpec := { name := "radixFresh", fn := fun _ => fun
  | [d1, d2, d3] => { results := [.lit (.bool false)], args := [d1, d2, d3] }
  | _ => none }
def RadixFreshWrongFalsely : Prop := radixFreshRow.holds Try.pinned (OpenSpec.ofChange radixFreshWrong)

/-- 'musterlaw03.RadixForgets': WHATEVER THE INPUT: true; the input reads as it did. -/
def radixForgetsSpec : ChangeSpec := { name := "radixForgets", fn := fun _ => fun
  | [d1, d2] => { results := [.lit (.bool true)], args := [d1, d2] }
  | _ => none }
def radixForgetsRow : OpenClaim := { program := "ytjhgknagmiekeaa", sum := "f937ffb895bfadbe8ead83bea31a629c3d9392a102f459c39f154428324caf05", func := "muster/musterlaw03.RadixForgets", spec := "radixForgets", inPlace := ["slices.overlaps[*muster/radix.node[int]]"], unfollowed := true, recurses := true, apart := false }
def RadixForgetsSaid : Prop := radixForgetsRow.holds Try.pinned (OpenSpec.ofChange radixForgetsSpec)

/-- ITS FALSE NEIGHBOUR: 'it returns false'. Refute it at one input. -/
def radixForgetsWrong : ChangeSpec := { name := "radixForgets", fn := fun _ => fun
  | [d1, d2] => { results := [.lit (.bool false)], args := [d1, d2] }
  | _ => none }
def RadixForgetsWrongFalsely : Prop := radixForgetsRow.holds Try.pinned (OpenSpec.ofChange radixForgetsWrong)

/-- 'musterlaw03.RadixRuns': WHATEVER THE INPUT: true; the input reads as it did. -/
def radixRunsSpec : ChangeSpec := { name := "radixRuns", fn := fun _ => fun
  | [d] => { results := [.lit (.bool true)], args := [d] }
  | _ => none }
def radixRunsRow : OpenClaim := { program := "ytjhgknagmiekeaa", sum := "f937ffb895bfadbe8ead83bea31a629c3d9392a102f459c39f154428324caf05", func := "muster/musterlaw03.RadixRuns", spec := "radixRuns", inPlace := ["slices.overlaps[*muster/radix.node[int]]"], unfollowed := true, recurses := true, apart := false }
def RadixRunsSaid : Prop := radixRunsRow.holds Try.pinned (OpenSpec.ofChange radixRunsSpec)

/-- ITS FALSE NEIGHBOUR: 'it returns false'. Refute it at one input. -/
def radixRunsWrong : ChangeSpec := { name := "radixRuns", fn := fun _ => fun
  | [d] => { results := [.lit (.bool false)], args := [d] }
  | _ => none }
def RadixRunsWrongFalsely : Prop := radixRunsRow.holds Try.pinned (OpenSpec.ofChange radixRunsWrong)

/-- 'musterlaw04.WalkTrims': WHATEVER THE INPUT: true; the input reads as it did. -/
def walkTrimsSpec : ChangeSpec := { name := "walkTrims", fn := fun _ => fun
  | [d1, d2] => { results := [.lit (.bool true)], args := [d1, d2] }
  | _ => none }
def walkTrimsRow : OpenClaim := { program := "ytjhgknagmiekeaa", sum := "f937ffb895bfadbe8ead83bea31a629c3d9392a102f459c39f154428324caf05", func := "muster/musterlaw04.WalkTrims", spec := "walkTrims", inPlace := ["slices.overlaps[*muster/radix.node[int]]"], unfollowed := true, recurses := true, apart := false }
def WalkTrimsSaid : Prop := walkTrimsRow.holds Try.pinned (OpenSpec.ofChange walkTrimsSpec)

/-- ITS FALSE NEIGHBOUR: 'it returns false'. Refute it at one input. -/
def walkTrimsWrong : ChangeSpec := { name := "walkTrims", fn := fun _ => fun
  | [d1, d2] => { results := [.lit (.bool false)], args := [d1, d2] }
  | _ => none }
def WalkTrimsWrongFalsely : Prop := walkTrimsRow.holds Try.pinned (OpenSpec.ofChange walkTrimsWrong)

/-- 'musterlaw03.RadixWakes': WHATEVER THE INPUT: true; the input reads as it did. -/
def radixWakesSpec : ChangeSpec := { name := "radixWakes", fn := fun _ => fun
  | [d] => { results := [.lit (.bool true)], args := [d] }
  | _ => none }
def radixWakesRow : OpenClaim := { program := "ytjhgknagmiekeaa", sum := "f937ffb895bfadbe8ead83bea31a629c3d9392a102f459c39f154428324caf05", func := "muster/musterlaw03.RadixWakes", spec := "radixWakes", inPlace := ["slices.overlaps[*muster/radix.node[int]]", "sync/atomic.LoadUint32", "(*internal/sync.Mutex).Lock", "internal/race.Disable", "sync/atomic.CompareAndSwapInt32", "internal/race.Enable", "internal/race.Acquire", "(*internal/sync.Mutex).lockSlow", "internal/sync.runtime_canSpin", "internal/sync.runtime_doSpin", "internal/sync.throw", "internal/sync.runtime_nanotime", "internal/sync.runtime_SemacquireMutex", "sync/atomic.AddInt32", "(*internal/sync.Mutex).Unlock", "internal/race.ReleaseMerge", "(*internal/sync.Mutex).unlockSlow", "internal/sync.fatal", "internal/sync.runtime_Semrelease", "sync/atomic.StoreUint32"], unfollowed := true, recurses := true, apart := false }
def RadixWakesSaid : Prop := radixWakesRow.holds Try.pinned (OpenSpec.ofChange radixWakesSpec)

/-- ITS FALSE NEIGHBOUR: 'it returns false'. Refute it at one input. -/
def radixWakesWrong : ChangeSpec := { name := "radixWakes", fn := fun _ => fun
  | [d] => { results := [.lit (.bool false)], args := [d] }
  | _ => none }
def RadixWakesWrongFalsely : Prop := radixWakesRow.holds Try.pinned (OpenSpec.ofChange radixWakesWrong)

/-- 'musterlaw03.RadixWatches': WHATEVER THE INPUT: true; the input reads as it did. -/
def radixWatchesSpec : ChangeSpec := { name := "radixWatches", fn := fun _ => fun
  | [d] => { results := [.lit (.bool true)], args := [d] }
  | _ => none }
def radixWatchesRow : OpenClaim := { program := "ytjhgknagmiekeaa", sum := "f937ffb895bfadbe8ead83bea31a629c3d9392a102f459c39f154428324caf05", func := "muster/musterlaw03.RadixWatches", spec := "radixWatches", inPlace := ["slices.overlaps[*muster/radix.node[int]]", "sync/atomic.LoadUint32", "(*internal/sync.Mutex).Lock", "internal/race.Disable", "sync/atomic.CompareAndSwapInt32", "internal/race.Enable", "internal/race.Acquire", "(*internal/sync.Mutex).lockSlow", "internal/sync.runtime_canSpin", "internal/sync.runtime_doSpin", "internal/sync.throw", "internal/sync.runtime_nanotime", "internal/sync.runtime_SemacquireMutex", "sync/atomic.AddInt32", "(*internal/sync.Mutex).Unlock", "internal/race.ReleaseMerge", "(*internal/sync.Mutex).unlockSlow", "internal/sync.fatal", "internal/sync.runtime_Semrelease", "sync/atomic.StoreUint32"], unfollowed := true, recurses := true, apart := false }
def RadixWatchesSaid : Prop := radixWatchesRow.holds Try.pinned (OpenSpec.ofChange radixWatchesSpec)

/-- ITS FALSE NEIGHBOUR: 'it returns false'. Refute it at one input. -/
def radixWatchesWrong : ChangeSpec := { name := "radixWatches", fn := fun _ => fun
  | [d] => { results := [.lit (.bool false)], args := [d] }
  | _ => none }
def RadixWatchesWrongFalsely : Prop := radixWatchesRow.holds Try.pinned (OpenSpec.ofChange radixWatchesWrong)

/-- 'musterlaw04.WalkDiffs': WHATEVER THE INPUT: true; the input reads as it did. -/
def walkDiffsSpec : ChangeSpec := { name := "walkDiffs", fn := fun _ => fun
  | [d1, d2, d3] => { results := [.lit (.bool true)], args := [d1, d2, d3] }
  | _ => none }
def walkDiffsRow : OpenClaim := { program := "ytjhgknagmiekeaa", sum := "f937ffb895bfadbe8ead83bea31a629c3d9392a102f459c39f154428324caf05", func := "muster/musterlaw04.WalkDiffs", spec := "walkDiffs", inPlace := ["slices.overlaps[*muster/radix.node[int]]", "internal/bytealg.abigen_runtime_cmpstring"], unfollowed := true, recurses := true, apart := false }
def WalkDiffsSaid : Prop := walkDiffsRow.holds Try.pinned (OpenSpec.ofChange walkDiffsSpec)

/-- ITS FALSE NEIGHBOUR: 'it returns false'. Refute it at one input. -/
def walkDiffsWrong : ChangeSpec := { name := "walkDiffs", fn := fun _ => fun
  | [d1, d2, d3] => { results := [.lit (.bool false)], args := [d1, d2, d3] }
  | _ => none }
def WalkDiffsWrongFalsely : Prop := walkDiffsRow.holds Try.pinned (OpenSpec.ofChange walkDiffsWrong)

/-- 'musterlaw05.TxnNames': WHATEVER THE INPUT: true; the input reads as it did. -/
def txnNamesSpec : ChangeSpec := { name := "txnNames", fn := fun _ => fun
  | [] => { results := [.lit (.bool true)], args := [] }
  | _ => none }
def txnNamesRow : OpenClaim := { program := "ytjhgknagmiekeaa", sum := "f937ffb895bfadbe8ead83bea31a629c3d9392a102f459c39f154428324caf05", func := "muster/musterlaw05.TxnNames", spec := "txnNames", inPlace := ["sync/atomic.StorePointer", "sync/atomic.LoadPointer", "(*internal/sync.Mutex).TryLock", "internal/race.Disable", "internal/race.Enable", "sync/atomic.CompareAndSwapInt32", "internal/race.Acquire", "slices.overlaps[*muster/radix.node[int]]", "(*internal/sync.Mutex).Unlock", "internal/race.ReleaseMerge", "sync/atomic.AddInt32", "(*internal/sync.Mutex).unlockSlow", "internal/sync.fatal", "internal/sync.runtime_Semrelease", "sync/atomic.LoadUint32", "(*internal/sync.Mutex).Lock", "(*internal/sync.Mutex).lockSlow", "internal/sync.runtime_canSpin", "internal/sync.runtime_doSpin", "internal/sync.throw", "internal/sync.runtime_nanotime", "internal/sync.runtime_SemacquireMutex", "sync/atomic.StoreUint32"], unfollowed := true, recurses := true, apart := false }
def TxnNamesSaid : Prop := txnNamesRow.holds Try.pinned (OpenSpec.ofChange txnNamesSpec)

/-- ITS FALSE NEIGHBOUR: 'it returns false'. Refute it at one input. -/
def txnNamesWrong : ChangeSpec := { name := "txnNames", fn := fun _ => fun
  | [] => { results := [.lit (.bool false)], args := [] }
  | _ => none }
def TxnNamesWrongFalsely : Prop := txnNamesRow.holds Try.pinned (OpenSpec.ofChange txnNamesWrong)

/- THE SECOND FORM. 'bulk': how many values and letters a reading holds, each counted each time it is reached (what is shared counts as often as it is met; a slice's spare places count too). A statement '..UptoSaid' is the law's where the arguments, and the package variables that the reading takes, are together of bulk at most 1048576: NARROWER than '..Said'. Prove '..Said' where nothing that the law and all that it calls make is longer than what came in: it says more and counts as full. Else prove '..UptoSaid'. A law counts once. -/
mutual
def uptoBulk {H : Type} : DataW H → Nat
  | .lit (.string bytes) => bytes.length + 1
  | .lit _ => 1
  | .nil => 1
  | .ptr d => uptoBulk d + 1
  | .slice elems spare => uptoBulkAll elems + uptoBulkAll spare + 1
  | .agg parts => uptoBulkAll parts + 1
  | .iface _ d => uptoBulk d + 1
  | .map entries => uptoBulkEntries entries + 1
  | .held _ => 1
def uptoBulkAll {H : Type} : List (DataW H) → Nat
  | [] => 0
  | d :: r => uptoBulk d + uptoBulkAll r
def uptoBulkEntries {H : Type} : List (Lit × DataW H) → Nat
  | [] => 0
  | x :: r => uptoBulkEntry x + uptoBulkEntries r
def uptoBulkEntry {H : Type} : Lit × DataW H → Nat
  | (.string bytes, d) => bytes.length + uptoBulk d + 1
  | (_, d) => uptoBulk d + 1
 end
def uptoSmall : (H : Type) → List (DataW H) → Bool := fun _ ds => decide (uptoBulkAll ds ≤ 1048576)
def OpenSpec.upto (s : _root_.Go.ChangeSpec) : _root_.Go.OpenSpec := { _root_.Go.OpenSpec.ofChange s with cond := some uptoSmall }

/-- 'musterlaw04.WalkUnder', WHERE WHAT IT READS IS OF BULK AT MOST 1048576: true; the input reads as it did. -/
def walkUnderUptoRow : OpenClaim := { program := "ytjhgknagmiekeaa", sum := "f937ffb895bfadbe8ead83bea31a629c3d9392a102f459c39f154428324caf05", func := "muster/musterlaw04.WalkUnder", spec := "walkUnder", inPlace := ["slices.overlaps[*muster/radix.node[int]]"], unfollowed := true, recurses := true, apart := false, narrowed := true }
def WalkUnderUptoSaid : Prop := walkUnderUptoRow.holds Try.pinned (OpenSpec.upto walkUnderSpec)

/-- 'musterlaw04.WalkLeft', WHERE WHAT IT READS IS OF BULK AT MOST 1048576: true; the input reads as it did. -/
def walkLeftUptoRow : OpenClaim := { program := "ytjhgknagmiekeaa", sum := "f937ffb895bfadbe8ead83bea31a629c3d9392a102f459c39f154428324caf05", func := "muster/musterlaw04.WalkLeft", spec := "walkLeft", inPlace := ["slices.overlaps[*muster/radix.node[int]]"], unfollowed := true, recurses := true, apart := false, narrowed := true }
def WalkLeftUptoSaid : Prop := walkLeftUptoRow.holds Try.pinned (OpenSpec.upto walkLeftSpec)

/-- 'musterlaw04.WalkFrom', WHERE WHAT IT READS IS OF BULK AT MOST 1048576: true; the input reads as it did. -/
def walkFromUptoRow : OpenClaim := { program := "ytjhgknagmiekeaa", sum := "f937ffb895bfadbe8ead83bea31a629c3d9392a102f459c39f154428324caf05", func := "muster/musterlaw04.WalkFrom", spec := "walkFrom", inPlace := ["slices.overlaps[*muster/radix.node[int]]"], unfollowed := true, recurses := true, apart := false, narrowed := true }
def WalkFromUptoSaid : Prop := walkFromUptoRow.holds Try.pinned (OpenSpec.upto walkFromSpec)

/-- 'musterlaw04.WalkBetween', WHERE WHAT IT READS IS OF BULK AT MOST 1048576: true; the input reads as it did. -/
def walkBetweenUptoRow : OpenClaim := { program := "ytjhgknagmiekeaa", sum := "f937ffb895bfadbe8ead83bea31a629c3d9392a102f459c39f154428324caf05", func := "muster/musterlaw04.WalkBetween", spec := "walkBetween", inPlace := ["slices.overlaps[*muster/radix.node[int]]"], unfollowed := true, recurses := true, apart := false, narrowed := true }
def WalkBetweenUptoSaid : Prop := walkBetweenUptoRow.holds Try.pinned (OpenSpec.upto walkBetweenSpec)

/-- 'musterlaw04.WalkAll', WHERE WHAT IT READS IS OF BULK AT MOST 1048576: true; the input reads as it did. -/
def walkAllUptoRow : OpenClaim := { program := "ytjhgknagmiekeaa", sum := "f937ffb895bfadbe8ead83bea31a629c3d9392a102f459c39f154428324caf05", func := "muster/musterlaw04.WalkAll", spec := "walkAll", inPlace := ["slices.overlaps[*muster/radix.node[int]]"], unfollowed := true, recurses := true, apart := false, narrowed := true }
def WalkAllUptoSaid : Prop := walkAllUptoRow.holds Try.pinned (OpenSpec.upto walkAllSpec)

/-- 'musterlaw04.WalkAlong', WHERE WHAT IT READS IS OF BULK AT MOST 1048576: true; the input reads as it did. -/
def walkAlongUptoRow : OpenClaim := { program := "ytjhgknagmiekeaa", sum := "f937ffb895bfadbe8ead83bea31a629c3d9392a102f459c39f154428324caf05", func := "muster/musterlaw04.WalkAlong", spec := "walkAlong", inPlace := ["slices.overlaps[*muster/radix.node[int]]"], unfollowed := true, recurses := true, apart := false, narrowed := true }
def WalkAlongUptoSaid : Prop := walkAlongUptoRow.holds Try.pinned (OpenSpec.upto walkAlongSpec)

/-- 'musterlaw04.WalkCuts', WHERE WHAT IT READS IS OF BULK AT MOST 1048576: true; the input reads as it did. -/
def walkCutsUptoRow : OpenClaim := { program := "ytjhgknagmiekeaa", sum := "f937ffb895bfadbe8ead83bea31a629c3d9392a102f459c39f154428324caf05", func := "muster/musterlaw04.WalkCuts", spec := "walkCuts", inPlace := ["slices.overlaps[*muster/radix.node[int]]"], unfollowed := true, recurses := true, apart := false, narrowed := true }
def WalkCutsUptoSaid : Prop := walkCutsUptoRow.holds Try.pinned (OpenSpec.upto walkCutsSpec)

/-- 'musterlaw03.RadixShape', WHERE WHAT IT READS IS OF BULK AT MOST 1048576: true; the input reads as it did. -/
def radixShapeUptoRow : OpenClaim := { program := "ytjhgknagmiekeaa", sum := "f937ffb895bfadbe8ead83bea31a629c3d9392a102f459c39f154428324caf05", func := "muster/musterlaw03.RadixShape", spec := "radixShape", inPlace := ["slices.overlaps[*muster/radix.node[int]]"], unfollowed := true, recurses := true, apart := false, narrowed := true }
def RadixShapeUptoSaid : Prop := radixShapeUptoRow.holds Try.pinned (OpenSpec.upto radixShapeSpec)

/-- 'musterlaw04.WalkHeld', WHERE WHAT IT READS IS OF BULK AT MOST 1048576: true; the input reads as it did. -/
def walkHeldUptoRow : OpenClaim := { program := "ytjhgknagmiekeaa", sum := "f937ffb895bfadbe8ead83bea31a629c3d9392a102f459c39f154428324caf05", func := "muster/musterlaw04.WalkHeld", spec := "walkHeld", inPlace := ["slices.overlaps[*muster/radix.node[int]]"], unfollowed := true, recurses := true, apart := false, narrowed := true }
def WalkHeldUptoSaid : Prop := walkHeldUptoRow.holds Try.pinned (OpenSpec.upto walkHeldSpec)

/-- 'musterlaw03.RadixFresh', WHERE WHAT IT READS IS OF BULK AT MOST 1048576: true; the input reads as it did. -/
def radixFreshUptoRow : OpenClaim := { program := "ytjhgknagmiekeaa", sum := "f937ffb895bfadbe8ead83bea31a629c3d9392a102f459c39f154428324caf05", func := "muster/musterlaw03.RadixFresh", spec := "radixFresh", inPlace := ["slices.overlaps[*muster/radix.node[int]]"], unfollowed := true, recurses := true, apart := false, narrowed := true }
def RadixFreshUptoSaid : Prop := radixFreshUptoRow.holds Try.pinned (OpenSpec.upto radixFreshSpec)

/-- 'musterlaw03.RadixForgets', WHERE WHAT IT READS IS OF BULK AT MOST 1048576: true; the input reads as it did. -/
def radixForgetsUptoRow : OpenClaim := { program := "ytjhgknagmiekeaa", sum := "f937ffb895bfadbe8ead83bea31a629c3d9392a102f459c39f154428324caf05", func := "muster/musterlaw03.RadixForgets", spec := "radixForgets", inPlace := ["slices.overlaps[*muster/radix.node[int]]"], unfollowed := true, recurses := true, apart := false, narrowed := true }
def RadixForgetsUptoSaid : Prop := radixForgetsUptoRow.holds Try.pinned (OpenSpec.upto radixForgetsSpec)

/-- 'musterlaw03.RadixRuns', WHERE WHAT IT READS IS OF BULK AT MOST 1048576: true; the input reads as it did. -/
def radixRunsUptoRow : OpenClaim := { program := "ytjhgknagmiekeaa", sum := "f937ffb895bfadbe8ead83bea31a629c3d9392a102f459c39f154428324caf05", func := "muster/musterlaw03.RadixRuns", spec := "radixRuns", inPlace := ["slices.overlaps[*muster/radix.node[int]]"], unfollowed := true, recurses := true, apart := false, narrowed := true }
def RadixRunsUptoSaid : Prop := radixRunsUptoRow.holds Try.pinned (OpenSpec.upto radixRunsSpec)

/-- 'musterlaw04.WalkTrims', WHERE WHAT IT READS IS OF BULK AT MOST 1048576: true; the input reads as it did. -/
def walkTrimsUptoRow : OpenClaim := { program := "ytjhgknagmiekeaa", sum := "f937ffb895bfadbe8ead83bea31a629c3d9392a102f459c39f154428324caf05", func := "muster/musterlaw04.WalkTrims", spec := "walkTrims", inPlace := ["slices.overlaps[*muster/radix.node[int]]"], unfollowed := true, recurses := true, apart := false, narrowed := true }
def WalkTrimsUptoSaid : Prop := walkTrimsUptoRow.holds Try.pinned (OpenSpec.upto walkTrimsSpec)

/-- 'musterlaw03.RadixWakes', WHERE WHAT IT READS IS OF BULK AT MOST 1048576: true; the input reads as it did. -/
def radixWakesUptoRow : OpenClaim := { program := "ytjhgknagmiekeaa", sum := "f937ffb895bfadbe8ead83bea31a629c3d9392a102f459c39f154428324caf05", func := "muster/musterlaw03.RadixWakes", spec := "radixWakes", inPlace := ["slices.overlaps[*muster/radix.node[int]]", "sync/atomic.LoadUint32", "(*internal/sync.Mutex).Lock", "internal/race.Disable", "sync/atomic.CompareAndSwapInt32", "internal/race.Enable", "internal/race.Acquire", "(*internal/sync.Mutex).lockSlow", "internal/sync.runtime_canSpin", "internal/sync.runtime_doSpin", "internal/sync.throw", "internal/sync.runtime_nanotime", "internal/sync.runtime_SemacquireMutex", "sync/atomic.AddInt32", "(*internal/sync.Mutex).Unlock", "internal/race.ReleaseMerge", "(*internal/sync.Mutex).unlockSlow", "internal/sync.fatal", "internal/sync.runtime_Semrelease", "sync/atomic.StoreUint32"], unfollowed := true, recurses := true, apart := false, narrowed := true }
def RadixWakesUptoSaid : Prop := radixWakesUptoRow.holds Try.pinned (OpenSpec.upto radixWakesSpec)

/-- 'musterlaw03.RadixWatches', WHERE WHAT IT READS IS OF BULK AT MOST 1048576: true; the input reads as it did. -/
def radixWatchesUptoRow : OpenClaim := { program := "ytjhgknagmiekeaa", sum := "f937ffb895bfadbe8ead83bea31a629c3d9392a102f459c39f154428324caf05", func := "muster/musterlaw03.RadixWatches", spec := "radixWatches", inPlace := ["slices.overlaps[*muster/radix.node[int]]", "sync/atomic.LoadUint32", "(*internal/sync.Mutex).Lock", "internal/race.Disable", "sync/atomic.CompareAndSwapInt32", "internal/race.Enable", "internal/race.Acquire", "(*internal/sync.Mutex).lockSlow", "internal/sync.runtime_canSpin", "internal/sync.runtime_doSpin", "internal/sync.throw", "internal/sync.runtime_nanotime", "internal/sync.runtime_SemacquireMutex", "sync/atomic.AddInt32", "(*internal/sync.Mutex).Unlock", "internal/race.ReleaseMerge", "(*internal/sync.Mutex).unlockSlow", "internal/sync.fatal", "internal/sync.runtime_Semrelease", "sync/atomic.StoreUint32"], unfollowed := true, recurses := true, apart := false, narrowed := true }
def RadixWatchesUptoSaid : Prop := radixWatchesUptoRow.holds Try.pinned (OpenSpec.upto radixWatchesSpec)

/-- 'musterlaw04.WalkDiffs', WHERE WHAT IT READS IS OF BULK AT MOST 1048576: true; the input reads as it did. -/
def walkDiffsUptoRow : OpenClaim := { program := "ytjhgknagmiekeaa", sum := "f937ffb895bfadbe8ead83bea31a629c3d9392a102f459c39f154428324caf05", func := "muster/musterlaw04.WalkDiffs", spec := "walkDiffs", inPlace := ["slices.overlaps[*muster/radix.node[int]]", "internal/bytealg.abigen_runtime_cmpstring"], unfollowed := true, recurses := true, apart := false, narrowed := true }
def WalkDiffsUptoSaid : Prop := walkDiffsUptoRow.holds Try.pinned (OpenSpec.upto walkDiffsSpec)

/-- 'musterlaw05.TxnNames', WHERE WHAT IT READS IS OF BULK AT MOST 1048576: true; the input reads as it did. -/
def txnNamesUptoRow : OpenClaim := { program := "ytjhgknagmiekeaa", sum := "f937ffb895bfadbe8ead83bea31a629c3d9392a102f459c39f154428324caf05", func := "muster/musterlaw05.TxnNames", spec := "txnNames", inPlace := ["sync/atomic.StorePointer", "sync/atomic.LoadPointer", "(*internal/sync.Mutex).TryLock", "internal/race.Disable", "internal/race.Enable", "sync/atomic.CompareAndSwapInt32", "internal/race.Acquire", "slices.overlaps[*muster/radix.node[int]]", "(*internal/sync.Mutex).Unlock", "internal/race.ReleaseMerge", "sync/atomic.AddInt32", "(*internal/sync.Mutex).unlockSlow", "internal/sync.fatal", "internal/sync.runtime_Semrelease", "sync/atomic.LoadUint32", "(*internal/sync.Mutex).Lock", "(*internal/sync.Mutex).lockSlow", "internal/sync.runtime_canSpin", "internal/sync.runtime_doSpin", "internal/sync.throw", "internal/sync.runtime_nanotime", "internal/sync.runtime_SemacquireMutex", "sync/atomic.StoreUint32"], unfollowed := true, recurses := true, apart := false, narrowed := true }
def TxnNamesUptoSaid : Prop := txnNamesUptoRow.holds Try.pinned (OpenSpec.upto txnNamesSpec)

end Rows
end Go.Proofs.Ytjhgknagmiekeaa
