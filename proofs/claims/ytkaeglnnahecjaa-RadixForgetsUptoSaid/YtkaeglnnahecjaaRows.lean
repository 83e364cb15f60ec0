/-
  No cell of these rows narrows 'for every input' (looked for: loops, veiled, ifaces, maps, wideKeys, modest, calm, conditions, laid).
  DERIVED. THE GIVEN ROWS OF THIS SEAT. 8 by the template 'for every input the law returns true; each argument reads behind the call as it read before'; 0 by the template 'total and deterministic' (their statements: YtkaeglnnahecjaaTotals.lean).
  GIVEN WITH THE SEED: the statements are not yours to turn. If you find one false, say at which input.
  Laid BY PROGRAM, IN A SANDBOX (cutbox-rows.mjs): the forced cells as the released guide's own fill.sh prints them over the translation 9958dd7994762ac9… (all of the seat's roots in one cut). By AI agents, Wed Nov 11 2026. No macro, syntax, notation, axiom, sorry.
-/
import Derived.Test.YtkaeglnnahecjaaChecked
import GoSem.Claim
import GoSem.ClaimJoined
import GoSem.ClaimMapViews
import Derived.JoinedTies
import Derived.KernelRfl
namespace Go.Proofs.Ytkaeglnnahecjaa
/- THE CELL 'sum', in the pinned program and in every row, IS THE sha256 OF THE DUMP (.gsa) THAT YtkaeglnnahecjaaProg.lean LOADS. Nothing in Lean hashes anything: it is a label: what it is worth is what the hold of that sum in a sandbox is worth. -/
noncomputable def Try.pinned : Pinned := { name := "ytkaeglnnahecjaa", sum := "9958dd7994762ac93bff41b66ec63781df05a066bf63be7d7e870c09a4320e54", checked := Try.checked }
namespace Rows
def none {H : Type} : Left H := { results := [], args := [] }

/-- 'musterlaw03.RadixAny': WHATEVER THE INPUT: true; the input reads as it did. -/
def radixAnySpec : ChangeSpec := { name := "radixAny", fn := fun _ => fun
  | [d1, d2] => { results := [.lit (.bool true)], args := [d1, d2] }
  | _ => none }
def radixAnyRow : OpenClaim := { program := "ytkaeglnnahecjaa", sum := "9958dd7994762ac93bff41b66ec63781df05a066bf63be7d7e870c09a4320e54", func := "muster/musterlaw03.RadixAny", spec := "radixAny", inPlace := ["slices.overlaps[*muster/radix.node[int]]", "slices.overlaps[*muster/radix.node[string]]", "slices.overlaps[*muster/radix.node[muster/musterlaw03.Pair]]"], unfollowed := true, recurses := true, apart := false }
def RadixAnySaid : Prop := radixAnyRow.holds Try.pinned (OpenSpec.ofChange radixAnySpec)

/-- ITS FALSE NEIGHBOUR: 'it returns false'. Refute it at one input. -/
def radixAnyWrong : ChangeSpec := { name := "radixAny", fn := fun _ => fun
  | [d1, d2] => { results := [.lit (.bool false)], args := [d1, d2] }
  | _ => none }
def RadixAnyWrongFalsely : Prop := radixAnyRow.holds Try.pinned (OpenSpec.ofChange radixAnyWrong)

/-- 'musterlaw03.RadixLongest': WHATEVER THE INPUT: true; the input reads as it did. -/
def radixLongestSpec : ChangeSpec := { name := "radixLongest", fn := fun _ => fun
  | [d1, d2] => { results := [.lit (.bool true)], args := [d1, d2] }
  | _ => none }
def radixLongestRow : OpenClaim := { program := "ytkaeglnnahecjaa", sum := "9958dd7994762ac93bff41b66ec63781df05a066bf63be7d7e870c09a4320e54", func := "muster/musterlaw03.RadixLongest", spec := "radixLongest", inPlace := ["slices.overlaps[*muster/radix.node[int]]"], unfollowed := true, recurses := true, apart := false }
def RadixLongestSaid : Prop := radixLongestRow.holds Try.pinned (OpenSpec.ofChange radixLongestSpec)

/-- ITS FALSE NEIGHBOUR: 'it returns false'. Refute it at one input. -/
def radixLongestWrong : ChangeSpec := { name := "radixLongest", fn := fun _ => fun
  | [d1, d2] => { results := [.lit (.bool false)], args := [d1, d2] }
  | _ => none }
def RadixLongestWrongFalsely : Prop := radixLongestRow.holds Try.pinned (OpenSpec.ofChange radixLongestWrong)

/-- 'musterlaw03.RadixShape': WHATEVER THE INPUT: true; the input reads as it did. -/
def radixShapeSpec : ChangeSpec := { name := "radixShape", fn := fun _ => fun
  | [d1, d2] => { results := [.lit (.bool true)], args := [d1, d2] }
  | _ => none }
def radixShapeRow : OpenClaim := { program := "ytkaeglnnahecjaa", sum := "9958dd7994762ac93bff41b66ec63781df05a066bf63be7d7e870c09a4320e54", func := "muster/musterlaw03.RadixShape", spec := "radixShape", inPlace := ["slices.overlaps[*muster/radix.node[int]]"], unfollowed := true, recurses := true, apart := false }
def RadixShapeSaid : Prop := radixShapeRow.holds Try.pinned (OpenSpec.ofChange radixShapeSpec)

/-- ITS FALSE NEIGHBOUR: 'it returns false'. Refute it at one input. -/
def radixShapeWrong : ChangeSpec := { name := "radixShape", fn := fun _ => fun
  | [d1, d2] => { results := [.lit (.bool false)], args := [d1, d2] }
  | _ => none }
def RadixShapeWrongFalsely : Prop := radixShapeRow.holds Try.pinned (OpenSpec.ofChange radixShapeWrong)

/-- 'musterlaw03.RadixFresh': WHATEVER THE INPUT: true; the input reads as it did. -/
def radixFreshSpec : ChangeSpec := { name := "radixFresh", fn := fun _ => fun
  | [d1, d2, d3] => { results := [.lit (.bool true)], args := [d1, d2, d3] }
  | _ => none }
def radixFreshRow : OpenClaim := { program := "ytkaeglnnahecjaa", sum := "9958dd7994762ac93bff41b66ec63781df05a066bf63be7d7e870c09a4320e54", func := "muster/musterlaw03.RadixFresh", spec := "radixFresh", inPlace := ["slices.overlaps[*muster/radix.node[int]]"], unfollowed := true, recurses := true, apart := false }
def RadixFreshSaid : Prop := radixFreshRow.holds Try.pinned (OpenSpec.ofChange radixFreshSpec)

/-- ITS FALSE NEIGHBOUR: 'it returns false'. Refute it at one input. -/
def radixFreshWrong : ChangeSpec := { name := "radixFresh", fn := fun _ => fun
  | [d1, d2, d3] => { results := [.lit (.bool false)], args := [d1, d2, d3] }
  | _ => none }
def RadixFreshWrongFalsely : Prop := radixFreshRow.holds Try.pinned (OpenSpec.ofChange radixFreshWrong)

/-- 'musterlaw03.RadixForgets': WHATEVER THE INPUT: true; the input reads as it did. -/
def radixForgetsSpec : ChangeSpec := { name := "radixForgets", fn := fun _ => fun
  | [d1, d2] => { results := [.lit (.bool true)], args := [d1, d2] }
  | _ => none }
def radixForgetsRow : OpenClaim := { program := "ytkaeglnnahecjaa", sum := "9958dd7994762ac93bff41b66ec63781df05a066bf63be7d7e870c09a4320e54", func := "muster/musterlaw03.RadixForgets", spec := "radixForgets", inPlace := ["slices.overlaps[*muster/radix.node[int]]"], unfollowed := true, recurses := true, apart := false }
def RadixForgetsSaid : Prop := radixForgetsRow.holds Try.pinned (OpenSpec.ofChange radixForgetsSpec)

/-- ITS FALSE NEIGHBOUR: 'it returns false'. Refute it at one input. -/
def radixForgetsWrong : ChangeSpec := { name := "radixForgets", fn := fun _ => fun
  | [d1, d2] => { results := [.lit (.bool false)], args := [d1, d2] }
  | _ => none }
def RadixForgetsWrongFalsely : Prop := radixForgetsRow.holds Try.pinned (OpenSpec.ofChange radixForgetsWrong)

/-- 'musterlaw03.RadixRuns': WHATEVER THE INPUT: true; the input reads as it did. -/
def radixRunsSpec : ChangeSpec := { name := "radixRuns", fn := fun _ => fun
  | [d] => { results := [.lit (.bool true)], args := [d] }
  | _ => none }
def radixRunsRow : OpenClaim := { program := "ytkaeglnnahecjaa", sum := "9958dd7994762ac93bff41b66ec63781df05a066bf63be7d7e870c09a4320e54", func := "muster/musterlaw03.RadixRuns", spec := "radixRuns", inPlace := ["slices.overlaps[*muster/radix.node[int]]"], unfollowed := true, recurses := true, apart := false }
def RadixRunsSaid : Prop := radixRunsRow.holds Try.pinned (OpenSpec.ofChange radixRunsSpec)

/-- ITS FALSE NEIGHBOUR: 'it returns false'. Refute it at one input. -/
def radixRunsWrong : ChangeSpec := { name := "radixRuns", fn := fun _ => fun
  | [d] => { results := [.lit (.bool false)], args := [d] }
  | _ => none }
def RadixRunsWrongFalsely : Prop := radixRunsRow.holds Try.pinned (OpenSpec.ofChange radixRunsWrong)

/-- 'musterlaw03.RadixWakes': WHATEVER THE INPUT: true; the input reads as it did. -/
def radixWakesSpec : ChangeSpec := { name := "radixWakes", fn := fun _ => fun
  | [d] => { results := [.lit (.bool true)], args := [d] }
  | _ => none }
def radixWakesRow : OpenClaim := { program := "ytkaeglnnahecjaa", sum := "9958dd7994762ac93bff41b66ec63781df05a066bf63be7d7e870c09a4320e54", func := "muster/musterlaw03.RadixWakes", spec := "radixWakes", inPlace := ["slices.overlaps[*muster/radix.node[int]]", "sync/atomic.LoadUint32", "(*internal/sync.Mutex).Lock", "internal/race.Disable", "sync/atomic.CompareAndSwapInt32", "internal/race.Enable", "internal/race.Acquire", "(*internal/sync.Mutex).lockSlow", "internal/sync.runtime_canSpin", "internal/sync.runtime_doSpin", "internal/sync.throw", "internal/sync.runtime_nanotime", "internal/sync.runtime_SemacquireMutex", "sync/atomic.AddInt32", "(*internal/sync.Mutex).Unlock", "internal/race.ReleaseMerge", "(*internal/sync.Mutex).unlockSlow", "internal/sync.fatal", "internal/sync.runtime_Semrelease", "sync/atomic.StoreUint32"], unfollowed := true, recurses := true, apart := false }
def RadixWakesSaid : Prop := radixWakesRow.holds Try.pinned (OpenSpec.ofChange radixWakesSpec)

/-- ITS FALSE NEIGHBOUR: 'it returns false'. Refute it at one input. -/
def radixWakesWrong : ChangeSpec := { name := "radixWakes", fn := fun _ => fun
  | [d] => { results := [.lit (.bool false)], args := [d] }
  | _ => none }
def RadixWakesWrongFalsely : Prop := radixWakesRow.holds Try.pinned (OpenSpec.ofChange radixWakesWrong)

/-- 'musterlaw03.RadixWatches': WHATEVER THE INPUT: true; the input reads as it did. -/
def radixWatchesSpec : ChangeSpec := { name := "radixWatches", fn := fun _ => fun
  | [d] => { results := [.lit (.bool true)], args := [d] }
  | _ => none }
def radixWatchesRow : OpenClaim := { program := "ytkaeglnnahecjaa", sum := "9958dd7994762ac93bff41b66ec63781df05a066bf63be7d7e870c09a4320e54", func := "muster/musterlaw03.RadixWatches", spec := "radixWatches", inPlace := ["slices.overlaps[*muster/radix.node[int]]", "sync/atomic.LoadUint32", "(*internal/sync.Mutex).Lock", "internal/race.Disable", "sync/atomic.CompareAndSwapInt32", "internal/race.Enable", "internal/race.Acquire", "(*internal/sync.Mutex).lockSlow", "internal/sync.runtime_canSpin", "internal/sync.runtime_doSpin", "internal/sync.throw", "internal/sync.runtime_nanotime", "internal/sync.runtime_SemacquireMutex", "sync/atomic.AddInt32", "(*internal/sync.Mutex).Unlock", "internal/race.ReleaseMerge", "(*internal/sync.Mutex).unlockSlow", "internal/sync.fatal", "internal/sync.runtime_Semrelease", "sync/atomic.StoreUint32"], unfollowed := true, recurses := true, apart := false }
def RadixWatchesSaid : Prop := radixWatchesRow.holds Try.pinned (OpenSpec.ofChange radixWatchesSpec)

/-- ITS FALSE NEIGHBOUR: 'it returns false'. Refute it at one input. -/
def radixWatchesWrong : ChangeSpec := { name := "radixWatches", fn := fun _ => fun
  | [d] => { results := [.lit (.bool false)], args := [d] }
  | _ => none }
def RadixWatchesWrongFalsely : Prop := radixWatchesRow.holds Try.pinned (OpenSpec.ofChange radixWatchesWrong)

/- THE SECOND FORM. 'bulk': how many values and letters a reading holds, each counted each time it is reached (what is shared counts as often as it is met; a slice's spare places count too). A statement '..UptoSaid' is the law's where the arguments, and the package variables that the reading takes, are together of bulk at most 1048576: NARROWER than '..Said'. Prove '..Said' where nothing that the law and all that it calls make is longer than what came in: it says more and counts as full. Else prove '..UptoSaid'. A law counts once. -/
mutual
def uptoBulk {H : Type} : DataW H → Nat
  | .lit (.string bytes) => bytes.length + 1
  | .lit _ => 1
  | .nil => 1
  | .ptr d => uptoBulk d + 1
  | .slice elems spare => uptoBulkAll elems + uptoBulkAll spare + 1
  | .agg parts => uptoBulkAll parts + 1
  | .iface _ d => uptoBulk d + 1
  | .map entries => uptoBulkEntries entries + 1
  | .held _ => 1
def uptoBulkAll {H : Type} : List (DataW H) → Nat
  | [] => 0
  | d :: r => uptoBulk d + uptoBulkAll r
def uptoBulkEntries {H : Type} : List (Lit × DataW H) → Nat
  | [] => 0
  | x :: r => uptoBulkEntry x + uptoBulkEntries r
def uptoBulkEntry {H : Type} : Lit × DataW H → Nat
  | (.string bytes, d) => bytes.length + uptoBulk d + 1
  | (_, d) => uptoBulk d + 1
 end
def uptoSmall : (H : Type) → List (DataW H) → Bool := fun _ ds => decide (uptoBulkAll ds ≤ 1048576)
def OpenSpec.upto (s : _root_.Go.ChangeSpec) : _root_.Go.OpenSpec := { _root_.Go.OpenSpec.ofChange s with cond := some uptoSmall }

/-- 'musterlaw03.RadixAny', WHERE WHAT IT READS IS OF BULK AT MOST 1048576: true; the input reads as it did. -/
def radixAnyUptoRow : OpenClaim := { program := "ytkaeglnnahecjaa", sum := "9958dd7994762ac93bff41b66ec63781df05a066bf63be7d7e870c09a4320e54", func := "muster/musterlaw03.RadixAny", spec := "radixAny", inPlace := ["slices.overlaps[*muster/radix.node[int]]", "slices.overlaps[*muster/radix.node[string]]", "slices.overlaps[*muster/radix.node[muster/musterlaw03.Pair]]"], unfollowed := true, recurses := true, apart := false, narrowed := true }
def RadixAnyUptoSaid : Prop := radixAnyUptoRow.holds Try.pinned (OpenSpec.upto radixAnySpec)

/-- 'musterlaw03.RadixLongest', WHERE WHAT IT READS IS OF BULK AT MOST 1048576: true; the input reads as it did. -/
def radixLongestUptoRow : OpenClaim := { program := "ytkaeglnnahecjaa", sum := "9958dd7994762ac93bff41b66ec63781df05a066bf63be7d7e870c09a4320e54", func := "muster/musterlaw03.RadixLongest", spec := "radixLongest", inPlace := ["slices.overlaps[*muster/radix.node[int]]"], unfollowed := true, recurses := true, apart := false, narrowed := true }
def RadixLongestUptoSaid : Prop := radixLongestUptoRow.holds Try.pinned (OpenSpec.upto radixLongestSpec)

/-- 'musterlaw03.RadixShape', WHERE WHAT IT READS IS OF BULK AT MOST 1048576: true; the input reads as it did. -/
def radixShapeUptoRow : OpenClaim := { program := "ytkaeglnnahecjaa", sum := "9958dd7994762ac93bff41b66ec63781df05a066bf63be7d7e870c09a4320e54", func := "muster/musterlaw03.RadixShape", spec := "radixShape", inPlace := ["slices.overlaps[*muster/radix.node[int]]"], unfollowed := true, recurses := true, apart := false, narrowed := true }
def RadixShapeUptoSaid : Prop := radixShapeUptoRow.holds Try.pinned (OpenSpec.upto radixShapeSpec)

/-- 'musterlaw03.RadixFresh', WHERE WHAT IT READS IS OF BULK AT MOST 1048576: true; the input reads as it did. -/
def radixFreshUptoRow : OpenClaim := { program := "ytkaeglnnahecjaa", sum := "9958dd7994762ac93bff41b66ec63781df05a066bf63be7d7e870c09a4320e54", func := "muster/musterlaw03.RadixFresh", spec := "radixFresh", inPlace := ["slices.overlaps[*muster/radix.node[int]]"], unfollowed := true, recurses := true, apart := false, narrowed := true }
def RadixFreshUptoSaid : Prop := radixFreshUptoRow.holds Try.pinned (OpenSpec.upto radixFreshSpec)

/-- 'musterlaw03.RadixForgets', WHERE WHAT IT READS IS OF BULK AT MOST 1048576: true; the input reads as it did. -/
def radixForgetsUptoRow : OpenClaim := { program := "ytkaeglnnahecjaa", sum := "9958dd7994762ac93bff41b66ec63781df05a066bf63be7d7e870c09a4320e54", func := "muster/musterlaw03.RadixForgets", spec := "radixForgets", inPlace := ["slices.overlaps[*muster/radix.node[int]]"], unfollowed := true, recurses := true, apart := false, narrowed := true }
def RadixForgetsUptoSaid : Prop := radixForgetsUptoRow.holds Try.pinned (OpenSpec.upto radixForgetsSpec)

/-- 'musterlaw03.RadixRuns', WHERE WHAT IT READS IS OF BULK AT MOST 1048576: true; the input reads as it did. -/
def radixRunsUptoRow : OpenClaim := { program := "ytkaeglnnahecjaa", sum := "9958dd7994762ac93bff41b66ec63781df05a066bf63be7d7e870c09a4320e54", func := "muster/musterlaw03.RadixRuns", spec := "radixRuns", inPlace := ["slices.overlaps[*muster/radix.node[int]]"], unfollowed := true, recurses := true, apart := false, narrowed := true }
def RadixRunsUptoSaid : Prop := radixRunsUptoRow.holds Try.pinned (OpenSpec.upto radixRunsSpec)

/-- 'musterlaw03.RadixWakes', WHERE WHAT IT READS IS OF BULK AT MOST 1048576: true; the input reads as it did. -/
def radixWakesUptoRow : OpenClaim := { program := "ytkaeglnnahecjaa", sum := "9958dd7994762ac93bff41b66ec63781df05a066bf63be7d7e870c09a4320e54", func := "muster/musterlaw03.RadixWakes", spec := "radixWakes", inPlace := ["slices.overlaps[*muster/radix.node[int]]", "sync/atomic.LoadUint32", "(*internal/sync.Mutex).Lock", "internal/race.Disable", "sync/atomic.CompareAndSwapInt32", "internal/race.Enable", "internal/race.Acquire", "(*internal/sync.Mutex).lockSlow", "internal/sync.runtime_canSpin", "internal/sync.runtime_doSpin", "internal/sync.throw", "internal/sync.runtime_nanotime", "internal/sync.runtime_SemacquireMutex", "sync/atomic.AddInt32", "(*internal/sync.Mutex).Unlock", "internal/race.ReleaseMerge", "(*internal/sync.Mutex).unlockSlow", "internal/sync.fatal", "internal/sync.runtime_Semrelease", "sync/atomic.StoreUint32"], unfollowed := true, recurses := true, apart := false, narrowed := true }
def RadixWakesUptoSaid : Prop := radixWakesUptoRow.holds Try.pinned (OpenSpec.upto radixWakesSpec)

/-- 'musterlaw03.RadixWatches', WHERE WHAT IT READS IS OF BULK AT MOST 1048576: true; the input reads as it did. -/
def radixWatchesUptoRow : OpenClaim := { program := "ytkaeglnnahecjaa", sum := "9958dd7994762ac93bff41b66ec63781df05a066bf63be7d7e870c09a4320e54", func := "muster/musterlaw03.RadixWatches", spec := "radixWatches", inPlace := ["slices.overlaps[*muster/radix.node[int]]", "sync/atomic.LoadUint32", "(*internal/sync.Mutex).Lock", "internal/race.Disable", "sync/atomic.CompareAndSwapInt32", "internal/race.Enable", "internal/race.Acquire", "(*internal/sync.Mutex).lockSlow", "internal/sync.runtime_canSpin", "internal/sync.runtime_doSpin", "internal/sync.throw", "internal/sync.runtime_nanotime", "internal/sync.runtime_SemacquireMutex", "sync/atomic.AddInt32", "(*internal/sync.Mutex).Unlock", "internal/race.ReleaseMerge", "(*internal/sync.Mutex).unlockSlow", "internal/sync.fatal", "internal/sync.runtime_Semrelease", "sync/atomic.StoreUint32"], unfollowed := true, recurses := true, apart := false, narrowed := true }
def RadixWatchesUptoSaid : Prop := radixWatchesUptoRow.holds Try.pinned (OpenSpec.upto radixWatchesSpec)

end Rows
end Go.Proofs.Ytkaeglnnahecjaa
