/-
  No cell of these rows narrows 'for every input' (looked for: loops, veiled, ifaces, maps, wideKeys, modest, calm, conditions, laid).
  DERIVED. THE GIVEN ROWS OF THIS SEAT. 5 by the template 'for every input the law returns true; each argument reads behind the call as it read before'; 0 by the template 'total and deterministic' (their statements: YtjhgknagmiekeaaGreatTotals.lean).
  GIVEN WITH THE SEED: the statements are not yours to turn. If you find one false, say at which input.
  Laid BY PROGRAM, IN A SANDBOX (cutbox-rows.mjs): the forced cells as the released guide's own fill.sh prints them over the translation 36cd31954b03db99… (all of the seat's roots in one cut). By AI agents, Wed Nov 11 2026. No macro, syntax, notation, axiom, sorry.
-/
import Derived.Test.YtjhgknagmiekeaaGreatChecked
import GoSem.Claim
import GoSem.ClaimJoined
import GoSem.ClaimMapViews
import Derived.JoinedTies
import Derived.KernelRfl
namespace Go.Proofs.YtjhgknagmiekeaaGreat
/- THE CELL 'sum', in the pinned program and in every row, IS THE sha256 OF THE DUMP (.gsa) THAT YtjhgknagmiekeaaGreatProg.lean LOADS. Nothing in Lean hashes anything: it is a label: what it is worth is what the hold of that sum in a sandbox is worth. -/
noncomputable def Tryz.pinned : Pinned := { name := "ytjhgknagmiekeaagreat", sum := "36cd31954b03db99e9c0fa87f87fd89f6ed00b0fce18067bdf62c29fadb9fd9a", checked := Tryz.checked }
namespace Rows
def none {H : Type} : Left H := { results := [], args := [] }

/-- 'musterlaw05.TxnCounts': WHATEVER THE INPUT: true; the input reads as it did. -/
def txnCountsSpec : ChangeSpec := { name := "txnCounts", fn := fun _ => fun
  | [d1, d2] => { results := [.lit (.bool true)], args := [d1, d2] }
  | _ => none }
def txnCountsRow : OpenClaim := { program := "ytjhgknagmiekeaagreat", sum := "36cd31954b03db99e9c0fa87f87fd89f6ed00b0fce18067bdf62c29fadb9fd9a", func := "muster/musterlaw05.TxnCounts", spec := "txnCounts", inPlace := ["sync/atomic.StorePointer", "sync/atomic.LoadPointer", "(*internal/sync.Mutex).TryLock", "internal/race.Disable", "internal/race.Enable", "sync/atomic.CompareAndSwapInt32", "internal/race.Acquire", "slices.overlaps[*muster/radix.node[int]]", "(*internal/sync.Mutex).Unlock", "internal/race.ReleaseMerge", "sync/atomic.AddInt32", "(*internal/sync.Mutex).unlockSlow", "internal/sync.fatal", "internal/sync.runtime_Semrelease", "sync/atomic.LoadUint32", "(*internal/sync.Mutex).Lock", "(*internal/sync.Mutex).lockSlow", "internal/sync.runtime_canSpin", "internal/sync.runtime_doSpin", "internal/sync.throw", "internal/sync.runtime_nanotime", "internal/sync.runtime_SemacquireMutex", "sync/atomic.StoreUint32"], unfollowed := true, recurses := true, apart := false }
def TxnCountsSaid : Prop := txnCountsRow.holds Tryz.pinned (OpenSpec.ofChange txnCountsSpec)

/-- ITS FALSE NEIGHBOUR: 'it returns false'. Refute it at one input. -/
def txnCountsWrong : ChangeSpec := { name := "txnCounts", fn := fun _ => fun
  | [d1, d2] => { results := [.lit (.bool false)], args := [d1, d2] }
  | _ => none }
def TxnCountsWrongFalsely : Prop := txnCountsRow.holds Tryz.pinned (OpenSpec.ofChange txnCountsWrong)

/-- 'musterlaw05.TxnHeld': WHATEVER THE INPUT: true; the input reads as it did. -/
def txnHeldSpec : ChangeSpec := { name := "txnHeld", fn := fun _ => fun
  | [d] => { results := [.lit (.bool true)], args := [d] }
  | _ => none }
def txnHeldRow : OpenClaim := { program := "ytjhgknagmiekeaagreat", sum := "36cd31954b03db99e9c0fa87f87fd89f6ed00b0fce18067bdf62c29fadb9fd9a", func := "muster/musterlaw05.TxnHeld", spec := "txnHeld", inPlace := ["sync/atomic.StorePointer", "sync/atomic.LoadPointer", "(*internal/sync.Mutex).TryLock", "internal/race.Disable", "internal/race.Enable", "sync/atomic.CompareAndSwapInt32", "internal/race.Acquire", "slices.overlaps[*muster/radix.node[int]]", "(*internal/sync.Mutex).Unlock", "internal/race.ReleaseMerge", "sync/atomic.AddInt32", "(*internal/sync.Mutex).unlockSlow", "internal/sync.fatal", "internal/sync.runtime_Semrelease", "sync/atomic.LoadUint32", "(*internal/sync.Mutex).Lock", "(*internal/sync.Mutex).lockSlow", "internal/sync.runtime_canSpin", "internal/sync.runtime_doSpin", "internal/sync.throw", "internal/sync.runtime_nanotime", "internal/sync.runtime_SemacquireMutex", "sync/atomic.StoreUint32"], unfollowed := true, recurses := true, apart := false }
def TxnHeldSaid : Prop := txnHeldRow.holds Tryz.pinned (OpenSpec.ofChange txnHeldSpec)

/-- ITS FALSE NEIGHBOUR: 'it returns false'. Refute it at one input. -/
def txnHeldWrong : ChangeSpec := { name := "txnHeld", fn := fun _ => fun
  | [d] => { results := [.lit (.bool false)], args := [d] }
  | _ => none }
def TxnHeldWrongFalsely : Prop := txnHeldRow.holds Tryz.pinned (OpenSpec.ofChange txnHeldWrong)

/-- 'musterlaw05.TxnRuns': WHATEVER THE INPUT: true; the input reads as it did. -/
def txnRunsSpec : ChangeSpec := { name := "txnRuns", fn := fun _ => fun
  | [d] => { results := [.lit (.bool true)], args := [d] }
  | _ => none }
def txnRunsRow : OpenClaim := { program := "ytjhgknagmiekeaagreat", sum := "36cd31954b03db99e9c0fa87f87fd89f6ed00b0fce18067bdf62c29fadb9fd9a", func := "muster/musterlaw05.TxnRuns", spec := "txnRuns", inPlace := ["sync/atomic.StorePointer", "sync/atomic.LoadPointer", "(*internal/sync.Mutex).TryLock", "internal/race.Disable", "internal/race.Enable", "sync/atomic.CompareAndSwapInt32", "internal/race.Acquire", "slices.overlaps[*muster/radix.node[int]]", "(*internal/sync.Mutex).Unlock", "internal/race.ReleaseMerge", "sync/atomic.AddInt32", "(*internal/sync.Mutex).unlockSlow", "internal/sync.fatal", "internal/sync.runtime_Semrelease", "sync/atomic.LoadUint32", "(*internal/sync.Mutex).Lock", "(*internal/sync.Mutex).lockSlow", "internal/sync.runtime_canSpin", "internal/sync.runtime_doSpin", "internal/sync.throw", "internal/sync.runtime_nanotime", "internal/sync.runtime_SemacquireMutex", "sync/atomic.StoreUint32"], unfollowed := true, recurses := true, apart := false }
def TxnRunsSaid : Prop := txnRunsRow.holds Tryz.pinned (OpenSpec.ofChange txnRunsSpec)

/-- ITS FALSE NEIGHBOUR: 'it returns false'. Refute it at one input. -/
def txnRunsWrong : ChangeSpec := { name := "txnRuns", fn := fun _ => fun
  | [d] => { results := [.lit (.bool false)], args := [d] }
  | _ => none }
def TxnRunsWrongFalsely : Prop := txnRunsRow.holds Tryz.pinned (OpenSpec.ofChange txnRunsWrong)

/-- 'musterlaw05.TxnAtOnce': WHATEVER THE INPUT: true; the input reads as it did. -/
def txnAtOnceSpec : ChangeSpec := { name := "txnAtOnce", fn := fun _ => fun
  | [d1, d2, d3] => { results := [.lit (.bool true)], args := [d1, d2, d3] }
  | _ => none }
def txnAtOnceRow : OpenClaim := { program := "ytjhgknagmiekeaagreat", sum := "36cd31954b03db99e9c0fa87f87fd89f6ed00b0fce18067bdf62c29fadb9fd9a", func := "muster/musterlaw05.TxnAtOnce", spec := "txnAtOnce", inPlace := ["sync/atomic.StorePointer", "sync/atomic.LoadPointer", "(*internal/sync.Mutex).TryLock", "internal/race.Disable", "internal/race.Enable", "sync/atomic.CompareAndSwapInt32", "internal/race.Acquire", "slices.overlaps[*muster/radix.node[int]]", "(*internal/sync.Mutex).Unlock", "internal/race.ReleaseMerge", "sync/atomic.AddInt32", "(*internal/sync.Mutex).unlockSlow", "internal/sync.fatal", "internal/sync.runtime_Semrelease", "sync/atomic.LoadUint32", "(*internal/sync.Mutex).Lock", "(*internal/sync.Mutex).lockSlow", "internal/sync.runtime_canSpin", "internal/sync.runtime_doSpin", "internal/sync.throw", "internal/sync.runtime_nanotime", "internal/sync.runtime_SemacquireMutex", "sync/atomic.StoreUint32", "internal/bytealg.abigen_runtime_cmpstring"], unfollowed := true, recurses := true, apart := false }
def TxnAtOnceSaid : Prop := txnAtOnceRow.holds Tryz.pinned (OpenSpec.ofChange txnAtOnceSpec)

/-- ITS FALSE NEIGHBOUR: 'it returns false'. Refute it at one input. -/
def txnAtOnceWrong : ChangeSpec := { name := "txnAtOnce", fn := fun _ => fun
  | [d1, d2, d3] => { results := [.lit (.bool false)], args := [d1, d2, d3] }
  | _ => none }
def TxnAtOnceWrongFalsely : Prop := txnAtOnceRow.holds Tryz.pinned (OpenSpec.ofChange txnAtOnceWrong)

/-- 'musterlaw05.TxnHeard': WHATEVER THE INPUT: true; the input reads as it did. -/
def txnHeardSpec : ChangeSpec := { name := "txnHeard", fn := fun _ => fun
  | [d1, d2, d3] => { results := [.lit (.bool true)], args := [d1, d2, d3] }
  | _ => none }
def txnHeardRow : OpenClaim := { program := "ytjhgknagmiekeaagreat", sum := "36cd31954b03db99e9c0fa87f87fd89f6ed00b0fce18067bdf62c29fadb9fd9a", func := "muster/musterlaw05.TxnHeard", spec := "txnHeard", inPlace := ["sync/atomic.StorePointer", "sync/atomic.LoadPointer", "(*internal/sync.Mutex).TryLock", "internal/race.Disable", "internal/race.Enable", "sync/atomic.CompareAndSwapInt32", "internal/race.Acquire", "slices.overlaps[*muster/radix.node[int]]", "(*internal/sync.Mutex).Unlock", "internal/race.ReleaseMerge", "sync/atomic.AddInt32", "(*internal/sync.Mutex).unlockSlow", "internal/sync.fatal", "internal/sync.runtime_Semrelease", "sync/atomic.LoadUint32", "(*internal/sync.Mutex).Lock", "(*internal/sync.Mutex).lockSlow", "internal/sync.runtime_canSpin", "internal/sync.runtime_doSpin", "internal/sync.throw", "internal/sync.runtime_nanotime", "internal/sync.runtime_SemacquireMutex", "sync/atomic.StoreUint32", "internal/bytealg.abigen_runtime_cmpstring"], unfollowed := true, recurses := true, apart := false }
def TxnHeardSaid : Prop := txnHeardRow.holds Tryz.pinned (OpenSpec.ofChange txnHeardSpec)

/-- ITS FALSE NEIGHBOUR: 'it returns false'. Refute it at one input. -/
def txnHeardWrong : ChangeSpec := { name := "txnHeard", fn := fun _ => fun
  | [d1, d2, d3] => { results := [.lit (.bool false)], args := [d1, d2, d3] }
  | _ => none }
def TxnHeardWrongFalsely : Prop := txnHeardRow.holds Tryz.pinned (OpenSpec.ofChange txnHeardWrong)

/- THE SECOND FORM. 'bulk': how many values and letters a reading holds, each counted each time it is reached (what is shared counts as often as it is met; a slice's spare places count too). A statement '..UptoSaid' is the law's where the arguments, and the package variables that the reading takes, are together of bulk at most 1048576: NARROWER than '..Said'. Prove '..Said' where nothing that the law and all that it calls make is longer than what came in: it says more and counts as full. Else prove '..UptoSaid'. A law counts once. -/
mutual
def uptoBulk {H : Type} : DataW H → Nat
  | .lit (.string bytes) => bytes.length + 1
  | .lit _ => 1
  | .nil => 1
  | .ptr d => uptoBulk d + 1
  | .slice elems spare => uptoBulkAll elems + uptoBulkAll spare + 1
  | .agg parts => uptoBulkAll parts + 1
  | .iface _ d => uptoBulk d + 1
  | .map entries => uptoBulkEntries entries + 1
  | .held _ => 1
def uptoBulkAll {H : Type} : List (DataW H) → Nat
  | [] => 0
  | d :: r => uptoBulk d + uptoBulkAll r
def uptoBulkEntries {H : Type} : List (Lit × DataW H) → Nat
  | [] => 0
  | x :: r => uptoBulkEntry x + uptoBulkEntries r
def uptoBulkEntry {H : Type} : Lit × DataW H → Nat
  | (.string bytes, d) => bytes.length + uptoBulk d + 1
  | (_, d) => uptoBulk d + 1
 end
def uptoSmall : (H : Type) → List (DataW H) → Bool := fun _ ds => decide (uptoBulkAll ds ≤ 1048576)
def OpenSpec.upto (s : _root_.Go.ChangeSpec) : _root_.Go.OpenSpec := { _root_.Go.OpenSpec.ofChange s with cond := some uptoSmall }

/-- 'musterlaw05.TxnCounts', WHERE WHAT IT READS IS OF BULK AT MOST 1048576: true; the input reads as it did. -/
def txnCountsUptoRow : OpenClaim := { program := "ytjhgknagmiekeaagreat", sum := "36cd31954b03db99e9c0fa87f87fd89f6ed00b0fce18067bdf62c29fadb9fd9a", func := "muster/musterlaw05.TxnCounts", spec := "txnCounts", inPlace := ["sync/atomic.StorePointer", "sync/atomic.LoadPointer", "(*internal/sync.Mutex).TryLock", "internal/race.Disable", "internal/race.Enable", "sync/atomic.CompareAndSwapInt32", "internal/race.Acquire", "slices.overlaps[*muster/radix.node[int]]", "(*internal/sync.Mutex).Unlock", "internal/race.ReleaseMerge", "sync/atomic.AddInt32", "(*internal/sync.Mutex).unlockSlow", "internal/sync.fatal", "internal/sync.runtime_Semrelease", "sync/atomic.LoadUint32", "(*internal/sync.Mutex).Lock", "(*internal/sync.Mutex).lockSlow", "internal/sync.runtime_canSpin", "internal/sync.runtime_doSpin", "internal/sync.throw", "internal/sync.runtime_nanotime", "internal/sync.runtime_SemacquireMutex", "sync/atomic.StoreUint32"], unfollowed := true, recurses := true, apart := false, narrowed := true }
def TxnCountsUptoSaid : Prop := txnCountsUptoRow.holds Tryz.pinned (OpenSpec.upto txnCountsSpec)

/-- 'musterlaw05.TxnHeld', WHERE WHAT IT READS IS OF BULK AT MOST 1048576: true; the input reads as it did. -/
def txnHeldUptoRow : OpenClaim := { program := "ytjhgknagmiekeaagreat", sum := "36cd31954b03db99e9c0fa87f87fd89f6ed00b0fce18067bdf62c29fadb9fd9a", func := "muster/musterlaw05.TxnHeld", spec := "txnHeld", inPlace := ["sync/atomic.StorePointer", "sync/atomic.LoadPointer", "(*internal/sync.Mutex).TryLock", "internal/race.Disable", "internal/race.Enable", "sync/atomic.CompareAndSwapInt32", "internal/race.Acquire", "slices.overlaps[*muster/radix.node[int]]", "(*internal/sync.Mutex).Unlock", "internal/race.ReleaseMerge", "sync/atomic.AddInt32", "(*internal/sync.Mutex).unlockSlow", "internal/sync.fatal", "internal/sync.runtime_Semrelease", "sync/atomic.LoadUint32", "(*internal/sync.Mutex).Lock", "(*internal/sync.Mutex).lockSlow", "internal/sync.runtime_canSpin", "internal/sync.runtime_doSpin", "internal/sync.throw", "internal/sync.runtime_nanotime", "internal/sync.runtime_SemacquireMutex", "sync/atomic.StoreUint32"], unfollowed := true, recurses := true, apart := false, narrowed := true }
def TxnHeldUptoSaid : Prop := txnHeldUptoRow.holds Tryz.pinned (OpenSpec.upto txnHeldSpec)

/-- 'musterlaw05.TxnRuns', WHERE WHAT IT READS IS OF BULK AT MOST 1048576: true; the input reads as it did. -/
def txnRunsUptoRow : OpenClaim := { program := "ytjhgknagmiekeaagreat", sum := "36cd31954b03db99e9c0fa87f87fd89f6ed00b0fce18067bdf62c29fadb9fd9a", func := "muster/musterlaw05.TxnRuns", spec := "txnRuns", inPlace := ["sync/atomic.StorePointer", "sync/atomic.LoadPointer", "(*internal/sync.Mutex).TryLock", "internal/race.Disable", "internal/race.Enable", "sync/atomic.CompareAndSwapInt32", "internal/race.Acquire", "slices.overlaps[*muster/radix.node[int]]", "(*internal/sync.Mutex).Unlock", "internal/race.ReleaseMerge", "sync/atomic.AddInt32", "(*internal/sync.Mutex).unlockSlow", "internal/sync.fatal", "internal/sync.runtime_Semrelease", "sync/atomic.LoadUint32", "(*internal/sync.Mutex).Lock", "(*internal/sync.Mutex).lockSlow", "internal/sync.runtime_canSpin", "internal/sync.runtime_doSpin", "internal/sync.throw", "internal/sync.runtime_nanotime", "internal/sync.runtime_SemacquireMutex", "sync/atomic.StoreUint32"], unfollowed := true, recurses := true, apart := false, narrowed := true }
def TxnRunsUptoSaid : Prop := txnRunsUptoRow.holds Tryz.pinned (OpenSpec.upto txnRunsSpec)

/-- 'musterlaw05.TxnAtOnce', WHERE WHAT IT READS IS OF BULK AT MOST 1048576: true; the input reads as it did. -/
def txnAtOnceUptoRow : OpenClaim := { program := "ytjhgknagmiekeaagreat", sum := "36cd31954b03db99e9c0fa87f87fd89f6ed00b0fce18067bdf62c29fadb9fd9a", func := "muster/musterlaw05.TxnAtOnce", spec := "txnAtOnce", inPlace := ["sync/atomic.StorePointer", "sync/atomic.LoadPointer", "(*internal/sync.Mutex).TryLock", "internal/race.Disable", "internal/race.Enable", "sync/atomic.CompareAndSwapInt32", "internal/race.Acquire", "slices.overlaps[*muster/radix.node[int]]", "(*internal/sync.Mutex).Unlock", "internal/race.ReleaseMerge", "sync/atomic.AddInt32", "(*internal/sync.Mutex).unlockSlow", "internal/sync.fatal", "internal/sync.runtime_Semrelease", "sync/atomic.LoadUint32", "(*internal/sync.Mutex).Lock", "(*internal/sync.Mutex).lockSlow", "internal/sync.runtime_canSpin", "internal/sync.runtime_doSpin", "internal/sync.throw", "internal/sync.runtime_nanotime", "internal/sync.runtime_SemacquireMutex", "sync/atomic.StoreUint32", "internal/bytealg.abigen_runtime_cmpstring"], unfollowed := true, recurses := true, apart := false, narrowed := true }
def TxnAtOnceUptoSaid : Prop := txnAtOnceUptoRow.holds Tryz.pinned (OpenSpec.upto txnAtOnceSpec)

/-- 'musterlaw05.TxnHeard', WHERE WHAT IT READS IS OF BULK AT MOST 1048576: true; the input reads as it did. -/
def txnHeardUptoRow : OpenClaim := { program := "ytjhgknagmiekeaagreat", sum := "36cd31954b03db99e9c0fa87f87fd89f6ed00b0fce18067bdf62c29fadb9fd9a", func := "muster/musterlaw05.TxnHeard", spec := "txnHeard", inPlace := ["sync/atomic.StorePointer", "sync/atomic.LoadPointer", "(*internal/sync.Mutex).TryLock", "internal/race.Disable", "internal/race.Enable", "sync/atomic.CompareAndSwapInt32", "internal/race.Acquire", "slices.overlaps[*muster/radix.node[int]]", "(*internal/sync.Mutex).Unlock", "internal/race.ReleaseMerge", "sync/atomic.AddInt32", "(*internal/sync.Mutex).unlockSlow", "internal/sync.fatal", "internal/sync.runtime_Semrelease", "sync/atomic.LoadUint32", "(*internal/sync.Mutex).Lock", "(*internal/sync.Mutex).lockSlow", "internal/sync.runtime_canSpin", "internal/sync.runtime_doSpin", "internal/sync.throw", "internal/sync.runtime_nanotime", "internal/sync.runtime_SemacquireMutex", "sync/atomic.StoreUint32", "internal/bytealg.abigen_runtime_cmpstring"], unfollowed := true, recurses := true, apart := false, narrowed := true }
def TxnHeardUptoSaid : Prop := txnHeardUptoRow.holds Tryz.pinned (OpenSpec.upto txnHeardSpec)

end Rows
end Go.Proofs.YtjhgknagmiekeaaGreat
