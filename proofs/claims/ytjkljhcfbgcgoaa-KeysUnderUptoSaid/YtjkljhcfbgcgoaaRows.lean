/-
  No cell of these rows narrows 'for every input' (looked for: loops, veiled, ifaces, maps, wideKeys, modest, calm, conditions, laid).
  DERIVED. THE GIVEN ROWS OF THIS SEAT. 10 by the template 'for every input the law returns true; each argument reads behind the call as it read before'; 0 by the template 'total and deterministic' (their statements: YtjkljhcfbgcgoaaTotals.lean).
  GIVEN WITH THE SEED: the statements are not yours to turn. If you find one false, say at which input.
  Laid BY PROGRAM, IN A SANDBOX (cutbox-rows.mjs): the forced cells as the released guide's own fill.sh prints them over the translation a4273bbd0c749bbc… (all of the seat's roots in one cut). By AI agents, Wed Nov 11 2026. No macro, syntax, notation, axiom, sorry.
-/
import Derived.Test.YtjkljhcfbgcgoaaChecked
import GoSem.Claim
import GoSem.ClaimJoined
import GoSem.ClaimMapViews
import Derived.JoinedTies
import Derived.KernelRfl
namespace Go.Proofs.Ytjkljhcfbgcgoaa
/- THE CELL 'sum', in the pinned program and in every row, IS THE sha256 OF THE DUMP (.gsa) THAT YtjkljhcfbgcgoaaProg.lean LOADS. Nothing in Lean hashes anything: it is a label: what it is worth is what the hold of that sum in a sandbox is worth. -/
noncomputable def Try.pinned : Pinned := { name := "ytjkljhcfbgcgoaa", sum := "a4273bbd0c749bbcf9469d4c722fa4d1bfaf99a0acdde09caddf8b97001c4fca", checked := Try.checked }
namespace Rows
def none {H : Type} : Left H := { results := [], args := [] }

/-- 'musterlaw01.KeysAfter': WHATEVER THE INPUT: true; the input reads as it did. -/
def keysAfterSpec : ChangeSpec := { name := "keysAfter", fn := fun _ => fun
  | [d1, d2] => { results := [.lit (.bool true)], args := [d1, d2] }
  | _ => none }
def keysAfterRow : OpenClaim := { program := "ytjkljhcfbgcgoaa", sum := "a4273bbd0c749bbcf9469d4c722fa4d1bfaf99a0acdde09caddf8b97001c4fca", func := "muster/musterlaw01.KeysAfter", spec := "keysAfter", apart := false }
def KeysAfterSaid : Prop := keysAfterRow.holds Try.pinned (OpenSpec.ofChange keysAfterSpec)

/-- ITS FALSE NEIGHBOUR: 'it returns false'. Refute it at one input. -/
def keysAfterWrong : ChangeSpec := { name := "keysAfter", fn := fun _ => fun
  | [d1, d2] => { results := [.lit (.bool false)], args := [d1, d2] }
  | _ => none }
def KeysAfterWrongFalsely : Prop := keysAfterRow.holds Try.pinned (OpenSpec.ofChange keysAfterWrong)

/-- 'musterlaw01.KeysNames': WHATEVER THE INPUT: true; the input reads as it did. -/
def keysNamesSpec : ChangeSpec := { name := "keysNames", fn := fun _ => fun
  | [] => { results := [.lit (.bool true)], args := [] }
  | _ => none }
def keysNamesRow : OpenClaim := { program := "ytjkljhcfbgcgoaa", sum := "a4273bbd0c749bbcf9469d4c722fa4d1bfaf99a0acdde09caddf8b97001c4fca", func := "muster/musterlaw01.KeysNames", spec := "keysNames", inPlace := ["internal/abi.NoEscape"], apart := false }
def KeysNamesSaid : Prop := keysNamesRow.holds Try.pinned (OpenSpec.ofChange keysNamesSpec)

/-- ITS FALSE NEIGHBOUR: 'it returns false'. Refute it at one input. -/
def keysNamesWrong : ChangeSpec := { name := "keysNames", fn := fun _ => fun
  | [] => { results := [.lit (.bool false)], args := [] }
  | _ => none }
def KeysNamesWrongFalsely : Prop := keysNamesRow.holds Try.pinned (OpenSpec.ofChange keysNamesWrong)

/-- 'musterlaw01.KeysEncodes': WHATEVER THE INPUT: true; the input reads as it did. -/
def keysEncodesSpec : ChangeSpec := { name := "keysEncodes", fn := fun _ => fun
  | [d] => { results := [.lit (.bool true)], args := [d] }
  | _ => none }
def keysEncodesRow : OpenClaim := { program := "ytjkljhcfbgcgoaa", sum := "a4273bbd0c749bbcf9469d4c722fa4d1bfaf99a0acdde09caddf8b97001c4fca", func := "muster/musterlaw01.KeysEncodes", spec := "keysEncodes", inPlace := ["internal/abi.NoEscape"], apart := false }
def KeysEncodesSaid : Prop := keysEncodesRow.holds Try.pinned (OpenSpec.ofChange keysEncodesSpec)

/-- ITS FALSE NEIGHBOUR: 'it returns false'. Refute it at one input. -/
def keysEncodesWrong : ChangeSpec := { name := "keysEncodes", fn := fun _ => fun
  | [d] => { results := [.lit (.bool false)], args := [d] }
  | _ => none }
def KeysEncodesWrongFalsely : Prop := keysEncodesRow.holds Try.pinned (OpenSpec.ofChange keysEncodesWrong)

/-- 'musterlaw01.KeysBegins': WHATEVER THE INPUT: true; the input reads as it did. -/
def keysBeginsSpec : ChangeSpec := { name := "keysBegins", fn := fun _ => fun
  | [d] => { results := [.lit (.bool true)], args := [d] }
  | _ => none }
def keysBeginsRow : OpenClaim := { program := "ytjkljhcfbgcgoaa", sum := "a4273bbd0c749bbcf9469d4c722fa4d1bfaf99a0acdde09caddf8b97001c4fca", func := "muster/musterlaw01.KeysBegins", spec := "keysBegins", inPlace := ["internal/abi.NoEscape"], apart := false }
def KeysBeginsSaid : Prop := keysBeginsRow.holds Try.pinned (OpenSpec.ofChange keysBeginsSpec)

/-- ITS FALSE NEIGHBOUR: 'it returns false'. Refute it at one input. -/
def keysBeginsWrong : ChangeSpec := { name := "keysBegins", fn := fun _ => fun
  | [d] => { results := [.lit (.bool false)], args := [d] }
  | _ => none }
def KeysBeginsWrongFalsely : Prop := keysBeginsRow.holds Try.pinned (OpenSpec.ofChange keysBeginsWrong)

/-- 'musterlaw01.KeysUnder': WHATEVER THE INPUT: true; the input reads as it did. -/
def keysUnderSpec : ChangeSpec := { name := "keysUnder", fn := fun _ => fun
  | [d1, d2, d3] => { results := [.lit (.bool true)], args := [d1, d2, d3] }
  | _ => none }
def keysUnderRow : OpenClaim := { program := "ytjkljhcfbgcgoaa", sum := "a4273bbd0c749bbcf9469d4c722fa4d1bfaf99a0acdde09caddf8b97001c4fca", func := "muster/musterlaw01.KeysUnder", spec := "keysUnder", inPlace := ["internal/abi.NoEscape"], apart := false }
def KeysUnderSaid : Prop := keysUnderRow.holds Try.pinned (OpenSpec.ofChange keysUnderSpec)

/-- ITS FALSE NEIGHBOUR: 'it returns false'. Refute it at one input. -/
def keysUnderWrong : ChangeSpec := { name := "keysUnder", fn := fun _ => fun
  | [d1, d2, d3] => { results := [.lit (.bool false)], args := [d1, d2, d3] }
  | _ => none }
def KeysUnderWrongFalsely : Prop := keysUnderRow.holds Try.pinned (OpenSpec.ofChange keysUnderWrong)

/-- 'musterlaw01.KeysCompares': WHATEVER THE INPUT: true; the input reads as it did. -/
def keysComparesSpec : ChangeSpec := { name := "keysCompares", fn := fun _ => fun
  | [d1, d2] => { results := [.lit (.bool true)], args := [d1, d2] }
  | _ => none }
def keysComparesRow : OpenClaim := { program := "ytjkljhcfbgcgoaa", sum := "a4273bbd0c749bbcf9469d4c722fa4d1bfaf99a0acdde09caddf8b97001c4fca", func := "muster/musterlaw01.KeysCompares", spec := "keysCompares", inPlace := ["internal/abi.NoEscape"], apart := false }
def KeysComparesSaid : Prop := keysComparesRow.holds Try.pinned (OpenSpec.ofChange keysComparesSpec)

/-- ITS FALSE NEIGHBOUR: 'it returns false'. Refute it at one input. -/
def keysComparesWrong : ChangeSpec := { name := "keysCompares", fn := fun _ => fun
  | [d1, d2] => { results := [.lit (.bool false)], args := [d1, d2] }
  | _ => none }
def KeysComparesWrongFalsely : Prop := keysComparesRow.holds Try.pinned (OpenSpec.ofChange keysComparesWrong)

/-- 'musterlaw01.KeysOrder': WHATEVER THE INPUT: true; the input reads as it did. -/
def keysOrderSpec : ChangeSpec := { name := "keysOrder", fn := fun _ => fun
  | [d1, d2] => { results := [.lit (.bool true)], args := [d1, d2] }
  | _ => none }
def keysOrderRow : OpenClaim := { program := "ytjkljhcfbgcgoaa", sum := "a4273bbd0c749bbcf9469d4c722fa4d1bfaf99a0acdde09caddf8b97001c4fca", func := "muster/musterlaw01.KeysOrder", spec := "keysOrder", inPlace := ["internal/abi.NoEscape"], apart := false }
def KeysOrderSaid : Prop := keysOrderRow.holds Try.pinned (OpenSpec.ofChange keysOrderSpec)

/-- ITS FALSE NEIGHBOUR: 'it returns false'. Refute it at one input. -/
def keysOrderWrong : ChangeSpec := { name := "keysOrder", fn := fun _ => fun
  | [d1, d2] => { results := [.lit (.bool false)], args := [d1, d2] }
  | _ => none }
def KeysOrderWrongFalsely : Prop := keysOrderRow.holds Try.pinned (OpenSpec.ofChange keysOrderWrong)

/-- 'musterlaw01.KeysDecodes': WHATEVER THE INPUT: true; the input reads as it did. -/
def keysDecodesSpec : ChangeSpec := { name := "keysDecodes", fn := fun _ => fun
  | [d] => { results := [.lit (.bool true)], args := [d] }
  | _ => none }
def keysDecodesRow : OpenClaim := { program := "ytjkljhcfbgcgoaa", sum := "a4273bbd0c749bbcf9469d4c722fa4d1bfaf99a0acdde09caddf8b97001c4fca", func := "muster/musterlaw01.KeysDecodes", spec := "keysDecodes", inPlace := ["internal/abi.NoEscape"], apart := false }
def KeysDecodesSaid : Prop := keysDecodesRow.holds Try.pinned (OpenSpec.ofChange keysDecodesSpec)

/-- ITS FALSE NEIGHBOUR: 'it returns false'. Refute it at one input. -/
def keysDecodesWrong : ChangeSpec := { name := "keysDecodes", fn := fun _ => fun
  | [d] => { results := [.lit (.bool false)], args := [d] }
  | _ => none }
def KeysDecodesWrongFalsely : Prop := keysDecodesRow.holds Try.pinned (OpenSpec.ofChange keysDecodesWrong)

/-- 'musterlaw01.KeysBack': WHATEVER THE INPUT: true; the input reads as it did. -/
def keysBackSpec : ChangeSpec := { name := "keysBack", fn := fun _ => fun
  | [d1, d2] => { results := [.lit (.bool true)], args := [d1, d2] }
  | _ => none }
def keysBackRow : OpenClaim := { program := "ytjkljhcfbgcgoaa", sum := "a4273bbd0c749bbcf9469d4c722fa4d1bfaf99a0acdde09caddf8b97001c4fca", func := "muster/musterlaw01.KeysBack", spec := "keysBack", inPlace := ["internal/abi.NoEscape"], apart := false }
def KeysBackSaid : Prop := keysBackRow.holds Try.pinned (OpenSpec.ofChange keysBackSpec)

/-- ITS FALSE NEIGHBOUR: 'it returns false'. Refute it at one input. -/
def keysBackWrong : ChangeSpec := { name := "keysBack", fn := fun _ => fun
  | [d1, d2] => { results := [.lit (.bool false)], args := [d1, d2] }
  | _ => none }
def KeysBackWrongFalsely : Prop := keysBackRow.holds Try.pinned (OpenSpec.ofChange keysBackWrong)

/-- 'musterlaw01.KeysApart': WHATEVER THE INPUT: true; the input reads as it did. -/
def keysApartSpec : ChangeSpec := { name := "keysApart", fn := fun _ => fun
  | [d] => { results := [.lit (.bool true)], args := [d] }
  | _ => none }
def keysApartRow : OpenClaim := { program := "ytjkljhcfbgcgoaa", sum := "a4273bbd0c749bbcf9469d4c722fa4d1bfaf99a0acdde09caddf8b97001c4fca", func := "muster/musterlaw01.KeysApart", spec := "keysApart", inPlace := ["internal/abi.NoEscape"], apart := false }
def KeysApartSaid : Prop := keysApartRow.holds Try.pinned (OpenSpec.ofChange keysApartSpec)

/-- ITS FALSE NEIGHBOUR: 'it returns false'. Refute it at one input. -/
def keysApartWrong : ChangeSpec := { name := "keysApart", fn := fun _ => fun
  | [d] => { results := [.lit (.bool false)], args := [d] }
  | _ => none }
def KeysApartWrongFalsely : Prop := keysApartRow.holds Try.pinned (OpenSpec.ofChange keysApartWrong)

/- THE SECOND FORM. 'bulk': how many values and letters a reading holds, each counted each time it is reached (what is shared counts as often as it is met; a slice's spare places count too). A statement '..UptoSaid' is the law's where the arguments, and the package variables that the reading takes, are together of bulk at most 1048576: NARROWER than '..Said'. Prove '..Said' where nothing that the law and all that it calls make is longer than what came in: it says more and counts as full. Else prove '..UptoSaid'. A law counts once. -/
mutual
def uptoBulk {H : Type} : DataW H → Nat
  | .lit (.string bytes) => bytes.length + 1
  | .lit _ => 1
  | .nil => 1
  | .ptr d => uptoBulk d + 1
  | .slice elems spare => uptoBulkAll elems + uptoBulkAll spare + 1
  | .agg parts => uptoBulkAll parts + 1
  | .iface _ d => uptoBulk d + 1
  | .map entries => uptoBulkEntries entries + 1
  | .held _ => 1
def uptoBulkAll {H : Type} : List (DataW H) → Nat
  | [] => 0
  | d :: r => uptoBulk d + uptoBulkAll r
def uptoBulkEntries {H : Type} : List (Lit × DataW H) → Nat
  | [] => 0
  | x :: r => uptoBulkEntry x + uptoBulkEntries r
def uptoBulkEntry {H : Type} : Lit × DataW H → Nat
  | (.string bytes, d) => bytes.length + uptoBulk d + 1
  | (_, d) => uptoBulk d + 1
 end
def uptoSmall : (H : Type) → List (DataW H) → Bool := fun _ ds => decide (uptoBulkAll ds ≤ 1048576)
def OpenSpec.upto (s : _root_.Go.ChangeSpec) : _root_.Go.OpenSpec := { _root_.Go.OpenSpec.ofChange s with cond := some uptoSmall }

/-- 'musterlaw01.KeysAfter', WHERE WHAT IT READS IS OF BULK AT MOST 1048576: true; the input reads as it did. -/
def keysAfterUptoRow : OpenClaim := { program := "ytjkljhcfbgcgoaa", sum := "a4273bbd0c749bbcf9469d4c722fa4d1bfaf99a0acdde09caddf8b97001c4fca", func := "muster/musterlaw01.KeysAfter", spec := "keysAfter", apart := false, narrowed := true }
def KeysAfterUptoSaid : Prop := keysAfterUptoRow.holds Try.pinned (OpenSpec.upto keysAfterSpec)

/-- 'musterlaw01.KeysNames', WHERE WHAT IT READS IS OF BULK AT MOST 1048576: true; the input reads as it did. -/
def keysNamesUptoRow : OpenClaim := { program := "ytjkljhcfbgcgoaa", sum := "a4273bbd0c749bbcf9469d4c722fa4d1bfaf99a0acdde09caddf8b97001c4fca", func := "muster/musterlaw01.KeysNames", spec := "keysNames", inPlace := ["internal/abi.NoEscape"], apart := false, narrowed := true }
def KeysNamesUptoSaid : Prop := keysNamesUptoRow.holds Try.pinned (OpenSpec.upto keysNamesSpec)

/-- 'musterlaw01.KeysEncodes', WHERE WHAT IT READS IS OF BULK AT MOST 1048576: true; the input reads as it did. -/
def keysEncodesUptoRow : OpenClaim := { program := "ytjkljhcfbgcgoaa", sum := "a4273bbd0c749bbcf9469d4c722fa4d1bfaf99a0acdde09caddf8b97001c4fca", func := "muster/musterlaw01.KeysEncodes", spec := "keysEncodes", inPlace := ["internal/abi.NoEscape"], apart := false, narrowed := true }
def KeysEncodesUptoSaid : Prop := keysEncodesUptoRow.holds Try.pinned (OpenSpec.upto keysEncodesSpec)

/-- 'musterlaw01.KeysBegins', WHERE WHAT IT READS IS OF BULK AT MOST 1048576: true; the input reads as it did. -/
def keysBeginsUptoRow : OpenClaim := { program := "ytjkljhcfbgcgoaa", sum := "a4273bbd0c749bbcf9469d4c722fa4d1bfaf99a0acdde09caddf8b97001c4fca", func := "muster/musterlaw01.KeysBegins", spec := "keysBegins", inPlace := ["internal/abi.NoEscape"], apart := false, narrowed := true }
def KeysBeginsUptoSaid : Prop := keysBeginsUptoRow.holds Try.pinned (OpenSpec.upto keysBeginsSpec)

/-- 'musterlaw01.KeysUnder', WHERE WHAT IT READS IS OF BULK AT MOST 1048576: true; the input reads as it did. -/
def keysUnderUptoRow : OpenClaim := { program := "ytjkljhcfbgcgoaa", sum := "a4273bbd0c749bbcf9469d4c722fa4d1bfaf99a0acdde09caddf8b97001c4fca", func := "muster/musterlaw01.KeysUnder", spec := "keysUnder", inPlace := ["internal/abi.NoEscape"], apart := false, narrowed := true }
def KeysUnderUptoSaid : Prop := keysUnderUptoRow.holds Try.pinned (OpenSpec.upto keysUnderSpec)

/-- 'musterlaw01.KeysCompares', WHERE WHAT IT READS IS OF BULK AT MOST 1048576: true; the input reads as it did. -/
def keysComparesUptoRow : OpenClaim := { program := "ytjkljhcfbgcgoaa", sum := "a4273bbd0c749bbcf9469d4c722fa4d1bfaf99a0acdde09caddf8b97001c4fca", func := "muster/musterlaw01.KeysCompares", spec := "keysCompares", inPlace := ["internal/abi.NoEscape"], apart := false, narrowed := true }
def KeysComparesUptoSaid : Prop := keysComparesUptoRow.holds Try.pinned (OpenSpec.upto keysComparesSpec)

/-- 'musterlaw01.KeysOrder', WHERE WHAT IT READS IS OF BULK AT MOST 1048576: true; the input reads as it did. -/
def keysOrderUptoRow : OpenClaim := { program := "ytjkljhcfbgcgoaa", sum := "a4273bbd0c749bbcf9469d4c722fa4d1bfaf99a0acdde09caddf8b97001c4fca", func := "muster/musterlaw01.KeysOrder", spec := "keysOrder", inPlace := ["internal/abi.NoEscape"], apart := false, narrowed := true }
def KeysOrderUptoSaid : Prop := keysOrderUptoRow.holds Try.pinned (OpenSpec.upto keysOrderSpec)

/-- 'musterlaw01.KeysDecodes', WHERE WHAT IT READS IS OF BULK AT MOST 1048576: true; the input reads as it did. -/
def keysDecodesUptoRow : OpenClaim := { program := "ytjkljhcfbgcgoaa", sum := "a4273bbd0c749bbcf9469d4c722fa4d1bfaf99a0acdde09caddf8b97001c4fca", func := "muster/musterlaw01.KeysDecodes", spec := "keysDecodes", inPlace := ["internal/abi.NoEscape"], apart := false, narrowed := true }
def KeysDecodesUptoSaid : Prop := keysDecodesUptoRow.holds Try.pinned (OpenSpec.upto keysDecodesSpec)

/-- 'musterlaw01.KeysBack', WHERE WHAT IT READS IS OF BULK AT MOST 1048576: true; the input reads as it did. -/
def keysBackUptoRow : OpenClaim := { program := "ytjkljhcfbgcgoaa", sum := "a4273bbd0c749bbcf9469d4c722fa4d1bfaf99a0acdde09caddf8b97001c4fca", func := "muster/musterlaw01.KeysBack", spec := "keysBack", inPlace := ["internal/abi.NoEscape"], apart := false, narrowed := true }
def KeysBackUptoSaid : Prop := keysBackUptoRow.holds Try.pinned (OpenSpec.upto keysBackSpec)

/-- 'musterlaw01.KeysApart', WHERE WHAT IT READS IS OF BULK AT MOST 1048576: true; the input reads as it did. -/
def keysApartUptoRow : OpenClaim := { program := "ytjkljhcfbgcgoaa", sum := "a4273bbd0c749bbcf9469d4c722fa4d1bfaf99a0acdde09caddf8b97001c4fca", func := "muster/musterlaw01.KeysApart", spec := "keysApart", inPlace := ["internal/abi.NoEscape"], apart := false, narrowed := true }
def KeysApartUptoSaid : Prop := keysApartUptoRow.holds Try.pinned (OpenSpec.upto keysApartSpec)

end Rows
end Go.Proofs.Ytjkljhcfbgcgoaa
