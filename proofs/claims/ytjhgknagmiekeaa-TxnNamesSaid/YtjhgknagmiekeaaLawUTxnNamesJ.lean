import Derived.Test.YtjhgknagmiekeaaRows
import Derived.Test.YtjhgknagmiekeaaJN5
import Derived.WalkKit
import Derived.ProofKit
import Derived.OpenShut
import Derived.ShutString
import Derived.ChangeOld
import Derived.Below
import Derived.SizedLaws
/- TxnNames: the errors have their numbers: true, with no condition. -/
namespace Go.Proofs.Ytjhgknagmiekeaa.txnNames
open Go.ChangeShapes Go.WideShapes Go.ChangeAt Go.RowKit
set_option linter.unusedVariables false
theorem own : ownKnob Try.prog.godebug = none := by kernel_rfl
set_option maxRecDepth 100000 in
theorem lifted (os : Os) (started : os.Started) (H : Type) (enc : TypeId × Value → H) :
    ReturnsInHanded {} Try.checked os 19 .any (Rows.txnNamesSpec.pre6 enc Try.prog Try.f19 Rows.txnNamesRow.domain false) (Rows.txnNamesSpec.post enc Try.prog Try.f19 false true false false) := by
  refine returnsInHanded_of_change_sized (C := Try.checked) own started (by kernel_rfl) Try.func19
    (ChangeSpec.witness6 (enc := enc) (C := Try.checked) false ⟨#[], #[], []⟩ 8 (by kernel_rfl) (by kernel_rfl) (by kernel_rfl) (by kernel_rfl)) ?_
  intro W base args ds gs before hval0 hW hcnd hsz0 _
  have hW' := hW
  obtain ⟨p, q, hA0, hV, rfl, hfz, hnd⟩ := hW
  have hA : DataW.TrodAll enc Try.prog W 0 (fun _ => true) true Try.f19.params.toList args.toList ds p := hA0
  rw [Try.params19] at hA
  obtain ⟨rfl, rfl, rfl⟩ := trodAll_none hA
  obtain ⟨rfl, rfl⟩ := trodVars_none hV
  clear hA0 hval0 hsz0
  refine (G.txnNames W).mono fun e W' ⟨he, bel⟩ => ?_
  subst he
  exact ⟨_, rfl, _, _, _, [], _, [], hW', trodAll_mk1 (shut_bool Try.underlying4 _), trodAll_mk0, rfl, bel.frame _, fun h => by cases h⟩
theorem k1 : (Rows.txnNamesRow.inPlace == Try.pinned.checked.prog.inPlace 19) = true := by kernel_rfl
theorem k2 : (Rows.txnNamesRow.unfollowed == Try.pinned.checked.prog.unfollowed 19) = true := by kernel_rfl
theorem k3 : (Rows.txnNamesRow.recurses == Try.pinned.checked.prog.recurses 19) = true := by kernel_rfl
theorem k4 : (Rows.txnNamesRow.named == Try.pinned.checked.prog.varsNamed 19) = true := by kernel_rfl
theorem closed : joinedFacts Try.pinned.checked.prog 19 Try.f19 Rows.txnNamesSpec Rows.txnNamesRow = true := by
  unfold joinedFacts
  rw [k1, k2, k3, k4]
  kernel_rfl
theorem called : Try.pinned.checked.prog.funcNamed Rows.txnNamesRow.func = some 19 := by kernel_rfl
theorem plain : Try.f19.isInstance Try.pinned.checked.prog Rows.txnNamesRow.origin Rows.txnNamesRow.targs := of_decide_eq_true (by kernel_rfl)
theorem alone : Try.f19.isWrapper Try.pinned.checked.prog Rows.txnNamesRow.wrapper Rows.txnNamesRow.mainSum := by unfold Func.isWrapper; first | (rw [if_pos (by decide +kernel)]; kernel_rfl) | (rw [if_neg (by decide +kernel)]; exact ⟨rfl, rfl⟩)
theorem over : Rows.txnNamesRow.holds Try.pinned (OpenSpec.ofChange Rows.txnNamesSpec) :=
  OpenClaim.holds_of_wide 19 Try.f19 rfl rfl rfl rfl rfl rfl rfl ⟨rfl, rfl, rfl, rfl, rfl⟩ rfl rfl rfl rfl rfl called Try.func19 closed plain alone
    (fun os started H enc _ => lifted os started H enc)
theorem proved : Rows.TxnNamesSaid := over
#print axioms proved
end Go.Proofs.Ytjhgknagmiekeaa.txnNames
namespace Go.Proofs.Ytjhgknagmiekeaa
theorem txnNames_holds : Rows.TxnNamesSaid := txnNames.proved
end Go.Proofs.Ytjhgknagmiekeaa
