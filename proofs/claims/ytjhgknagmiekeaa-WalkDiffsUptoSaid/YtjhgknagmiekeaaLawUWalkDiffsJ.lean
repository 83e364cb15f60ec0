import Derived.Test.YtjhgknagmiekeaaRows
import Derived.Test.YtjhgknagmiekeaaJD21
import Derived.WalkKit
import Derived.ProofKit
import Derived.OpenShut
import Derived.ShutString
import Derived.ChangeOld
import Derived.Below
import Derived.SizedLaws
import Derived.JoinedCond
/- WalkDiffs: every Diff, for all lists of entries and beginnings of bulk at most 1048576. -/
namespace Go.Proofs.Ytjhgknagmiekeaa.walkDiffsU
open Go.ChangeShapes Go.WideShapes Go.ChangeAt Go.RowKit
open Go.ChangeMaps (open_string shut_string)
set_option linter.unusedVariables false
theorem own : ownKnob Try.prog.godebug = none := by kernel_rfl
theorem laidOut : laidOutB Try.prog = true := by kernel_rfl
set_option maxRecDepth 100000 in
theorem contract (H : Type) (enc : TypeId × Value → H) (W : World) (base : Nat) (args : Array Value) (ds gs : List (DataW H)) (before : List MemPlace)
    (hval : ∀ (j : Nat) t v, Try.f18.params[j]? = some t → args[j]? = some v → Value.okWide Try.prog W .any base t v)
    (hW : DataW.Whole enc Try.prog Try.f18.params.toList Rows.walkDiffsSpec.vars false W args.toList ds gs before) (hk : Rows.uptoSmall H (ds ++ gs) = true) :
    Calls Try.prog 18 args W fun e W' => ∃ v, e = .returned v ∧ Rows.walkDiffsSpec.post enc Try.prog Try.f18 false true false false W args v W' := by
  have hW' := hW
  obtain ⟨p, q, hA0, hV, rfl, hfz, hnd⟩ := hW
  have hA : DataW.TrodAll enc Try.prog W 0 (fun _ => true) true Try.f18.params.toList args.toList ds p := hA0
  rw [Try.params18] at hA hval
  obtain ⟨v0, vs0, d0, ds0, p0, q0, hargs, rfl, rfl, h0, r0⟩ := trodAll_cons hA
  obtain ⟨v1, vs1, d1, ds1, p1, q1, rfl, rfl, rfl, h1, r1⟩ := trodAll_cons r0
  obtain ⟨v2, vs2, d2, ds2, p2, q2, rfl, rfl, rfl, h2, r2⟩ := trodAll_cons r1
  obtain ⟨rfl, rfl, rfl⟩ := trodAll_nil r2
  obtain rfl : args = #[v0, v1, v2] := by cases args; simp_all
  obtain ⟨rfl, rfl⟩ := trodVars_none hV
  obtain ⟨A0, len0, c0, rfl⟩ := okWide_slice Try.underlying22 (hval 0 22 v0 rfl rfl)
  have k0 := h0
  have lt0 : ∀ x ∈ p0, x.block < W.heap.size := by obtain ⟨m, hm⟩ := k0; exact DataW.trod_lt m _ _ _ hm
  obtain ⟨l0, rfl, hc0, hr0, hd0⟩ := R.open_entries h0
  have hb0 := R.wt_of hd0
  have hl0 := R.wt_len l0
  obtain ⟨A1, len1, c1, rfl⟩ := okWide_slice Try.underlying22 (hval 1 22 v1 rfl rfl)
  have k1 := h1
  have lt1 : ∀ x ∈ p1, x.block < W.heap.size := by obtain ⟨m, hm⟩ := k1; exact DataW.trod_lt m _ _ _ hm
  obtain ⟨l1, rfl, hc1, hr1, hd1⟩ := R.open_entries h1
  have hb1 := R.wt_of hd1
  have hl1 := R.wt_len l1
  obtain ⟨a2, rfl, rfl, rfl, y2⟩ := open_string Try.underlying9 (hval 2 9 v2 rfl rfl) h2
  have hsz2 : a2.data.toList.length = a2.size := T.L_len _
  clear hA0
  simp only [List.append_nil] at hW' hk
  have hbk : Rows.uptoBulkAll (H := H) [d0, d1, .lit (.string a2.data.toList)] ≤ 1048576 := of_decide_eq_true hk
  simp only [Rows.uptoBulkAll, Rows.uptoBulk] at hbk
  refine (V.diffsLaw A0 A1 c0 c1 l0 l1 a2 W hr0 hc0 (by omega) (fun e he => by have := R.wt_mem l0 e he; omega) hr1 hc1 (by omega) (fun e he => by have := R.wt_mem l1 e he; omega)).mono fun e W' ⟨he, bel⟩ => ?_
  subst he
  exact ⟨_, rfl, _, _, _, [], _, [], hW', trodAll_mk1 (shut_bool Try.underlying4 _), (trodAll_cons_mk (Below.trod laidOut (by kernel_rfl) (of_decide_eq_true (by kernel_rfl)) k0 bel lt0) (trodAll_cons_mk (Below.trod laidOut (by kernel_rfl) (of_decide_eq_true (by kernel_rfl)) k1 bel lt1) (trodAll_cons_mk (shut_string Try.underlying9 y2) trodAll_mk0))), rfl, bel.frame _, fun h => by cases h⟩
set_option maxRecDepth 100000 in
theorem lifted (os : Os) (started : os.Started) (H : Type) (enc : TypeId × Value → H) (F : Stop.Interp) :
    ReturnsInHanded {} Try.checked os 18 .any ((Rows.OpenSpec.upto Rows.walkDiffsSpec).pre6 enc Try.prog Try.f18 Rows.walkDiffsUptoRow.domain false) (((Rows.OpenSpec.upto Rows.walkDiffsSpec).at F).post enc Try.prog Try.f18 false true false false) := by
  refine returnsInHanded_of_cond (C := Try.checked) (s := Rows.OpenSpec.upto Rows.walkDiffsSpec) (k := Rows.uptoSmall) rfl own started (by kernel_rfl) Try.func18
    (OpenSpec.witness (enc := enc) (C := Try.checked) (s := Rows.OpenSpec.upto Rows.walkDiffsSpec) (k := Rows.uptoSmall) rfl false ⟨#[], #[.slice none 0 0, .slice none 0 0, .string .empty], []⟩ 8 (by kernel_rfl) (by kernel_rfl) (by kernel_rfl)
      (x := ([.nil, .nil, .lit (.string [])], [], [])) (by kernel_rfl) rfl (by kernel_rfl)) ?_
  intro W base args ds gs before hval hW _ hk _
  exact contract H enc W base args ds gs before hval hW hk
theorem k1 : (Rows.walkDiffsUptoRow.inPlace == Try.pinned.checked.prog.inPlace 18) = true := by kernel_rfl
theorem k2 : (Rows.walkDiffsUptoRow.unfollowed == Try.pinned.checked.prog.unfollowed 18) = true := by kernel_rfl
theorem k3 : (Rows.walkDiffsUptoRow.recurses == Try.pinned.checked.prog.recurses 18) = true := by kernel_rfl
theorem k4 : (Rows.walkDiffsUptoRow.named == Try.pinned.checked.prog.varsNamed 18) = true := by kernel_rfl
theorem closed : joinedFacts Try.pinned.checked.prog 18 Try.f18 (Rows.OpenSpec.upto Rows.walkDiffsSpec).bare Rows.walkDiffsUptoRow = true := by
  unfold joinedFacts
  rw [k1, k2, k3, k4]
  kernel_rfl
theorem called : Try.pinned.checked.prog.funcNamed Rows.walkDiffsUptoRow.func = some 18 := by kernel_rfl
theorem plain : Try.f18.isInstance Try.pinned.checked.prog Rows.walkDiffsUptoRow.origin Rows.walkDiffsUptoRow.targs := of_decide_eq_true (by kernel_rfl)
theorem alone : Try.f18.isWrapper Try.pinned.checked.prog Rows.walkDiffsUptoRow.wrapper Rows.walkDiffsUptoRow.mainSum := by unfold Func.isWrapper; first | (rw [if_pos (by decide +kernel)]; kernel_rfl) | (rw [if_neg (by decide +kernel)]; exact ⟨rfl, rfl⟩)
theorem proved : Rows.WalkDiffsUptoSaid :=
  OpenClaim.holds_of_cond 18 Try.f18 rfl rfl rfl rfl rfl rfl rfl ⟨rfl, rfl, rfl, rfl, rfl⟩ rfl rfl rfl rfl rfl called Try.func18 closed plain alone
    (fun os started H enc _ F => lifted os started H enc F)
#print axioms proved
end Go.Proofs.Ytjhgknagmiekeaa.walkDiffsU
namespace Go.Proofs.Ytjhgknagmiekeaa
theorem walkDiffsUpto_holds : Rows.WalkDiffsUptoSaid := walkDiffsU.proved
end Go.Proofs.Ytjhgknagmiekeaa
