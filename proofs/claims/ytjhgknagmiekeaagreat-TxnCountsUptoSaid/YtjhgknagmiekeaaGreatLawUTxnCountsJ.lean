import Derived.Test.YtjhgknagmiekeaaGreatRows
import Derived.Test.YtjhgknagmiekeaaGreatJC7
import Derived.WalkKit
import Derived.ProofKit
import Derived.OpenShut
import Derived.Deep.Strs
import Derived.ShutString
import Derived.ChangeOld
import Derived.Below
import Derived.SizedLaws
import Derived.JoinedCond
import Derived.Deep.Grids
/- TxnCounts: the version counts the commits that touch a key: true for every list of keys and every list of yes and no, of bulk at most 1048576. -/
namespace Go.Proofs.YtjhgknagmiekeaaGreat.txnCountsU
open Go.ChangeShapes Go.WideShapes Go.ChangeAt Go.RowKit
open Go.ChangeMaps (open_string shut_string)
open Go.Deep (open_strs)
set_option linter.unusedVariables false
theorem own : ownKnob Tryz.prog.godebug = none := by kernel_rfl
theorem laidOut : laidOutB Tryz.prog = true := by kernel_rfl
theorem bulk_mem {H : Type} : ∀ (l : List (DataW H)) (d : DataW H), d ∈ l → Rows.uptoBulk d ≤ Rows.uptoBulkAll l
  | x :: l, d, h => by
    simp only [Rows.uptoBulkAll]
    rcases List.mem_cons.1 h with e | e
    · rw [e]; omega
    · have := bulk_mem l d e; omega
theorem bulk_len {H : Type} : ∀ (l : List (DataW H)), (∀ d ∈ l, 1 ≤ Rows.uptoBulk d) → l.length ≤ Rows.uptoBulkAll l
  | [], _ => Nat.zero_le _
  | x :: l, h => by
    simp only [Rows.uptoBulkAll, List.length_cons]
    have h1 := h x (by simp)
    have h2 := bulk_len l (fun d hd => h d (by simp [hd]))
    omega
theorem open_texts {H : Type} {enc : TypeId × Value → H} {W : World} {base : Nat} {spare : Nat → Bool} {held : Bool} {a : Option Addr} {len cap : Nat} {d : DataW H} {ps : List MemPlace}
    (h : DataW.Trod enc Tryz.prog W base spare held 22 (.slice a len cap) d ps) :
    ∃ l : List ByteArray, len = l.length ∧ T.Strs W a l ∧ l.length ≤ Rows.uptoBulk d ∧ ∀ k ∈ l, k.size ≤ Rows.uptoBulk d := by
  obtain ⟨fuel, hf⟩ := h
  rcases open_strs Tryz.underlying22 Tryz.underlying9 (by kernel_rfl) hf with ⟨hcs, hx⟩ | ⟨ad, len', cap', m, Sx, hcs, hb, hl, hm, hmm, hx, hc⟩
  · simp [Value.cells] at hcs
    obtain ⟨rfl, rfl, rfl⟩ := hcs
    exact ⟨[], rfl, fun i hi => by simp at hi, Nat.zero_le _, by simp⟩
  · simp [Value.cells] at hcs
    obtain ⟨rfl, rfl, rfl⟩ := hcs
    obtain ⟨hx, _⟩ := Prod.mk.inj hx
    subst hx
    have hlm : len ≤ m := by rw [hmm]; split; exact hl; exact Nat.le_refl _
    refine ⟨(List.range len).map Sx, by simp, fun i hi => ⟨ad, rfl, ?_⟩, ?_, ?_⟩
    · have hi' : i < len := by simpa using hi
      rw [(hc i (by omega)).1]
      simp
    · have h1 := bulk_len (H := H) ((List.range len).map fun i => .lit (.string (Sx i).data.toList)) (fun d hd => by obtain ⟨i, _, rfl⟩ := List.mem_map.1 hd; simp only [Rows.uptoBulk]; omega)
      simp only [Rows.uptoBulk]
      simp only [List.length_map, List.length_range] at h1 ⊢
      omega
    · intro k hk
      obtain ⟨i, hi, rfl⟩ := List.mem_map.1 hk
      have h1 := bulk_mem (H := H) ((List.range len).map fun i => .lit (.string (Sx i).data.toList)) (.lit (.string (Sx i).data.toList)) (List.mem_map.2 ⟨i, hi, rfl⟩)
      simp only [Rows.uptoBulk] at h1 ⊢
      have h2 : (Sx i).data.toList.length = (Sx i).size := T.L_len _
      omega
theorem open_boolRow {H : Type} {enc : TypeId × Value → H} {W : World} {base : Nat} {a : Option Addr} {len cap : Nat} {d : DataW H} {ps : List MemPlace}
    (h : DataW.Trod enc Tryz.prog W base (fun _ => true) true 23 (.slice a len cap) d ps) :
    ∃ l : List Bool, len = l.length ∧ G.BoolsAt W a l ∧ l.length ≤ Rows.uptoBulk d := by
  obtain ⟨fuel, hf⟩ := h
  rcases Go.Deep.open_bools Tryz.underlying23 Tryz.underlying4 (by kernel_rfl) hf with ⟨hcs, hx⟩ | ⟨ad, len', cap', B, hcs, hb, hl, hm, hx, hc⟩
  · simp [Value.cells] at hcs
    obtain ⟨rfl, rfl, rfl⟩ := hcs
    exact ⟨[], rfl, fun i hi => absurd hi (Nat.not_lt_zero _), Nat.zero_le _⟩
  · simp [Value.cells] at hcs
    obtain ⟨rfl, rfl, rfl⟩ := hcs
    obtain ⟨hx, _⟩ := Prod.mk.inj hx
    subst hx
    refine ⟨(List.range len).map B, by simp, fun i hi => ⟨ad, rfl, ?_⟩, ?_⟩
    · have hi' : i < len := by simpa using hi
      rw [hc i (by omega)]
      simp
    · unfold Go.Deep.boolRow
      have h1 := bulk_len (H := H) ((List.range len).map fun i => .lit (.bool (B i))) (fun d hd => by obtain ⟨i, _, rfl⟩ := List.mem_map.1 hd; simp only [Rows.uptoBulk]; omega)
      simp only [Rows.uptoBulk]
      simp only [List.length_map, List.length_range] at h1 ⊢
      omega
set_option maxRecDepth 100000 in
theorem contract (H : Type) (enc : TypeId × Value → H) (W : World) (base : Nat) (args : Array Value) (ds gs : List (DataW H)) (before : List MemPlace)
    (hval : ∀ (j : Nat) t v, Tryz.f3.params[j]? = some t → args[j]? = some v → Value.okWide Tryz.prog W .any base t v)
    (hW : DataW.Whole enc Tryz.prog Tryz.f3.params.toList Rows.txnCountsSpec.vars false W args.toList ds gs before) (hk : Rows.uptoSmall H (ds ++ gs) = true) :
    Calls Tryz.prog 3 args W fun e W' => ∃ v, e = .returned v ∧ Rows.txnCountsSpec.post enc Tryz.prog Tryz.f3 false true false false W args v W' := by
  have hW' := hW
  obtain ⟨p, q, hA0, hV, rfl, hfz, hnd⟩ := hW
  have hA : DataW.TrodAll enc Tryz.prog W 0 (fun _ => true) true Tryz.f3.params.toList args.toList ds p := hA0
  rw [Tryz.params3] at hA hval
  obtain ⟨v0, vs0, d0, ds0, p0, q0, hargs, rfl, rfl, h0, r0⟩ := trodAll_cons hA
  obtain ⟨v1, vs1, d1, ds1, p1, q1, rfl, rfl, rfl, h1, r1⟩ := trodAll_cons r0
  obtain ⟨rfl, rfl, rfl⟩ := trodAll_nil r1
  obtain rfl : args = #[v0, v1] := by cases args; simp_all
  obtain ⟨rfl, rfl⟩ := trodVars_none hV
  obtain ⟨A0, len0, c0, rfl⟩ := okWide_slice Tryz.underlying22 (hval 0 22 v0 rfl rfl)
  obtain ⟨A1, len1, c1, rfl⟩ := okWide_slice Tryz.underlying23 (hval 1 23 v1 rfl rfl)
  have k0 := h0
  have k1 := h1
  have lt0 : ∀ x ∈ p0, x.block < W.heap.size := by obtain ⟨m, hm⟩ := k0; exact DataW.trod_lt m _ _ _ hm
  have lt1 : ∀ x ∈ p1, x.block < W.heap.size := by obtain ⟨m, hm⟩ := k1; exact DataW.trod_lt m _ _ _ hm
  obtain ⟨l0, rfl, hr0, hb0, hm0⟩ := open_texts h0
  obtain ⟨l1, rfl, hr1, hb1⟩ := open_boolRow h1
  clear hA0
  simp only [List.append_nil] at hW' hk
  have hbk : Rows.uptoBulkAll (H := H) [d0, d1] ≤ 1048576 := of_decide_eq_true hk
  simp only [Rows.uptoBulkAll] at hbk
  refine (G.countsLaw A0 c0 l0 A1 c1 l1 W hr0 hr1 (by omega) (by omega) (fun e he => by have := hm0 e he; omega)).mono fun e W' ⟨he, bel⟩ => ?_
  subst he
  exact ⟨_, rfl, _, _, _, [], _, [], hW', trodAll_mk1 (shut_bool Tryz.underlying4 _), (trodAll_cons_mk (Below.trod laidOut (by kernel_rfl) (of_decide_eq_true (by kernel_rfl)) k0 bel lt0) (trodAll_cons_mk (Below.trod laidOut (by kernel_rfl) (of_decide_eq_true (by kernel_rfl)) k1 bel lt1) trodAll_mk0)), rfl, bel.frame _, fun h => by cases h⟩
set_option maxRecDepth 100000 in
theorem lifted (os : Os) (started : os.Started) (H : Type) (enc : TypeId × Value → H) (F : Stop.Interp) :
    ReturnsInHanded {} Tryz.checked os 3 .any ((Rows.OpenSpec.upto Rows.txnCountsSpec).pre6 enc Tryz.prog Tryz.f3 Rows.txnCountsUptoRow.domain false) (((Rows.OpenSpec.upto Rows.txnCountsSpec).at F).post enc Tryz.prog Tryz.f3 false true false false) := by
  refine returnsInHanded_of_cond (C := Tryz.checked) (s := Rows.OpenSpec.upto Rows.txnCountsSpec) (k := Rows.uptoSmall) rfl own started (by kernel_rfl) Tryz.func3
    (OpenSpec.witness (enc := enc) (C := Tryz.checked) (s := Rows.OpenSpec.upto Rows.txnCountsSpec) (k := Rows.uptoSmall) rfl false ⟨#[], #[.slice none 0 0, .slice none 0 0], []⟩ 8 (by kernel_rfl) (by kernel_rfl) (by kernel_rfl)
      (x := ([.nil, .nil], [], [])) (by kernel_rfl) rfl (by kernel_rfl)) ?_
  intro W base args ds gs before hval hW _ hk _
  exact contract H enc W base args ds gs before hval hW hk
theorem k1 : (Rows.txnCountsUptoRow.inPlace == Tryz.pinned.checked.prog.inPlace 3) = true := by kernel_rfl
theorem k2 : (Rows.txnCountsUptoRow.unfollowed == Tryz.pinned.checked.prog.unfollowed 3) = true := by kernel_rfl
theorem k3 : (Rows.txnCountsUptoRow.recurses == Tryz.pinned.checked.prog.recurses 3) = true := by kernel_rfl
theorem k4 : (Rows.txnCountsUptoRow.named == Tryz.pinned.checked.prog.varsNamed 3) = true := by kernel_rfl
theorem closed : joinedFacts Tryz.pinned.checked.prog 3 Tryz.f3 (Rows.OpenSpec.upto Rows.txnCountsSpec).bare Rows.txnCountsUptoRow = true := by
  unfold joinedFacts
  rw [k1, k2, k3, k4]
  kernel_rfl
theorem called : Tryz.pinned.checked.prog.funcNamed Rows.txnCountsUptoRow.func = some 3 := by kernel_rfl
theorem plain : Tryz.f3.isInstance Tryz.pinned.checked.prog Rows.txnCountsUptoRow.origin Rows.txnCountsUptoRow.targs := of_decide_eq_true (by kernel_rfl)
theorem alone : Tryz.f3.isWrapper Tryz.pinned.checked.prog Rows.txnCountsUptoRow.wrapper Rows.txnCountsUptoRow.mainSum := by unfold Func.isWrapper; first | (rw [if_pos (by decide +kernel)]; kernel_rfl) | (rw [if_neg (by decide +kernel)]; exact ⟨rfl, rfl⟩)
theorem proved : Rows.TxnCountsUptoSaid :=
  OpenClaim.holds_of_cond 3 Tryz.f3 rfl rfl rfl rfl rfl rfl rfl ⟨rfl, rfl, rfl, rfl, rfl⟩ rfl rfl rfl rfl rfl called Tryz.func3 closed plain alone
    (fun os started H enc _ F => lifted os started H enc F)
#print axioms proved
end Go.Proofs.YtjhgknagmiekeaaGreat.txnCountsU
namespace Go.Proofs.YtjhgknagmiekeaaGreat
theorem txnCountsUpto_holds : Rows.TxnCountsUptoSaid := txnCountsU.proved
end Go.Proofs.YtjhgknagmiekeaaGreat
