import Derived.Test.YtjhgknagmiekeaaRows
import Derived.Test.YtjhgknagmiekeaaJW5
import Derived.WalkKit
import Derived.ProofKit
import Derived.OpenShut
import Derived.Deep.Strs
import Derived.ShutString
import Derived.ChangeOld
import Derived.Below
import Derived.SizedLaws
import Derived.JoinedCond
import Derived.Lib.SmallJoins
/- RadixWakes: no change beneath p goes by unheard: true for every Wake of bulk at most 1048576. -/
namespace Go.Proofs.Ytjhgknagmiekeaa.radixWakesU
open Go.ChangeShapes Go.WideShapes Go.ChangeAt Go.RowKit
open Go.ChangeMaps (open_string shut_string)
open Go.Deep (open_strs)
set_option linter.unusedVariables false
theorem own : ownKnob Try.prog.godebug = none := by kernel_rfl
theorem laidOut : laidOutB Try.prog = true := by kernel_rfl
theorem bulk_mem {H : Type} : ∀ (l : List (DataW H)) (d : DataW H), d ∈ l → Rows.uptoBulk d ≤ Rows.uptoBulkAll l
  | x :: l, d, h => by
    simp only [Rows.uptoBulkAll]
    rcases List.mem_cons.1 h with e | e
    · rw [e]; omega
    · have := bulk_mem l d e; omega
theorem bulk_len {H : Type} : ∀ (l : List (DataW H)), (∀ d ∈ l, 1 ≤ Rows.uptoBulk d) → l.length ≤ Rows.uptoBulkAll l
  | [], _ => Nat.zero_le _
  | x :: l, h => by
    simp only [Rows.uptoBulkAll, List.length_cons]
    have h1 := h x (by simp)
    have h2 := bulk_len l (fun d hd => h d (by simp [hd]))
    omega
theorem open_texts {H : Type} {enc : TypeId × Value → H} {W : World} {base : Nat} {spare : Nat → Bool} {held : Bool} {a : Option Addr} {len cap : Nat} {d : DataW H} {ps : List MemPlace}
    (h : DataW.Trod enc Try.prog W base spare held 25 (.slice a len cap) d ps) :
    ∃ l : List ByteArray, len = l.length ∧ T.Strs W a l ∧ l.length ≤ Rows.uptoBulk d ∧ ∀ k ∈ l, k.size ≤ Rows.uptoBulk d := by
  obtain ⟨fuel, hf⟩ := h
  rcases open_strs Try.underlying25 Try.underlying9 (by kernel_rfl) hf with ⟨hcs, hx⟩ | ⟨ad, len', cap', m, Sx, hcs, hb, hl, hm, hmm, hx, hc⟩
  · simp [Value.cells] at hcs
    obtain ⟨rfl, rfl, rfl⟩ := hcs
    exact ⟨[], rfl, fun i hi => by simp at hi, Nat.zero_le _, by simp⟩
  · simp [Value.cells] at hcs
    obtain ⟨rfl, rfl, rfl⟩ := hcs
    obtain ⟨hx, _⟩ := Prod.mk.inj hx
    subst hx
    have hlm : len ≤ m := by rw [hmm]; split; exact hl; exact Nat.le_refl _
    refine ⟨(List.range len).map Sx, by simp, fun i hi => ⟨ad, rfl, ?_⟩, ?_, ?_⟩
    · have hi' : i < len := by simpa using hi
      rw [(hc i (by omega)).1]
      simp
    · have h1 := bulk_len (H := H) ((List.range len).map fun i => .lit (.string (Sx i).data.toList)) (fun d hd => by obtain ⟨i, _, rfl⟩ := List.mem_map.1 hd; simp only [Rows.uptoBulk]; omega)
      simp only [Rows.uptoBulk]
      simp only [List.length_map, List.length_range] at h1 ⊢
      omega
    · intro k hk
      obtain ⟨i, hi, rfl⟩ := List.mem_map.1 hk
      have h1 := bulk_mem (H := H) ((List.range len).map fun i => .lit (.string (Sx i).data.toList)) (.lit (.string (Sx i).data.toList)) (List.mem_map.2 ⟨i, hi, rfl⟩)
      simp only [Rows.uptoBulk] at h1 ⊢
      have h2 : (Sx i).data.toList.length = (Sx i).size := T.L_len _
      omega
theorem texts_of {H : Type} {enc : TypeId × Value → H} {W : World} {base : Nat} {spare : Nat → Bool} {held : Bool} {n : Nat} {c : Value} {y : DataW H × List MemPlace} (h : DataW.trod enc Try.prog W base spare held n 25 [c] = some y) :
    ∃ A cap, ∃ l : List ByteArray, c = .slice A l.length cap ∧ T.Strs W A l ∧ l.length ≤ Rows.uptoBulk y.1 ∧ ∀ k ∈ l, k.size ≤ Rows.uptoBulk y.1 := by
  obtain ⟨A, len, cap, e⟩ := Go.Joins.slice_form Try.underlying25 h
  obtain rfl := (List.cons.inj e).1
  obtain ⟨l, rfl, h1, h2, h3⟩ := open_texts (d := y.1) (ps := y.2) ⟨n, by simpa [Value.cells] using h⟩
  exact ⟨A, cap, l, rfl, h1, h2, h3⟩
theorem text_of {H : Type} {enc : TypeId × Value → H} {W : World} {base : Nat} {spare : Nat → Bool} {held : Bool} {n : Nat} {c : Value} {y : DataW H × List MemPlace} (h : DataW.trod enc Try.prog W base spare held n 9 [c] = some y) :
    ∃ s : ByteArray, c = .string s ∧ s.size ≤ Rows.uptoBulk y.1 := by
  obtain ⟨s, e, rfl, _⟩ := DataW.trod_string Try.underlying9 h
  refine ⟨s, (List.cons.inj e).1, ?_⟩
  simp only [Rows.uptoBulk]
  have h2 : s.data.toList.length = s.size := T.L_len _
  omega
theorem cells_five {cs : Array Value} (h : cs.size = 5) : ∃ c0 c1 c2 c3 c4, cs = #[c0, c1, c2, c3, c4] := by
  obtain ⟨l⟩ := cs
  match l, h with
  | [c0, c1, c2, c3, c4], _ => exact ⟨c0, c1, c2, c3, c4, rfl⟩
theorem five_of {H : Type} {xs : List (DataW H × List MemPlace)} (h : xs.length = 5) : ∃ y0 y1 y2 y3 y4, xs = [y0, y1, y2, y3, y4] := by
  match xs, h with
  | [y0, y1, y2, y3, y4], _ => exact ⟨y0, y1, y2, y3, y4, rfl⟩
set_option maxRecDepth 100000 in
theorem open_wake {H : Type} {enc : TypeId × Value → H} {W : World} {r : Reach} {b0 base : Nat} {spare : Nat → Bool} {held : Bool} {v : Value} {d : DataW H} {ps : List MemPlace} (hv : Value.okWide Try.prog W r b0 89 v) (h : DataW.Trod enc Try.prog W base spare held 89 v d ps) :
    ∃ (A B : Option Addr) (cA cB : Nat) (ks os : List ByteArray) (p m k : ByteArray), v = .agg #[.slice A ks.length cA, .slice B os.length cB, .string p, .string m, .string k] ∧ T.Strs W A ks ∧ T.Strs W B os ∧ ks.length ≤ Rows.uptoBulk d ∧ os.length ≤ Rows.uptoBulk d ∧
      (∀ x ∈ ks, x.size ≤ Rows.uptoBulk d) ∧ (∀ x ∈ os, x.size ≤ Rows.uptoBulk d) ∧ p.size ≤ Rows.uptoBulk d ∧ m.size ≤ Rows.uptoBulk d ∧ k.size ≤ Rows.uptoBulk d := by
  obtain ⟨cs, rfl, hsz⟩ := okWide_struct Try.underlying89 hv
  have h5 : Try.prog.cellsOf 89 = 5 := by kernel_rfl
  have h25 : Try.prog.cellsOf 25 = 1 := by kernel_rfl
  have h9 : Try.prog.cellsOf 9 = 1 := by kernel_rfl
  obtain ⟨c0, c1, c2, c3, c4, rfl⟩ := cells_five (hsz.trans h5)
  obtain ⟨fuel, hf⟩ := h
  obtain ⟨xs, n, _, hx, hl, hlen, hf⟩ := DataW.trod_struct Try.underlying89 hf
  obtain ⟨y0, y1, y2, y3, y4, rfl⟩ := five_of hlen
  have t0 : DataW.trod enc Try.prog W base spare held n 25 [c0] = some y0 := by simpa [Value.cells, h25] using hf 0 _ rfl
  have t1 : DataW.trod enc Try.prog W base spare held n 25 [c1] = some y1 := by simpa [Value.cells, h25] using hf 1 _ rfl
  have t2 : DataW.trod enc Try.prog W base spare held n 9 [c2] = some y2 := by simpa [Value.cells, h9] using hf 2 _ rfl
  have t3 : DataW.trod enc Try.prog W base spare held n 9 [c3] = some y3 := by simpa [Value.cells, h9] using hf 3 _ rfl
  have t4 : DataW.trod enc Try.prog W base spare held n 9 [c4] = some y4 := by simpa [Value.cells, h9] using hf 4 _ rfl
  have hd : d = .agg [y0.1, y1.1, y2.1, y3.1, y4.1] := by simpa using congrArg Prod.fst hx
  have hb : ∀ z ∈ [y0.1, y1.1, y2.1, y3.1, y4.1], Rows.uptoBulk z ≤ Rows.uptoBulk d := fun z hz => by
    have := bulk_mem _ z hz
    rw [hd]
    simp only [Rows.uptoBulk]
    omega
  obtain ⟨A, cA, ks, rfl, a1, a2, a3⟩ := texts_of t0
  obtain ⟨B, cB, os, rfl, b1, b2, b3⟩ := texts_of t1
  obtain ⟨p, rfl, p1⟩ := text_of t2
  obtain ⟨m, rfl, m1⟩ := text_of t3
  obtain ⟨k, rfl, k1⟩ := text_of t4
  have e0 := hb y0.1 (by simp)
  have e1 := hb y1.1 (by simp)
  have e2 := hb y2.1 (by simp)
  have e3 := hb y3.1 (by simp)
  have e4 := hb y4.1 (by simp)
  exact ⟨A, B, cA, cB, ks, os, p, m, k, rfl, a1, b1, by omega, by omega, fun x hx => by have := a3 x hx; omega, fun x hx => by have := b3 x hx; omega, by omega, by omega, by omega⟩
set_option maxRecDepth 100000 in
theorem contract (H : Type) (enc : TypeId × Value → H) (W : World) (base : Nat) (args : Array Value) (ds gs : List (DataW H)) (before : List MemPlace)
    (hval : ∀ (j : Nat) t v, Try.f16.params[j]? = some t → args[j]? = some v → Value.okWide Try.prog W .any base t v)
    (hW : DataW.Whole enc Try.prog Try.f16.params.toList Rows.radixWakesSpec.vars false W args.toList ds gs before) (hk : Rows.uptoSmall H (ds ++ gs) = true) :
    Calls Try.prog 16 args W fun e W' => ∃ v, e = .returned v ∧ Rows.radixWakesSpec.post enc Try.prog Try.f16 false true false false W args v W' := by
  have hW' := hW
  obtain ⟨p, q, hA0, hV, rfl, hfz, hnd⟩ := hW
  have hA : DataW.TrodAll enc Try.prog W 0 (fun _ => true) true Try.f16.params.toList args.toList ds p := hA0
  rw [Try.params16] at hA hval
  obtain ⟨v0, vs0, d0, ds0, p0, q0, hargs, rfl, rfl, h0, r0⟩ := trodAll_cons hA
  obtain ⟨rfl, rfl, rfl⟩ := trodAll_nil r0
  obtain rfl : args = #[v0] := by cases args; simp_all
  obtain ⟨rfl, rfl⟩ := trodVars_none hV
  have k0 := h0
  have lt0 : ∀ x ∈ p0, x.block < W.heap.size := by obtain ⟨m, hm⟩ := k0; exact DataW.trod_lt m _ _ _ hm
  obtain ⟨A, B, cA, cB, ks, os, p, m, k, rfl, a1, b1, a2, b2, a3, b3, p1, m1, k1⟩ := open_wake (hval 0 89 v0 rfl rfl) h0
  clear hA0
  simp only [List.append_nil] at hW' hk
  have hbk : Rows.uptoBulkAll (H := H) [d0] ≤ 1048576 := of_decide_eq_true hk
  simp only [Rows.uptoBulkAll] at hbk
  refine (G.wakesLaw W A B cA cB ks os p m k a1 b1 (by omega) (by omega) (fun x hx => by have := a3 x hx; omega) (fun x hx => by have := b3 x hx; omega) (by omega) (by omega) (by omega)).mono fun e W' ⟨he, bel⟩ => ?_
  subst he
  exact ⟨_, rfl, _, _, _, [], _, [], hW', trodAll_mk1 (shut_bool Try.underlying4 _), (trodAll_cons_mk (Below.trod laidOut (by kernel_rfl) (of_decide_eq_true (by kernel_rfl)) k0 bel lt0) trodAll_mk0), rfl, bel.frame _, fun h => by cases h⟩
set_option maxRecDepth 100000 in
theorem lifted (os : Os) (started : os.Started) (H : Type) (enc : TypeId × Value → H) (F : Stop.Interp) :
    ReturnsInHanded {} Try.checked os 16 .any ((Rows.OpenSpec.upto Rows.radixWakesSpec).pre6 enc Try.prog Try.f16 Rows.radixWakesUptoRow.domain false) (((Rows.OpenSpec.upto Rows.radixWakesSpec).at F).post enc Try.prog Try.f16 false true false false) := by
  refine returnsInHanded_of_cond (C := Try.checked) (s := Rows.OpenSpec.upto Rows.radixWakesSpec) (k := Rows.uptoSmall) rfl own started (by kernel_rfl) Try.func16
    (OpenSpec.witness (enc := enc) (C := Try.checked) (s := Rows.OpenSpec.upto Rows.radixWakesSpec) (k := Rows.uptoSmall) rfl false ⟨#[], #[.agg #[.slice none 0 0, .slice none 0 0, .string .empty, .string .empty, .string .empty]], []⟩ 8 (by kernel_rfl) (by kernel_rfl) (by kernel_rfl)
      (x := ([.agg [.nil, .nil, .lit (.string []), .lit (.string []), .lit (.string [])]], [], [])) (by kernel_rfl) rfl (by kernel_rfl)) ?_
  intro W base args ds gs before hval hW _ hk _
  exact contract H enc W base args ds gs before hval hW hk
theorem k1 : (Rows.radixWakesUptoRow.inPlace == Try.pinned.checked.prog.inPlace 16) = true := by kernel_rfl
theorem k2 : (Rows.radixWakesUptoRow.unfollowed == Try.pinned.checked.prog.unfollowed 16) = true := by kernel_rfl
theorem k3 : (Rows.radixWakesUptoRow.recurses == Try.pinned.checked.prog.recurses 16) = true := by kernel_rfl
theorem k4 : (Rows.radixWakesUptoRow.named == Try.pinned.checked.prog.varsNamed 16) = true := by kernel_rfl
theorem closed : joinedFacts Try.pinned.checked.prog 16 Try.f16 (Rows.OpenSpec.upto Rows.radixWakesSpec).bare Rows.radixWakesUptoRow = true := by
  unfold joinedFacts
  rw [k1, k2, k3, k4]
  kernel_rfl
theorem called : Try.pinned.checked.prog.funcNamed Rows.radixWakesUptoRow.func = some 16 := by kernel_rfl
theorem plain : Try.f16.isInstance Try.pinned.checked.prog Rows.radixWakesUptoRow.origin Rows.radixWakesUptoRow.targs := of_decide_eq_true (by kernel_rfl)
theorem alone : Try.f16.isWrapper Try.pinned.checked.prog Rows.radixWakesUptoRow.wrapper Rows.radixWakesUptoRow.mainSum := by unfold Func.isWrapper; first | (rw [if_pos (by decide +kernel)]; kernel_rfl) | (rw [if_neg (by decide +kernel)]; exact ⟨rfl, rfl⟩)
theorem proved : Rows.RadixWakesUptoSaid :=
  OpenClaim.holds_of_cond 16 Try.f16 rfl rfl rfl rfl rfl rfl rfl ⟨rfl, rfl, rfl, rfl, rfl⟩ rfl rfl rfl rfl rfl called Try.func16 closed plain alone
    (fun os started H enc _ F => lifted os started H enc F)
#print axioms proved
end Go.Proofs.Ytjhgknagmiekeaa.radixWakesU
namespace Go.Proofs.Ytjhgknagmiekeaa
theorem radixWakesUpto_holds : Rows.RadixWakesUptoSaid := radixWakesU.proved
end Go.Proofs.Ytjhgknagmiekeaa
