/- joined: V1 -/
import Derived.Test.YtjhgknagmiekeaaGreatJR5
import Derived.RangeFuncNested
import Derived.RangeFuncBound
import Derived.RangeFuncCalls
import Derived.RangeFuncLeaves
import Derived.Shelf.Abstract
import Derived.Shelf.RegionOpen
import Derived.WalkKit
import Derived.OwnWalkIn
import Derived.TacticsInMore
import Derived.LoopNIn
import Derived.LoopIn
set_option linter.unusedVariables false
set_option linter.unusedSimpArgs false
namespace Go.Proofs.YtjhgknagmiekeaaGreat.V
open Go.RowKit Go.Lib Go.Proofs Go.Proofs.YtjhgknagmiekeaaGreatW.PrintWords Go.Proofs.YtjhgknagmiekeaaGreat.T
structure KpM (n₁ : Nat) (M : Nat → Prop) (W W' : World) : Prop where
  size : W.heap.size ≤ W'.heap.size
  low : ∀ (k : Nat) (o : Obj), W.heap[k]? = some o → k < n₁ → ¬ M k → W'.heap[k]? = some o
  node : ∀ (k : Nat) (cs : Array Value) (fr : Nat × Nat), W.heap[k]? = some (Obj.cells cs 161 fr) → W'.heap[k]? = some (Obj.cells cs 161 fr)
theorem KpM.trans {n₁ : Nat} {M : Nat → Prop} {A B C : World} (h : KpM n₁ M A B) (k : KpM n₁ M B C) : KpM n₁ M A C :=
  ⟨Nat.le_trans h.size k.size, fun i o hi h1 h2 => k.low i o (h.low i o hi h1 h2) h1 h2, fun i cs fr hi => k.node i cs fr (h.node i cs fr hi)⟩
theorem KpM.of {n₁ : Nat} {M : Nat → Prop} {W W' : World} (h : Below W.heap.size W W') : KpM n₁ M W W' :=
  ⟨h.size, fun k o hk _ _ => (h.block k (Array.getElem?_eq_some_iff.1 hk).1).trans hk, fun k cs fr hk => (h.block k (Array.getElem?_eq_some_iff.1 hk).1).trans hk⟩
theorem KpM.putObj {n₁ : Nat} {M : Nat → Prop} (W : World) (l : Nat) (o o' : Obj) (hn : n₁ ≤ l) (hl : W.heap[l]? = some o) (hc : o.isCells = false) : KpM n₁ M W (W.putObj l o') := by
  have hg := grownBy_putObj' W l o'
  refine ⟨hg.size, fun k x hk h1 h2 => ?_, fun k cs fr hk => ?_⟩
  · exact (hg.block k (Array.getElem?_eq_some_iff.1 hk).1 (fun e => by cases e; omega)).trans hk
  · refine (hg.block k (Array.getElem?_eq_some_iff.1 hk).1 (fun e => ?_)).trans hk
    cases e
    rw [hk] at hl
    cases hl
    cases hc
def Stnd (wI : World) (n₁ : Nat) (M : Nat → Prop) (W : World) : Prop := ∀ (k : Nat) (o : Obj), wI.heap[k]? = some o → k < n₁ → ¬ M k → W.heap[k]? = some o
theorem Stnd.refl (wI : World) (n₁ : Nat) (M : Nat → Prop) : Stnd wI n₁ M wI := fun _ _ h _ _ => h
theorem Stnd.kp {wI : World} {n₁ : Nat} {M : Nat → Prop} {W W' : World} (h : Stnd wI n₁ M W) (k : KpM n₁ M W W') : Stnd wI n₁ M W' := fun i o h0 h1 h2 => k.low i o (h i o h0 h1 h2) h1 h2
theorem Stnd.kept {wB wI : World} {n₁ : Nat} {M : Nat → Prop} {W : World} (h : Stnd wI n₁ M W) (hk : Kept wB wI) (hn : wB.heap.size ≤ n₁) (hM : ∀ k, k < wB.heap.size → ¬ M k) : Kept wB W := fun k hlt => by
  have e : wB.heap[k]? = some wB.heap[k] := Array.getElem?_eq_getElem hlt
  rw [e]
  exact h k _ ((hk k hlt).trans e) (by omega) (hM k hlt)
def valI : Value → Int
  | .int _ v => v
  | _ => 0
def ownE (kp : ByteArray → Bool) (p : ByteArray) : Option Lf → List (ByteArray × Int)
  | some l => if kp p then [(p, valI l.val)] else []
  | none => []
mutual
/-- the entries at and beneath a node, rising; sk: which subtrees are left out; kp: which keys are given -/
def ovr (sk kp : ByteArray → Bool) (p : ByteArray) : Nd → List (ByteArray × Int)
  | .mk _ _ leaf kids _ => if sk p then [] else ownE kp p leaf ++ ovrs sk kp p kids
def ovrs (sk kp : ByteArray → Bool) (p : ByteArray) : List Nd → List (ByteArray × Int)
  | [] => []
  | k :: r => ovr sk kp (p ++ k.label) k ++ ovrs sk kp p r
end
theorem ovr_eq (sk kp : ByteArray → Bool) (p : ByteArray) (n : Nd) : ovr sk kp p n = if sk p then [] else ownE kp p n.leaf ++ ovrs sk kp p n.kids := by
  cases n with
  | mk b label leaf kids mark => rw [ovr]; rfl
theorem ovrs_snoc (sk kp : ByteArray → Bool) (p : ByteArray) (k : Nd) : ∀ ks : List Nd, ovrs sk kp p (ks ++ [k]) = ovrs sk kp p ks ++ ovr sk kp (p ++ k.label) k
  | [] => by simp [ovrs]
  | x :: r => by rw [List.cons_append, ovrs, ovrs, ovrs_snoc sk kp p k r, List.append_assoc]
theorem ovrs_take (sk kp : ByteArray → Bool) (p : ByteArray) (ks : List Nd) (i : Nat) (h : i < ks.length) : ovrs sk kp p (ks.take (i + 1)) = ovrs sk kp p (ks.take i) ++ ovr sk kp (p ++ ks[i].label) ks[i] := by
  have e : ks.take (i + 1) = ks.take i ++ [ks[i]] := by rw [List.take_add_one, List.getElem?_eq_getElem h]; rfl
  rw [e, ovrs_snoc]
theorem ovrs_pre (sk kp : ByteArray → Bool) (p : ByteArray) : ∀ (ks : List Nd) (i : Nat), ovrs sk kp p (ks.take i) <+: ovrs sk kp p ks
  | [], i => by simp
  | k :: r, 0 => by simp [ovrs]
  | k :: r, i + 1 => by
    rw [List.take_succ_cons, ovrs, ovrs]
    exact (List.prefix_append_right_inj _).2 (ovrs_pre sk kp p r i)
def Abd {β : Type} (J : β → World → Prop) : Prop := ∀ s W W', J s W → Below W.heap.size W W' → J s W'
theorem abide {β : Type} {J : β → World → Prop} (h : Abd J) {s : β} {W W' : World} (hs : J s W) (hb : Below W.heap.size W W') : J s W' := h s W W' hs hb
end Go.Proofs.YtjhgknagmiekeaaGreat.V
