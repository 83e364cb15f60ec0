/- joined: N2 N3 V1 N4 K27t K27f K27 N5 -/
import Derived.Test.YtjhgknagmiekeaaJX7
import Derived.Test.YtjhgknagmiekeaaJX8
import Derived.Test.YtjhgknagmiekeaaJX9
import Derived.Test.YtjhgknagmiekeaaJX5
import Derived.RangeFuncNested
import Derived.RangeFuncBound
import Derived.RangeFuncCalls
import Derived.RangeFuncLeaves
import Derived.Shelf.Abstract
import Derived.Shelf.RegionOpen
import Derived.WalkKit
import Derived.OwnWalkIn
import Derived.TacticsInMore
import Derived.LoopNIn
import Derived.LoopIn
set_option linter.unusedVariables false
set_option linter.unusedSimpArgs false
namespace Go.Proofs.Ytjhgknagmiekeaa.N
open Go.RowKit Go.Proofs.Ytjhgknagmiekeaa.K Go.Proofs.YtjhgknagmiekeaaW.PrintWords Go.Proofs.YtjhgknagmiekeaaW.PrintLast
abbrev Sml (l : List ByteArray) : Prop := ∀ k ∈ l, k.size < 4611686018427387904
theorem rdOf_gd (l : List ByteArray) (j : Nat) : rdOf ByteArray.empty l (j : Int) = gd l j := by
  simp only [rdOf, gd, Int.toNat_natCast]
  rfl
theorem gd_mem {l : List ByteArray} {j : Nat} (h : j < l.length) : gd l j ∈ l := by rw [gd_get h]; exact List.getElem_mem _
theorem wsub (n : Nat) (h : 0 < n) (hh : n < 4611686018427387904) : wrap64 ((n : Int) - 1) = ((n - 1 : Nat) : Int) := by unfold wrap64; omega
theorem wadd (n : Nat) (hh : n < 4611686018427387904) : wrap64 ((n : Int) + 1) = ((n + 1 : Nat) : Int) := by unfold wrap64; omega
theorem ev_uniq {α : Type} {g : Nat → Option α} {v y : α} {k : Nat} (hg : ∀ k, LeO (g k) (g (k + 1))) (h : Ev g v) (e : g k = some y) : y = v := by
  obtain ⟨k1, hk1⟩ := h
  have h9 := hk1 (max k k1) (Nat.le_max_right _ _)
  rw [at_rounds hg (Nat.le_max_left k k1) e] at h9
  exact Option.some.inj h9
theorem shift_ev (l : List ByteArray) (a : ByteArray) (n : Nat) (hn : n ≤ l.length) (hlen : l.length < 4611686018427387904) : ∀ (d i : Nat) (y : ByteArray), i - n = d → n ≤ i → i ≤ l.length →
    Ev (fun k => musterref03_with.l0 k (l.take i ++ y :: l.drop i) a (n : Int) (i : Int)) (l.take n ++ a :: l.drop n) := by
  intro d
  induction d with
  | zero =>
    intro i y hd h1 h2
    have e : i = n := by omega
    subst e
    refine Ev.step (f := fun k => some (l.take i ++ a :: l.drop i)) (fun k => ?_) (Ev.now _)
    simp only [musterref03_with.l0]
    have hl : (l.take i ++ y :: l.drop i).length = l.length + 1 := by simp; omega
    rw [if_neg (by omega), if_pos (by omega), if_pos (by rw [hl]; omega)]
    congr 1
    rw [Int.toNat_natCast, List.set_append_right _ _ (by rw [List.length_take]; omega)]
    rw [List.length_take, Nat.min_eq_left h2, Nat.sub_self, List.set_cons_zero]
  | succ d ih =>
    intro i y hd h1 h2
    obtain ⟨j, rfl⟩ : ∃ j, i = j + 1 := ⟨i - 1, by omega⟩
    have hl : (l.take (j + 1) ++ y :: l.drop (j + 1)).length = l.length + 1 := by simp; omega
    refine Ev.step (f := fun k => musterref03_with.l0 k (l.take j ++ l[j]'(by omega) :: l.drop j) a (n : Int) (j : Int)) (fun k => ?_) (ih j _ (by omega) (by omega) (by omega))
    have e := wsub (j + 1) (by omega) (by omega)
    have e2 : rdOf ByteArray.empty (l.take (j + 1) ++ y :: l.drop (j + 1)) ((j + 1 - 1 : Nat) : Int) = l[j]'(by omega) := by
      rw [rdOf_gd, gd_get (by rw [hl]; omega), List.getElem_append_left (by rw [List.length_take]; omega), List.getElem_take]
      rfl
    have e3 : (l.take (j + 1) ++ y :: l.drop (j + 1)).set (j + 1) (l[j]'(by omega)) = l.take j ++ l[j]'(by omega) :: l.drop j := by
      rw [List.set_append_right _ _ (by rw [List.length_take]; omega), List.length_take, Nat.min_eq_left h2, Nat.sub_self, List.set_cons_zero, List.take_add_one, List.getElem?_eq_getElem (show j < l.length by omega), List.append_assoc]
      congr 1
      rw [List.drop_eq_getElem_cons (show j < l.length by omega)]
      rfl
    simp only [musterref03_with.l0]
    rw [if_pos (by omega), e, if_pos (by omega), if_pos (by rw [hl]; omega), if_pos (by omega), if_pos (by rw [hl]; omega), e2, Int.toNat_natCast, e3]
    rfl
def putIn (l : List ByteArray) (n : Nat) (b : Bool) (a : ByteArray) : List ByteArray := if b = true then l else l.take n ++ a :: l.drop n
theorem putIn_len (l : List ByteArray) (n : Nat) (b : Bool) (a : ByteArray) (h : n ≤ l.length) : (putIn l n b a).length ≤ l.length + 1 := by
  unfold putIn
  split
  · omega
  · simp; omega
theorem mem_putIn {l : List ByteArray} {n : Nat} {b : Bool} {a : ByteArray} (h : n ≤ l.length) (hb : b = true → a ∈ l) (x : ByteArray) : x ∈ putIn l n b a ↔ x ∈ l ∨ x = a := by
  unfold putIn
  split
  · rename_i e
    exact ⟨.inl, fun h => h.elim id (fun h => h ▸ hb e)⟩
  · rw [List.mem_append, List.mem_cons]
    constructor
    · rintro (h | h | h)
      · exact .inl (List.mem_of_mem_take h)
      · exact .inr h
      · exact .inl (List.mem_of_mem_drop h)
    · rintro (h | h)
      · rw [← List.take_append_drop n l, List.mem_append] at h
        exact h.elim .inl (fun h => .inr (.inr h))
      · exact .inr (.inl h)
theorem with_ex (l : List ByteArray) (a : ByteArray) (hlen : l.length < 8796093022208) (hs : Sml l) : ∃ (n : Nat) (b : Bool), n ≤ l.length ∧ Ev (fun k => musterref03_with.f k l a) (putIn l n b a) ∧ (b = true → a ∈ l) ∧ (Rise l → Cut l a n n ∧ (b = true ↔ a ∈ l)) := by
  obtain ⟨n, b, h1, h2, h3, h4⟩ := find_ex l a (by omega) hs
  refine ⟨n, b, h1, ?_, fun e => by have := h3 e; rw [← this.2]; exact gd_mem this.1, h4⟩
  refine Ev.congr (f := fun k => (musterref03_Find.f k l a).bind fun bt114 => if bt114.2 = true then some l else if l.length < 8796093022208 then ((some (l ++ [(⟨#[]⟩ : ByteArray)] : List ByteArray)).bind fun y116 => musterref03_with.l0 k y116 a bt114.1 (wrap64 ((y116.length : Int) - 1))) else none) (fun k => rfl) (Ev.bind h2 ?_)
  unfold putIn
  cases b with
  | true => exact Ev.now _
  | false =>
    have := shift_ev l a n h1 (by omega) (l.length - n) l.length ⟨#[]⟩ rfl h1 (Nat.le_refl _)
    rw [List.take_length, List.drop_length] at this
    refine Ev.congr (fun k => ?_) this
    simp only [if_neg (show ¬ false = true by simp), if_pos hlen, Option.bind_some]
    rw [List.length_append, List.length_singleton, show wrap64 (((l.length + 1 : Nat) : Int) - 1) = (l.length : Int) from by unfold wrap64; omega]
theorem common_ex (a b : ByteArray) (ha : a.size < 4611686018427387904) : ∃ m : Nat, m ≤ a.size ∧ m ≤ b.size ∧ Ev (fun k => musterref03_Common.f k a b) (a.extract 0 m) ∧ (∀ j, j < m → bt a j = bt b j) ∧ (m < a.size → m < b.size → bt a m ≠ bt b m) := by
  have key : ∀ d i : Nat, a.size - i = d → i ≤ a.size → i ≤ b.size → (∀ j : Nat, j < i → bt a j = bt b j) → ∃ m : Nat, m ≤ a.size ∧ m ≤ b.size ∧ Ev (fun k => musterref03_Common.l0 k a b (i : Int)) (a.extract 0 m) ∧ (∀ j : Nat, j < m → bt a j = bt b j) ∧ (m < a.size → m < b.size → bt a m ≠ bt b m) := by
    intro d
    induction d with
    | zero =>
      intro i hd h1 h2 h3
      refine ⟨i, h1, h2, ?_, h3, fun h => by omega⟩
      refine Ev.step (f := fun k => some (a.extract 0 i)) (fun k => ?_) (Ev.now _)
      simp only [musterref03_Common.l0]
      rw [if_neg (by omega), if_pos (by omega), if_pos (by omega), Int.toNat_natCast]
    | succ d ih =>
      intro i hd h1 h2 h3
      by_cases hb : i < b.size
      · by_cases he : bt a i = bt b i
        · obtain ⟨m, q1, q2, q3, q4, q5⟩ := ih (i + 1) (by omega) (by omega) (by omega) (fun j hj => by
            rcases Nat.lt_or_ge j i with h | h
            · exact h3 j h
            · have : j = i := by omega
              rw [this]; exact he)
          refine ⟨m, q1, q2, Ev.step (fun k => ?_) q3, q4, q5⟩
          simp only [musterref03_Common.l0]
          rw [if_pos (by omega), if_pos (by omega), if_pos (by omega), if_pos he, wadd i (by omega)]
        · refine ⟨i, h1, h2, ?_, h3, fun _ _ => he⟩
          refine Ev.step (f := fun k => some (a.extract 0 i)) (fun k => ?_) (Ev.now _)
          simp only [musterref03_Common.l0]
          rw [if_pos (by omega), if_pos (by omega), if_pos (by omega), if_neg he, if_pos (by omega), Int.toNat_natCast]
      · refine ⟨i, h1, h2, ?_, h3, fun _ h => absurd h hb⟩
        refine Ev.step (f := fun k => some (a.extract 0 i)) (fun k => ?_) (Ev.now _)
        simp only [musterref03_Common.l0]
        rw [if_pos (by omega), if_neg (by omega), if_pos (by omega), if_pos (by omega), Int.toNat_natCast]
  exact key a.size 0 (by omega) (by omega) (by omega) (fun j h => by omega)
theorem ext_size (a : ByteArray) (m : Nat) (h : m ≤ a.size) : (a.extract 0 m).size = m := by rw [ByteArray.size_extract]; omega
end Go.Proofs.Ytjhgknagmiekeaa.N
set_option linter.unusedVariables false
set_option linter.unusedSimpArgs false
namespace Go.Proofs.Ytjhgknagmiekeaa.N
open Go.RowKit Go.Proofs.Ytjhgknagmiekeaa.K Go.Proofs.YtjhgknagmiekeaaW.PrintWords Go.Proofs.YtjhgknagmiekeaaW.PrintLast
structure Rt where
  ks : List ByteArray
  vs : List Int
  ls : List Int
  ps : List ByteArray
  ms : List Int
structure Rok (t : Rt) : Prop where
  v : t.vs.length = t.ks.length
  l : t.ls.length = t.ks.length
  m : t.ps.length = t.ms.length
  p : t.ps.length ≤ 1 + 2 * t.ks.length
  sk : Sml t.ks
  sp : Sml t.ps
  rise : Rise t.ks
def putAt {α : Type} (l : List α) (n : Nat) (b : Bool) (a : α) : List α := l.take n ++ a :: l.drop (if b = true then n + 1 else n)
theorem putAt_len {α : Type} (l : List α) (n : Nat) (b : Bool) (a : α) (h : n ≤ l.length) (hb : b = true → n < l.length) : (putAt l n b a).length = if b = true then l.length else l.length + 1 := by
  unfold putAt
  cases b with
  | true => have := hb rfl; simp; omega
  | false => simp; omega
theorem mem_putAt {α : Type} {l : List α} {n : Nat} {b : Bool} {a x : α} (h : x ∈ putAt l n b a) : x ∈ l ∨ x = a := by
  unfold putAt at h
  rw [List.mem_append, List.mem_cons] at h
  rcases h with h | h | h
  · exact .inl (List.mem_of_mem_take h)
  · exact .inr h
  · exact .inl (List.mem_of_mem_drop h)
theorem zip_putAt {α β : Type} (l : List α) (r : List β) (n : Nat) (b : Bool) (a : α) (c : β) (h : l.length = r.length) (hn : n ≤ l.length) : (putAt l n b a).zip (putAt r n b c) = putAt (l.zip r) n b (a, c) := by
  unfold putAt
  rw [List.zip_append (by rw [List.length_take, List.length_take]; omega), List.zip_cons_cons]
  congr 1
  · exact List.take_zipWith.symm
  · rw [List.zip, List.drop_zipWith]
theorem cut_after {keys : List ByteArray} {a : ByteArray} {n : Nat} {b : Bool} (hr : Rise keys) (hc : Cut keys a n n) (hb : b = true → n < keys.length ∧ gd keys n = a) (hb2 : b = true ↔ a ∈ keys) (j : Nat) (h1 : (if b = true then n + 1 else n) ≤ j) (h2 : j < keys.length) : T.L a < T.L (gd keys j) := by
  cases b with
  | true =>
    obtain ⟨h3, h4⟩ := hb rfl
    rw [← h4]
    have h1' : n + 1 ≤ j := by simpa using h1
    exact hr.lt (by omega) h2
  | false =>
    have h1' : n ≤ j := by simpa using h1
    rcases T.blt_total (T.L a) (T.L (gd keys j)) with h | h | h
    · exact h
    · exfalso
      have := T.L_inj h
      have h5 : a ∈ keys := by rw [this]; exact gd_mem h2
      exact absurd (hb2.2 h5) (by simp)
    · exact absurd h (hc.2 j h1' h2)
theorem mem_take_gd {l : List ByteArray} {n : Nat} {x : ByteArray} (h : x ∈ l.take n) : ∃ j, j < n ∧ j < l.length ∧ gd l j = x := by
  obtain ⟨j, hj, e⟩ := List.getElem_of_mem h
  rw [List.length_take] at hj
  refine ⟨j, by omega, by omega, ?_⟩
  rw [gd_get (by omega), ← e, List.getElem_take]
theorem mem_drop_gd {l : List ByteArray} {n : Nat} {x : ByteArray} (h : x ∈ l.drop n) : ∃ j, n ≤ j ∧ j < l.length ∧ gd l j = x := by
  obtain ⟨j, hj, e⟩ := List.getElem_of_mem h
  rw [List.length_drop] at hj
  refine ⟨n + j, by omega, by omega, ?_⟩
  rw [gd_get (by omega), ← e, List.getElem_drop]
theorem rise_put {keys : List ByteArray} {a : ByteArray} {n : Nat} {b : Bool} (hr : Rise keys) (hc : Cut keys a n n) (hb : b = true → n < keys.length ∧ gd keys n = a) (hb2 : b = true ↔ a ∈ keys) : Rise (putAt keys n b a) := by
  unfold Rise putAt
  have h1 : ∀ x ∈ keys.take n, T.L x < T.L a := fun x hx => by
    obtain ⟨j, h1, -, rfl⟩ := mem_take_gd hx
    exact hc.1 j h1
  have h2 : ∀ x ∈ keys.drop (if b = true then n + 1 else n), T.L a < T.L x := fun x hx => by
    obtain ⟨j, h1, h3, rfl⟩ := mem_drop_gd hx
    exact cut_after hr hc hb hb2 j h1 h3
  unfold Rise at hr
  rw [List.pairwise_map] at hr ⊢
  rw [List.pairwise_append, List.pairwise_cons]
  refine ⟨hr.sublist (List.take_sublist _ _), ⟨h2, hr.sublist (List.drop_sublist _ _)⟩, fun x hx y hy => ?_⟩
  rw [List.mem_cons] at hy
  rcases hy with rfl | hy
  · exact h1 x hx
  · exact T.blt_trans (h1 x hx) (h2 y hy)
end Go.Proofs.Ytjhgknagmiekeaa.N
set_option linter.unusedVariables false
set_option linter.unusedSimpArgs false
namespace Go.Proofs.Ytjhgknagmiekeaa.V
open Go.RowKit Go.Lib Go.Proofs Go.Proofs.YtjhgknagmiekeaaW.PrintWords Go.Proofs.Ytjhgknagmiekeaa.T
structure KpM (n₁ : Nat) (M : Nat → Prop) (W W' : World) : Prop where
  size : W.heap.size ≤ W'.heap.size
  low : ∀ (k : Nat) (o : Obj), W.heap[k]? = some o → k < n₁ → ¬ M k → W'.heap[k]? = some o
  node : ∀ (k : Nat) (cs : Array Value) (fr : Nat × Nat), W.heap[k]? = some (Obj.cells cs 60 fr) → W'.heap[k]? = some (Obj.cells cs 60 fr)
theorem KpM.trans {n₁ : Nat} {M : Nat → Prop} {A B C : World} (h : KpM n₁ M A B) (k : KpM n₁ M B C) : KpM n₁ M A C :=
  ⟨Nat.le_trans h.size k.size, fun i o hi h1 h2 => k.low i o (h.low i o hi h1 h2) h1 h2, fun i cs fr hi => k.node i cs fr (h.node i cs fr hi)⟩
theorem KpM.of {n₁ : Nat} {M : Nat → Prop} {W W' : World} (h : Below W.heap.size W W') : KpM n₁ M W W' :=
  ⟨h.size, fun k o hk _ _ => (h.block k (Array.getElem?_eq_some_iff.1 hk).1).trans hk, fun k cs fr hk => (h.block k (Array.getElem?_eq_some_iff.1 hk).1).trans hk⟩
def Stnd (wI : World) (n₁ : Nat) (M : Nat → Prop) (W : World) : Prop := ∀ (k : Nat) (o : Obj), wI.heap[k]? = some o → k < n₁ → ¬ M k → W.heap[k]? = some o
theorem Stnd.refl (wI : World) (n₁ : Nat) (M : Nat → Prop) : Stnd wI n₁ M wI := fun _ _ h _ _ => h
theorem Stnd.kp {wI : World} {n₁ : Nat} {M : Nat → Prop} {W W' : World} (h : Stnd wI n₁ M W) (k : KpM n₁ M W W') : Stnd wI n₁ M W' := fun i o h0 h1 h2 => k.low i o (h i o h0 h1 h2) h1 h2
theorem Stnd.kept {wB wI : World} {n₁ : Nat} {M : Nat → Prop} {W : World} (h : Stnd wI n₁ M W) (hk : Kept wB wI) (hn : wB.heap.size ≤ n₁) (hM : ∀ k, k < wB.heap.size → ¬ M k) : Kept wB W := fun k hlt => by
  have e : wB.heap[k]? = some wB.heap[k] := Array.getElem?_eq_getElem hlt
  rw [e]
  exact h k _ ((hk k hlt).trans e) (by omega) (hM k hlt)
def valI : Value → Int
  | .int _ v => v
  | _ => 0
def ownE (kp : ByteArray → Bool) (p : ByteArray) : Option Lf → List (ByteArray × Int)
  | some l => if kp p then [(p, valI l.val)] else []
  | none => []
mutual
/-- the entries at and beneath a node, rising; sk: which subtrees are left out; kp: which keys are given -/
def ovr (sk kp : ByteArray → Bool) (p : ByteArray) : Nd → List (ByteArray × Int)
  | .mk _ _ leaf kids _ => if sk p then [] else ownE kp p leaf ++ ovrs sk kp p kids
def ovrs (sk kp : ByteArray → Bool) (p : ByteArray) : List Nd → List (ByteArray × Int)
  | [] => []
  | k :: r => ovr sk kp (p ++ k.label) k ++ ovrs sk kp p r
end
theorem ovr_eq (sk kp : ByteArray → Bool) (p : ByteArray) (n : Nd) : ovr sk kp p n = if sk p then [] else ownE kp p n.leaf ++ ovrs sk kp p n.kids := by
  cases n with
  | mk b label leaf kids mark => rw [ovr]; rfl
theorem ovrs_snoc (sk kp : ByteArray → Bool) (p : ByteArray) (k : Nd) : ∀ ks : List Nd, ovrs sk kp p (ks ++ [k]) = ovrs sk kp p ks ++ ovr sk kp (p ++ k.label) k
  | [] => by simp [ovrs]
  | x :: r => by rw [List.cons_append, ovrs, ovrs, ovrs_snoc sk kp p k r, List.append_assoc]
theorem ovrs_take (sk kp : ByteArray → Bool) (p : ByteArray) (ks : List Nd) (i : Nat) (h : i < ks.length) : ovrs sk kp p (ks.take (i + 1)) = ovrs sk kp p (ks.take i) ++ ovr sk kp (p ++ ks[i].label) ks[i] := by
  have e : ks.take (i + 1) = ks.take i ++ [ks[i]] := by rw [List.take_add_one, List.getElem?_eq_getElem h]; rfl
  rw [e, ovrs_snoc]
theorem ovrs_pre (sk kp : ByteArray → Bool) (p : ByteArray) : ∀ (ks : List Nd) (i : Nat), ovrs sk kp p (ks.take i) <+: ovrs sk kp p ks
  | [], i => by simp
  | k :: r, 0 => by simp [ovrs]
  | k :: r, i + 1 => by
    rw [List.take_succ_cons, ovrs, ovrs]
    exact (List.prefix_append_right_inj _).2 (ovrs_pre sk kp p r i)
def Abd {β : Type} (J : β → World → Prop) : Prop := ∀ s W W', J s W → Below W.heap.size W W' → J s W'
theorem abide {β : Type} {J : β → World → Prop} (h : Abd J) {s : β} {W W' : World} (hs : J s W) (hb : Below W.heap.size W W') : J s W' := h s W W' hs hb
theorem abd_of {β : Type} {B : Nat} {J : β → World → Prop} (h : AbidesFrom B J) : Abd J := fun s W W' hs hb => h s W W' none hs ⟨hb.os, hb.tape, hb.output, hb.size, fun k hk _ => hb.block k hk⟩ (fun r e => by cases e)
theorem room_none (k : Nat) : Fence.wide.room k := fun d h => by cases h
theorem roundDepth {m m' : Nat} {P : Program} {l : Nat} {f : FuncId} {tmps : Array Value} {assign body : Code} {w : World} {R : Ending → World → Prop}
    (h : RoundIn Fence.wide m P l f tmps assign body w R) : RoundIn Fence.wide m' P l f tmps assign body w R := ⟨h.1, fun c cs _ => h.2 c cs (room_none _)⟩
theorem yieldDepth {m : Nat} (m' : Nat) {P : Program} {l : Nat} {args : Array Value} {W : World} {R : Ending → World → Prop} (h : YieldAt Fence.wide m P l args W R) : YieldAt Fence.wide m' P l args W R := by
  obtain ⟨fn, tmps, assign, body, hy, hR⟩ := h
  exact ⟨fn, tmps, assign, body, hy, roundDepth hR⟩
end Go.Proofs.Ytjhgknagmiekeaa.V
set_option linter.unusedVariables false
set_option linter.unusedSimpArgs false
set_option linter.unusedSectionVars false
namespace Go.Proofs.Ytjhgknagmiekeaa.N
open Go.RowKit Go.Proofs.Ytjhgknagmiekeaa.K Go.Proofs.YtjhgknagmiekeaaW.PrintWords Go.Proofs.YtjhgknagmiekeaaW.PrintLast
open Go.Proofs.Ytjhgknagmiekeaa.T (Nd Lf Ent ents entss All valT findT IntVals Ok Oks mem_all all_rise Fine Tr)
open Go.Proofs.Ytjhgknagmiekeaa.V (valI ovr ovrs ownE ovr_eq)
abbrev Kv := List UInt8 × Int
def ey (e : Ent) : Kv := (e.1, valI e.2.val)
def ex (x : ByteArray × Int) : Kv := (T.L x.1, x.2)
def Agree (root : Nd) (t : Rt) : Prop := (All root).map ey = (t.ks.zip t.vs).map ex
theorem mem_ey {root : Nd} (h : T.Good root) (hv : IntVals root) (q : List UInt8) (x : Int) : (q, x) ∈ (All root).map ey ↔ valT root q = some (.int .i64 x) := by
  rw [List.mem_map]
  unfold valT
  constructor
  · rintro ⟨⟨q', l⟩, hm, he⟩
    unfold ey at he
    obtain ⟨h1, h2⟩ := Prod.mk.inj he
    dsimp only at h1 h2
    subst h1
    have hf := (mem_all h q' l).1 hm
    obtain ⟨v, ev⟩ := hv _ _ hf
    rw [hf, Option.map_some, ev]
    rw [ev] at h2
    rw [← h2]
    rfl
  · intro he
    cases hf : findT root q with
    | none => rw [hf] at he; cases he
    | some l =>
      rw [hf, Option.map_some] at he
      refine ⟨(q, l), (mem_all h q l).2 hf, ?_⟩
      unfold ey
      dsimp only
      rw [Option.some.inj he]
      rfl
theorem zip_take_key {ks : List ByteArray} {vs : List Int} {n : Nat} {x : ByteArray × Int} (h : x ∈ (ks.zip vs).take n) : x.1 ∈ ks.take n := by
  have e : (ks.zip vs).take n = (ks.take n).zip (vs.take n) := List.take_zipWith
  rw [e] at h
  exact (List.of_mem_zip h).1
theorem zip_drop_key {ks : List ByteArray} {vs : List Int} {n : Nat} {x : ByteArray × Int} (h : x ∈ (ks.zip vs).drop n) : x.1 ∈ ks.drop n := by
  have e : (ks.zip vs).drop n = (ks.drop n).zip (vs.drop n) := List.drop_zipWith
  rw [e] at h
  exact (List.of_mem_zip h).1
theorem mem_put {ks : List ByteArray} {vs : List Int} {a : ByteArray} {v : Int} {n : Nat} {b : Bool} (hr : Rise ks) (hc : Cut ks a n n) (hb : b = true → n < ks.length ∧ gd ks n = a) (hb2 : b = true ↔ a ∈ ks) (hl : ks.length = vs.length) (x : ByteArray × Int) :
    x ∈ putAt (ks.zip vs) n b (a, v) ↔ x = (a, v) ∨ (x.1 ≠ a ∧ x ∈ ks.zip vs) := by
  unfold putAt
  rw [List.mem_append, List.mem_cons]
  constructor
  · rintro (h | h | h)
    · refine .inr ⟨fun e => ?_, List.mem_of_mem_take h⟩
      obtain ⟨j, h1, -, h2⟩ := mem_take_gd (zip_take_key h)
      have := hc.1 j h1
      rw [h2, e] at this
      exact T.blt_irrefl _ this
    · exact .inl h
    · refine .inr ⟨fun e => ?_, List.mem_of_mem_drop h⟩
      obtain ⟨j, h1, h3, h2⟩ := mem_drop_gd (zip_drop_key h)
      have := cut_after hr hc hb hb2 j h1 h3
      rw [h2, e] at this
      exact T.blt_irrefl _ this
  · rintro (h | ⟨h1, h2⟩)
    · exact .inr (.inl h)
    · rw [← List.take_append_drop n (ks.zip vs), List.mem_append] at h2
      rcases h2 with h2 | h2
      · exact .inl h2
      · cases b with
        | false => exact .inr (.inr (by simpa using h2))
        | true =>
          obtain ⟨g1, g2⟩ := hb rfl
          have hz : n < (ks.zip vs).length := by rw [List.length_zip]; omega
          rw [List.drop_eq_getElem_cons hz, List.mem_cons] at h2
          rcases h2 with h2 | h2
          · exfalso
            refine h1 ?_
            rw [h2, List.getElem_zip, ← g2, gd_get g1]
          · exact .inr (.inr (by simpa using h2))
theorem rise_zip {ks : List ByteArray} {vs : List Int} (h : Rise ks) (hl : ks.length = vs.length) : ((ks.zip vs).map ex).Pairwise (fun a b => a.1 < b.1) := by
  have e : ((ks.zip vs).map ex).map Prod.fst = ks.map T.L := by
    rw [List.map_map, show (Prod.fst ∘ ex) = T.L ∘ Prod.fst from rfl, ← List.map_map, List.map_fst_zip (by omega)]
  have h2 := h
  unfold Rise at h2
  rw [← e, List.pairwise_map] at h2
  exact h2
theorem agree_ins {root root' : Nd} {t : Rt} (hg : T.Good root) (hv : IntVals root) (hg' : T.Good root') (hv' : IntVals root') (ht : Rok t) (h : Agree root t) {a : ByteArray} {v : Int} {n : Nat} {b : Bool} {L P : List ByteArray} {ls M : List Int}
    (hn : n ≤ t.ks.length) (hc : Cut t.ks a n n) (hb : b = true → n < t.ks.length ∧ gd t.ks n = a) (hb2 : b = true ↔ a ∈ t.ks) (ho : Rok ⟨putAt t.ks n b a, putAt t.vs n b v, ls, P, M⟩)
    (hf : ∀ r, valT root' r = if r = T.L a then some (.int .i64 v) else valT root r) : Agree root' ⟨putAt t.ks n b a, putAt t.vs n b v, ls, P, M⟩ := by
  unfold Agree at h ⊢
  have h1 : ((All root').map ey).Pairwise (fun a b => a.1 < b.1) := by
    rw [List.pairwise_map]
    exact all_rise hg'
  have h2 := rise_zip ho.rise ho.v.symm
  refine T.sorted_ext (lt := fun a b : Kv => a.1 < b.1) (fun x => T.blt_irrefl _) (fun x y z => T.blt_trans) _ _ h1 h2 (fun x => ?_)
  obtain ⟨q, x⟩ := x
  rw [mem_ey hg' hv', hf]
  dsimp only
  rw [zip_putAt _ _ _ _ _ _ ht.v.symm hn]
  have hz : (q, x) ∈ (putAt (t.ks.zip t.vs) n b (a, v)).map ex ↔ (q = T.L a ∧ x = v) ∨ (q ≠ T.L a ∧ (q, x) ∈ (t.ks.zip t.vs).map ex) := by
    rw [List.mem_map]
    constructor
    · rintro ⟨y, hy, e⟩
      rcases (mem_put ht.rise hc hb hb2 ht.v.symm y).1 hy with rfl | ⟨h3, h4⟩
      · unfold ex at e
        obtain ⟨e1, e2⟩ := Prod.mk.inj e
        exact .inl ⟨e1.symm, e2.symm⟩
      · refine .inr ⟨fun h5 => h3 ?_, ?_⟩
        · unfold ex at e
          exact T.L_inj ((Prod.mk.inj e).1.trans h5)
        · rw [← e]
          exact List.mem_map_of_mem h4
    · rintro (⟨rfl, rfl⟩ | ⟨h3, h4⟩)
      · exact ⟨(a, x), (mem_put ht.rise hc hb hb2 ht.v.symm _).2 (.inl rfl), rfl⟩
      · obtain ⟨y, hy, e⟩ := List.mem_map.1 h4
        refine ⟨y, (mem_put ht.rise hc hb hb2 ht.v.symm y).2 (.inr ⟨fun h5 => h3 ?_, hy⟩), e⟩
        unfold ex at e
        rw [← (Prod.mk.inj e).1, h5]
  rw [hz, ← h, mem_ey hg hv]
  by_cases hq : q = T.L a
  · rw [if_pos hq]
    constructor
    · intro e
      have := Option.some.inj e
      exact .inl ⟨hq, by injection this with _ h9; exact h9.symm⟩
    · rintro (⟨-, rfl⟩ | ⟨h3, -⟩)
      · rfl
      · exact absurd hq h3
  · rw [if_neg hq]
    constructor
    · exact fun e => .inr ⟨hq, e⟩
    · rintro (⟨h3, -⟩ | ⟨-, h3⟩)
      · exact absurd h3 hq
      · exact h3
section
variable (sk kp : List UInt8 → Bool) (hsk : ∀ q r, sk q = true → kp (q ++ r) = false)
include hsk
end
end Go.Proofs.Ytjhgknagmiekeaa.N
-- Written by a program of this session (wip/tools/printfam.py) out of the translation; hand-proved contracts set in. Lean checks it.
namespace Go.Proofs.Ytjhgknagmiekeaa.K
open Go.RowKit Go.Proofs.YtjhgknagmiekeaaW.PrintWords Go.Proofs.YtjhgknagmiekeaaW.PrintLast Go.Proofs.YtjhgknagmiekeaaW.PrintMore
attribute [local go_sem] max2_int min2_int max_two min_two max_three min_three max_four min_four   -- for this text's walks alone
set_option linter.unusedVariables false
set_option linter.unusedSimpArgs false
end Go.Proofs.Ytjhgknagmiekeaa.K
-- Written by a program of this session (wip/tools/printfam.py) out of the translation; hand-proved contracts set in. Lean checks it.
namespace Go.Proofs.Ytjhgknagmiekeaa.K
open Go.RowKit Go.Proofs.YtjhgknagmiekeaaW.PrintWords Go.Proofs.YtjhgknagmiekeaaW.PrintLast Go.Proofs.YtjhgknagmiekeaaW.PrintMore
attribute [local go_sem] max2_int min2_int max_two min_two max_three min_three max_four min_four   -- for this text's walks alone
set_option linter.unusedVariables false
set_option linter.unusedSimpArgs false
end Go.Proofs.Ytjhgknagmiekeaa.K
-- Written by a program of this session (wip/tools/printfam.py) out of the translation; hand-proved contracts set in. Lean checks it.
namespace Go.Proofs.Ytjhgknagmiekeaa.K
open Go.RowKit Go.Proofs.YtjhgknagmiekeaaW.PrintWords Go.Proofs.YtjhgknagmiekeaaW.PrintLast Go.Proofs.YtjhgknagmiekeaaW.PrintMore
attribute [local go_sem] max2_int min2_int max_two min_two max_three min_three max_four min_four   -- for this text's walks alone
set_option linter.unusedVariables false
set_option linter.unusedSimpArgs false
end Go.Proofs.Ytjhgknagmiekeaa.K
set_option linter.unusedVariables false
set_option linter.unusedSimpArgs false
namespace Go.Proofs.Ytjhgknagmiekeaa.N
open Go.RowKit Go.Proofs.Ytjhgknagmiekeaa.K Go.Proofs.YtjhgknagmiekeaaW.PrintWords Go.Proofs.YtjhgknagmiekeaaW.PrintLast
open Go.Proofs.Ytjhgknagmiekeaa.T (Nd All valT findT IntVals Fine Tr)
def SlS (w : World) (v : Value) (xs : List ByteArray) : Prop := ∃ A c, v = .slice A xs.length c ∧ xs.length ≤ c ∧ Kd.C Kd.string w A xs.length xs
def SlI (w : World) (v : Value) (xs : List Int) : Prop := ∃ A c, v = .slice A xs.length c ∧ xs.length ≤ c ∧ Kd.C (Kd.int .i64) w A xs.length xs
theorem SlS.below {w w' : World} {v : Value} {xs : List ByteArray} (h : SlS w v xs) (hb : Below w.heap.size w w') : SlS w' v xs := by
  obtain ⟨A, c, h1, h2, h3⟩ := h
  exact ⟨A, c, h1, h2, Kd.C_below h3 hb⟩
theorem SlI.below {w w' : World} {v : Value} {xs : List Int} (h : SlI w v xs) (hb : Below w.heap.size w w') : SlI w' v xs := by
  obtain ⟨A, c, h1, h2, h3⟩ := h
  exact ⟨A, c, h1, h2, Kd.C_below h3 hb⟩
structure RtAt (w : World) (t : Rt) (v0 v1 v2 v3 v4 : Value) : Prop where
  a0 : SlS w v0 t.ks
  a1 : SlI w v1 t.vs
  a2 : SlI w v2 t.ls
  a3 : SlS w v3 t.ps
  a4 : SlI w v4 t.ms
theorem RtAt.below {w w' : World} {t : Rt} {v0 v1 v2 v3 v4 : Value} (h : RtAt w t v0 v1 v2 v3 v4) (hb : Below w.heap.size w w') : RtAt w' t v0 v1 v2 v3 v4 := ⟨h.a0.below hb, h.a1.below hb, h.a2.below hb, h.a3.below hb, h.a4.below hb⟩
theorem SlS.form {w : World} {v : Value} {xs : List ByteArray} (h : SlS w v xs) : ∃ A n c, v = .slice A n c := by
  obtain ⟨A, c, h1, -⟩ := h
  exact ⟨A, _, c, h1⟩
theorem SlI.form {w : World} {v : Value} {xs : List Int} (h : SlI w v xs) : ∃ A n c, v = .slice A n c := by
  obtain ⟨A, c, h1, -⟩ := h
  exact ⟨A, _, c, h1⟩
theorem RtAt.forms {w : World} {t : Rt} {v0 v1 v2 v3 v4 : Value} (h : RtAt w t v0 v1 v2 v3 v4) : (∃ A n c, v0 = .slice A n c) ∧ (∃ A n c, v1 = .slice A n c) ∧ (∃ A n c, v2 = .slice A n c) ∧ (∃ A n c, v3 = .slice A n c) ∧ (∃ A n c, v4 = .slice A n c) := ⟨h.a0.form, h.a1.form, h.a2.form, h.a3.form, h.a4.form⟩
def rt0 : Rt := ⟨[], [], [], [⟨#[]⟩], [0]⟩
theorem rok0 : Rok rt0 := by
  refine ⟨rfl, rfl, rfl, by decide, fun k h => (by cases h), fun k h => ?_, List.Pairwise.nil⟩
  have e : k = ⟨#[]⟩ := List.mem_singleton.1 h
  rw [e]
  decide
def Rob (B : Nat) (w w2 : World) : Prop := ∀ k, B ≤ k → k < w.heap.size → w2.heap[k]? = w.heap[k]?
theorem R_rob {α : Type} {d : Kd α} {e B : Nat} {w w2 : World} {ok : Nat → Prop} {v : Value} {xs : List α} (h : d.R e w B ok v xs) (hr : Rob B w w2) : d.R e w2 B ok v xs :=
  Kd.R_mono (Kd.R_move (Kd.R_bound h) (fun k hk => hr k hk.2.1 hk.2.2.1)) (fun _ hk => hk.1)
theorem newRtC (w : World) : Calls Try.prog 51 #[.int .i64 0] w fun e w' => ∃ v0 v1 v2 v3 v4, e = .returned (.tuple #[.agg #[v0, v1, v2, v3, v4], .int .i64 1]) ∧ (∀ w2, Rob w.heap.size w' w2 → RtAt w2 rt0 v0 v1 v2 v3 v4) ∧ Below w.heap.size w w' := by
  refine (musterref03_New.calls 0 [] [] [] [⟨#[]⟩] [0] 1 w (by unfold musterref03_New.f; rw [show wrap64 (0 + 1) = 1 from by unfold wrap64; omega])).mono ?_
  rintro e w' ⟨v0, v1, v2, v3, v4, rfl, h0, h1, h2, h3, h4, hb⟩
  exact ⟨v0, v1, v2, v3, v4, rfl, fun w2 hr => ⟨Kd.R_reads (R_rob h0 hr), Kd.R_reads (R_rob h1 hr), Kd.R_reads (R_rob h2 hr), Kd.R_reads (R_rob h3 hr), Kd.R_reads (R_rob h4 hr)⟩, hb⟩
def InsRt (t t' : Rt) (a : ByteArray) (v : Int) : Prop := ∀ root root' : Nd, Fine root → IntVals root → Fine root' → IntVals root' → Agree root t → (∀ r, valT root' r = if r = T.L a then some (.int .i64 v) else valT root r) → Agree root' t'
end Go.Proofs.Ytjhgknagmiekeaa.N
