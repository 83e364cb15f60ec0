/- joined: V10g V15 V20 V21 V22 V16h V23h N8 B0 B19 B45 V2OF V3OF V4OF V6F V24 N10 V26h V13e -/
import Derived.Test.YtjhgknagmiekeaaJC16
import Derived.Test.YtjhgknagmiekeaaJC18
import Derived.Stop.RegionWithIn
import Derived.RangeFuncBox
import Derived.Test.YtjhgknagmiekeaaJC15
import Derived.Test.YtjhgknagmiekeaaJC13
import Derived.Deep.RegionHeld3
import Derived.Laws.AppendOwnNone
import Derived.Test.YtjhgknagmiekeaaProg
import Derived.Below
import Derived.Deep.Draws
import Derived.Deep.AppendLies
import Derived.Maps.AppendAt
import Derived.OwnWalk
import Derived.Laws.BytesArg
import Derived.Laws.MakeOwn
import Derived.Laws.OwnMore
import Derived.Deep.OwnRows
import Derived.Tactics
import Derived.Lib.ConvBytes
import Derived.Laws.Slices
import Derived.WalkKit
import Derived.KernelRfl
import Derived.RowKit3
import Derived.Deep.LoopGhost
import Derived.Deep.QuietTactic
import Derived.BigQuiet
import Derived.WideLaws
import Derived.Deep.DeepCutAuto
import Derived.Deep.CutBlock
import Derived.Laws.Rows
import Derived.Lib.AppendStr
import Derived.ArgAppend
import Derived.Laws.IdiomCopy
import Derived.OrdersHeld
import Derived.Laws.BitsLemmas
import Derived.RowKit
import Derived.Test.YtjhgknagmiekeaaJC0
import Derived.Test.YtjhgknagmiekeaaJC1
import Derived.Test.YtjhgknagmiekeaaJC9
import Derived.Laws.Cover1
import Derived.Laws.StructEq
set_option linter.unusedVariables false
set_option linter.unusedSimpArgs false
namespace Go.Proofs.Ytjhgknagmiekeaa.V
open Go.Proofs.Ytjhgknagmiekeaa.VOU (below_drewA)
open Go.RowKit Go.Lib Go.Proofs Go.Shelf
open Go.Proofs.Ytjhgknagmiekeaa.T Go.Proofs.Ytjhgknagmiekeaa.N Go.Proofs.Ytjhgknagmiekeaa.K
open Go.Proofs.YtjhgknagmiekeaaW.PrintWords hiding blk_cell
theorem own_weak {w : World} {b b' : Nat} {e : TypeId} {size : Nat} {v : Value} {n : Nat} {xs : List Value} (h : w.ownsRow b e size v n xs) (hb : b' ≤ b) : w.ownsRow b' e size v n xs := by
  refine ⟨h.1, ?_⟩
  rcases h.2 with h2 | ⟨g, cap, cur, h1, h2, h3⟩
  · exact .inl h2
  · exact .inr ⟨g, cap, cur, h1, Nat.le_trans hb h2, h3⟩
theorem appended2 {W w1 : World} {n₁ n₀ B : Nat} {t e : TypeId} {size : Nat} {v v' : Value} {k m : Nat} {xs ys : List Value} {tmp : Obj} {M : Nat → Prop}
    (hv : Boxed W B t v) (hte : t ≠ e) (ht : t ≠ 60) (he : e ≠ 60) (hrow : W.ownsRow n₁ e size v k xs) (hn₁ : n₁ ≤ W.heap.size) (hn₀ : n₀ ≤ n₁) (hB : n₀ ≤ B) (hM : M B)
    (hown' : w1.ownsRow n₁ e size v' m ys) (hgrow : (W.alloc tmp).grownBy w1 v.ownBlock) :
    Boxed w1 B t v ∧ Boxed (w1.setCell ⟨B, 0, none⟩ v') B t v' ∧ (w1.setCell ⟨B, 0, none⟩ v').ownsRow n₁ e size v' m ys ∧ KeepsOthers W (w1.setCell ⟨B, 0, none⟩ v') ∧ Below n₀ W (w1.setCell ⟨B, 0, none⟩ v') ∧ KpM n₁ M W (w1.setCell ⟨B, 0, none⟩ v') ∧ (∀ k, k < n₁ → k ≠ B → (w1.setCell ⟨B, 0, none⟩ v').heap[k]? = W.heap[k]?) := by
  obtain ⟨a1, a2, a3, a4, a5⟩ := hv.appended hte (own_weak hrow hn₀) (Nat.le_trans hn₀ hn₁) hB (own_weak hown' hn₀) hgrow
  have hne : ∀ k, k < n₁ → some k ≠ v.ownBlock := fun k hk e9 => by
    rcases hrow.2 with ⟨rfl, _⟩ | ⟨g, cap, cur, rfl, hb, _, _⟩
    · simp [Value.ownBlock] at e9
    · obtain rfl : k = g := by simpa [Value.ownBlock] using e9
      omega
  have hlow : ∀ k, k < n₁ → k ≠ B → (w1.setCell ⟨B, 0, none⟩ v').heap[k]? = W.heap[k]? := fun k hk hkB => by
    rw [Below.heap_setCell _ _ _ k hkB]
    exact (hgrow.block k (by rw [World.size_alloc]; omega) (hne k hk)).trans (Below.heap_alloc _ _ _ (by omega))
  refine ⟨a1, a2, hown'.kept (grownBy_setCell' w1 B v') (.inr (a1.not_row hte hown').symm), a4, a5, ⟨a5.size, fun k o hk h1 h2 => ?_, fun k cs fr hk => ?_⟩, hlow⟩
  · exact (hlow k h1 (fun e9 => h2 (by rw [e9]; exact hM))).trans hk
  · have hkB : k ≠ B := fun e9 => by
      subst e9
      rw [show W.heap[k]? = _ from hv] at hk
      injection hk with h1
      injection h1 with _ h2 _
      exact ht h2
    have hlt := (Array.getElem?_eq_some_iff.1 hk).1
    rw [Below.heap_setCell _ _ _ k hkB]
    refine (hgrow.block k (by rw [World.size_alloc]; omega) (fun e9 => ?_)).trans ((Below.heap_alloc _ _ _ (by omega)).trans hk)
    rcases hrow.2 with ⟨rfl, _⟩ | ⟨g, cap, cur, rfl, hb, hgb, _⟩
    · simp [Value.ownBlock] at e9
    · obtain rfl : k = g := by simpa [Value.ownBlock] using e9
      rw [hk] at hgb
      injection hgb with h1
      injection h1 with _ h2 _
      exact he h2.symm
def rowv (l : List (ByteArray × Int)) : List Value := l.flatMap (fun x => [.string x.1, .int .i64 x.2])
theorem rowv_snoc (l : List (ByteArray × Int)) (x : ByteArray × Int) : rowv (l ++ [x]) = rowv l ++ [.string x.1, .int .i64 x.2] := by simp [rowv]
abbrev mkE (x : ByteArray × Int) : S35 := ⟨x.1, x.2⟩
theorem cell_two_new (w : World) (x y : Value) (t : TypeId) : ∀ j u, [x, y][j]? = some u → (w.alloc (.cells #[x, y] t)).cell? ((⟨w.heap.size, 0, none⟩ : Addr).add j) = some u := by
  intro j u hj
  have h := World.alloc_heap_new w (.cells #[x, y] t)
  match j, hj with
  | 0, hj => cases hj; show World.cell? _ ⟨_, 0, none⟩ = _; rw [blk_cell h]; rfl
  | 1, hj => cases hj; show World.cell? _ ⟨_, 1, none⟩ = _; rw [blk_cell h]; rfl
  | j + 2, hj => cases hj
theorem rowv_drop : ∀ (l : List (ByteArray × Int)) (j : Nat) (x : ByteArray × Int), l[j]? = some x → ((rowv l).drop (j * 2)).take 2 = [.string x.1, .int .i64 x.2]
  | [], j, x, h => by cases h
  | y :: l, 0, x, h => by cases h; rfl
  | y :: l, j + 1, x, h => by
    rw [show (j + 1) * 2 = j * 2 + 2 from by omega]
    exact rowv_drop l j x (by simpa using h)
theorem rowv_len (l : List (ByteArray × Int)) : (rowv l).length = l.length * 2 := by
  induction l with
  | nil => rfl
  | cons x l ih => rw [show rowv (x :: l) = .string x.1 :: .int .i64 x.2 :: rowv l from rfl, List.length_cons, List.length_cons, ih, List.length_cons]; omega
theorem rowv_reps (l : List (ByteArray × Int)) (w : World) : Reps (k35.K w) 2 (l.map mkE) (rowv l) := by
  refine ⟨by rw [rowv_len, List.length_map], fun j p hp => ?_⟩
  rw [List.getElem?_map] at hp
  obtain ⟨x, hx, rfl⟩ := Option.map_eq_some_iff.1 hp
  rw [rowv_drop l j x hx]
  exact k35_mk w (mkE x)
theorem own_got {w : World} {base : Nat} {v : Value} {l : List (ByteArray × Int)} (h : w.ownsRow base 35 2 v l.length (rowv l)) : ∃ A c, v = .slice A (l.map mkE).length c ∧ (l.map mkE).length ≤ c ∧ EntAt w A (l.map mkE) := by
  obtain ⟨A, c, e, hr⟩ := own_reads_row h (rowv_reps l w) (by rw [List.length_map])
  refine ⟨A, c, by rw [List.length_map]; exact e, ?_, by show ReadsRow _ _ _ _ _ _; rw [List.length_map]; exact hr⟩
  rw [List.length_map]
  rcases h.2 with ⟨h1, h2⟩ | ⟨g, cap, cur, h1, h2, h3, h4, h5⟩
  · omega
  · rw [e] at h1
    injection h1 with _ _ h9
    omega
theorem info35 : (Try.prog.info? 35).map (fun i => (i.zero, i.size, i.bytes)) = some (some (.agg #[.string ⟨#[]⟩, .int .i64 0]), 2, 24) := by kernel_rfl
end Go.Proofs.Ytjhgknagmiekeaa.V
set_option linter.unusedVariables false
set_option linter.unusedSimpArgs false
namespace Go.Proofs.Ytjhgknagmiekeaa.V
open Go.RowKit Go.Lib Go.Proofs Go.Shelf
open Go.Proofs.Ytjhgknagmiekeaa.T
open Go.Proofs.YtjhgknagmiekeaaW.PrintWords hiding blk_cell
def TreeTy (t : TypeId) : Prop := t = 58 ∨ t = 117 ∨ t = 124 ∨ t = 127
structure FarB (X : Nat → Prop) (W W' : World) : Prop where
  off : ∀ k, X k → ∀ cs t fr, W.heap[k]? = some (.cells cs t fr) → ¬ TreeTy t
  same : ∀ k, ¬ X k → k < W.heap.size → W'.heap[k]? = W.heap[k]?
theorem FarB.at {X : Nat → Prop} {W W' : World} (h : FarB X W W') {b : Nat} {cs : Array Value} {t : TypeId} {fr : Nat × Nat} (hv : W.heap[b]? = some (.cells cs t fr)) (ht : TreeTy t) : W'.heap[b]? = some (.cells cs t fr) :=
  (h.same b (fun e => h.off b e _ _ _ hv ht) (Array.getElem?_eq_some_iff.1 hv).1).trans hv
theorem FarB.trans {X : Nat → Prop} {A B C : World} (h : FarB X A B) (k : FarB (fun _ => False) B C) : FarB X A C := ⟨h.off, fun j h1 h2 => by
  have e := h.same j h1 h2
  have h3 : j < B.heap.size := by
    have h4 : A.heap[j]? = some A.heap[j] := Array.getElem?_eq_getElem h2
    rw [h4] at e
    exact (Array.getElem?_eq_some_iff.1 e).1
  exact (k.same j (fun x => x) h3).trans e⟩
end Go.Proofs.Ytjhgknagmiekeaa.V
set_option linter.unusedVariables false
set_option linter.unusedSimpArgs false
namespace Go.Proofs.Ytjhgknagmiekeaa.V
open Go.RowKit Go.Lib Go.Proofs Go.Proofs.Ytjhgknagmiekeaa.T
variable {F : Fence} {n : Nat} {P : Program}
def Quiet (t : TypeId) : Prop := t = 4 ∨ t = 9 ∨ t = 24 ∨ t = 60 ∨ t = 110 ∨ t = 111 ∨ t = 132
def qObj (o : Obj) : Prop := o.isCells = false ∨ ∃ cs t fr, o = .cells cs t fr ∧ Quiet t
structure KeepsU (B : Nat) (W W' : World) : Prop where
  size : W.heap.size ≤ W'.heap.size
  same : ∀ (k : Nat) (o : Obj), B ≤ k → W.heap[k]? = some o → qObj o → W'.heap[k]? = some o
theorem KeepsU.trans {B : Nat} {X Y Z : World} (h : KeepsU B X Y) (k : KeepsU B Y Z) : KeepsU B X Z := ⟨Nat.le_trans h.size k.size, fun i o hB hi ho => k.same i o hB (h.same i o hB hi ho) ho⟩
theorem KeepsU.of {B : Nat} {W W' : World} (h : Below W.heap.size W W') : KeepsU B W W' := ⟨h.size, fun k o _ hk _ => (Kept.of h).at hk⟩
theorem KeepsU.refl (B : Nat) (W : World) : KeepsU B W W := KeepsU.of (Below.refl _ _)
theorem KeepsU.up {B B' : Nat} {W W' : World} (h : KeepsU B W W') (hB : B ≤ B') : KeepsU B' W W' := ⟨h.size, fun k o hk h1 h2 => h.same k o (Nat.le_trans hB hk) h1 h2⟩
theorem KeepsU.put {B l : Nat} (W : World) (o : Obj) (h : l < B) : KeepsU B W (W.putObj l o) := by
  have hg := grownBy_putObj' W l o
  exact ⟨hg.size, fun k x hk h1 _ => (hg.block k (Array.getElem?_eq_some_iff.1 h1).1 (fun e => by cases e; omega)).trans h1⟩
theorem KeepsU.set {B b : Nat} (W : World) (v : Value) (h : b < B) : KeepsU B W (W.setCell ⟨b, 0, none⟩ v) := by
  have hg := grownBy_setCell' W b v
  exact ⟨hg.size, fun k x hk h1 _ => (hg.block k (Array.getElem?_eq_some_iff.1 h1).1 (fun e => by cases e; omega)).trans h1⟩
def ownPostU {α : Type} (B : Nat) (Kp : World → World → Prop) (I : List α → World → Prop) (Ix : Code → List α → World → Prop) (xs : List α) (W : World) : Exit → Act → World → Prop
  | .normal, _, W' => KeepsU B W W' ∧ Kp W W' ∧ I xs W'
  | .ret, _, W' => KeepsU B W W' ∧ Ix .ret xs W'
  | .exit id, _, W' => KeepsU B W W' ∧ Ix (.exit id) xs W'
  | .goto t, _, W' => KeepsU B W W' ∧ Ix (.goto t) xs W'
  | .panic _, _, _ => False
  | .outgrown, _, _ => False
def OwnT {β : Type} (B : Nat) (I : β → World → Prop) : Prop :=
  ∀ s W W' row, I s W → W.grownBy W' row → (∀ r, row = some r → B ≤ r ∧ ∃ o : Obj, W.heap[r]? = some o ∧ (o.isCells = false ∨ ∃ b : Bool, o = .cells #[.bool b] 4 (0, 0))) → I s W'
theorem OwnT.putObj {β : Type} {B : Nat} {I : β → World → Prop} (h : OwnT B I) {s : β} {W : World} {l : Nat} {o : Obj} (o' : Obj) (hs : I s W) (hB : B ≤ l) (hl : W.heap[l]? = some o) (ho : o.isCells = false) : I s (W.putObj l o') :=
  h s W _ (some l) hs (grownBy_putObj' W l o') (fun r e => by cases e; exact ⟨hB, o, hl, .inl ho⟩)
theorem OwnT.alloc {β : Type} {B : Nat} {I : β → World → Prop} (h : OwnT B I) {s : β} {W : World} (o : Obj) (hs : I s W) : I s (W.alloc o) :=
  h s W _ none hs (World.grownBy_alloc W o none) (fun r e => by cases e)
theorem OwnT.and {β : Type} {B : Nat} {I I' : β → World → Prop} (h : OwnT B I) (h' : OwnT B I') : OwnT B (fun s W => I s W ∧ I' s W) := fun s W W' row hs hg hr => ⟨h s W W' row hs.1 hg hr, h' s W W' row hs.2 hg hr⟩
theorem OwnT.bool {β : Type} {B : Nat} {I : β → World → Prop} (h : OwnT B I) {s : β} {W : World} {l : Nat} {b : Bool} (v' : Value) (hs : I s W) (hB : B ≤ l) (hl : Boxed W l 4 (.bool b)) : I s (W.setCell ⟨l, 0, none⟩ v') :=
  h s W _ (some l) hs (grownBy_setCell' W l v') (fun r e => by cases e; exact ⟨hB, _, hl, .inr ⟨b, rfl⟩⟩)
def SeqO {α : Type} (F : Fence) (n : Nat) (P : Program) (g : Nat) (lb : Array Value) (encs : α → Array Value) (Kp : World → World → Prop) (Ok S Sp : List α → Prop) (N : Nat) (w : World) : Prop :=
  ∀ (l : Nat) (J Jx : List α → World → Prop) (W : World), Below w.heap.size w W → l < W.heap.size → OwnT W.heap.size J → OwnT W.heap.size Jx →
    (∀ m pre x W1, J pre W1 → pre.length < N → Ok (pre ++ [x]) → YieldAt F m P l (encs x) W1 fun e W' => KeepsU W.heap.size W1 W' ∧ ((e = .returned (.bool true) ∧ J (pre ++ [x]) W' ∧ Kp W1 W') ∨ (e = .returned (.bool false) ∧ Jx (pre ++ [x]) W'))) →
    J [] W → CallsIn F n P g (#[.func (.yield l) #[] #[]] ++ lb) W fun e W' => (∃ v, e = .returned v) ∧ ((∃ xs, S xs ∧ J xs W') ∨ (∃ pre, Sp pre ∧ Jx pre W'))
theorem ownFrom_abides {β : Type} {B : Nat} {J : β → World → Prop} (h : OwnT B J) : AbidesFrom B J := fun s W W' row hs hg hr =>
  h s W W' row hs hg (fun r e => by obtain ⟨h1, o, h2, h3⟩ := hr r e; exact ⟨h1, o, h2, .inl (Obj.not_cells_of_walk h3)⟩)
theorem ownUp {β : Type} {B B' : Nat} {J : β → World → Prop} (h : OwnT B J) (hB : B ≤ B') : OwnT B' J := fun s W W' row hs hg hr => h s W W' row hs hg (fun r e => ⟨Nat.le_trans hB (hr r e).1, (hr r e).2⟩)
theorem ownBelow {β : Type} {B : Nat} {J : β → World → Prop} (h : OwnT B J) {s : β} {W W' : World} (hs : J s W) (hb : Below W.heap.size W W') : J s W' :=
  h s W W' none hs ⟨hb.os, hb.tape, hb.output, hb.size, fun k hk _ => hb.block k hk⟩ (fun r e => by cases e)
theorem seqO_of {α : Type} {g : Nat} {lb : Array Value} {encs : α → Array Value} {Kp : World → World → Prop} {S Sp : List α → Prop} {N : Nat} {w : World} (h : SeqStopsK Fence.wide n P g lb encs Kp S Sp N w) : SeqO Fence.wide n P g lb encs Kp (fun _ => True) S Sp N w :=
  fun l J Jx W hW _ hJ hJx hY h0 => h l J Jx W hW (ownFrom_abides hJ) (ownFrom_abides hJx) (fun pre x W1 h1 h2 => (hY _ pre x W1 h1 h2 trivial).mono (fun e W' h => h.2)) h0
theorem keep_old {A B : World} {row : Option Nat} {n0 k : Nat} {o : Obj} (hg : A.grownBy B row) (hr : ∀ r, row = some r → n0 ≤ r) (hk : k < n0) (h : A.heap[k]? = some o) : B.heap[k]? = some o :=
  (hg.block k (Array.getElem?_eq_some_iff.1 h).1 (fun e => by have := hr k e.symm; omega)).trans h
theorem wpIn_rangeFuncO {α : Type} {g : Operand} {ps : Array Tmp} {assign body : Code} {Q : Exit → Act → World → Prop} {a : Act} {w : World}
    (hro : F.round = none) (h1 : 1 ≤ n) {gf : Nat} {lb : Array Value} (hg : a.eval g = .func (.func gf) #[] lb) (hFg : F.fn gf) (eg : ∀ args w, (callFunc gf args).run P w = .ok (.enter gf args) w)
    {encs : α → Array Value} {Kp : World → World → Prop} {Ok S Sp : List α → Prop} {N : Nat} {w0 : World} (hseq : SeqO F (n - 1) P gf lb encs Kp Ok S Sp N w0)
    (hKt : ∀ {A B C : World}, Kp A B → Kp B C → Kp A C) (hKb : ∀ (W : World) (o o' : Obj), W.heap[w.heap.size + 1]? = some o → o.isCells = false → Kp W (W.putObj (w.heap.size + 1) o')) (hb0 : Below w0.heap.size w0 w) (hps : ∀ x, (encs x).size = ps.size)
    (I : List α → World → Prop) (Ix : Code → List α → World → Prop) (hI : OwnT w.heap.size I) (hIx : ∀ c, OwnT w.heap.size (Ix c)) (h0 : I [] w) (Ax : α → Act → World → Prop) (hAx : ∀ x a', OwnT w.heap.size (fun (_ : Unit) W => Ax x a' W))
    (hassign : ∀ (l m : Nat) (pre : List α) (x : α) (W : World) (K : Act → World → Prop), I pre W → Ok (pre ++ [x]) → (∀ a' W', KeepsU w.heap.size W W' → Kp W W' → I pre W' → Ax x a' W' → K a' W') →
      assign.wpIn (F.inRound l) m P (Exit.then K (fun _ _ _ => False)) { tmps := (ps.zip (encs x)).foldl (fun t (p, v) => t.setIfInBounds p v) a.tmps, defers := [] } W)
    (hbody : ∀ (l m : Nat) (pre : List α) (x : α) (a' : Act) (W : World), w.heap.size ≤ l → (∃ r, W.heap[l]? = some (.loop r)) → w.heap.size + 2 ≤ W.heap.size → I pre W → Ax x a' W → pre.length < N → Ok (pre ++ [x]) → body.wpIn (F.inRound l) m P (ownPostU w.heap.size Kp I Ix (pre ++ [x]) W) a' W)
    (hdone : ∀ (D : Nat) (xs : List α) (W : World), w.heap.size ≤ D → S xs → I xs W → W.heap[D]? = some (.deferred (some [])) → Q .normal { a with defers := { target := .collected D, args := #[] } :: a.defers } W)
    (hstop : ∀ (D : Nat) (c : Code) (pre : List α) (W : World), w.heap.size ≤ D → Sp pre → Ix c pre W → W.heap[D]? = some (.deferred (some [])) → c.wpIn F n P Q { a with defers := { target := .collected D, args := #[] } :: a.defers } W) :
    (Code.rangeFunc g ps assign body).wpIn F n P Q a w := by
  refine wpIn_rangeFunc ?_
  intro fn hfn
  rw [hro]
  obtain ⟨rec, hrec⟩ : ∃ rec : LoopState → Option Code → Loop, rec = fun st pe => { state := st, pending := pe, fn, tmps := a.tmps, params := ps, assign, body, defers := w.heap.size } := ⟨_, rfl⟩
  obtain ⟨W1, hW1⟩ : ∃ W1, (w.alloc (.deferred (some []))).alloc (.loop (rec .ready none)) = W1 := ⟨_, rfl⟩
  have hs1 : W1.heap.size = w.heap.size + 2 := by rw [← hW1]; simp
  have hL1 : W1.heap[w.heap.size + 1]? = some (.loop (rec .ready none)) := by
    rw [← hW1]; have := World.alloc_heap_new (w.alloc (.deferred (some []))) (.loop (rec .ready none)); rwa [World.size_alloc] at this
  have hK1 : W1.heap[w.heap.size]? = some (.deferred (some [])) := by
    rw [← hW1]; exact (Below.heap_alloc _ _ _ (by simp)).trans (World.alloc_heap_new w _)
  have hI1 : I [] W1 := by rw [← hW1]; exact hI.alloc _ (hI.alloc _ h0)
  have hb1 : Below w0.heap.size w0 W1 := by
    rw [← hW1]; exact hb0.trans ((((Below.refl _ w).alloc (Nat.le_refl _) _).alloc (by simp) _).mono hb0.size)
  refine ⟨w.heap.size + 1, [{ target := .collected w.heap.size, args := #[] }], W1, { target := .fn (.func gf) lb, args := #[.func (.yield (w.heap.size + 1)) #[] #[]] }, W1, gf,
    #[.func (.yield (w.heap.size + 1)) #[] #[]] ++ lb, W1, ?_, ?_, ?_, ?_, fun _ => h1, ?_⟩
  · rw [← hW1, hrec]; exact run_enterLoop_outer _ _ _ _ _
  · simp only [resolve, hg]
    simp [go_sem]
  · intro f' hf'; simp [Target.leads] at hf'; subst hf'; exact hFg
  · simp [invoke, go_sem, eg]
  · refine (hseq (w.heap.size + 1)
      (fun pre W => (I pre W ∧ w.heap.size + 2 ≤ W.heap.size) ∧ W.heap[w.heap.size + 1]? = some (.loop (rec .ready none)) ∧ W.heap[w.heap.size]? = some (.deferred (some [])))
      (fun pre W => ∃ c, Ix c pre W ∧ W.heap[w.heap.size + 1]? = some (.loop (rec .done (some c))) ∧ W.heap[w.heap.size]? = some (.deferred (some [])))
      W1 hb1 (by omega)
      (fun s A B row hs hg' hr => ⟨⟨hI s A B row hs.1.1 hg' (fun r e => ⟨by have := (hr r e).1; omega, (hr r e).2⟩), Nat.le_trans hs.1.2 hg'.size⟩, keep_old hg' (fun r e => (hr r e).1) (by omega) hs.2.1, keep_old hg' (fun r e => (hr r e).1) (by omega) hs.2.2⟩)
      (fun s A B row hs hg' hr => by
        obtain ⟨c, hc, hl, hk⟩ := hs
        exact ⟨c, hIx c s A B row hc hg' (fun r e => ⟨by have := (hr r e).1; omega, (hr r e).2⟩), keep_old hg' (fun r e => (hr r e).1) (by omega) hl, keep_old hg' (fun r e => (hr r e).1) (by omega) hk⟩)
      ?_ ⟨⟨hI1, by omega⟩, hL1, hK1⟩).mono ?_
    · rintro m pre x W ⟨⟨hi, hsz⟩, hl, hk⟩ hlen hok
      have hlt : w.heap.size + 1 < W.heap.size := (Array.getElem?_eq_some_iff.1 hl).1
      have hy := run_yield (P := P) (args := encs x) hl (by rw [hrec]; exact hps x)
      rw [hrec] at hy
      refine ⟨fn, _, assign, body, hy, roundIn_of_wpIn hfn (hassign _ _ pre x W _ hi hok ?_)⟩
      clear hy
      intro a' Wa hkfa hkpa hia hax
      replace hl := hkfa.same _ _ (by omega) hl (.inl rfl)
      replace hk := hkfa.same _ _ (Nat.le_refl _) hk (.inl rfl)
      replace hsz : w.heap.size + 2 ≤ Wa.heap.size := Nat.le_trans hsz hkfa.size
      replace hlt : w.heap.size + 1 < Wa.heap.size := (Array.getElem?_eq_some_iff.1 hl).1
      refine ⟨_, run_beginRound hl (by rw [hrec]), ?_⟩
      have hl2 : (Wa.putObj (w.heap.size + 1) (.loop { rec .ready none with state := .busy })).heap[w.heap.size + 1]? = some (.loop { rec .ready none with state := .busy }) := World.putObj_heap_same hlt
      have hk2 : (Wa.putObj (w.heap.size + 1) (.loop { rec .ready none with state := .busy })).heap[w.heap.size]? = some (.deferred (some [])) := (World.putObj_heap_other (by omega)).trans hk
      have hw2 : Kp Wa (Wa.putObj (w.heap.size + 1) (.loop { rec .ready none with state := .busy })) := hKb _ _ _ hl rfl
      have hg2 := (grownBy_putObj' Wa (w.heap.size + 1) (.loop { rec .ready none with state := .busy })).size
      refine wpIn_mono (hbody _ _ pre x a' _ (by omega) ⟨_, hl2⟩ (Nat.le_trans hsz hg2) (hI.putObj _ hia (by omega) hl rfl) ((hAx x a').putObj (s := ()) _ hax (by omega) hl rfl) hlen hok) ?_
      have fin : ∀ (jump : Option Code) (W3 : World), KeepsU w.heap.size (Wa.putObj (w.heap.size + 1) (.loop { rec .ready none with state := .busy })) W3 →
          (Instr.endRound (w.heap.size + 1) jump).run P W3 = .ok (.bool jump.isNone) (W3.putObj (w.heap.size + 1) (.loop (rec (if jump.isNone then .ready else .done) jump))) ∧
          W3.heap[w.heap.size + 1]? = some (.loop { rec .ready none with state := .busy }) ∧
          (W3.putObj (w.heap.size + 1) (.loop (rec (if jump.isNone then .ready else .done) jump))).heap[w.heap.size + 1]? = some (.loop (rec (if jump.isNone then .ready else .done) jump)) ∧
          (W3.putObj (w.heap.size + 1) (.loop (rec (if jump.isNone then .ready else .done) jump))).heap[w.heap.size]? = some (.deferred (some [])) ∧
          w.heap.size + 2 ≤ (W3.putObj (w.heap.size + 1) (.loop (rec (if jump.isNone then .ready else .done) jump))).heap.size := fun jump W3 hk3 => by
        have hl3 := hk3.same _ _ (by omega) hl2 (.inl rfl)
        have := run_endRound (P := P) jump hl3
        have h9 := (Array.getElem?_eq_some_iff.1 hl3).1
        have h8 := (grownBy_putObj' W3 (w.heap.size + 1) (.loop (rec (if jump.isNone then .ready else .done) jump))).size
        rw [hrec] at this ⊢
        rw [hrec] at h8
        exact ⟨this, by rw [hrec] at hl3; exact hl3, World.putObj_heap_same h9, (World.putObj_heap_other (by omega)).trans (hk3.same _ _ (Nat.le_refl _) hk2 (.inl rfl)), by omega⟩
      have kf : ∀ (W3 : World) (o : Obj), KeepsU w.heap.size (Wa.putObj (w.heap.size + 1) (.loop { rec .ready none with state := .busy })) W3 → KeepsU W1.heap.size W (W3.putObj (w.heap.size + 1) o) := fun W3 o hk3 =>
        (((hkfa.up (by omega)).trans (KeepsU.put Wa _ (by omega))).trans (hk3.up (by omega))).trans (KeepsU.put W3 o (by omega))
      rintro e a3 W3 hp
      cases e with
      | normal =>
        obtain ⟨hk3, hkp3, hi3⟩ := hp
        obtain ⟨hr, hl3, hl4, hk4, hs4⟩ := fin none W3 hk3
        exact ⟨_, _, hr, kf _ _ hk3, .inl ⟨rfl, ⟨⟨hI.putObj _ hi3 (by omega) hl3 rfl, hs4⟩, hl4, hk4⟩, hKt hkpa (hKt (hKt hw2 hkp3) (hKb _ _ _ hl3 rfl))⟩⟩
      | ret =>
        obtain ⟨hk3, hi3⟩ := hp
        obtain ⟨hr, hl3, hl4, hk4, hs4⟩ := fin (some .ret) W3 hk3
        exact ⟨_, _, hr, kf _ _ hk3, .inr ⟨rfl, .ret, (hIx _).putObj _ hi3 (by omega) hl3 rfl, hl4, hk4⟩⟩
      | exit id =>
        obtain ⟨hk3, hi3⟩ := hp
        obtain ⟨hr, hl3, hl4, hk4, hs4⟩ := fin (some (.exit id)) W3 hk3
        exact ⟨_, _, hr, kf _ _ hk3, .inr ⟨rfl, .exit id, (hIx _).putObj _ hi3 (by omega) hl3 rfl, hl4, hk4⟩⟩
      | goto t =>
        obtain ⟨hk3, hi3⟩ := hp
        obtain ⟨hr, hl3, hl4, hk4, hs4⟩ := fin (some (.goto t)) W3 hk3
        exact ⟨_, _, hr, kf _ _ hk3, .inr ⟨rfl, .goto t, (hIx _).putObj _ hi3 (by omega) hl3 rfl, hl4, hk4⟩⟩
      | panic ch => exact hp.elim
      | outgrown => exact hp.elim
    · rintro e W2 ⟨⟨v, rfl⟩, (⟨xs, hS, ⟨hi, -⟩, hl, hk⟩ | ⟨pre, hSp, c, hi, hl, hk⟩)⟩
      · exact ⟨none, _, by have := run_endLoop (P := P) hl (by rw [hrec]; simp); rw [hrec] at this; exact this, hdone _ xs _ (Nat.le_refl _) hS (hI.putObj _ hi (by omega) hl rfl) ((World.putObj_heap_other (by omega)).trans hk)⟩
      · exact ⟨some c, _, by have := run_endLoop (P := P) hl (by rw [hrec]; simp); rw [hrec] at this; exact this, hstop _ c pre _ (Nat.le_refl _) hSp ((hIx c).putObj _ hi (by omega) hl rfl) ((World.putObj_heap_other (by omega)).trans hk)⟩
end Go.Proofs.Ytjhgknagmiekeaa.V
set_option linter.unusedVariables false
set_option linter.unusedSimpArgs false
namespace Go.Proofs.Ytjhgknagmiekeaa.V
open Go.RowKit Go.Lib Go.Proofs Go.Proofs.Ytjhgknagmiekeaa.T Go.Proofs.Ytjhgknagmiekeaa.VOA
open Go.Proofs.YtjhgknagmiekeaaW.PrintWords hiding blk_cell
attribute [local go_sem] Oper.semAt_some
structure KpT (n₁ : Nat) (M : Nat → Prop) (W W' : World) : Prop where
  size : W.heap.size ≤ W'.heap.size
  low : ∀ (k : Nat) (o : Obj), W.heap[k]? = some o → k < n₁ → ¬ M k → W'.heap[k]? = some o
  typ : ∀ (k : Nat) (cs : Array Value) (t : TypeId) (fr : Nat × Nat), Quiet t → W.heap[k]? = some (Obj.cells cs t fr) → W'.heap[k]? = some (Obj.cells cs t fr)
theorem KpT.trans {n₁ : Nat} {M : Nat → Prop} {A B C : World} (h : KpT n₁ M A B) (k : KpT n₁ M B C) : KpT n₁ M A C :=
  ⟨Nat.le_trans h.size k.size, fun i o hi h1 h2 => k.low i o (h.low i o hi h1 h2) h1 h2, fun i cs t fr ht hi => k.typ i cs t fr ht (h.typ i cs t fr ht hi)⟩
theorem KpT.of {n₁ : Nat} {M : Nat → Prop} {W W' : World} (h : Below W.heap.size W W') : KpT n₁ M W W' :=
  ⟨h.size, fun k o hk _ _ => (Kept.of h).at hk, fun k cs t fr _ hk => (Kept.of h).at hk⟩
theorem KpT.putObj {n₁ : Nat} {M : Nat → Prop} (W : World) (l : Nat) (o o' : Obj) (hn : n₁ ≤ l) (hl : W.heap[l]? = some o) (hc : o.isCells = false) : KpT n₁ M W (W.putObj l o') := by
  have hg := grownBy_putObj' W l o'
  refine ⟨hg.size, fun k x hk h1 h2 => ?_, fun k cs t fr _ hk => ?_⟩
  · exact (hg.block k (Array.getElem?_eq_some_iff.1 hk).1 (fun e => by cases e; omega)).trans hk
  · refine (hg.block k (Array.getElem?_eq_some_iff.1 hk).1 (fun e => ?_)).trans hk
    cases e
    rw [hk] at hl
    cases hl
    cases hc
theorem kpT_own {β : Type} {n₁ B : Nat} {M : Nat → Prop} {W0 : World} (h1 : n₁ ≤ B) (h0 : W0.heap.size ≤ B) : OwnT B (fun (_ : β) W => KpT n₁ M W0 W) := fun s X Y row hs hg hr => by
  refine ⟨Nat.le_trans hs.size hg.size, fun k o hk h1' h2 => ?_, fun k cs t fr ht hk => ?_⟩
  · exact keep_old hg (fun r e => (hr r e).1) (by omega) (hs.low k o hk h1' h2)
  · exact keep_old hg (fun r e => (hr r e).1) (Nat.lt_of_lt_of_le (Array.getElem?_eq_some_iff.1 hk).1 h0) (hs.typ k cs t fr ht hk)
structure KpQ (W W' : World) : Prop where
  size : W.heap.size ≤ W'.heap.size
  typ : ∀ (k : Nat) (cs : Array Value) (t : TypeId) (fr : Nat × Nat), Quiet t → W.heap[k]? = some (Obj.cells cs t fr) → W'.heap[k]? = some (Obj.cells cs t fr)
theorem KpQ.trans {A B C : World} (h : KpQ A B) (k : KpQ B C) : KpQ A C := ⟨Nat.le_trans h.size k.size, fun i cs t fr ht hi => k.typ i cs t fr ht (h.typ i cs t fr ht hi)⟩
theorem KpQ.of {W W' : World} (h : Below W.heap.size W W') : KpQ W W' := ⟨h.size, fun k cs t fr _ hk => (Kept.of h).at hk⟩
theorem KpT.q {n₁ : Nat} {M : Nat → Prop} {W W' : World} (h : KpT n₁ M W W') : KpQ W W' := ⟨h.size, h.typ⟩
theorem KpQ.putObj (W : World) (l : Nat) (o o' : Obj) (hl : W.heap[l]? = some o) (hc : o.isCells = false) : KpQ W (W.putObj l o') := by
  have hg := grownBy_putObj' W l o'
  refine ⟨hg.size, fun k cs t fr _ hk => ?_⟩
  refine (hg.block k (Array.getElem?_eq_some_iff.1 hk).1 (fun e => ?_)).trans hk
  cases e
  rw [hk] at hl
  cases hl
  cases hc
def PostQ {α : Type} (J Jx : List α → World → Prop) (xs : List α) (e : Ending) (W' : World) : Prop := (∃ v, e = .returned v) ∧ ((∃ ys, ys = xs ∧ J ys W') ∨ (∃ pre, pre <+: xs ∧ Jx pre W'))
theorem ownT_kf {β : Type} {B B' : Nat} {w₀ : World} (hB : w₀.heap.size ≤ B') : OwnT B' (fun (_ : β) W => KeepsU B w₀ W) :=
  fun _ X Y row hs hg hr => ⟨Nat.le_trans hs.size hg.size, fun k o hk h0 ho => keep_old hg (fun r e => (hr r e).1) (Nat.lt_of_lt_of_le (Array.getElem?_eq_some_iff.1 h0).1 hB) (hs.same k o hk h0 ho)⟩
theorem ownT_size {β : Type} {B : Nat} (n : Nat) : OwnT B (fun (_ : β) W => n ≤ W.heap.size) := fun _ X Y row hs hg hr => Nat.le_trans hs hg.size
theorem ownT_pure {β : Type} (B : Nat) (p : β → Prop) : OwnT B (fun s (_ : World) => p s) := fun _ _ _ _ hs _ _ => hs
theorem ownT_old {β : Type} {B : Nat} (b : Nat) (f : β → Obj) (hb : b < B) : OwnT B (fun s W => W.heap[b]? = some (f s)) := fun _ X Y row hs hg hr => keep_old hg (fun r e => (hr r e).1) hb hs
theorem ownT_below {β : Type} {B n : Nat} {w : World} (hn : n ≤ w.heap.size) (hB : n ≤ B) : OwnT B (fun (_ : β) W => Below n w W) := fun _ X Y row hs hg hr => hs.grown hg (Nat.le_trans hn hs.size) (fun k e => Nat.le_trans hB (hr k e).1)
end Go.Proofs.Ytjhgknagmiekeaa.V
set_option linter.unusedVariables false
set_option linter.unusedSimpArgs false
namespace Go.Proofs.Ytjhgknagmiekeaa.V
open Go.RowKit Go.Lib Go.Proofs Go.Proofs.Ytjhgknagmiekeaa.T Go.Proofs.Ytjhgknagmiekeaa.VOA
open Go.Proofs.YtjhgknagmiekeaaW.PrintWords hiding blk_cell
attribute [local go_sem] Oper.semAt_some
end Go.Proofs.Ytjhgknagmiekeaa.V
set_option linter.unusedVariables false
set_option linter.unusedSimpArgs false
namespace Go.Proofs.Ytjhgknagmiekeaa.V
open Go.Proofs.Ytjhgknagmiekeaa.VOU (below_drewA)
open Go.RowKit Go.Lib Go.Proofs Go.Shelf
open Go.Proofs.Ytjhgknagmiekeaa.T Go.Proofs.Ytjhgknagmiekeaa.N Go.Proofs.Ytjhgknagmiekeaa.K
open Go.Proofs.YtjhgknagmiekeaaW.PrintWords hiding blk_cell
theorem ownT_row {β : Type} {B : Nat} (base : Nat) (e : TypeId) (size : Nat) (he : e ≠ 4) (v : Value) (n : Nat) (xs : List Value) : OwnT B (fun (_ : β) W => W.ownsRow base e size v n xs) := fun s X Y row hs hg hr => by
  refine own_move hs (fun k hk => ?_)
  obtain ⟨cs, hc⟩ := own_typed hs k hk
  refine hg.block k (Array.getElem?_eq_some_iff.1 hc).1 (fun e9 => ?_)
  obtain ⟨-, o, h1, h2⟩ := hr k e9.symm
  rw [hc] at h1
  cases h1
  rcases h2 with h2 | ⟨b, h2⟩
  · cases h2
  · injection h2 with _ h3 _
    exact he h3
theorem ownT_all {β γ : Type} {B : Nat} {p : γ → β → World → Prop} (h : ∀ g, OwnT B (p g)) : OwnT B (fun s W => ∃ g, p g s W) := fun s X Y row hs hg hr => by
  obtain ⟨g, hs⟩ := hs
  exact ⟨g, h g s X Y row hs hg hr⟩
theorem appendedF {W w1 : World} {n₁ B : Nat} {t e : TypeId} {size : Nat} {v v' : Value} {k m : Nat} {xs ys : List Value} {tmp : Obj}
    (hv : Boxed W B t v) (hrow : W.ownsRow n₁ e size v k xs) (hown' : w1.ownsRow n₁ e size v' m ys) (hgrow : (W.alloc tmp).grownBy w1 v.ownBlock) :
    ∀ j, j < W.heap.size → j ≠ B → some j ≠ v.ownBlock → (w1.setCell ⟨B, 0, none⟩ v').heap[j]? = W.heap[j]? := fun j hj hB ho => by
  rw [Below.heap_setCell _ _ _ j hB]
  exact (hgrow.block j (by rw [World.size_alloc]; omega) ho).trans (Below.heap_alloc _ _ _ hj)
theorem appendedU {W w1 : World} {n₁ B B' : Nat} {t e : TypeId} {size : Nat} {v v' : Value} {k m : Nat} {xs ys : List Value} {tmp : Obj} (he : ¬ Quiet e) (hB : B < B')
    (hv : Boxed W B t v) (hrow : W.ownsRow n₁ e size v k xs) (hown' : w1.ownsRow n₁ e size v' m ys) (hgrow : (W.alloc tmp).grownBy w1 v.ownBlock) : KeepsU B' W (w1.setCell ⟨B, 0, none⟩ v') := by
  refine ⟨?_, fun j o hj h hq => ?_⟩
  · have h1 := hgrow.size
    have h2 := (grownBy_setCell' w1 B v').size
    rw [World.size_alloc] at h1
    omega
  · refine (appendedF hv hrow hown' hgrow j (Array.getElem?_eq_some_iff.1 h).1 (by omega) (fun e9 => ?_)).trans h
    obtain ⟨cs', hc⟩ := own_typed hrow j e9.symm
    rw [hc] at h
    cases h
    rcases hq with hq | ⟨_, _, _, hq, hq2⟩
    · cases hq
    · injection hq with _ h3 _
      subst h3
      exact he hq2
theorem appendedT {W w1 : World} {n₁ B : Nat} {M : Nat → Prop} {t e : TypeId} {size : Nat} {v v' : Value} {k m : Nat} {xs ys : List Value} {tmp : Obj} (ht : ¬ Quiet t) (he : ¬ Quiet e) (hM : M B)
    (hv : Boxed W B t v) (hrow : W.ownsRow n₁ e size v k xs) (hown' : w1.ownsRow n₁ e size v' m ys) (hgrow : (W.alloc tmp).grownBy w1 v.ownBlock) : KpT n₁ M W (w1.setCell ⟨B, 0, none⟩ v') := by
  refine ⟨?_, fun j o hj h1 h2 => ?_, fun j cs t' fr hq hj => ?_⟩
  · have h1 := hgrow.size
    have h2 := (grownBy_setCell' w1 B v').size
    rw [World.size_alloc] at h1
    omega
  · refine (appendedF hv hrow hown' hgrow j (Array.getElem?_eq_some_iff.1 hj).1 (fun e9 => h2 (by rw [e9]; exact hM)) (fun e9 => ?_)).trans hj
    have := own_base hrow j e9.symm
    omega
  · refine (appendedF hv hrow hown' hgrow j (Array.getElem?_eq_some_iff.1 hj).1 (fun e9 => ?_) (fun e9 => ?_)).trans hj
    · subst e9
      rw [show W.heap[j]? = _ from hv] at hj
      cases hj
      exact ht hq
    · obtain ⟨cs', hc⟩ := own_typed hrow j e9.symm
      rw [hc] at hj
      cases hj
      exact he hq
theorem row_keep {w w' : World} {base : Nat} {e : TypeId} {size n : Nat} {v : Value} {xs : List Value} (h : w.ownsRow base e size v n xs) (hk : ∀ k, base ≤ k → k < w.heap.size → w'.heap[k]? = w.heap[k]?) : w'.ownsRow base e size v n xs :=
  own_move h (fun k e9 => hk k (own_base h k e9) (own_lt h k e9))
end Go.Proofs.Ytjhgknagmiekeaa.V
set_option linter.unusedVariables false
set_option linter.unusedSimpArgs false
namespace Go.Proofs.Ytjhgknagmiekeaa.V
open Go.RowKit Go.Lib Go.Proofs Go.Shelf
open Go.Proofs.Ytjhgknagmiekeaa.T Go.Proofs.Ytjhgknagmiekeaa.N Go.Proofs.Ytjhgknagmiekeaa.K
open Go.Proofs.YtjhgknagmiekeaaW.PrintWords hiding blk_cell
abbrev mk_ (D : Nat) : Deferred := { target := .collected D, args := #[] }
theorem leaves_marks {F : Fence} {n : Nat} {P : Program} {fn : Func} {tmps : Array Value} {R : Ending → World → Prop} {b : Nat} : ∀ (ds : List Nat) (W : World), b ≤ W.heap.size → (∀ D ∈ ds, W.heap[D]? = some (.deferred (some []))) → ds.Nodup → (∀ D ∈ ds, b ≤ D) →
    (∀ W', Below b W W' → LeavesIn F n P fn tmps R [] .returning W') → LeavesInM F n P fn tmps R (ds.map mk_) .returning W
  | [], W, hW, _, _, _, h => h W (Below.refl _ _)
  | D :: ds, W, hW, h1, h2, h3, h => by
    have hD := h1 D (by simp)
    have hb : Below b W (W.putObj D (.deferred none)) := (Below.refl b W).grown (grownBy_putObj' W D _) hW (fun k e => by cases e; exact h3 D (by simp))
    refine ⟨by simp, .inl ⟨D, _, rfl, run_takeDeferred hD, ?_⟩⟩
    refine leaves_marks ds _ (Nat.le_trans hW hb.size) (fun D' hD' => ?_) (List.nodup_cons.1 h2).2 (fun D' hD' => h3 D' (by simp [hD'])) (fun W' hW' => h W' (hb.trans hW'))
    have hne : D' ≠ D := fun e => (List.nodup_cons.1 h2).1 (by rw [← e]; exact hD')
    exact (World.putObj_heap_other hne).trans (h1 D' (by simp [hD']))
theorem cell_far {W : World} {b : Nat} {v : Value} {a : Addr} {u : Value} (hne : a.block ≠ b) (h : W.cell? a = some u) : (W.setCell ⟨b, 0, none⟩ v).cell? a = some u := (World.cell?_of_block (Below.heap_setCell _ _ _ _ hne)).trans h
theorem ownT_olds {β : Type} (W0 : World) (b : Nat) : OwnT W0.heap.size (fun (_ : β) W => ∀ k, k < W0.heap.size → k ≠ b → W.heap[k]? = W0.heap[k]?) := fun s X Y row hs hg hr k h1 h2 => by
  have h3 := hs k h1 h2
  have h4 : W0.heap[k]? = some W0.heap[k] := Array.getElem?_eq_getElem h1
  rw [h4] at h3 ⊢
  exact keep_old hg (fun r e => (hr r e).1) h1 h3
end Go.Proofs.Ytjhgknagmiekeaa.V
set_option linter.unusedVariables false
set_option linter.unusedSimpArgs false
namespace Go.Proofs.Ytjhgknagmiekeaa.N
open Go.RowKit Go.Proofs.Ytjhgknagmiekeaa.K Go.Proofs.YtjhgknagmiekeaaW.PrintWords Go.Proofs.YtjhgknagmiekeaaW.PrintLast
open Go.Proofs.Ytjhgknagmiekeaa.V (kpF kpU)
def PlAt (w : World) (v : Value) (idx : List Nat) : Prop := SlI w v (ints idx)
theorem PlAt.below {w w' : World} {v : Value} {idx : List Nat} (h : PlAt w v idx) (hb : Below w.heap.size w w') : PlAt w' v idx := SlI.below h hb
def GoAt (w : World) (v : Value) (l : List S35) : Prop := ∃ A c, v = .slice A l.length c ∧ l.length ≤ c ∧ Kd.C k35 w A l.length l
theorem GoAt.below {w w' : World} {v : Value} {l : List S35} (h : GoAt w v l) (hb : Below w.heap.size w w') : GoAt w' v l := by
  obtain ⟨A, c, h1, h2, h3⟩ := h
  exact ⟨A, c, h1, h2, Kd.C_below h3 hb⟩
end Go.Proofs.Ytjhgknagmiekeaa.N
-- Written by a program of this session (wip/tools/printfam.py) out of the translation; hand-proved contracts set in. Lean checks it.
namespace Go.Proofs.Ytjhgknagmiekeaa.B
open Go.RowKit Go.Proofs.YtjhgknagmiekeaaW.PrintWords Go.Proofs.YtjhgknagmiekeaaW.PrintLast Go.Proofs.YtjhgknagmiekeaaW.PrintMore
attribute [local go_sem] max2_int min2_int max_two min_two max_three min_three max_four min_four   -- for this text's walks alone
set_option linter.unusedVariables false
set_option linter.unusedSimpArgs false
def errW : Option Int → Value
  | none => .nilIface
  | some c => .iface 0 (.int .i64 c)
theorem errW_none : errW none = .nilIface := rfl
theorem errW_some (c : Int) : errW (some c) = .iface 0 (.int .i64 c) := rfl
theorem info3 : (Try.prog.info? 3).map (fun i => (i.zero, i.size, i.bytes)) = some (some (.int .i64 0), 1, 8) := by kernel_rfl
theorem info9 : (Try.prog.info? 9).map (fun i => (i.zero, i.size, i.bytes)) = some (some (.string ⟨#[]⟩), 1, 16) := by kernel_rfl
-- the values' own types
structure S35 where
  f0 : ByteArray
  f1 : Int
def z35 : S35 := ⟨(⟨#[]⟩ : ByteArray), (0 : Int)⟩
def k35 : Kd S35 := Kd.iso (Kd.pair Kd.string (Kd.int .i64)) (fun x : S35 => (x.f0, x.f1))
theorem k35_open {w : World} {x : S35} {cs : List Value} (h : k35.K w x cs) : cs = [.string x.f0, .int .i64 x.f1] := by
  obtain ⟨_, _, rfl, rfl, rfl⟩ := h
  exact rfl
theorem k35_mk (w : World) (x : S35)  : k35.K w x [.string x.f0, .int .i64 x.f1] := ⟨[.string x.f0], [.int .i64 x.f1], rfl, rfl, rfl⟩
def rd_T35 (xs : List S35) (i : Int) : S35 := xs.getD i.toNat z35
theorem at_T35 {w : World} {A : Option Addr} {n : Nat} {xs : List S35} (h : Kd.C k35 w A n xs) (i : Int) (h0 : 0 ≤ i) (h1 : i < n) : ∃ ad , A = some ad ∧ w.cell? (ad.add (i.toNat * 2)) = some (.string (rd_T35 xs i).f0) ∧ w.cell? ⟨(ad.add (i.toNat * 2)).block, (ad.add (i.toNat * 2)).off + 1, none⟩ = some (.int .i64 (rd_T35 xs i).f1) := by
  obtain ⟨ad, c, e, _, hK, hc0⟩ := Kd.C_get h z35 i h0 h1
  have hc : ∀ j u, c[j]? = some u → w.cell? (ad.add (i.toNat * 2 + j)) = some u := hc0
  obtain rfl := k35_open hK
  exact ⟨ad, e, hc 0 _ rfl, by rw [← add_field _ _ 1 (by omega)]; exact hc 1 _ rfl⟩
end Go.Proofs.Ytjhgknagmiekeaa.B
-- Written by a program of this session (wip/tools/printfam.py) out of the translation; hand-proved contracts set in. Lean checks it.
namespace Go.Proofs.Ytjhgknagmiekeaa.B
open Go.RowKit Go.Proofs.YtjhgknagmiekeaaW.PrintWords Go.Proofs.YtjhgknagmiekeaaW.PrintLast Go.Proofs.YtjhgknagmiekeaaW.PrintMore
attribute [local go_sem] max2_int min2_int max_two min_two max_three min_three max_four min_four   -- for this text's walks alone
set_option linter.unusedVariables false
set_option linter.unusedSimpArgs false
mutual
def musterref01_Less.l0 : Nat → ByteArray → ByteArray → Int → Option (Bool)
 | 0, _, _, _ => none
 | k + 1, x0, x1, x5 => if x5 < (x1.size : Int) then (if x5 ≥ (x0.size : Int) then (musterref01_Less.j1 k x0 x1 x5 true) else (if 0 ≤ x5 then (if x5 < (x0.size : Int) then (musterref01_Less.j1 k x0 x1 x5 (decide ((bt x0 x5) < (bt x1 x5)))) else (none)) else (none))) else (some false)
def musterref01_Less.j1 : Nat → ByteArray → ByteArray → Int → Bool → Option (Bool)
 | 0, _, _, _, _ => none
 | k + 1, x0, x1, x5, x24 => if x24 = true then (some true) else (if 0 ≤ x5 then (if x5 < (x0.size : Int) then (if x5 < (x1.size : Int) then (if (bt x0 x5) > (bt x1 x5) then (some false) else (musterref01_Less.l0 k x0 x1 (wrap64 (x5 + 1)))) else (none)) else (none)) else (none))
end
def musterref01_Less.f (k : Nat) (a0 : ByteArray) (a1 : ByteArray) : Option (Bool) := musterref01_Less.l0 k a0 a1 0
theorem musterref01_Less.mono_l : ∀ k, (∀ y0 y1 y2, LeO (musterref01_Less.l0 k y0 y1 y2) (musterref01_Less.l0 (k + 1) y0 y1 y2)) ∧ (∀ y0 y1 y2 y3, LeO (musterref01_Less.j1 k y0 y1 y2 y3) (musterref01_Less.j1 (k + 1) y0 y1 y2 y3))
 | 0 => ⟨fun _ _ _ r h => by simp [musterref01_Less.l0] at h, fun _ _ _ _ r h => by simp [musterref01_Less.j1] at h⟩
 | k + 1 => by
  obtain ⟨ih0, ih1⟩ := musterref01_Less.mono_l k
  refine ⟨?_, ?_⟩
  ·intro y0 y1 y2
   unfold musterref01_Less.l0
   repeat' first
   | (with_reducible exact ih0 _ _ _)
   | (with_reducible exact ih1 _ _ _ _)
   | (with_reducible exact LeO.refl _)
   | (with_reducible exact LeO.none _)
   | (with_reducible refine LeO.ite ?_ ?_)
   | (with_reducible refine LeO.bind ?_ (fun _ => ?_))
   | exact ih0 _ _ _
   | exact ih1 _ _ _ _
   | exact LeO.none _
   | refine LeO.ite ?_ ?_
   | refine LeO.bind ?_ (fun _ => ?_)
  ·intro y0 y1 y2 y3
   unfold musterref01_Less.j1
   repeat' first
   | (with_reducible exact ih0 _ _ _)
   | (with_reducible exact ih1 _ _ _ _)
   | (with_reducible exact LeO.refl _)
   | (with_reducible exact LeO.none _)
   | (with_reducible refine LeO.ite ?_ ?_)
   | (with_reducible refine LeO.bind ?_ (fun _ => ?_))
   | exact ih0 _ _ _
   | exact ih1 _ _ _ _
   | exact LeO.none _
   | refine LeO.ite ?_ ?_
   | refine LeO.bind ?_ (fun _ => ?_)
theorem musterref01_Less.mono : ∀ a0 a1 k, LeO (musterref01_Less.f k a0 a1) (musterref01_Less.f (k + 1) a0 a1) := by
 intro a0 a1 k
 obtain ⟨ih0, ih1⟩ := musterref01_Less.mono_l k
 unfold musterref01_Less.f
 repeat' first
   | (with_reducible exact ih0 _ _ _)
   | (with_reducible exact ih1 _ _ _ _)
   | (with_reducible exact LeO.refl _)
   | (with_reducible exact LeO.none _)
   | (with_reducible refine LeO.ite ?_ ?_)
   | (with_reducible refine LeO.bind ?_ (fun _ => ?_))
   | exact ih0 _ _ _
   | exact ih1 _ _ _ _
   | exact LeO.none _
   | refine LeO.ite ?_ ?_
   | refine LeO.bind ?_ (fun _ => ?_)
set_option maxHeartbeats 8000000 in
set_option maxRecDepth 100000 in
theorem musterref01_Less.calls (k : Nat) (a0 : ByteArray) (a1 : ByteArray) (r : Bool) (w : World) (h : musterref01_Less.f k a0 a1 = some r) :
  Calls Try.prog 80 #[.string a0, .string a1] w fun e w' => e = .returned (.bool r) ∧ Drawn0 w w' := by
 have H : (musterref01_Less.l0 k a0 a1 0) = some r := h
 clear h
 have H' := Aside0.mk H
 clear H
 go_enter Try.func80, Try.ntmps80
 go_wp2
 repeat (go_quiet (fail); try go_wp2)
 go_loopg [5] k (fun kq v5 w' => ∃ (x5_1 : Int), v5 = .int .i64 x5_1 ∧ Aside0 (musterref01_Less.l0 kq a0 a1 x5_1 = some r) ∧ Aside0 (kq ≤ k) ∧ Drawn0 w w')
 case atStart => exact ⟨(0), (by first | rfl | (simp; done) | (simp [*]; done)), H', ⟨Nat.le_refl _⟩, by repeat (first | exact Drawn0.refl _ | apply Drawn0.step)⟩
 case round =>
  clear H'
  try clear p2
  obtain ⟨x5_1, rfl, HA, HK1, ⟨m1, rfl⟩⟩ := hrel
  cases gk with
  | zero => exact absurd HA.out (by simp [musterref01_Less.l0])
  | succ k1 =>
   have H := HA.out
   clear HA
   simp only [musterref01_Less.l0] at H
   by_cases c3 : x5_1 < (a1.size : Int)
   ·rw [if_pos c3] at H
    have c3b0 : decide (x5_1 < (a1.size : Int)) = true := decide_eq_true c3
    clear c3
    have HC4 := Aside0.mk H
    clear H
    go_upto_region 4 with (fail)
    repeat (go_quiet (fail); go_upto_region 4 with (fail))
    go_cut [24] (fun v24 wc => ∃ (kq : Nat) (x24_3 : Bool), v24 = .bool x24_3 ∧ Aside0 (musterref01_Less.j1 kq a0 a1 x5_1 x24_3 = some r) ∧ Aside0 (kq ≤ k1) ∧ Drawn0 w wc)
    case first =>
     have H := HC4.out
     clear HC4
     by_cases c5 : x5_1 ≥ (a0.size : Int)
     ·rw [if_pos c5] at H
      have c5b0 : decide ((a0.size : Int) ≤ x5_1) = true := decide_eq_true c5
      clear c5
      (first | rw [c5b0] | (simp only [i64_w, i32_w]; rw [c5b0]) | skip)
      have H' := Aside0.mk H
      clear H
      go_wp2
      repeat (go_quiet (fail); try go_wp2)
      go_meet
      case rel => exact ⟨_, (true), (by first | rfl | (simp; done) | (simp [*]; done)), H', ⟨by have := HK1.out; first | omega | exact Nat.le_refl _⟩, by repeat (first | exact Drawn0.refl _ | apply Drawn0.step)⟩
     ·rw [if_neg c5] at H
      have c5b0 : decide ((a0.size : Int) ≤ x5_1) = false := decide_eq_false c5
      clear c5
      (first | rw [c5b0] | (simp only [i64_w, i32_w]; rw [c5b0]) | skip)
      by_cases c6 : 0 ≤ x5_1
      ·rw [if_pos c6] at H
       have c6b0 : decide (0 ≤ x5_1) = true := decide_eq_true c6
       clear c6
       by_cases c7 : x5_1 < (a0.size : Int)
       ·rw [if_pos c7] at H
        have c7b0 : decide (x5_1 < (a0.size : Int)) = true := decide_eq_true c7
        clear c7
        have H' := Aside0.mk H
        clear H
        have p8 : 0 ≤ (x5_1 : Int) := of_decide_eq_true (by first | (with_reducible assumption) | assumption)
        have q8 : x5_1 < (a0.size : Int) := of_decide_eq_true (by first | (with_reducible assumption) | assumption)
        have hx8 := bt_at a0 x5_1
        replace p8 := eq_true p8
        replace q8 := eq_true q8
        have p9 : 0 ≤ (x5_1 : Int) := of_decide_eq_true (by first | (with_reducible assumption) | assumption)
        have q9 : x5_1 < (a1.size : Int) := of_decide_eq_true (by first | (with_reducible assumption) | assumption)
        have hx9 := bt_at a1 x5_1
        replace p9 := eq_true p9
        replace q9 := eq_true q9
        go_wp2
        repeat (go_quiet (fail); try go_wp2)
        go_meet
        case rel => exact ⟨_, (decide ((bt a0 x5_1) < (bt a1 x5_1))), (by first | rfl | (simp; done) | (simp [*]; done)), H', ⟨by have := HK1.out; first | omega | exact Nat.le_refl _⟩, by repeat (first | exact Drawn0.refl _ | apply Drawn0.step)⟩
       ·rw [if_neg c7] at H
        exact absurd H (by simp)
      ·rw [if_neg c6] at H
       exact absurd H (by simp)
    case rest =>
     clear HC4
     try clear p2
     try clear c3
     try clear c3b0
     try clear c5
     try clear c5b0
     try clear c6
     try clear c6b0
     try clear c7
     try clear c7b0
     try clear c8
     try clear p8
     try clear q8
     try clear hx8
     try clear p9
     try clear q9
     try clear hx9
     try clear p2
     try clear p8
     try clear p9
     try clear q8
     try clear q9
     obtain ⟨kq, x24_3, rfl, HA, HJ3, ⟨mc3, rfl⟩⟩ := hcut
     cases kq with
     | zero => exact absurd HA.out (by simp [musterref01_Less.j1])
     | succ kj3 =>
      have H := HA.out
      clear HA
      simp only [musterref01_Less.j1] at H
      by_cases c10 : x24_3 = true
      ·subst c10
       have H1 : (some true) = some r := by rw [if_pos rfl] at H; exact H
       clear H
       have H := H1
       clear H1
       obtain rfl := Option.some.inj H
       go_wp2
       repeat (go_quiet (fail); try go_wp2)
       go_ret
       exact ⟨by first | rfl | (simp; done) | (simp [*]; done), by repeat (first | exact Drawn0.refl _ | apply Drawn0.step)⟩
      ·replace c10 := Bool.eq_false_iff.mpr c10
       subst c10
       have H1 : (if 0 ≤ x5_1 then (if x5_1 < (a0.size : Int) then (if x5_1 < (a1.size : Int) then (if (bt a0 x5_1) > (bt a1 x5_1) then (some false) else (musterref01_Less.l0 kj3 a0 a1 (wrap64 (x5_1 + 1)))) else (none)) else (none)) else (none)) = some r := by rw [if_neg (show ¬ (false = true) by decide)] at H; exact H
       clear H
       have H := H1
       clear H1
       by_cases c11 : 0 ≤ x5_1
       ·rw [if_pos c11] at H
        have c11b0 : decide (0 ≤ x5_1) = true := decide_eq_true c11
        clear c11
        by_cases c12 : x5_1 < (a0.size : Int)
        ·rw [if_pos c12] at H
         have c12b0 : decide (x5_1 < (a0.size : Int)) = true := decide_eq_true c12
         clear c12
         by_cases c14 : x5_1 < (a1.size : Int)
         ·rw [if_pos c14] at H
          have c14b0 : decide (x5_1 < (a1.size : Int)) = true := decide_eq_true c14
          clear c14
          by_cases c16 : (bt a0 x5_1) > (bt a1 x5_1)
          ·rw [if_pos c16] at H
           have c16b0 : decide ((bt a1 x5_1) < (bt a0 x5_1)) = true := decide_eq_true c16
           clear c16
           obtain rfl := Option.some.inj H
           have p13 : 0 ≤ (x5_1 : Int) := of_decide_eq_true (by first | (with_reducible assumption) | assumption)
           have q13 : x5_1 < (a0.size : Int) := of_decide_eq_true (by first | (with_reducible assumption) | assumption)
           have hx13 := bt_at a0 x5_1
           replace p13 := eq_true p13
           replace q13 := eq_true q13
           have p15 : 0 ≤ (x5_1 : Int) := of_decide_eq_true (by first | (with_reducible assumption) | assumption)
           have q15 : x5_1 < (a1.size : Int) := of_decide_eq_true (by first | (with_reducible assumption) | assumption)
           have hx15 := bt_at a1 x5_1
           replace p15 := eq_true p15
           replace q15 := eq_true q15
           go_wp2
           repeat (go_quiet (fail); try go_wp2)
           go_ret
           exact ⟨by first | rfl | (simp; done) | (simp [*]; done), by repeat (first | exact Drawn0.refl _ | apply Drawn0.step)⟩
          ·rw [if_neg c16] at H
           have c16b0 : decide ((bt a1 x5_1) < (bt a0 x5_1)) = false := decide_eq_false c16
           clear c16
           have H' := Aside0.mk H
           clear H
           have p13 : 0 ≤ (x5_1 : Int) := of_decide_eq_true (by first | (with_reducible assumption) | assumption)
           have q13 : x5_1 < (a0.size : Int) := of_decide_eq_true (by first | (with_reducible assumption) | assumption)
           have hx13 := bt_at a0 x5_1
           replace p13 := eq_true p13
           replace q13 := eq_true q13
           have p15 : 0 ≤ (x5_1 : Int) := of_decide_eq_true (by first | (with_reducible assumption) | assumption)
           have q15 : x5_1 < (a1.size : Int) := of_decide_eq_true (by first | (with_reducible assumption) | assumption)
           have hx15 := bt_at a1 x5_1
           replace p15 := eq_true p15
           replace q15 := eq_true q15
           go_wp2
           repeat (go_quiet (fail); try go_wp2)
           go_roundg kj3
           case measure => have := HK1.out; have := HJ3.out; omega
           case rel => exact ⟨(wrap64 (x5_1 + 1)), (by first | rfl | (simp; done) | (simp [*]; done)), H', ⟨by have := HK1.out; have := HJ3.out; omega⟩, by repeat (first | exact Drawn0.refl _ | apply Drawn0.step)⟩
         ·rw [if_neg c14] at H
          exact absurd H (by simp)
        ·rw [if_neg c12] at H
         exact absurd H (by simp)
       ·rw [if_neg c11] at H
        exact absurd H (by simp)
   ·rw [if_neg c3] at H
    have c3b0 : decide (x5_1 < (a1.size : Int)) = false := decide_eq_false c3
    clear c3
    obtain rfl := Option.some.inj H
    go_wp2
    repeat (go_quiet (fail); try go_wp2)
    go_ret
    exact ⟨by first | rfl | (simp; done) | (simp [*]; done), by repeat (first | exact Drawn0.refl _ | apply Drawn0.step)⟩
end Go.Proofs.Ytjhgknagmiekeaa.B
-- Written by a program of this session (wip/tools/printfam.py) out of the translation; hand-proved contracts set in. Lean checks it.
namespace Go.Proofs.Ytjhgknagmiekeaa.B
open Go.RowKit Go.Proofs.YtjhgknagmiekeaaW.PrintWords Go.Proofs.YtjhgknagmiekeaaW.PrintLast Go.Proofs.YtjhgknagmiekeaaW.PrintMore
attribute [local go_sem] max2_int min2_int max_two min_two max_three min_three max_four min_four   -- for this text's walks alone
set_option linter.unusedVariables false
set_option linter.unusedSimpArgs false
end Go.Proofs.Ytjhgknagmiekeaa.B
set_option linter.unusedVariables false
set_option linter.unusedSimpArgs false
namespace Go.Proofs.Ytjhgknagmiekeaa.VOF
open Go.RowKit Go.Lib Go.Proofs Go.Proofs.YtjhgknagmiekeaaW.PrintWords Go.Proofs.Ytjhgknagmiekeaa.T Go.Proofs.Ytjhgknagmiekeaa.V
attribute [local go_sem] Oper.semAt_some
def Post (n₁ : Nat) (M : Nat → Prop) (J Jx : List (ByteArray × Int) → World → Prop) (pre xs : List (ByteArray × Int)) (W : World) (e : Ending) (W' : World) : Prop :=
  (e = .returned (.bool true) ∧ J (pre ++ xs) W' ∧ KpM n₁ M W W') ∨ (e = .returned (.bool false) ∧ ∃ q, q <+: xs ∧ Jx (pre ++ q) W')
set_option maxRecDepth 100000 in
set_option maxHeartbeats 4000000 in
theorem skip_in (bp : Nat) (l n₁ : Nat) (M : Nat → Prop) (J Jx : List (ByteArray × Int) → World → Prop) (hJ : Abd J) (wI : World) (sk kp : ByteArray → Bool)
    (hsk : ∀ q W, Stnd wI n₁ M W → Calls Try.prog 78 #[.string q, .pointer (some ⟨bp, 0, none⟩)] W fun e W' => e = .returned (.bool (sk q)) ∧ Below W.heap.size W W') (m : Nat) (n : Nd) (p : ByteArray) (pre : List (ByteArray × Int)) (W : World)
    (hst : Stnd wI n₁ M W) (hJ0 : J pre W) (hs : sk p = true) :
    CallsIn Fence.wide m Try.prog 118 #[nodeV n.b p, .func (.func 78) #[] #[.pointer (some ⟨bp, 0, none⟩)], .func (.func 79) #[] #[.pointer (some ⟨bp, 0, none⟩)], .func (.yield l) #[] #[]] W (Post n₁ M J Jx pre (ovr sk kp p n) W) := by
  have hdd : ∀ k : Nat, (Fence.wide.depth.isSome = true → 1 ≤ k) := fun k h => by cases h
  have HB0 := Aside0.mk ((Below.refl W.heap.size W).alloc (Nat.le_refl _) (.cells #[.pointer (some ⟨n.b, 0, none⟩), .string p] 60))
  have q1 := Aside0.mk (fun W1 => pathC W1 n.b p)
  have HK := Aside0.mk (fun W1 (h : Below W.heap.size W W1) => hsk p W1 (hst.kp (KpM.of h)))
  rw [hs] at HK
  have e0 : ovr sk kp p n = [] := by rw [ovr_eq, hs]; rfl
  rw [e0]
  have HJ := Aside0.mk (And.intro hJ hJ0)
  clear hJ hst hJ0 hs e0 hsk
  unfold nodeV ptr at q1 ⊢
  refine callsIn_of_wp Try.func118 rfl trivial ?_ rfl
  simp only [Try.ntmps118, List.size_toArray, List.length_cons, List.length_nil, Nat.reduceAdd, Nat.reduceSub, Array.replicate_succ, Array.replicate_zero, List.push_toArray, List.append_toArray, List.nil_append, List.cons_append]
  gi_wp2_with (refine ⟨trivial, hdd _, ?_⟩; gi_at_call 94; refine (callsIn_wide.2 (q1.out _)).mono ?_)
  rintro e W1 ⟨rfl, B1⟩
  have HB1 := Aside0.mk (belowAt HB0.out B1)
  have q2 := Aside0.mk (HK.out W1 HB1.out)
  clear B1 q1 HK
  gi_wp2_with (refine ⟨trivial, hdd _, ?_⟩; gi_at_call 78; refine (callsIn_wide.2 q2.out).mono ?_)
  rintro e W2 ⟨rfl, B2⟩
  have HB2 := Aside0.mk (belowAt HB1.out B2)
  clear B2 q2
  gi_wp2
  go_ret
  exact .inl ⟨rfl, by rw [List.append_nil]; exact abide HJ.out.1 HJ.out.2 HB2.out, KpM.of HB2.out⟩
end Go.Proofs.Ytjhgknagmiekeaa.VOF
set_option linter.unusedVariables false
set_option linter.unusedSimpArgs false
namespace Go.Proofs.Ytjhgknagmiekeaa.VOF
open Go.RowKit Go.Lib Go.Proofs Go.Proofs.Ytjhgknagmiekeaa.T Go.Proofs.Ytjhgknagmiekeaa.V
open Go.Proofs.YtjhgknagmiekeaaW.PrintWords hiding blk_cell
attribute [local go_sem] Oper.semAt_some
theorem skip94 {K : Prop} (h : K) : Fence.wide.fn 94 ∧ K := ⟨trivial, h⟩
theorem ok_pre {OK : List (ByteArray × Int) → Prop} (hcl : ∀ a b, OK (a ++ b) → OK a) {a b : List (ByteArray × Int)} (h : OK b) (hp : a <+: b) : OK a := by
  obtain ⟨t, rfl⟩ := hp
  exact hcl _ _ h
theorem rowForm {w : World} {base n : Nat} {v : Value} {ps : List Value} (h : w.ownsRow base 60 2 v n ps) : ∃ A c, v = .slice A n c ∧ True := by
  rcases h.2 with ⟨rfl, rfl⟩ | ⟨g, cap, cur, rfl, _⟩
  · exact ⟨none, 0, rfl, trivial⟩
  · exact ⟨_, _, rfl, trivial⟩
theorem ownsNode {w : World} {base n : Nat} {A : Option Addr} {c : Nat} {ps : List Value} (h : w.ownsRow base 60 2 (.slice A n c) n ps) (hn : 0 < n) : ∃ g cap cur, (A = some ⟨g, 0, none⟩ ∧ c = cap) ∧ base ≤ g ∧ w.heap[g]? = some (.cells cur 60 (0, 0)) ∧ ∀ j, j < n * 2 → cur[j]? = ps[j]? := by
  rcases h.2 with ⟨_, h0⟩ | ⟨g, cap, cur, e, hb, hg, hnc, hcm, hcs, ht⟩
  · omega
  · injection e with e1 _ e3
    refine ⟨g, cap, cur, ⟨e1, e3⟩, hb, hg, fun j hj => ?_⟩
    have e := List.getElem?_take_of_lt (l := cur.toList) hj
    rw [ht] at e
    rw [← Array.getElem?_toList]
    exact e.symm
theorem ownsRow_kp {w w' : World} {n₁ : Nat} {M : Nat → Prop} {base n : Nat} {v : Value} {ps : List Value} (h : w.ownsRow base 60 2 v n ps) (k : KpM n₁ M w w') : w'.ownsRow base 60 2 v n ps := by
  refine ⟨h.1, ?_⟩
  rcases h.2 with h0 | ⟨g, cap, cur, rfl, hb, hg, rest⟩
  · exact .inl h0
  · exact .inr ⟨g, cap, cur, rfl, hb, k.node g cur _ hg, rest⟩
set_option maxRecDepth 100000 in
set_option maxHeartbeats 8000000 in
theorem deep_in (bp : Nat) (l n₁ : Nat) (OK : List (ByteArray × Int) → Prop) (hcl : ∀ a b, OK (a ++ b) → OK a) (M : Nat → Prop) (J Jx : List (ByteArray × Int) → World → Prop) (hJ : Abd J)
    (hY : ∀ m pre (x : ByteArray × Int) W, J pre W → OK (pre ++ [x]) → YieldAt Fence.wide m Try.prog l #[.string x.1, .int .i64 x.2] W fun e W' => (e = .returned (.bool true) ∧ J (pre ++ [x]) W' ∧ KpM n₁ M W W') ∨ (e = .returned (.bool false) ∧ Jx (pre ++ [x]) W'))
    (wI wB : World) (hkB : Kept wB wI) (hnB : wB.heap.size ≤ n₁) (hM : ∀ k, k < wB.heap.size → ¬ M k) (sk kp : ByteArray → Bool)
    (hsk : ∀ q W, Stnd wI n₁ M W → Calls Try.prog 78 #[.string q, .pointer (some ⟨bp, 0, none⟩)] W fun e W' => e = .returned (.bool (sk q)) ∧ Below W.heap.size W W')
    (hkp : ∀ q W, Stnd wI n₁ M W → Calls Try.prog 79 #[.string q, .pointer (some ⟨bp, 0, none⟩)] W fun e W' => e = .returned (.bool (kp q)) ∧ Below W.heap.size W W') (m : Nat) (n : Nd) (p : ByteArray) (pre : List (ByteArray × Int)) (W : World)
    (hn : NdAt wB n) (ho : Ok n) (hv : ∀ l, n.leaf = some l → ∃ v, l.val = .int .i64 v) (hp : ∀ k ∈ n.kids, p.size + k.label.size < 9000000000000000000)
    (hst : Stnd wI n₁ M W) (hnW : n₁ ≤ W.heap.size) (hJ0 : J pre W) (hN : OK (pre ++ ovr sk kp p n)) (hs : sk p = false)
    (IH : ∀ i (hi : i < n.kids.length) pre' W', Stnd wI n₁ M W' → n₁ ≤ W'.heap.size → J pre' W' → OK (pre' ++ ovr sk kp (p ++ n.kids[i].label) n.kids[i]) →
      CallsIn Fence.wide (m - 1) Try.prog 118 #[nodeV n.kids[i].b (p ++ n.kids[i].label), .func (.func 78) #[] #[.pointer (some ⟨bp, 0, none⟩)], .func (.func 79) #[] #[.pointer (some ⟨bp, 0, none⟩)], .func (.yield l) #[] #[]] W' (Post n₁ M J Jx pre' (ovr sk kp (p ++ n.kids[i].label) n.kids[i]) W')) :
    CallsIn Fence.wide m Try.prog 118 #[nodeV n.b p, .func (.func 78) #[] #[.pointer (some ⟨bp, 0, none⟩)], .func (.func 79) #[] #[.pointer (some ⟨bp, 0, none⟩)], .func (.yield l) #[] #[]] W (Post n₁ M J Jx pre (ovr sk kp p n) W) := by
  have hdd : ∀ k : Nat, (Fence.wide.depth.isSome = true → 1 ≤ k) := fun k h => by cases h
  have HB0 := Aside0.mk ((Below.refl W.heap.size W).alloc (Nat.le_refl _) (.cells #[.pointer (some ⟨n.b, 0, none⟩), .string p] 60))
  have hx0 := heap_alloc_new W (.cells #[.pointer (some ⟨n.b, 0, none⟩), .string p] 60)
  have q1 := Aside0.mk (fun W1 => pathC W1 n.b p)
  have qs := Aside0.mk (fun W1 (h : Stnd wI n₁ M W1) => hsk p W1 h)
  rw [hs] at qs
  have qp := Aside0.mk (fun W1 (h : Stnd wI n₁ M W1) => hkp p W1 h)
  have HkB := Aside0.mk (And.intro hkB (And.intro hnB hM))
  have HN := Aside0.mk (And.intro hn (And.intro ho (And.intro hp hv)))
  have HS0 := Aside0.mk hst
  have HnW := Aside0.mk hnW
  have HJa := Aside0.mk hJ
  have HJ0 := Aside0.mk hJ0
  have HY := Aside0.mk hY
  have HNN := Aside0.mk hN
  have HCL := Aside0.mk hcl
  clear hcl
  have HSk := Aside0.mk hs
  have HIH := Aside0.mk IH
  have hfew := ho.few
  obtain ⟨len, elen⟩ : ∃ len, n.kids.length = len := ⟨_, rfl⟩
  have HLen := Aside0.mk elen
  have hl256 : len ≤ 256 := by omega
  have HX0 := Aside0.mk hx0
  have HStd := Aside0.mk (fun W1 (h : Below W.heap.size W W1) => hst.kp (KpM.of h))
  have hbox : ∀ W1, Below (W.alloc (.cells #[.pointer (some ⟨n.b, 0, none⟩), .string p] 60)).heap.size (W.alloc (.cells #[.pointer (some ⟨n.b, 0, none⟩), .string p] 60)) W1 → W1.heap[W.heap.size]? = some (.cells #[.pointer (some ⟨n.b, 0, none⟩), .string p] 60 (0, 0)) := fun W1 h => (Kept.of h).at hx0
  have HBox := Aside0.mk hbox
  clear hkB hnB hM hn ho hp hv hst hnW hJ hJ0 hY hN hs IH hfew elen hx0 hbox hsk hkp
  unfold nodeV ptr at q1 ⊢
  refine callsIn_of_wp Try.func118 rfl trivial ?_ rfl
  simp only [Try.ntmps118, List.size_toArray, List.length_cons, List.length_nil, Nat.reduceAdd, Nat.reduceSub, Array.replicate_succ, Array.replicate_zero, List.push_toArray, List.append_toArray, List.nil_append, List.cons_append]
  gi_wp2_with (refine ⟨trivial, hdd _, ?_⟩; gi_at_call 94; refine (callsIn_wide.2 (q1.out _)).mono ?_)
  rintro e W1 ⟨rfl, B1⟩
  have HA1 := Aside0.mk B1
  have q2 := Aside0.mk (qs.out W1 (HStd.out W1 (belowAt HB0.out B1)))
  clear B1 qs
  gi_wp2_with (refine ⟨trivial, hdd _, ?_⟩; gi_at_call 78; refine (callsIn_wide.2 q2.out).mono ?_)
  rintro e W2 ⟨rfl, B2⟩
  have HA2 := Aside0.mk (belowAt HA1.out B2)
  have hb2 := HBox.out W2 HA2.out
  have b20 : W2.cell? ⟨W.heap.size, 0, none⟩ = some (.pointer (some ⟨n.b, 0, none⟩)) := by rw [blk_cell hb2]; rfl
  have b21 : W2.cell? ⟨W.heap.size, 1, none⟩ = some (.string p) := by rw [blk_cell hb2]; rfl
  have HS2 := Aside0.mk (HStd.out W2 (belowAt HB0.out HA2.out))
  have q3 := Aside0.mk (valueC W2 n p (NdAt.keep (HS2.out.kept HkB.out.1 HkB.out.2.1 HkB.out.2.2) n HN.out.1))
  clear B2 q2 hb2 HA1
  cases hlf : n.leaf with
  | none =>
    rw [hlf] at q3
    have HLf := Aside0.mk hlf
    unfold lookV nodeV ptr at q3
    clear hlf
    gi_wp2_with (refine ⟨trivial, hdd _, ?_⟩; gi_at_call 93; refine (callsIn_wide.2 q3.out).mono ?_)
    rintro e W3 ⟨rfl, B3⟩
    have HA3 := Aside0.mk (belowAt HA2.out B3)
    have hb3 := HBox.out W3 HA3.out
    have b30 : W3.cell? ⟨W.heap.size, 0, none⟩ = some (.pointer (some ⟨n.b, 0, none⟩)) := by rw [blk_cell hb3]; rfl
    have b31 : W3.cell? ⟨W.heap.size, 1, none⟩ = some (.string p) := by rw [blk_cell hb3]; rfl
    clear B3 q3 hb3 b20 b21
    gi_wp2
    repeat (first | (refine ⟨fun _ h => (by cases h), ?_⟩; gi_wp2) | ((with_reducible refine skip94 ?_); gi_wp2))
    have HSt := Aside0.mk (HStd.out W3 (belowAt HB0.out HA3.out))
    have HKp := Aside0.mk (KpM.of (n₁ := n₁) (M := M) (belowAt HB0.out HA3.out))
    have HJc : Aside0 (J (pre ++ ownE kp p n.leaf) W3) := ⟨by rw [HLf.out]; show J (pre ++ []) W3; rw [List.append_nil]; exact abide HJa.out HJ0.out (belowAt HB0.out HA3.out)⟩
    have HK := Aside0.mk (HSt.out.kept HkB.out.1 HkB.out.2.1 HkB.out.2.2)
    have qk := Aside0.mk (kidsO W3 n p (NdAt.keep HK.out n HN.out.1) HN.out.2.1 HN.out.2.2.1)
    unfold nodeV ptr at qk
    gi_wp2_with (refine ⟨trivial, hdd _, ?_⟩; gi_at_call 95; refine (callsIn_wide.2 qk.out).mono ?_)
    rintro e Wd ⟨v, rfl, ho, Bd⟩
    obtain ⟨A, c, ev, hrow⟩ := rowForm ho
    rw [HLen.out] at ho ev
    subst ev
    have HRow := Aside0.mk ho
    have HSd := Aside0.mk (HSt.out.kp (KpM.of Bd))
    have HKd := Aside0.mk (HKp.out.trans (KpM.of Bd))
    have HJd := Aside0.mk (abide HJa.out HJc.out Bd)
    have HWd := Aside0.mk (Nat.le_trans HnW.out (HKp.out.trans (KpM.of Bd)).size)
    clear ho hrow Bd qk HK HSt HKp HJc
    gi_wp2
    gi_loopw [12, 40] (fun v12 v40 wr => ∃ j : Nat, v40 = .int .i64 (j : Int) ∧ Aside0 (j ≤ len) ∧ Aside0 (J (pre ++ (ownE kp p n.leaf ++ ovrs sk kp p (n.kids.take j))) wr) ∧ Aside0 (Stnd wI n₁ M wr) ∧ Aside0 (KpM n₁ M W wr) ∧ Aside0 (wr.ownsRow (W3.heap.size + 1) 60 2 (.slice A len c) len (flatK p n.kids)))
      (fun v12 v40 wr => len - (RowKit.intOf v40).toNat)
    case atStart => exact ⟨0, rfl, ⟨Nat.zero_le _⟩, ⟨by simpa [ovrs] using HJd.out⟩, HSd, HKd, HRow⟩
    case round =>
      obtain ⟨j, rfl, HI, HJr, HSr, HKr, HRr⟩ := hrel
      by_cases hlt : j < len
      · have hj' : j < n.kids.length := by rw [HLen.out]; exact hlt
        obtain ⟨g, cap, cur, eg, hgb, hgg, hgc⟩ := ownsNode HRr.out (by omega)
        obtain ⟨rfl, rfl⟩ := eg
        have hf := flatK_get p n.kids j hj'
        have hn2 : j * 2 + 1 < len * 2 := by omega
        have c0 : wr.cell? ⟨g, j * 2, none⟩ = some (.pointer (some ⟨n.kids[j].b, 0, none⟩)) := by rw [blk_cell hgg, hgc (j * 2) (by omega), hf.1]; rfl
        have c1 : wr.cell? ⟨g, j * 2 + 1, none⟩ = some (.string (p ++ n.kids[j].label)) := by rw [blk_cell hgg, hgc (j * 2 + 1) hn2, hf.2]
        have hB2 := (Below.refl wr.heap.size wr).alloc (Nat.le_refl _) (.cells #[.pointer (some ⟨n.kids[j].b, 0, none⟩), .string (p ++ n.kids[j].label)] 60)
        have HB2 := Aside0.mk hB2
        have epre : ovr sk kp p n = ownE kp p n.leaf ++ ovrs sk kp p n.kids := by rw [ovr_eq, HSk.out]; rfl
        have hpt := ovrs_take sk kp p n.kids j hj'
        have hpp := ovrs_pre sk kp p n.kids (j + 1)
        have hNN : OK ((pre ++ (ownE kp p n.leaf ++ ovrs sk kp p (n.kids.take j))) ++ ovr sk kp (p ++ n.kids[j].label) n.kids[j]) := by
          have h1 := HNN.out
          rw [epre] at h1
          refine ok_pre HCL.out h1 ?_
          rw [List.append_assoc, List.append_assoc]
          refine (List.prefix_append_right_inj _).2 ((List.prefix_append_right_inj _).2 ?_)
          rw [← hpt]
          exact hpp
        have q9 := Aside0.mk (HIH.out j hj' _ _ (HSr.out.kp (KpM.of hB2)) (Nat.le_trans (Nat.le_trans HnW.out HKr.out.size) hB2.size) (abide HJa.out HJr.out hB2) hNN)
        have HPT := Aside0.mk (And.intro epre (And.intro hpt hpp))
        obtain ⟨kb, ekb⟩ : ∃ kb, n.kids[j].b = kb := ⟨_, rfl⟩
        obtain ⟨kp2, ekp⟩ : ∃ kp2, p ++ n.kids[j].label = kp2 := ⟨_, rfl⟩
        have HOv := Aside0.mk (show ovr sk kp (p ++ n.kids[j].label) n.kids[j] = ovr sk kp kp2 n.kids[j] by rw [ekp])
        rw [ekb, ekp] at q9 HB2
        rw [ekb] at c0
        rw [ekp] at c1
        have hltI : (j : Int) < (len : Int) := by omega
        have ew : wrap64 ((j : Int) + 1) = (j : Int) + 1 := by unfold wrap64; omega
        clear hf hn2 hgb hgg hgc hB2 epre hpt hpp hNN ekb ekp
        unfold nodeV ptr at q9
        gi_wp2_with (refine ⟨trivial, hdd _, ?_⟩; gi_at_call 118; refine q9.out.mono ?_)
        rintro e Wz (⟨rfl, hjz, hkz⟩ | ⟨rfl, q, hq, hxz⟩)
        · have HZ := Aside0.mk (And.intro hjz hkz)
          clear hjz hkz q9
          gi_wp2
          go_roundw
          case rel =>
            have hk2 := (KpM.of HB2.out).trans HZ.out.2
            refine ⟨j + 1, by simp, ⟨hlt⟩, ⟨?_⟩, ⟨HSr.out.kp hk2⟩, ⟨HKr.out.trans hk2⟩, ⟨ownsRow_kp HRr.out hk2⟩⟩
            have h1 := HZ.out.1
            rw [List.append_assoc, List.append_assoc, ← HOv.out, ← HPT.out.2.1] at h1
            exact h1
          case measure => simp [RowKit.intOf]; (try rw [ew]); omega
        · have HZ := Aside0.mk (And.intro hq hxz)
          clear hq hxz q9
          gi_wp2
          go_ret
          refine .inr ⟨rfl, ownE kp p n.leaf ++ ovrs sk kp p (n.kids.take j) ++ q, ?_, ?_⟩
          · rw [HPT.out.1, List.append_assoc]
            refine (List.prefix_append_right_inj _).2 (List.IsPrefix.trans ?_ HPT.out.2.2)
            rw [HPT.out.2.1, HOv.out]
            exact (List.prefix_append_right_inj _).2 HZ.out.1
          · rw [← List.append_assoc]; exact HZ.out.2
      · have hjl : j = len := by have := HI.out; omega
        subst hjl
        gi_wp2
        go_ret
        refine .inl ⟨rfl, ?_, HKr.out⟩
        have h1 := HJr.out
        rw [List.take_of_length_le (by rw [HLen.out]; exact Nat.le_refl _)] at h1
        rw [ovr_eq, HSk.out]
        exact h1
  | some lf =>
    obtain ⟨v, hvv⟩ := HN.out.2.2.2 lf hlf
    rw [hlf] at q3
    unfold lookV at q3
    simp only [hvv] at q3
    have HLf := Aside0.mk hlf
    have HVal := Aside0.mk hvv
    unfold nodeV ptr at q3
    clear hlf hvv
    cases hkpp : kp p with
    | false =>
      have HKpp := Aside0.mk hkpp
      clear hkpp
      gi_wp2_with (refine ⟨trivial, hdd _, ?_⟩; gi_at_call 93; refine (callsIn_wide.2 q3.out).mono ?_)
      rintro e W3 ⟨rfl, B3⟩
      have HA3 := Aside0.mk (belowAt HA2.out B3)
      have hb3 := HBox.out W3 HA3.out
      have b30 : W3.cell? ⟨W.heap.size, 0, none⟩ = some (.pointer (some ⟨n.b, 0, none⟩)) := by rw [blk_cell hb3]; rfl
      have b31 : W3.cell? ⟨W.heap.size, 1, none⟩ = some (.string p) := by rw [blk_cell hb3]; rfl
      clear B3 q3 hb3 b20 b21
      gi_wp2_with (refine ⟨trivial, hdd _, ?_⟩; gi_at_call 94; refine (callsIn_wide.2 (q1.out _)).mono ?_)
      rintro e W4 ⟨rfl, B4⟩
      have HA4 := Aside0.mk (belowAt HA3.out B4)
      have q4 := Aside0.mk (qp.out W4 (HStd.out W4 (belowAt HB0.out HA4.out)))
      rw [HKpp.out] at q4
      clear B4
      gi_wp2_with (refine ⟨trivial, hdd _, ?_⟩; gi_at_call 79; refine (callsIn_wide.2 q4.out).mono ?_)
      rintro e W5 ⟨rfl, B5⟩
      have HA5 := Aside0.mk (belowAt HA4.out B5)
      have hb5 := HBox.out W5 HA5.out
      have b50 : W5.cell? ⟨W.heap.size, 0, none⟩ = some (.pointer (some ⟨n.b, 0, none⟩)) := by rw [blk_cell hb5]; rfl
      have b51 : W5.cell? ⟨W.heap.size, 1, none⟩ = some (.string p) := by rw [blk_cell hb5]; rfl
      clear B5 q4 hb5 b30 b31
      gi_wp2
      repeat (first | (refine ⟨fun _ h => (by cases h), ?_⟩; gi_wp2) | ((with_reducible refine skip94 ?_); gi_wp2))
      have HSt := Aside0.mk (HStd.out W5 (belowAt HB0.out HA5.out))
      have HKp := Aside0.mk (KpM.of (n₁ := n₁) (M := M) (belowAt HB0.out HA5.out))
      have HJc : Aside0 (J (pre ++ ownE kp p n.leaf) W5) := ⟨by rw [HLf.out]; show J (pre ++ (if kp p = true then [(p, valI lf.val)] else [])) W5; rw [HKpp.out]; show J (pre ++ []) W5; rw [List.append_nil]; exact abide HJa.out HJ0.out (belowAt HB0.out HA5.out)⟩
      have HK := Aside0.mk (HSt.out.kept HkB.out.1 HkB.out.2.1 HkB.out.2.2)
      have qk := Aside0.mk (kidsO W5 n p (NdAt.keep HK.out n HN.out.1) HN.out.2.1 HN.out.2.2.1)
      unfold nodeV ptr at qk
      gi_wp2_with (refine ⟨trivial, hdd _, ?_⟩; gi_at_call 95; refine (callsIn_wide.2 qk.out).mono ?_)
      rintro e Wd ⟨v, rfl, ho, Bd⟩
      obtain ⟨A, c, ev, hrow⟩ := rowForm ho
      rw [HLen.out] at ho ev
      subst ev
      have HRow := Aside0.mk ho
      have HSd := Aside0.mk (HSt.out.kp (KpM.of Bd))
      have HKd := Aside0.mk (HKp.out.trans (KpM.of Bd))
      have HJd := Aside0.mk (abide HJa.out HJc.out Bd)
      have HWd := Aside0.mk (Nat.le_trans HnW.out (HKp.out.trans (KpM.of Bd)).size)
      clear ho hrow Bd qk HK HSt HKp HJc
      gi_wp2
      gi_loopw [12, 40] (fun v12 v40 wr => ∃ j : Nat, v40 = .int .i64 (j : Int) ∧ Aside0 (j ≤ len) ∧ Aside0 (J (pre ++ (ownE kp p n.leaf ++ ovrs sk kp p (n.kids.take j))) wr) ∧ Aside0 (Stnd wI n₁ M wr) ∧ Aside0 (KpM n₁ M W wr) ∧ Aside0 (wr.ownsRow (W5.heap.size + 1) 60 2 (.slice A len c) len (flatK p n.kids)))
        (fun v12 v40 wr => len - (RowKit.intOf v40).toNat)
      case atStart => exact ⟨0, rfl, ⟨Nat.zero_le _⟩, ⟨by simpa [ovrs] using HJd.out⟩, HSd, HKd, HRow⟩
      case round =>
        obtain ⟨j, rfl, HI, HJr, HSr, HKr, HRr⟩ := hrel
        by_cases hlt : j < len
        · have hj' : j < n.kids.length := by rw [HLen.out]; exact hlt
          obtain ⟨g, cap, cur, eg, hgb, hgg, hgc⟩ := ownsNode HRr.out (by omega)
          obtain ⟨rfl, rfl⟩ := eg
          have hf := flatK_get p n.kids j hj'
          have hn2 : j * 2 + 1 < len * 2 := by omega
          have c0 : wr.cell? ⟨g, j * 2, none⟩ = some (.pointer (some ⟨n.kids[j].b, 0, none⟩)) := by rw [blk_cell hgg, hgc (j * 2) (by omega), hf.1]; rfl
          have c1 : wr.cell? ⟨g, j * 2 + 1, none⟩ = some (.string (p ++ n.kids[j].label)) := by rw [blk_cell hgg, hgc (j * 2 + 1) hn2, hf.2]
          have hB2 := (Below.refl wr.heap.size wr).alloc (Nat.le_refl _) (.cells #[.pointer (some ⟨n.kids[j].b, 0, none⟩), .string (p ++ n.kids[j].label)] 60)
          have HB2 := Aside0.mk hB2
          have epre : ovr sk kp p n = ownE kp p n.leaf ++ ovrs sk kp p n.kids := by rw [ovr_eq, HSk.out]; rfl
          have hpt := ovrs_take sk kp p n.kids j hj'
          have hpp := ovrs_pre sk kp p n.kids (j + 1)
          have hNN : OK ((pre ++ (ownE kp p n.leaf ++ ovrs sk kp p (n.kids.take j))) ++ ovr sk kp (p ++ n.kids[j].label) n.kids[j]) := by
            have h1 := HNN.out
            rw [epre] at h1
            refine ok_pre HCL.out h1 ?_
            rw [List.append_assoc, List.append_assoc]
            refine (List.prefix_append_right_inj _).2 ((List.prefix_append_right_inj _).2 ?_)
            rw [← hpt]
            exact hpp
          have q9 := Aside0.mk (HIH.out j hj' _ _ (HSr.out.kp (KpM.of hB2)) (Nat.le_trans (Nat.le_trans HnW.out HKr.out.size) hB2.size) (abide HJa.out HJr.out hB2) hNN)
          have HPT := Aside0.mk (And.intro epre (And.intro hpt hpp))
          obtain ⟨kb, ekb⟩ : ∃ kb, n.kids[j].b = kb := ⟨_, rfl⟩
          obtain ⟨kp2, ekp⟩ : ∃ kp2, p ++ n.kids[j].label = kp2 := ⟨_, rfl⟩
          have HOv := Aside0.mk (show ovr sk kp (p ++ n.kids[j].label) n.kids[j] = ovr sk kp kp2 n.kids[j] by rw [ekp])
          rw [ekb, ekp] at q9 HB2
          rw [ekb] at c0
          rw [ekp] at c1
          have hltI : (j : Int) < (len : Int) := by omega
          have ew : wrap64 ((j : Int) + 1) = (j : Int) + 1 := by unfold wrap64; omega
          clear hf hn2 hgb hgg hgc hB2 epre hpt hpp hNN ekb ekp
          unfold nodeV ptr at q9
          gi_wp2_with (refine ⟨trivial, hdd _, ?_⟩; gi_at_call 118; refine q9.out.mono ?_)
          rintro e Wz (⟨rfl, hjz, hkz⟩ | ⟨rfl, q, hq, hxz⟩)
          · have HZ := Aside0.mk (And.intro hjz hkz)
            clear hjz hkz q9
            gi_wp2
            go_roundw
            case rel =>
              have hk2 := (KpM.of HB2.out).trans HZ.out.2
              refine ⟨j + 1, by simp, ⟨hlt⟩, ⟨?_⟩, ⟨HSr.out.kp hk2⟩, ⟨HKr.out.trans hk2⟩, ⟨ownsRow_kp HRr.out hk2⟩⟩
              have h1 := HZ.out.1
              rw [List.append_assoc, List.append_assoc, ← HOv.out, ← HPT.out.2.1] at h1
              exact h1
            case measure => simp [RowKit.intOf]; (try rw [ew]); omega
          · have HZ := Aside0.mk (And.intro hq hxz)
            clear hq hxz q9
            gi_wp2
            go_ret
            refine .inr ⟨rfl, ownE kp p n.leaf ++ ovrs sk kp p (n.kids.take j) ++ q, ?_, ?_⟩
            · rw [HPT.out.1, List.append_assoc]
              refine (List.prefix_append_right_inj _).2 (List.IsPrefix.trans ?_ HPT.out.2.2)
              rw [HPT.out.2.1, HOv.out]
              exact (List.prefix_append_right_inj _).2 HZ.out.1
            · rw [← List.append_assoc]; exact HZ.out.2
        · have hjl : j = len := by have := HI.out; omega
          subst hjl
          gi_wp2
          go_ret
          refine .inl ⟨rfl, ?_, HKr.out⟩
          have h1 := HJr.out
          rw [List.take_of_length_le (by rw [HLen.out]; exact Nat.le_refl _)] at h1
          rw [ovr_eq, HSk.out]
          exact h1
    | true =>
      have HKpp := Aside0.mk hkpp
      have eown : ownE kp p n.leaf = [(p, v)] := by rw [HLf.out]; show (if kp p = true then [(p, valI lf.val)] else []) = _; rw [hkpp, HVal.out]; rfl
      have HOwn := Aside0.mk eown
      have hlen1 : OK (pre ++ [(p, v)]) := by
        have h1 := HNN.out
        rw [ovr_eq, HSk.out, eown] at h1
        simp only [Bool.false_eq_true, if_false] at h1
        exact ok_pre HCL.out h1 ((List.prefix_append_right_inj _).2 (List.prefix_append _ _))
      have HL1 := Aside0.mk hlen1
      clear hkpp eown hlen1
      gi_wp2_with (refine ⟨trivial, hdd _, ?_⟩; gi_at_call 93; refine (callsIn_wide.2 q3.out).mono ?_)
      rintro e W3 ⟨rfl, B3⟩
      have HA3 := Aside0.mk (belowAt HA2.out B3)
      have hb3 := HBox.out W3 HA3.out
      have b30 : W3.cell? ⟨W.heap.size, 0, none⟩ = some (.pointer (some ⟨n.b, 0, none⟩)) := by rw [blk_cell hb3]; rfl
      have b31 : W3.cell? ⟨W.heap.size, 1, none⟩ = some (.string p) := by rw [blk_cell hb3]; rfl
      clear B3 q3 hb3 b20 b21
      gi_wp2_with (refine ⟨trivial, hdd _, ?_⟩; gi_at_call 94; refine (callsIn_wide.2 (q1.out _)).mono ?_)
      rintro e W4 ⟨rfl, B4⟩
      have HA4 := Aside0.mk (belowAt HA3.out B4)
      have q4 := Aside0.mk (qp.out W4 (HStd.out W4 (belowAt HB0.out HA4.out)))
      rw [HKpp.out] at q4
      clear B4
      gi_wp2_with (refine ⟨trivial, hdd _, ?_⟩; gi_at_call 79; refine (callsIn_wide.2 q4.out).mono ?_)
      rintro e W5 ⟨rfl, B5⟩
      have HA5 := Aside0.mk (belowAt HA4.out B5)
      have hb5 := HBox.out W5 HA5.out
      have b50 : W5.cell? ⟨W.heap.size, 0, none⟩ = some (.pointer (some ⟨n.b, 0, none⟩)) := by rw [blk_cell hb5]; rfl
      have b51 : W5.cell? ⟨W.heap.size, 1, none⟩ = some (.string p) := by rw [blk_cell hb5]; rfl
      clear B5 q4 hb5 b30 b31
      gi_wp2_with (refine ⟨trivial, hdd _, ?_⟩; gi_at_call 94; refine (callsIn_wide.2 (q1.out _)).mono ?_)
      rintro e W6 ⟨rfl, B6⟩
      have HA6 := Aside0.mk (belowAt HA5.out B6)
      have hb6 := HBox.out W6 HA6.out
      have hy0 := HY.out (m - 1) pre (p, v) W6 (abide HJa.out HJ0.out (belowAt HB0.out HA6.out)) HL1.out
      obtain ⟨fn, tmps, assign, body, hy, hR⟩ := hy0
      dsimp only at hy
      have HR := Aside0.mk hR
      have HB6 := Aside0.mk hb6
      clear B6 hb6 hR b50 b51 q1
      gi_wp2
      refine ⟨hdd _, ?_⟩
      refine HR.out.mono ?_
      rintro e W7 (⟨rfl, hJ7, hk7⟩ | ⟨rfl, hx7⟩)
      · have hb7 := hk7.node _ _ _ HB6.out
        have b70 : W7.cell? ⟨W.heap.size, 0, none⟩ = some (.pointer (some ⟨n.b, 0, none⟩)) := by rw [blk_cell hb7]; rfl
        have b71 : W7.cell? ⟨W.heap.size, 1, none⟩ = some (.string p) := by rw [blk_cell hb7]; rfl
        have HSt := Aside0.mk ((HStd.out W6 (belowAt HB0.out HA6.out)).kp hk7)
        have HKp := Aside0.mk ((KpM.of (n₁ := n₁) (M := M) (belowAt HB0.out HA6.out)).trans hk7)
        have HJc : Aside0 (J (pre ++ ownE kp p n.leaf) W7) := ⟨by rw [HOwn.out]; exact hJ7⟩
        clear hJ7 hk7 hb7 HR hy
        gi_wp2
        have HK := Aside0.mk (HSt.out.kept HkB.out.1 HkB.out.2.1 HkB.out.2.2)
        have qk := Aside0.mk (kidsO W7 n p (NdAt.keep HK.out n HN.out.1) HN.out.2.1 HN.out.2.2.1)
        unfold nodeV ptr at qk
        gi_wp2_with (refine ⟨trivial, hdd _, ?_⟩; gi_at_call 95; refine (callsIn_wide.2 qk.out).mono ?_)
        rintro e Wd ⟨v, rfl, ho, Bd⟩
        obtain ⟨A, c, ev, hrow⟩ := rowForm ho
        rw [HLen.out] at ho ev
        subst ev
        have HRow := Aside0.mk ho
        have HSd := Aside0.mk (HSt.out.kp (KpM.of Bd))
        have HKd := Aside0.mk (HKp.out.trans (KpM.of Bd))
        have HJd := Aside0.mk (abide HJa.out HJc.out Bd)
        have HWd := Aside0.mk (Nat.le_trans HnW.out (HKp.out.trans (KpM.of Bd)).size)
        clear ho hrow Bd qk HK HSt HKp HJc
        gi_wp2
        gi_loopw [12, 40] (fun v12 v40 wr => ∃ j : Nat, v40 = .int .i64 (j : Int) ∧ Aside0 (j ≤ len) ∧ Aside0 (J (pre ++ (ownE kp p n.leaf ++ ovrs sk kp p (n.kids.take j))) wr) ∧ Aside0 (Stnd wI n₁ M wr) ∧ Aside0 (KpM n₁ M W wr) ∧ Aside0 (wr.ownsRow (W7.heap.size + 1) 60 2 (.slice A len c) len (flatK p n.kids)))
          (fun v12 v40 wr => len - (RowKit.intOf v40).toNat)
        case atStart => exact ⟨0, rfl, ⟨Nat.zero_le _⟩, ⟨by simpa [ovrs] using HJd.out⟩, HSd, HKd, HRow⟩
        case round =>
          obtain ⟨j, rfl, HI, HJr, HSr, HKr, HRr⟩ := hrel
          by_cases hlt : j < len
          · have hj' : j < n.kids.length := by rw [HLen.out]; exact hlt
            obtain ⟨g, cap, cur, eg, hgb, hgg, hgc⟩ := ownsNode HRr.out (by omega)
            obtain ⟨rfl, rfl⟩ := eg
            have hf := flatK_get p n.kids j hj'
            have hn2 : j * 2 + 1 < len * 2 := by omega
            have c0 : wr.cell? ⟨g, j * 2, none⟩ = some (.pointer (some ⟨n.kids[j].b, 0, none⟩)) := by rw [blk_cell hgg, hgc (j * 2) (by omega), hf.1]; rfl
            have c1 : wr.cell? ⟨g, j * 2 + 1, none⟩ = some (.string (p ++ n.kids[j].label)) := by rw [blk_cell hgg, hgc (j * 2 + 1) hn2, hf.2]
            have hB2 := (Below.refl wr.heap.size wr).alloc (Nat.le_refl _) (.cells #[.pointer (some ⟨n.kids[j].b, 0, none⟩), .string (p ++ n.kids[j].label)] 60)
            have HB2 := Aside0.mk hB2
            have epre : ovr sk kp p n = ownE kp p n.leaf ++ ovrs sk kp p n.kids := by rw [ovr_eq, HSk.out]; rfl
            have hpt := ovrs_take sk kp p n.kids j hj'
            have hpp := ovrs_pre sk kp p n.kids (j + 1)
            have hNN : OK ((pre ++ (ownE kp p n.leaf ++ ovrs sk kp p (n.kids.take j))) ++ ovr sk kp (p ++ n.kids[j].label) n.kids[j]) := by
              have h1 := HNN.out
              rw [epre] at h1
              refine ok_pre HCL.out h1 ?_
              rw [List.append_assoc, List.append_assoc]
              refine (List.prefix_append_right_inj _).2 ((List.prefix_append_right_inj _).2 ?_)
              rw [← hpt]
              exact hpp
            have q9 := Aside0.mk (HIH.out j hj' _ _ (HSr.out.kp (KpM.of hB2)) (Nat.le_trans (Nat.le_trans HnW.out HKr.out.size) hB2.size) (abide HJa.out HJr.out hB2) hNN)
            have HPT := Aside0.mk (And.intro epre (And.intro hpt hpp))
            obtain ⟨kb, ekb⟩ : ∃ kb, n.kids[j].b = kb := ⟨_, rfl⟩
            obtain ⟨kp2, ekp⟩ : ∃ kp2, p ++ n.kids[j].label = kp2 := ⟨_, rfl⟩
            have HOv := Aside0.mk (show ovr sk kp (p ++ n.kids[j].label) n.kids[j] = ovr sk kp kp2 n.kids[j] by rw [ekp])
            rw [ekb, ekp] at q9 HB2
            rw [ekb] at c0
            rw [ekp] at c1
            have hltI : (j : Int) < (len : Int) := by omega
            have ew : wrap64 ((j : Int) + 1) = (j : Int) + 1 := by unfold wrap64; omega
            clear hf hn2 hgb hgg hgc hB2 epre hpt hpp hNN ekb ekp
            unfold nodeV ptr at q9
            gi_wp2_with (refine ⟨trivial, hdd _, ?_⟩; gi_at_call 118; refine q9.out.mono ?_)
            rintro e Wz (⟨rfl, hjz, hkz⟩ | ⟨rfl, q, hq, hxz⟩)
            · have HZ := Aside0.mk (And.intro hjz hkz)
              clear hjz hkz q9
              gi_wp2
              go_roundw
              case rel =>
                have hk2 := (KpM.of HB2.out).trans HZ.out.2
                refine ⟨j + 1, by simp, ⟨hlt⟩, ⟨?_⟩, ⟨HSr.out.kp hk2⟩, ⟨HKr.out.trans hk2⟩, ⟨ownsRow_kp HRr.out hk2⟩⟩
                have h1 := HZ.out.1
                rw [List.append_assoc, List.append_assoc, ← HOv.out, ← HPT.out.2.1] at h1
                exact h1
              case measure => simp [RowKit.intOf]; (try rw [ew]); omega
            · have HZ := Aside0.mk (And.intro hq hxz)
              clear hq hxz q9
              gi_wp2
              go_ret
              refine .inr ⟨rfl, ownE kp p n.leaf ++ ovrs sk kp p (n.kids.take j) ++ q, ?_, ?_⟩
              · rw [HPT.out.1, List.append_assoc]
                refine (List.prefix_append_right_inj _).2 (List.IsPrefix.trans ?_ HPT.out.2.2)
                rw [HPT.out.2.1, HOv.out]
                exact (List.prefix_append_right_inj _).2 HZ.out.1
              · rw [← List.append_assoc]; exact HZ.out.2
          · have hjl : j = len := by have := HI.out; omega
            subst hjl
            gi_wp2
            go_ret
            refine .inl ⟨rfl, ?_, HKr.out⟩
            have h1 := HJr.out
            rw [List.take_of_length_le (by rw [HLen.out]; exact Nat.le_refl _)] at h1
            rw [ovr_eq, HSk.out]
            exact h1
      · have HX := Aside0.mk hx7
        clear hx7 HR hy
        gi_wp2
        go_ret
        refine .inr ⟨rfl, [(p, v)], ?_, HX.out⟩
        rw [ovr_eq, HSk.out, HOwn.out]
        exact List.prefix_append _ _
end Go.Proofs.Ytjhgknagmiekeaa.VOF
set_option linter.unusedVariables false
set_option linter.unusedSimpArgs false
namespace Go.Proofs.Ytjhgknagmiekeaa.VOF
open Go.RowKit Go.Lib Go.Proofs Go.Proofs.Ytjhgknagmiekeaa.T Go.Proofs.Ytjhgknagmiekeaa.V
open Go.Proofs.YtjhgknagmiekeaaW.PrintWords hiding blk_cell
theorem over_in (bp : Nat) (l n₁ : Nat) (OK : List (ByteArray × Int) → Prop) (hcl : ∀ a b, OK (a ++ b) → OK a) (M : Nat → Prop) (J Jx : List (ByteArray × Int) → World → Prop) (hJ : Abd J)
    (hY : ∀ m pre (x : ByteArray × Int) W, J pre W → OK (pre ++ [x]) → YieldAt Fence.wide m Try.prog l #[.string x.1, .int .i64 x.2] W fun e W' => (e = .returned (.bool true) ∧ J (pre ++ [x]) W' ∧ KpM n₁ M W W') ∨ (e = .returned (.bool false) ∧ Jx (pre ++ [x]) W'))
    (wI wB : World) (hkB : Kept wB wI) (hnB : wB.heap.size ≤ n₁) (hM : ∀ k, k < wB.heap.size → ¬ M k) (sk kp : ByteArray → Bool)
    (hsk : ∀ q W, Stnd wI n₁ M W → Calls Try.prog 78 #[.string q, .pointer (some ⟨bp, 0, none⟩)] W fun e W' => e = .returned (.bool (sk q)) ∧ Below W.heap.size W W')
    (hkp : ∀ q W, Stnd wI n₁ M W → Calls Try.prog 79 #[.string q, .pointer (some ⟨bp, 0, none⟩)] W fun e W' => e = .returned (.bool (kp q)) ∧ Below W.heap.size W W') :
    ∀ (N : Nat) (n : Nd) (m : Nat) (p : ByteArray) (B : Nat) (pre : List (ByteArray × Int)) (W : World), nsz n ≤ N → NdAt wB n → Ok n → IntVals n → Fits n B → p.size + (B - n.label.size) < 9000000000000000000 →
      Stnd wI n₁ M W → n₁ ≤ W.heap.size → J pre W → OK (pre ++ ovr sk kp p n) →
      CallsIn Fence.wide m Try.prog 118 #[nodeV n.b p, .func (.func 78) #[] #[.pointer (some ⟨bp, 0, none⟩)], .func (.func 79) #[] #[.pointer (some ⟨bp, 0, none⟩)], .func (.yield l) #[] #[]] W (Post n₁ M J Jx pre (ovr sk kp p n) W) := by
  intro N
  induction N with
  | zero =>
    intro n m p B pre W hN
    cases n with
    | mk _ _ _ ks _ => exfalso; unfold nsz at hN; omega
  | succ N ih =>
    intro n m p B pre W hN hn ho hv hf hB hst hnW hJ0 hNN
    have hfa : ∀ k ∈ n.kids, k.label.size ≤ B - n.label.size ∧ Fits k (B - n.label.size) := fun k hk => by
      have h1 := hf.parts.2.mem k hk
      exact ⟨h1.parts.1, h1⟩
    cases hs : sk p with
    | true => exact skip_in bp l n₁ M J Jx hJ wI sk kp hsk m n p pre W hst hJ0 hs
    | false =>
      refine deep_in bp l n₁ OK hcl M J Jx hJ hY wI wB hkB hnB hM sk kp hsk hkp m n p pre W hn ho (fun l hl => ?_) (fun k hk => by have := (hfa k hk).1; omega) hst hnW hJ0 hNN hs (fun i hi pre' W' h1 h2 h3 h4 => ?_)
      · exact hv [] l (by rw [findT_nil]; exact hl)
      · have hka : n.kids[i] ∈ n.kids := List.getElem_mem _
        have hsz := nsz_kid hka
        have hfk := hfa _ hka
        refine ih n.kids[i] (m - 1) _ (B - n.label.size) pre' W' (by omega) (hn.parts.choose_spec.2.2.2.mem _ hka) (ho.parts.2.2.get _ hka) (fun r l e => hv (L n.kids[i].label ++ r) l (by rw [findT_kid ho hka]; exact e)) hfk.2 ?_ h1 h2 h3 h4
        rw [ByteArray.size_append]
        have := hfk.1
        omega
theorem below_drewA {B : Nat} {w w' : World} (h : Below B w w') : Below B w w'.drew := ⟨h.os, h.tape, h.output, h.size, h.block⟩
def Closed (w : World) (bp : Nat) (bt bs bk tb : Nat) : Prop := w.heap[bt]? = some (.cells #[ptr tb] 24 (0, 0)) ∧ w.heap[bs]? = some (.cells #[.func (.func 78) #[] #[.pointer (some ⟨bp, 0, none⟩)]] 110 (0, 0)) ∧ w.heap[bk]? = some (.cells #[.func (.func 79) #[] #[.pointer (some ⟨bp, 0, none⟩)]] 110 (0, 0))
set_option maxHeartbeats 4000000 in
set_option maxRecDepth 100000 in
theorem walked_calls (bp : Nat) (l n₁ : Nat) (OK : List (ByteArray × Int) → Prop) (hcl : ∀ a b, OK (a ++ b) → OK a) (M : Nat → Prop) (J Jx : List (ByteArray × Int) → World → Prop) (hJ : Abd J)
    (hY : ∀ m pre (x : ByteArray × Int) W, J pre W → OK (pre ++ [x]) → YieldAt Fence.wide m Try.prog l #[.string x.1, .int .i64 x.2] W fun e W' => (e = .returned (.bool true) ∧ J (pre ++ [x]) W' ∧ KpM n₁ M W W') ∨ (e = .returned (.bool false) ∧ Jx (pre ++ [x]) W'))
    (wI wB : World) (hkB : Kept wB wI) (hnB : wB.heap.size ≤ n₁) (hM : ∀ k, k < wB.heap.size → ¬ M k) (sk kp : ByteArray → Bool)
    (hsk : ∀ q W, Stnd wI n₁ M W → Calls Try.prog 78 #[.string q, .pointer (some ⟨bp, 0, none⟩)] W fun e W' => e = .returned (.bool (sk q)) ∧ Below W.heap.size W W')
    (hkp : ∀ q W, Stnd wI n₁ M W → Calls Try.prog 79 #[.string q, .pointer (some ⟨bp, 0, none⟩)] W fun e W' => e = .returned (.bool (kp q)) ∧ Below W.heap.size W W')
    (tb : Nat) (root : Nd) (ht : Tr wB tb root) (bt bs bk : Nat) (W : World) (hc : Closed W bp bt bs bk tb) (hst : Stnd wI n₁ M W) (hnW : n₁ ≤ W.heap.size) (hJ0 : J [] W) (hNN : OK (ovr sk kp ⟨#[]⟩ root)) :
    Calls Try.prog 117 #[.func (.yield l) #[] #[], ptr bt, ptr bs, ptr bk] W fun e W' => (∃ v, e = .returned v) ∧ ((∃ ys, ys = ovr sk kp ⟨#[]⟩ root ∧ J ys W') ∨ (∃ pre, pre <+: ovr sk kp ⟨#[]⟩ root ∧ Jx pre W')) := by
  obtain ⟨h1, h2, h3⟩ := hc
  have c1 : W.cell? ⟨bt, 0, none⟩ = some (.pointer (some ⟨tb, 0, none⟩)) := by rw [blk_cell h1]; rfl
  have c2 : W.cell? ⟨bs, 0, none⟩ = some (.func (.func 78) #[] #[.pointer (some ⟨bp, 0, none⟩)]) := by rw [blk_cell h2]; rfl
  have c3 : W.cell? ⟨bk, 0, none⟩ = some (.func (.func 79) #[] #[.pointer (some ⟨bp, 0, none⟩)]) := by rw [blk_cell h3]; rfl
  have hkW : Kept wB W := hst.kept hkB hnB hM
  have q1 := Aside0.mk (fun W1 (h : Below W.heap.size W W1) => rootC W1 tb root _ ((ht.at_.keep hkW).keep (Kept.of h)))
  have q2 : Aside0 (∀ W1, Below W.heap.size W W1 → Calls Try.prog 118 #[nodeV root.b ⟨#[]⟩, .func (.func 78) #[] #[.pointer (some ⟨bp, 0, none⟩)], .func (.func 79) #[] #[.pointer (some ⟨bp, 0, none⟩)], .func (.yield l) #[] #[]] W1 fun e W' => ∃ b, e = .returned (.bool b) ∧ Aside0 ((∃ ys, ys = ovr sk kp ⟨#[]⟩ root ∧ J ys W') ∨ (∃ pre, pre <+: ovr sk kp ⟨#[]⟩ root ∧ Jx pre W'))) := ⟨fun W1 h => by
    have q := callsIn_wide.1 (over_in bp l n₁ OK hcl M J Jx hJ hY wI wB hkB hnB hM sk kp hsk hkp (nsz root) root 3 ⟨#[]⟩ 3999999999999 [] W1 (Nat.le_refl _) ht.at_.root ht.fine.ok ht.vals ht.fine.fits (by show 0 + _ < _; omega) (hst.kp (KpM.of h)) (Nat.le_trans hnW h.size) (abide hJ hJ0 h) (by simpa using hNN))
    refine q.mono ?_
    rintro e W' (⟨rfl, h1, h2⟩ | ⟨rfl, q, h1, h2⟩)
    · exact ⟨true, rfl, ⟨.inl ⟨_, rfl, by simpa using h1⟩⟩⟩
    · exact ⟨false, rfl, ⟨.inr ⟨q, h1, by simpa using h2⟩⟩⟩⟩
  have HB0 := Aside0.mk (below_drewA (Below.refl W.heap.size W))
  clear hkW hsk hkp ht h1 h2 h3 hst hnW hJ0 hNN hJ hY hkB hnB hM
  unfold nodeV ptr at q1 q2
  unfold ptr
  go_enter Try.func117, Try.ntmps117
  have HBn := HB0
  go_region_with (first
    | (go_at_call 42; refine (q1.out _ HBn.out).mono ?_; rintro e W1 ⟨rfl, B1⟩; have d2 := (Kept.of B1).cell c2; have d3 := (Kept.of B1).cell c3; have n0_ := Aside0.mk (belowAt HBn.out B1); clear HBn; have HBn := n0_; clear n0_ B1)
    | (go_at_call 118; refine (q2.out _ HBn.out).mono ?_; rintro e W2 ⟨b, rfl, HF⟩))
  all_goals
    refine bodyPost_end (results_none rfl _ _ _) rfl ?_
    exact ⟨⟨_, rfl⟩, HF.out⟩
end Go.Proofs.Ytjhgknagmiekeaa.VOF
set_option linter.unusedVariables false
set_option linter.unusedSimpArgs false
namespace Go.Proofs.Ytjhgknagmiekeaa.VF
open Go.RowKit Go.Lib Go.Proofs Go.Proofs.Ytjhgknagmiekeaa.T Go.Proofs.Ytjhgknagmiekeaa.V Go.Proofs.Ytjhgknagmiekeaa.VOF
open Go.Proofs.YtjhgknagmiekeaaW.PrintWords hiding blk_cell
theorem seq (w : World) (n NN n₁ : Nat) (M : Nat → Prop) (wB : World) (hkB : Kept wB w) (hnB : wB.heap.size ≤ n₁) (hnw : n₁ ≤ w.heap.size) (hM : ∀ k, k < wB.heap.size → ¬ M k)
    (tb : Nat) (root : Nd) (ht : Tr wB tb root) (bp : Nat) (bt bs bk : Nat) (hc : Closed w bp bt bs bk tb) (p : ByteArray) (hp : Bx w bp p) (hbp : bp < n₁) (hMp : ¬ M bp) (hNN : (ovr (fun q => skF (L p) (L q)) (fun q => kpF (L p) (L q)) ⟨#[]⟩ root).length ≤ NN) :
    SeqStopsK Fence.wide n Try.prog 117 #[ptr bt, ptr bs, ptr bk] (fun x : ByteArray × Int => #[.string x.1, .int .i64 x.2]) (KpM n₁ M) (fun ys => ys = ovr (fun q => skF (L p) (L q)) (fun q => kpF (L p) (L q)) ⟨#[]⟩ root) (fun ys => ys <+: ovr (fun q => skF (L p) (L q)) (fun q => kpF (L p) (L q)) ⟨#[]⟩ root) NN w := by
  intro l J Jx W hw hJ hJx hY hJ0
  have hk : Kept w W := Kept.of hw
  have hc2 : Closed W bp bt bs bk tb := ⟨hk.at hc.1, hk.at hc.2.1, hk.at hc.2.2⟩
  have hbx : ∀ W1, Stnd W n₁ M W1 → Bx W1 bp p := fun W1 h => h bp _ (hk.at hp) hbp hMp
  refine callsIn_wide.2 (walked_calls bp l n₁ (fun ys => ys.length ≤ NN) (fun a b h => by rw [List.length_append] at h; omega) M J Jx (abd_of hJ) (fun m pre x W1 h1 h2 => yieldDepth m (hY pre x W1 h1 (by rw [List.length_append, List.length_singleton] at h2; omega))) W wB (hkB.trans hk (Nat.le_trans hnB hnw)) hnB hM (fun q => skF (L p) (L q)) (fun q => kpF (L p) (L q))
    (fun q W1 h1 => skFC q p bp W1 (hbx W1 h1)) (fun q W1 h1 => kpFC q p bp W1 (hbx W1 h1)) tb root ht bt bs bk W hc2 (Stnd.refl W n₁ M) (Nat.le_trans hnw hw.size) hJ0 hNN)
end Go.Proofs.Ytjhgknagmiekeaa.VF
set_option linter.unusedVariables false
set_option linter.unusedSimpArgs false
namespace Go.Proofs.Ytjhgknagmiekeaa.V
open Go.RowKit Go.Lib Go.Proofs Go.Proofs.Ytjhgknagmiekeaa.T
open Go.Proofs.YtjhgknagmiekeaaW.PrintWords hiding blk_cell
attribute [local go_sem] Oper.semAt_some
abbrev fromL (lo : ByteArray) (root : Nd) : List (ByteArray × Int) := ovr (fun q => skF (L lo) (L q)) (fun q => kpF (L lo) (L q)) ⟨#[]⟩ root
def lessB (hi : ByteArray) (x : ByteArray × Int) : Bool := Op.bytesLess x.1.toList hi.toList
abbrev btwL (lo hi : ByteArray) (root : Nd) : List (ByteArray × Int) := (fromL lo root).takeWhile (lessB hi)
theorem tw_pre {α : Type} (p : α → Bool) : ∀ (q L : List α), q <+: L → (∀ y ∈ q, p y = true) → q <+: L.takeWhile p
  | [], L, _, _ => List.nil_prefix
  | a :: q, [], h, _ => by have := h.length_le; simp at this
  | a :: q, b :: L, h, ha => by
    rw [List.cons_prefix_cons] at h
    obtain ⟨rfl, h⟩ := h
    rw [List.takeWhile_cons, if_pos (ha a (by simp)), List.cons_prefix_cons]
    exact ⟨rfl, tw_pre p q L h (fun y hy => ha y (by simp [hy]))⟩
theorem tw_stop {α : Type} (p : α → Bool) : ∀ (q L : List α) (x : α), q ++ [x] <+: L → (∀ y ∈ q, p y = true) → p x = false → q = L.takeWhile p
  | [], [], x, h, _, _ => by have := h.length_le; simp at this
  | [], b :: L, x, h, _, hx => by
    rw [List.nil_append, List.cons_prefix_cons] at h
    obtain ⟨rfl, h⟩ := h
    rw [List.takeWhile_cons, if_neg (by simp [hx])]
  | a :: q, [], x, h, _, _ => by have := h.length_le; simp at this
  | a :: q, b :: L, x, h, ha, hx => by
    rw [List.cons_append, List.cons_prefix_cons] at h
    obtain ⟨rfl, h⟩ := h
    rw [List.takeWhile_cons, if_pos (ha a (by simp))]
    exact congrArg (a :: ·) (tw_stop p q L x h (fun y hy => ha y (by simp [hy])) hx)
theorem tw_all {α : Type} (p : α → Bool) : ∀ (L : List α), (∀ y ∈ L, p y = true) → L.takeWhile p = L
  | [], _ => rfl
  | a :: L, h => by rw [List.takeWhile_cons, if_pos (h a (by simp)), tw_all p L (fun y hy => h y (by simp [hy]))]
theorem roundIn_round {m : Nat} {P : Program} {l : Nat} {f : FuncId} {tmps : Array Value} {assign body : Code} {w : World} {R : Ending → World → Prop} (l' : Nat) (h : RoundIn Fence.wide m P l f tmps assign body w R) : RoundIn (Fence.wide.inRound l') m P l f tmps assign body w R := h
set_option maxRecDepth 100000 in
set_option maxHeartbeats 8000000 in
theorem betweenSeq (w : World) (n NN n₁ : Nat) (M : Nat → Prop) (wB : World) (hkB : Kept wB w) (hnB : wB.heap.size ≤ n₁) (hnw : n₁ ≤ w.heap.size) (hM : ∀ k, k < wB.heap.size → ¬ M k) (hM2 : ∀ k, n₁ ≤ k → ¬ M k)
    (tb : Nat) (root : Nd) (ht : Tr wB tb root) (bt bl bh : Nat) (lo hi : ByteArray) (hc : w.heap[bt]? = some (.cells #[ptr tb] 24 (0, 0))) (hl : Bx w bl lo) (hh : Bx w bh hi) (hNN : (fromL lo root).length ≤ NN) :
    SeqO Fence.wide n Try.prog 81 #[ptr bt, ptr bl, ptr bh] (fun x : ByteArray × Int => #[.string x.1, .int .i64 x.2]) (KpT n₁ M) (fun _ => True) (fun ys => ys = btwL lo hi root) (fun ys => ys <+: btwL lo hi root) NN w := by
  intro l J Jx W hW hlW hJ hJx hY h0
  have hkW : Kept w W := Kept.of hW
  have b1 := hkW.at hc
  have b2 : W.heap[bl]? = some (.cells #[.string lo] 9 (0, 0)) := hkW.at hl
  have b3 : W.heap[bh]? = some (.cells #[.string hi] 9 (0, 0)) := hkW.at hh
  have hkBW : Kept wB W := hkB.trans hkW (Nat.le_trans hnB hnw)
  have hnW : n₁ ≤ W.heap.size := Nat.le_trans hnw hW.size
  have hBa : Below W.heap.size W (W.alloc (.cells #[.func (.yield l) #[] #[]] 111)) := (Below.refl _ W).alloc (Nat.le_refl _) _
  have c1 : (W.alloc (.cells #[.func (.yield l) #[] #[]] 111)).cell? ⟨bt, 0, none⟩ = some (.pointer (some ⟨tb, 0, none⟩)) := by rw [blk_cell ((Kept.of hBa).at b1)]; rfl
  have c2 : (W.alloc (.cells #[.func (.yield l) #[] #[]] 111)).cell? ⟨bl, 0, none⟩ = some (.string lo) := by rw [blk_cell ((Kept.of hBa).at b2)]; rfl
  have qf := Aside0.mk (fun w1 => show CallsIn Fence.wide 8 Try.prog 27 _ w1 _ from callsIn_wide.2 (fromC tb lo w1))
  unfold ptr at qf ⊢
  refine (show CallsIn Fence.wide n Try.prog 81 #[.func (.yield l) #[] #[], .pointer (some ⟨bt, 0, none⟩), .pointer (some ⟨bl, 0, none⟩), .pointer (some ⟨bh, 0, none⟩)] W (PostQ J Jx (btwL lo hi root)) from ?_)
  refine callsIn_wide.2 (callsIn_wide.1 (show CallsIn Fence.wide 9 Try.prog 81 _ W _ from ?_))
  refine callsIn_of_wp_marks Try.func81 rfl trivial ?_ rfl
  simp only [Try.ntmps81, List.size_toArray, List.length_cons, List.length_nil, Nat.reduceAdd, Nat.reduceSub, Array.replicate_succ, Array.replicate_zero, List.push_toArray, List.append_toArray, List.nil_append, List.cons_append]
  have HA := Aside0.mk (And.intro hBa (And.intro b1 (And.intro b2 b3)))
  clear hBa b1 b2 b3
  gi_wp2_with (refine ⟨trivial, ?_⟩; gi_at_call 27; refine (qf.out _).mono ?_; rintro e W2 ⟨bp, bt', bs, bk, rfl, g0, g1, g2, g3, g4, g5⟩; have H2 := Aside0.mk (And.intro g0 (And.intro g1 (And.intro g2 (And.intro g3 (And.intro g4 g5))))); clear g0 g1 g2 g3 g4 g5)
  clear qf c1 c2
  obtain ⟨g0, g1, g2, g3, g4, g5⟩ := H2.out
  obtain ⟨hBa, b1, b2, b3⟩ := HA.out
  have hB2 : Below W.heap.size W W2 := belowAt hBa g5
  have hs2 : W.heap.size + 1 ≤ W2.heap.size := by have := g5.size; rwa [World.size_alloc] at this
  have bY : W2.heap[W.heap.size]? = some (.cells #[.func (.yield l) #[] #[]] 111 (0, 0)) := (Kept.of g5).at (World.alloc_heap_new W _)
  have bH : W2.heap[bh]? = some (.cells #[.string hi] 9 (0, 0)) := (Kept.of hB2).at b3
  rw [World.size_alloc] at g0
  have hbp : bp < W2.heap.size := (Array.getElem?_eq_some_iff.1 g1).1
  refine wpIn_rangeFuncO rfl (by decide) (gf := 117) (lb := #[ptr bt', ptr bs, ptr bk]) rfl trivial (enters_of Try.func117 (by kernel_rfl) rfl)
    (seqO_of (VF.seq W2 8 (fromL lo root).length W2.heap.size (fun k => M k ∨ (n₁ ≤ k ∧ k ≠ bp)) wB (hkBW.trans (Kept.of hB2) (Nat.le_trans hnB hnW)) (by omega) (Nat.le_refl _) (fun k hk => by rintro (h | ⟨h, -⟩); exact hM k hk h; omega) tb root ht bp bt' bs bk ⟨g2, g3, g4⟩ lo g1 hbp (by rintro (h | ⟨-, h⟩); exact hM2 bp (by omega) h; exact h rfl) (Nat.le_refl _)))
    kpT (fun Z o o' h hc => KpM.putObj Z _ o o' (by omega) h hc) (Below.refl _ _) (fun _ => rfl)
    (fun pre Z => J pre Z ∧ (∀ y ∈ pre, lessB hi y = true) ∧ KpT n₁ M W2 Z ∧ KeepsU W.heap.size W Z)
    (fun cd q Z => cd = .ret ∧ KeepsU W.heap.size W Z ∧ ((∃ pre x, q = pre ++ [x] ∧ (∀ y ∈ pre, lessB hi y = true) ∧ lessB hi x = false ∧ J pre Z) ∨ ((∀ y ∈ q, lessB hi y = true) ∧ Jx q Z)))
    ?hI ?hIx ?h0 (fun (x : ByteArray × Int) a' (Z : World) => a' = { tmps := #[.func (.yield l) #[] #[], .pointer (some ⟨bt, 0, none⟩), .pointer (some ⟨bl, 0, none⟩), .pointer (some ⟨bh, 0, none⟩), .pointer (some ⟨W.heap.size, 0, none⟩), .string x.1, .int .i64 x.2, .pointer (some ⟨tb, 0, none⟩), .string lo, .func (.func 117) #[] #[.pointer (some ⟨bt', 0, none⟩), .pointer (some ⟨bs, 0, none⟩), .pointer (some ⟨bk, 0, none⟩)], .string x.1, .int .i64 x.2, undef, undef, undef, undef, undef, undef, undef, undef, undef, undef], defers := [] }) ?hAx ?assign ?body ?done ?stop
  case assign =>
    intro l' m' pre x Wa K hI hok hK
    gi_wp2
    exact hK _ _ (KeepsU.refl _ _) (KpM.of (Below.refl _ _)) hI rfl
  case hI => exact OwnT.and (fun s => ownUp hJ (by omega) s) (OwnT.and (ownT_pure _ _) (OwnT.and (kpT_own (by omega) (Nat.le_refl _)) (ownT_kf (by omega))))
  case hIx =>
    intro cd s X Y row hs hg hr
    obtain ⟨k1, k2, k3⟩ := hs
    refine ⟨k1, ownT_kf (β := Unit) (B' := W2.heap.size) (by omega) () X Y row k2 hg hr, ?_⟩
    rcases k3 with ⟨pre, x, h1, h2, h3, h4⟩ | ⟨h1, h2⟩
    · exact .inl ⟨pre, x, h1, h2, h3, ownUp hJ (by omega) pre X Y row h4 hg hr⟩
    · exact .inr ⟨h1, ownUp hJx (by omega) s X Y row h2 hg hr⟩
  case hAx => exact fun x a' => ownT_pure _ (fun _ => a' = _)
  case h0 => exact ⟨ownBelow hJ h0 hB2, (fun y hy => by cases hy), KpT.of (Below.refl _ _), KeepsU.of hB2⟩
  case body =>
    rintro l' m' pre x a' Zb hl' hr0 hsz ⟨hJb, hab, hKb, hUb⟩ rfl hlt hok
    have bHz := hKb.typ _ _ 9 _ (by unfold Quiet; simp) bH
    have bPz := hKb.typ _ _ 9 _ (by unfold Quiet; simp) g1
    have cH : Zb.cell? ⟨bh, 0, none⟩ = some (.string hi) := by rw [blk_cell bHz]; rfl
    have cY : Zb.cell? ⟨W.heap.size, 0, none⟩ = some (.func (.yield l) #[] #[]) := by rw [blk_cell (hKb.typ _ _ 111 _ (by unfold Quiet; simp) bY)]; rfl
    have hdd : ∀ k : Nat, (Fence.wide.depth.isSome = true → 1 ≤ k) := fun k h => by cases h
    have HZ := Aside0.mk (And.intro hJb (And.intro hab (And.intro hKb (And.intro hUb bPz))))
    have HS := Aside0.mk (And.intro hs2 (And.intro hnW g0))
    obtain ⟨fn, tm, asg, bd, hy, hRR⟩ := hY (m' - 1) pre x Zb hJb (by omega) trivial
    have HRR := Aside0.mk hRR
    clear hJb hab hKb hUb hRR bHz bPz hr0 hok hY b1 b2 b3 g1 g2 g3 g4 g5 bY bH hBa hB2 hl hh hc ht hkB hkW hkBW h0 hW hlW hJ hJx
    try dsimp only at hy
    cases hb : lessB hi x with
    | false =>
      have hb1 : Op.bytesLess x.1.toList hi.toList = false := hb
      have HBx := Aside0.mk hb
      clear hb
      gi_wp2
      repeat (first | (refine ⟨fun _ h => (by cases h), ?_⟩; gi_wp2))
      exact ⟨KeepsU.refl _ _, rfl, HZ.out.2.2.2.1, .inl ⟨pre, x, rfl, HZ.out.2.1, HBx.out, HZ.out.1⟩⟩
    | true =>
      have hb1 : Op.bytesLess x.1.toList hi.toList = true := hb
      have HBx := Aside0.mk hb
      clear hb
      gi_wp2
      refine ⟨fun h => (by cases h), ?_⟩
      refine (roundIn_round l' HRR.out).mono ?_
      rintro e Z7 ⟨hU7, (⟨rfl, hJ7, hK7⟩ | ⟨rfl, hx7⟩)⟩
      · have H7 := Aside0.mk (And.intro hU7 (And.intro hJ7 hK7))
        clear hU7 hJ7 hK7 HRR hy
        gi_wp2
        have hk : KpM W2.heap.size (fun k => M k ∨ (n₁ ≤ k ∧ k ≠ bp)) Zb Z7 := by
          refine ⟨H7.out.2.2.size, fun k o hk h1 h2 => ?_, fun k cs fr hk => H7.out.2.2.typ k cs 60 fr (by unfold Quiet; simp) hk⟩
          by_cases hkn : k < n₁
          · exact H7.out.2.2.low k o hk hkn (fun h => h2 (.inl h))
          · have hkb : k = bp := Classical.byContradiction fun hne => h2 (.inr ⟨by omega, hne⟩)
            subst hkb
            rw [HZ.out.2.2.2.2] at hk
            cases hk
            exact H7.out.2.2.typ _ _ 9 _ (by unfold Quiet; simp) HZ.out.2.2.2.2
        refine ⟨H7.out.1.up (by have := HS.out; omega), hk, H7.out.2.1, fun y hy => ?_, HZ.out.2.2.1.trans H7.out.2.2, HZ.out.2.2.2.1.trans H7.out.1⟩
        rcases List.mem_append.1 hy with h | h
        · exact HZ.out.2.1 y h
        · rw [List.mem_singleton.1 h]; exact HBx.out
      · have H7 := Aside0.mk (And.intro hU7 hx7)
        clear hU7 hx7 HRR hy
        gi_wp2
        refine ⟨H7.out.1.up (by have := HS.out; omega), rfl, HZ.out.2.2.2.1.trans H7.out.1, .inr ⟨fun y hy => ?_, H7.out.2⟩⟩
        rcases List.mem_append.1 hy with h | h
        · exact HZ.out.2.1 y h
        · rw [List.mem_singleton.1 h]; exact HBx.out
  case done =>
    rintro D ys Zd hD e9 ⟨hJd, hab, hKd, hUd⟩ hDk
    have HF := Aside0.mk (And.intro hJd (And.intro hab (And.intro hDk (And.intro hD e9))))
    clear hJd hab hKd hUd hDk hD e9 hY b1 b2 b3 g1 g2 g3 g4 g5 bY bH hBa hl hh hc ht hkB hkW hkBW h0 hlW
    gi_wp2
    refine ⟨by simp, .inl ⟨_, _, rfl, run_takeDeferred HF.out.2.2.1, ?_⟩⟩
    refine ⟨_, results_none rfl _ _ _, ⟨_, rfl⟩, .inl ⟨_, ?_, hJ.putObj _ HF.out.1 (by have := HF.out.2.2.2.1; omega) HF.out.2.2.1 rfl⟩⟩
    rw [HF.out.2.2.2.2]
    refine (tw_all _ _ (fun y hy => HF.out.2.1 y ?_)).symm
    rw [HF.out.2.2.2.2]
    exact hy
  case stop =>
    rintro D cd q Zd hD hSp ⟨rfl, hUd, hor⟩ hDk
    have HF := Aside0.mk (And.intro hor (And.intro hDk (And.intro hD hSp)))
    clear hUd hor hDk hD hSp hY b1 b2 b3 g1 g2 g3 g4 g5 bY bH hBa hl hh hc ht hkB hkW hkBW h0 hlW
    gi_wp2
    refine ⟨by simp, .inl ⟨_, _, rfl, run_takeDeferred HF.out.2.1, ?_⟩⟩
    refine ⟨_, results_none rfl _ _ _, ⟨_, rfl⟩, ?_⟩
    rcases HF.out.1 with ⟨pre, x, rfl, h1, h2, h3⟩ | ⟨h1, h2⟩
    · exact .inl ⟨pre, tw_stop _ pre _ x HF.out.2.2.2 h1 h2, hJ.putObj _ h3 (by have := HF.out.2.2.1; omega) HF.out.2.1 rfl⟩
    · exact .inr ⟨q, tw_pre _ q _ HF.out.2.2.2 h1, hJx.putObj _ h2 (by have := HF.out.2.2.1; omega) HF.out.2.1 rfl⟩
set_option maxHeartbeats 4000000 in
set_option maxRecDepth 100000 in
theorem betweenC (tb : Nat) (lo hi : ByteArray) (w : World) : Calls Try.prog 29 #[ptr tb, .string lo, .string hi] w fun e w' => e = .returned (.func (.func 81) #[] #[ptr w.heap.size, ptr (w.heap.size + 1), ptr (w.heap.size + 2)]) ∧ w'.heap[w.heap.size]? = some (.cells #[ptr tb] 24 (0, 0)) ∧ Bx w' (w.heap.size + 1) lo ∧ Bx w' (w.heap.size + 2) hi ∧ Below w.heap.size w w' := by
  have H1 := Aside0.mk (((((Below.refl w.heap.size w).alloc (Nat.le_refl _) (.cells #[ptr tb] 24)).alloc (by simp) (.cells #[.string lo] 9)).alloc (by simp; omega) (.cells #[.string hi] 9)))
  have hA : (((w.alloc (.cells #[ptr tb] 24)).alloc (.cells #[.string lo] 9)).alloc (.cells #[.string hi] 9)).heap[w.heap.size]? = some (.cells #[ptr tb] 24 (0, 0)) := (Below.heap_alloc _ _ _ (by simp; omega)).trans ((Below.heap_alloc _ _ _ (by simp)).trans (World.alloc_heap_new w _))
  have hB : (((w.alloc (.cells #[ptr tb] 24)).alloc (.cells #[.string lo] 9)).alloc (.cells #[.string hi] 9)).heap[w.heap.size + 1]? = some (.cells #[.string lo] 9 (0, 0)) := (Below.heap_alloc _ _ _ (by simp)).trans (by have := World.alloc_heap_new (w.alloc (.cells #[ptr tb] 24)) (.cells #[.string lo] 9); rwa [World.size_alloc] at this)
  have hC : (((w.alloc (.cells #[ptr tb] 24)).alloc (.cells #[.string lo] 9)).alloc (.cells #[.string hi] 9)).heap[w.heap.size + 2]? = some (.cells #[.string hi] 9 (0, 0)) := by have := World.alloc_heap_new ((w.alloc (.cells #[ptr tb] 24)).alloc (.cells #[.string lo] 9)) (.cells #[.string hi] 9); rwa [World.size_alloc, World.size_alloc] at this
  have H2 := Aside0.mk (And.intro hA (And.intro hB hC))
  clear hA hB hC
  unfold ptr at *
  go_enter Try.func29, Try.ntmps29
  go_wp2_with fail
  go_ret
  exact ⟨rfl, H2.out.1, H2.out.2.1, H2.out.2.2, H1.out⟩
end Go.Proofs.Ytjhgknagmiekeaa.V
set_option linter.unusedVariables false
set_option linter.unusedSimpArgs false
namespace Go.Proofs.Ytjhgknagmiekeaa.N
open Go.RowKit Go.Proofs.Ytjhgknagmiekeaa.K Go.Proofs.YtjhgknagmiekeaaW.PrintWords Go.Proofs.YtjhgknagmiekeaaW.PrintLast
open Go.Proofs.Ytjhgknagmiekeaa.T (Nd Lf Ent All valT findT IntVals Fine Tr)
open Go.Proofs.Ytjhgknagmiekeaa.V (valI ovr kpF skF lessB btwL fromL)
def kpB (lo hi q : List UInt8) : Bool := kpF lo q && decide (q < hi)
theorem tw_filter {α : Type} (p : α → Bool) : ∀ L : List α, L.Pairwise (fun a b => p b = true → p a = true) → L.takeWhile p = L.filter p
  | [], _ => rfl
  | a :: L, h => by
    rw [List.pairwise_cons] at h
    by_cases ha : p a = true
    · rw [List.takeWhile_cons, if_pos ha, List.filter_cons_of_pos ha, tw_filter p L h.2]
    · rw [List.takeWhile_cons, if_neg ha, List.filter_cons_of_neg ha]
      symm
      rw [List.filter_eq_nil_iff]
      exact fun b hb hp => ha (h.1 b hb hp)
theorem lessB_eq (hi : ByteArray) (x : ByteArray × Int) : lessB hi x = decide (T.L x.1 < T.L hi) := by unfold lessB; exact V.less_L _ _
theorem btw_eq {root : Nd} {t : Rt} (hg : T.Good root) (ht : Rok t) (h : Agree root t) (lo hi : ByteArray) : btwL lo hi root = (t.ks.zip t.vs).filter (fun x => kpB (T.L lo) (T.L hi) (T.L x.1)) := by
  have e : fromL lo root = (t.ks.zip t.vs).filter (fun x => kpF (T.L lo) (T.L x.1)) := ovr_eqs hg h (skF (T.L lo)) (kpF (T.L lo)) (hskF _)
  unfold btwL
  rw [e, tw_filter, List.filter_filter]
  · refine List.filter_congr (fun x _ => ?_)
    rw [lessB_eq]
    unfold kpB
    exact Bool.and_comm _ _
  · have hr : (t.ks.zip t.vs).Pairwise (fun a b => T.L a.1 < T.L b.1) := by
      have h2 := rise_zip ht.rise ht.v.symm
      rw [List.pairwise_map] at h2
      exact h2
    refine (hr.filter _).imp (fun {a b} hab hb => ?_)
    rw [lessB_eq, decide_eq_true_eq] at hb ⊢
    exact T.blt_trans hab hb
end Go.Proofs.Ytjhgknagmiekeaa.N
set_option linter.unusedVariables false
set_option linter.unusedSimpArgs false
namespace Go.Proofs.Ytjhgknagmiekeaa.V
open Go.RowKit Go.Lib Go.Proofs Go.Shelf
open Go.Proofs.Ytjhgknagmiekeaa.T Go.Proofs.Ytjhgknagmiekeaa.N Go.Proofs.Ytjhgknagmiekeaa.K
open Go.Proofs.YtjhgknagmiekeaaW.PrintWords hiding blk_cell
theorem funcNil1 (fn : Fn) (a c : Array Value) (w : World) : Sem.run Try.prog (binOp BinOp.eql 32 (.func fn a c) .nilFunc) w = .ok (.bool false) w := by kernel_rfl
theorem appendedM {W w1 : World} {n₁ N B : Nat} {t e : TypeId} {size : Nat} {v v' : Value} {k m : Nat} {xs ys : List Value} {tmp : Obj} {M : Nat → Prop} (ht : t ≠ 60) (he : e ≠ 60)
    (hv : Boxed W B t v) (hrow : W.ownsRow n₁ e size v k xs) (hown' : w1.ownsRow n₁ e size v' m ys) (hgrow : (W.alloc tmp).grownBy w1 v.ownBlock) (hM : M B) (hMr : ∀ j, j < N → n₁ ≤ j → (∃ cs, W.heap[j]? = some (.cells cs e (0, 0))) → M j) :
    KpM N M W (w1.setCell ⟨B, 0, none⟩ v') := by
  have hF := appendedF hv hrow hown' hgrow
  refine ⟨?_, fun j o h h1 h2 => ?_, fun j cs fr h => ?_⟩
  · have h1 := hgrow.size
    have h2 := (grownBy_setCell' w1 B v').size
    rw [World.size_alloc] at h1
    omega
  · refine (hF j (Array.getElem?_eq_some_iff.1 h).1 (fun e9 => h2 (by rw [e9]; exact hM)) (fun e9 => ?_)).trans h
    exact h2 (hMr j h1 (own_base hrow j e9.symm) (own_typed hrow j e9.symm))
  · refine (hF j (Array.getElem?_eq_some_iff.1 h).1 (fun e9 => ?_) (fun e9 => ?_)).trans h
    · subst e9
      rw [show W.heap[j]? = _ from hv] at h
      injection h with h1
      injection h1 with _ h2 _
      exact ht h2
    · obtain ⟨cs', hc⟩ := own_typed hrow j e9.symm
      rw [hc] at h
      injection h with h1
      injection h1 with _ h2 _
      exact he h2
theorem ownT_oldM {β : Type} (W0 : World) (M : Nat → Prop) : OwnT W0.heap.size (fun (_ : β) W => ∀ k, k < W0.heap.size → ¬ M k → W.heap[k]? = W0.heap[k]?) := fun s X Y row hs hg hr k h1 h2 => by
  have h3 := hs k h1 h2
  have h4 : W0.heap[k]? = some W0.heap[k] := Array.getElem?_eq_getElem h1
  rw [h4] at h3 ⊢
  exact keep_old hg (fun r e => (hr r e).1) h1 h3
theorem bl_asym {x y : List UInt8} (h : Op.bytesLess x y = true) : Op.bytesLess y x = false := by
  by_cases e : x = y
  · subst e; rw [less_irrefl] at h; cases h
  · rw [less_flip x y e, h]; rfl
theorem filter_cut {α : Type} (p q : α → Bool) : ∀ z : List α, z.Pairwise (fun a b => q a = true → q b = true) → (∀ a, q a = true → p a = true) → z.filter p = z.filter (fun a => p a && !q a) ++ z.filter q
  | [], _, _ => rfl
  | x :: z, h, hp => by
    obtain ⟨h1, h2⟩ := List.pairwise_cons.1 h
    have ih := filter_cut p q z h2 hp
    by_cases hq : q x = true
    · have e1 : (x :: z).filter q = x :: z := List.filter_eq_self.2 (fun a ha => by
        rcases List.mem_cons.1 ha with rfl | ha
        · exact hq
        · exact h1 a ha hq)
      have e2 : (x :: z).filter p = x :: z := List.filter_eq_self.2 (fun a ha => hp a (by
        rcases List.mem_cons.1 ha with rfl | ha
        · exact hq
        · exact h1 a ha hq))
      have e3 : (x :: z).filter (fun a => p a && !q a) = [] := List.filter_eq_nil_iff.2 (fun a ha => by
        have : q a = true := by
          rcases List.mem_cons.1 ha with rfl | ha
          · exact hq
          · exact h1 a ha hq
        simp [this])
      rw [e1, e2, e3]
      rfl
    · have hq' : q x = false := by simpa using hq
      have e1 : (x :: z).filter q = z.filter q := by simp [List.filter_cons, hq']
      by_cases hpx : p x = true
      · have e2 : (x :: z).filter p = x :: z.filter p := by simp [List.filter_cons, hpx]
        have e3 : (x :: z).filter (fun a => p a && !q a) = x :: z.filter (fun a => p a && !q a) := by simp [List.filter_cons, hpx, hq']
        rw [e1, e2, e3, ih]
        rfl
      · have hpx' : p x = false := by simpa using hpx
        have e2 : (x :: z).filter p = z.filter p := by simp [List.filter_cons, hpx']
        have e3 : (x :: z).filter (fun a => p a && !q a) = z.filter (fun a => p a && !q a) := by simp [List.filter_cons, hpx']
        rw [e1, e2, e3, ih]
theorem cuts_eq {root : Nd} {t : Rt} (hg : T.Good root) (ht : Rok t) (h : Agree root t) {lo hi : ByteArray} (hle : Op.bytesLess hi.toList lo.toList = false) : fromL lo root = btwL lo hi root ++ fromL hi root := by
  have e1 : fromL lo root = (t.ks.zip t.vs).filter (fun x => kpF (T.L lo) (T.L x.1)) := ovr_eqs hg h (skF (T.L lo)) (kpF (T.L lo)) (hskF _)
  have e2 : fromL hi root = (t.ks.zip t.vs).filter (fun x => kpF (T.L hi) (T.L x.1)) := ovr_eqs hg h (skF (T.L hi)) (kpF (T.L hi)) (hskF _)
  rw [less_dec, decide_eq_false_iff_not] at hle
  have hr : (t.ks.zip t.vs).Pairwise (fun a b => T.L a.1 < T.L b.1) := by
    have h2 := rise_zip ht.rise ht.v.symm
    rw [List.pairwise_map] at h2
    exact h2
  rw [e1, btw_eq hg ht h, e2, filter_cut (fun x : ByteArray × Int => kpF (T.L lo) (T.L x.1)) (fun x : ByteArray × Int => kpF (T.L hi) (T.L x.1)) (t.ks.zip t.vs)]
  · congr 1
    refine List.filter_congr (fun x _ => ?_)
    unfold N.kpB kpF
    simp
  · refine hr.imp (fun {a b} hab hq => ?_)
    unfold kpF at hq ⊢
    simp only [Bool.not_eq_true', decide_eq_false_iff_not] at hq ⊢
    exact fun hb => hq (T.blt_trans hab hb)
  · intro a hq
    unfold kpF at hq ⊢
    simp only [Bool.not_eq_true', decide_eq_false_iff_not] at hq ⊢
    intro hb
    rcases T.blt_total (T.L lo) (T.L hi) with h1 | h1 | h1
    · exact hq (T.blt_trans hb h1)
    · exact hq (h1 ▸ hb)
    · exact hle h1
theorem cnt_eq {root : Nd} {t : Rt} (hg : T.Good root) (h : Agree root t) (p : ByteArray) : (ovr (fun q => skU (T.L p) (T.L q)) (fun q => kpU (T.L p) (T.L q)) ⟨#[]⟩ root).length = (t.ks.zip t.vs).countP (fun x => kpU (T.L p) (T.L x.1)) := by
  rw [show ovr (fun q => skU (T.L p) (T.L q)) (fun q => kpU (T.L p) (T.L q)) ⟨#[]⟩ root = _ from ovr_eqs hg h (skU (T.L p)) (kpU (T.L p)) (hskU _), List.countP_eq_length_filter]
def cpP (lo : List UInt8) (m : Nat) (k : List UInt8) : Bool := pre k lo && (decide (k = lo) || decide (((k.drop lo.length).headD 0).toNat < m))
def cpN (lo : List UInt8) (m : Nat) (z : List (ByteArray × Int)) : Nat := z.countP (fun x => cpP lo m (T.L x.1))
theorem countP_or {α : Type} (p q r : α → Bool) (h1 : ∀ a, p a = (q a || r a)) (h2 : ∀ a, q a = true → r a = false) : ∀ z : List α, z.countP p = z.countP q + z.countP r
  | [] => rfl
  | x :: z => by
    rw [List.countP_cons, List.countP_cons, List.countP_cons, countP_or p q r h1 h2 z, h1 x]
    cases hq : q x
    · cases hr : r x <;> simp <;> omega
    · rw [h2 x hq]; simp; omega
theorem cpP_ext (lo : List UInt8) (m : Nat) (r : List UInt8) : cpP lo m (lo ++ r) = (decide (r = []) || decide ((r.headD 0).toNat < m)) := by
  unfold cpP
  have h1 : pre (lo ++ r) lo = true := (pre_iff _ _).2 (List.prefix_append _ _)
  rw [h1, List.drop_left]
  simp
theorem cpP_no (lo : List UInt8) (m : Nat) (k : List UInt8) (h : ¬ lo <+: k) : cpP lo m k = false := by
  unfold cpP
  rw [(pre_false k lo).2 h]
  rfl
theorem pre_go (lo r : List UInt8) (b : UInt8) : pre (lo ++ r) (lo ++ [b]) = decide (r.head? = some b) := by
  rw [Bool.eq_iff_iff, pre_iff, decide_eq_true_eq, List.prefix_append_right_inj]
  cases r with
  | nil => simp
  | cons c r => simp [List.cons_prefix_cons, eq_comm]
theorem cp_succ (z : List (ByteArray × Int)) (lo bq : ByteArray) (i : Nat) (hi : i < 256) (hb : bq = ⟨#[UInt8.ofNat i]⟩) : cpN (T.L lo) (i + 1) z = cpN (T.L lo) i z + z.countP (fun x => kpU (T.L (lo ++ bq)) (T.L x.1)) := by
  have hbl : T.L (lo ++ bq) = T.L lo ++ [UInt8.ofNat i] := by rw [T.L_append, hb]
  have htn : (UInt8.ofNat i).toNat = i := by simp; omega
  have key : ∀ k : List UInt8, cpP (T.L lo) (i + 1) k = (cpP (T.L lo) i k || kpU (T.L (lo ++ bq)) k) ∧ (cpP (T.L lo) i k = true → kpU (T.L (lo ++ bq)) k = false) := by
    intro k
    unfold kpU
    rw [hbl]
    by_cases hp : T.L lo <+: k
    · obtain ⟨r, rfl⟩ := hp
      rw [cpP_ext, cpP_ext, pre_go]
      cases r with
      | nil => simp
      | cons c r =>
        have hc : (c = UInt8.ofNat i) ↔ c.toNat = i := by rw [← UInt8.toNat_inj, htn]
        refine ⟨?_, fun h => ?_⟩
        · rw [Bool.eq_iff_iff]
          simp only [Bool.or_eq_true, decide_eq_true_eq]
          simp only [List.headD_cons, List.head?_cons, Option.some.injEq, hc, reduceCtorEq, false_or]
          generalize c.toNat = n
          omega
        · simp only [Bool.or_eq_true, decide_eq_true_eq] at h
          simp only [List.headD_cons, reduceCtorEq, false_or] at h
          rw [decide_eq_false_iff_not]
          simp only [List.head?_cons, Option.some.injEq, hc]
          generalize c.toNat = n at h ⊢
          omega
    · have h2 : ¬ (T.L lo ++ [UInt8.ofNat i]) <+: k := fun h => hp ((List.prefix_append _ _).trans h)
      rw [cpP_no _ _ _ hp, cpP_no _ _ _ hp, (pre_false _ _).2 h2]
      simp
  exact countP_or _ _ _ (fun x => (key _).1) (fun x => (key _).2) z
theorem cp_full (z : List (ByteArray × Int)) (lo : List UInt8) : cpN lo 256 z = z.countP (fun x => kpU lo (T.L x.1)) := by
  unfold cpN
  congr 1
  funext x
  unfold kpU
  by_cases hp : lo <+: T.L x.1
  · obtain ⟨r, hr⟩ := hp
    rw [← hr, cpP_ext, (pre_iff _ _).2 (List.prefix_append _ _)]
    have h9 : decide ((r.headD 0).toNat < 256) = true := decide_eq_true (by have := (r.headD 0).toNat_lt; omega)
    rw [h9]
    simp
  · rw [cpP_no _ _ _ hp, (pre_false _ _).2 hp]
theorem cp_zero (z : List (ByteArray × Int)) (lo : List UInt8) : cpN lo 0 z = z.countP (fun x => decide (T.L x.1 = lo)) := by
  unfold cpN
  congr 1
  funext x
  by_cases hp : lo <+: T.L x.1
  · obtain ⟨r, hr⟩ := hp
    rw [← hr, cpP_ext]
    simp
  · rw [cpP_no _ _ _ hp]
    have : T.L x.1 ≠ lo := fun e => hp (by rw [e]; exact List.prefix_refl _)
    simp [this]
theorem countP_one {z : List (ByteArray × Int)} (q : List UInt8) : z.Pairwise (fun a b => T.L a.1 < T.L b.1) → ∀ x ∈ z, T.L x.1 = q → z.countP (fun y => decide (T.L y.1 = q)) = 1 := by
  induction z with
  | nil => intro _ x hx; cases hx
  | cons y z ih =>
    intro h x hx hq
    obtain ⟨h1, h2⟩ := List.pairwise_cons.1 h
    rw [List.countP_cons]
    by_cases hy : T.L y.1 = q
    · have h0 : z.countP (fun y => decide (T.L y.1 = q)) = 0 := List.countP_eq_zero.2 (fun a ha => by
        have := h1 a ha
        rw [hy] at this
        simp only [decide_eq_true_eq]
        intro e
        rw [e] at this
        exact T.blt_irrefl _ this)
      rw [h0]
      simp [hy]
    · rcases List.mem_cons.1 hx with rfl | hx
      · exact absurd hq hy
      · rw [ih h2 x hx hq]
        simp [hy]
theorem cp0_none {root : Nd} {t : Rt} (hg : T.Good root) (hv : T.IntVals root) (ht : Rok t) (h : Agree root t) {lo : ByteArray} (hn : T.valT root (T.L lo) = none) : (0 : Int) = ((cpN (T.L lo) 0 (t.ks.zip t.vs) : Nat) : Int) := by
  rw [cp_zero, List.countP_eq_zero.2 (fun x hx => ?_)]
  · rfl
  · simp only [decide_eq_true_eq]
    intro e
    have h1 : ex x ∈ (All root).map ey := by rw [show (All root).map ey = _ from h]; exact List.mem_map_of_mem hx
    have h2 := (mem_ey hg hv (T.L x.1) x.2).1 h1
    rw [e, hn] at h2
    cases h2
theorem cp0_some {root : Nd} {t : Rt} (hg : T.Good root) (hv : T.IntVals root) (ht : Rok t) (h : Agree root t) {lo : ByteArray} {vv : Value} (hn : T.valT root (T.L lo) = some vv) : (1 : Int) = ((cpN (T.L lo) 0 (t.ks.zip t.vs) : Nat) : Int) := by
  have hr : (t.ks.zip t.vs).Pairwise (fun a b => T.L a.1 < T.L b.1) := by
    have h2 := rise_zip ht.rise ht.v.symm
    rw [List.pairwise_map] at h2
    exact h2
  have hm : ∃ x ∈ t.ks.zip t.vs, T.L x.1 = T.L lo := by
    unfold T.valT at hn
    cases hf : findT root (T.L lo) with
    | none => rw [hf] at hn; cases hn
    | some lf =>
      have h1 := List.mem_map_of_mem (f := ey) ((T.mem_all hg (T.L lo) lf).2 hf)
      rw [show (All root).map ey = _ from h, List.mem_map] at h1
      obtain ⟨x, hx, e⟩ := h1
      exact ⟨x, hx, congrArg Prod.fst e⟩
  obtain ⟨x, hx, e⟩ := hm
  rw [cp_zero, countP_one _ hr x hx e]
  rfl
end Go.Proofs.Ytjhgknagmiekeaa.V
set_option linter.unusedVariables false
set_option linter.unusedSimpArgs false
namespace Go.Proofs.Ytjhgknagmiekeaa.V
open Go.RowKit Go.Proofs
open Go.Proofs.YtjhgknagmiekeaaW.PrintWords hiding blk_cell
attribute [local go_sem] Try.underlying35 Try.underlying9 Try.underlying3
theorem eqE (x : ByteArray × Int) (w : World) : Sem.run Try.prog (binOp BinOp.neq 35 (.agg #[.string x.1, .int .i64 x.2]) (.agg #[.string x.1, .int .i64 x.2])) w = .ok (.bool false) w := by
  have h : (Op.equalIn 10000 35 (.agg #[.string x.1, .int .i64 x.2]) (.agg #[.string x.1, .int .i64 x.2])).run Try.prog w = .ok ((x.1.toList == x.1.toList) && (x.2 == x.2)) w :=
    by
      refine eqA_of (d := 9999) Try.underlying35 (by kernel_rfl) ?_
      refine eqf_cons (by rfl) (by go_simp; rfl) (by go_simp; rfl) (by go_simp) ?_
      exact eqf_last (by rfl) (by go_simp; rfl) (by go_simp; rfl) (by go_simp)
  rw [run_neq_struct, h]
  simp
end Go.Proofs.Ytjhgknagmiekeaa.V
