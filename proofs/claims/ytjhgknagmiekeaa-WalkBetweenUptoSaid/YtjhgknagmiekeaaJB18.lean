/- joined: V10g V15 V20 V21 V22 V16h N8 B0 B19 B45 V2F V3F V4F V6F V24 -/
import Derived.Test.YtjhgknagmiekeaaJB15
import Derived.Test.YtjhgknagmiekeaaJB17
import Derived.Stop.RegionWithIn
import Derived.RangeFuncBox
import Derived.Test.YtjhgknagmiekeaaJB14
import Derived.Test.YtjhgknagmiekeaaJB12
import Derived.Deep.RegionHeld3
import Derived.Test.YtjhgknagmiekeaaProg
import Derived.Below
import Derived.Deep.Draws
import Derived.Deep.AppendLies
import Derived.Maps.AppendAt
import Derived.OwnWalk
import Derived.Laws.BytesArg
import Derived.Laws.MakeOwn
import Derived.Laws.OwnMore
import Derived.Deep.OwnRows
import Derived.Tactics
import Derived.Lib.ConvBytes
import Derived.Laws.Slices
import Derived.WalkKit
import Derived.KernelRfl
import Derived.RowKit3
import Derived.Deep.LoopGhost
import Derived.Deep.QuietTactic
import Derived.BigQuiet
import Derived.WideLaws
import Derived.Deep.DeepCutAuto
import Derived.Deep.CutBlock
import Derived.Laws.Rows
import Derived.Lib.AppendStr
import Derived.ArgAppend
import Derived.Laws.IdiomCopy
import Derived.OrdersHeld
import Derived.Laws.BitsLemmas
import Derived.RowKit
import Derived.Test.YtjhgknagmiekeaaJB0
import Derived.Test.YtjhgknagmiekeaaJB1
import Derived.Laws.StructEq
import Derived.Test.YtjhgknagmiekeaaJB8
import Derived.Laws.Cover1
set_option linter.unusedVariables false
set_option linter.unusedSimpArgs false
namespace Go.Proofs.Ytjhgknagmiekeaa.V
open Go.Proofs.Ytjhgknagmiekeaa.VU (below_drewA)
open Go.RowKit Go.Lib Go.Proofs Go.Shelf
open Go.Proofs.Ytjhgknagmiekeaa.T Go.Proofs.Ytjhgknagmiekeaa.N Go.Proofs.Ytjhgknagmiekeaa.K
open Go.Proofs.YtjhgknagmiekeaaW.PrintWords hiding blk_cell
theorem own_weak {w : World} {b b' : Nat} {e : TypeId} {size : Nat} {v : Value} {n : Nat} {xs : List Value} (h : w.ownsRow b e size v n xs) (hb : b' ≤ b) : w.ownsRow b' e size v n xs := by
  refine ⟨h.1, ?_⟩
  rcases h.2 with h2 | ⟨g, cap, cur, h1, h2, h3⟩
  · exact .inl h2
  · exact .inr ⟨g, cap, cur, h1, Nat.le_trans hb h2, h3⟩
theorem appended2 {W w1 : World} {n₁ n₀ B : Nat} {t e : TypeId} {size : Nat} {v v' : Value} {k m : Nat} {xs ys : List Value} {tmp : Obj} {M : Nat → Prop}
    (hv : Boxed W B t v) (hte : t ≠ e) (ht : t ≠ 60) (he : e ≠ 60) (hrow : W.ownsRow n₁ e size v k xs) (hn₁ : n₁ ≤ W.heap.size) (hn₀ : n₀ ≤ n₁) (hB : n₀ ≤ B) (hM : M B)
    (hown' : w1.ownsRow n₁ e size v' m ys) (hgrow : (W.alloc tmp).grownBy w1 v.ownBlock) :
    Boxed w1 B t v ∧ Boxed (w1.setCell ⟨B, 0, none⟩ v') B t v' ∧ (w1.setCell ⟨B, 0, none⟩ v').ownsRow n₁ e size v' m ys ∧ KeepsOthers W (w1.setCell ⟨B, 0, none⟩ v') ∧ Below n₀ W (w1.setCell ⟨B, 0, none⟩ v') ∧ KpM n₁ M W (w1.setCell ⟨B, 0, none⟩ v') ∧ (∀ k, k < n₁ → k ≠ B → (w1.setCell ⟨B, 0, none⟩ v').heap[k]? = W.heap[k]?) := by
  obtain ⟨a1, a2, a3, a4, a5⟩ := hv.appended hte (own_weak hrow hn₀) (Nat.le_trans hn₀ hn₁) hB (own_weak hown' hn₀) hgrow
  have hne : ∀ k, k < n₁ → some k ≠ v.ownBlock := fun k hk e9 => by
    rcases hrow.2 with ⟨rfl, _⟩ | ⟨g, cap, cur, rfl, hb, _, _⟩
    · simp [Value.ownBlock] at e9
    · obtain rfl : k = g := by simpa [Value.ownBlock] using e9
      omega
  have hlow : ∀ k, k < n₁ → k ≠ B → (w1.setCell ⟨B, 0, none⟩ v').heap[k]? = W.heap[k]? := fun k hk hkB => by
    rw [Below.heap_setCell _ _ _ k hkB]
    exact (hgrow.block k (by rw [World.size_alloc]; omega) (hne k hk)).trans (Below.heap_alloc _ _ _ (by omega))
  refine ⟨a1, a2, hown'.kept (grownBy_setCell' w1 B v') (.inr (a1.not_row hte hown').symm), a4, a5, ⟨a5.size, fun k o hk h1 h2 => ?_, fun k cs fr hk => ?_⟩, hlow⟩
  · exact (hlow k h1 (fun e9 => h2 (by rw [e9]; exact hM))).trans hk
  · have hkB : k ≠ B := fun e9 => by
      subst e9
      rw [show W.heap[k]? = _ from hv] at hk
      injection hk with h1
      injection h1 with _ h2 _
      exact ht h2
    have hlt := (Array.getElem?_eq_some_iff.1 hk).1
    rw [Below.heap_setCell _ _ _ k hkB]
    refine (hgrow.block k (by rw [World.size_alloc]; omega) (fun e9 => ?_)).trans ((Below.heap_alloc _ _ _ (by omega)).trans hk)
    rcases hrow.2 with ⟨rfl, _⟩ | ⟨g, cap, cur, rfl, hb, hgb, _⟩
    · simp [Value.ownBlock] at e9
    · obtain rfl : k = g := by simpa [Value.ownBlock] using e9
      rw [hk] at hgb
      injection hgb with h1
      injection h1 with _ h2 _
      exact he h2.symm
def rowv (l : List (ByteArray × Int)) : List Value := l.flatMap (fun x => [.string x.1, .int .i64 x.2])
theorem rowv_snoc (l : List (ByteArray × Int)) (x : ByteArray × Int) : rowv (l ++ [x]) = rowv l ++ [.string x.1, .int .i64 x.2] := by simp [rowv]
abbrev mkE (x : ByteArray × Int) : S35 := ⟨x.1, x.2⟩
theorem cell_two_new (w : World) (x y : Value) (t : TypeId) : ∀ j u, [x, y][j]? = some u → (w.alloc (.cells #[x, y] t)).cell? ((⟨w.heap.size, 0, none⟩ : Addr).add j) = some u := by
  intro j u hj
  have h := World.alloc_heap_new w (.cells #[x, y] t)
  match j, hj with
  | 0, hj => cases hj; show World.cell? _ ⟨_, 0, none⟩ = _; rw [blk_cell h]; rfl
  | 1, hj => cases hj; show World.cell? _ ⟨_, 1, none⟩ = _; rw [blk_cell h]; rfl
  | j + 2, hj => cases hj
theorem rowv_drop : ∀ (l : List (ByteArray × Int)) (j : Nat) (x : ByteArray × Int), l[j]? = some x → ((rowv l).drop (j * 2)).take 2 = [.string x.1, .int .i64 x.2]
  | [], j, x, h => by cases h
  | y :: l, 0, x, h => by cases h; rfl
  | y :: l, j + 1, x, h => by
    rw [show (j + 1) * 2 = j * 2 + 2 from by omega]
    exact rowv_drop l j x (by simpa using h)
theorem rowv_len (l : List (ByteArray × Int)) : (rowv l).length = l.length * 2 := by
  induction l with
  | nil => rfl
  | cons x l ih => rw [show rowv (x :: l) = .string x.1 :: .int .i64 x.2 :: rowv l from rfl, List.length_cons, List.length_cons, ih, List.length_cons]; omega
theorem rowv_reps (l : List (ByteArray × Int)) (w : World) : Reps (k35.K w) 2 (l.map mkE) (rowv l) := by
  refine ⟨by rw [rowv_len, List.length_map], fun j p hp => ?_⟩
  rw [List.getElem?_map] at hp
  obtain ⟨x, hx, rfl⟩ := Option.map_eq_some_iff.1 hp
  rw [rowv_drop l j x hx]
  exact k35_mk w (mkE x)
theorem own_got {w : World} {base : Nat} {v : Value} {l : List (ByteArray × Int)} (h : w.ownsRow base 35 2 v l.length (rowv l)) : ∃ A c, v = .slice A (l.map mkE).length c ∧ (l.map mkE).length ≤ c ∧ EntAt w A (l.map mkE) := by
  obtain ⟨A, c, e, hr⟩ := own_reads_row h (rowv_reps l w) (by rw [List.length_map])
  refine ⟨A, c, by rw [List.length_map]; exact e, ?_, by show ReadsRow _ _ _ _ _ _; rw [List.length_map]; exact hr⟩
  rw [List.length_map]
  rcases h.2 with ⟨h1, h2⟩ | ⟨g, cap, cur, h1, h2, h3, h4, h5⟩
  · omega
  · rw [e] at h1
    injection h1 with _ _ h9
    omega
theorem info35 : (Try.prog.info? 35).map (fun i => (i.zero, i.size, i.bytes)) = some (some (.agg #[.string ⟨#[]⟩, .int .i64 0]), 2, 24) := by kernel_rfl
end Go.Proofs.Ytjhgknagmiekeaa.V
set_option linter.unusedVariables false
set_option linter.unusedSimpArgs false
namespace Go.Proofs.Ytjhgknagmiekeaa.V
open Go.RowKit Go.Lib Go.Proofs Go.Shelf
open Go.Proofs.Ytjhgknagmiekeaa.T
open Go.Proofs.YtjhgknagmiekeaaW.PrintWords hiding blk_cell
def TreeTy (t : TypeId) : Prop := t = 58 ∨ t = 117 ∨ t = 124 ∨ t = 127
structure FarB (X : Nat → Prop) (W W' : World) : Prop where
  off : ∀ k, X k → ∀ cs t fr, W.heap[k]? = some (.cells cs t fr) → ¬ TreeTy t
  same : ∀ k, ¬ X k → k < W.heap.size → W'.heap[k]? = W.heap[k]?
theorem FarB.at {X : Nat → Prop} {W W' : World} (h : FarB X W W') {b : Nat} {cs : Array Value} {t : TypeId} {fr : Nat × Nat} (hv : W.heap[b]? = some (.cells cs t fr)) (ht : TreeTy t) : W'.heap[b]? = some (.cells cs t fr) :=
  (h.same b (fun e => h.off b e _ _ _ hv ht) (Array.getElem?_eq_some_iff.1 hv).1).trans hv
theorem FarB.trans {X : Nat → Prop} {A B C : World} (h : FarB X A B) (k : FarB (fun _ => False) B C) : FarB X A C := ⟨h.off, fun j h1 h2 => by
  have e := h.same j h1 h2
  have h3 : j < B.heap.size := by
    have h4 : A.heap[j]? = some A.heap[j] := Array.getElem?_eq_getElem h2
    rw [h4] at e
    exact (Array.getElem?_eq_some_iff.1 e).1
  exact (k.same j (fun x => x) h3).trans e⟩
end Go.Proofs.Ytjhgknagmiekeaa.V
set_option linter.unusedVariables false
set_option linter.unusedSimpArgs false
namespace Go.Proofs.Ytjhgknagmiekeaa.V
open Go.RowKit Go.Lib Go.Proofs Go.Proofs.Ytjhgknagmiekeaa.T
variable {F : Fence} {n : Nat} {P : Program}
def Quiet (t : TypeId) : Prop := t = 4 ∨ t = 9 ∨ t = 24 ∨ t = 60 ∨ t = 110 ∨ t = 111 ∨ t = 132
def qObj (o : Obj) : Prop := o.isCells = false ∨ ∃ cs t fr, o = .cells cs t fr ∧ Quiet t
structure KeepsU (B : Nat) (W W' : World) : Prop where
  size : W.heap.size ≤ W'.heap.size
  same : ∀ (k : Nat) (o : Obj), B ≤ k → W.heap[k]? = some o → qObj o → W'.heap[k]? = some o
theorem KeepsU.trans {B : Nat} {X Y Z : World} (h : KeepsU B X Y) (k : KeepsU B Y Z) : KeepsU B X Z := ⟨Nat.le_trans h.size k.size, fun i o hB hi ho => k.same i o hB (h.same i o hB hi ho) ho⟩
theorem KeepsU.of {B : Nat} {W W' : World} (h : Below W.heap.size W W') : KeepsU B W W' := ⟨h.size, fun k o _ hk _ => (Kept.of h).at hk⟩
theorem KeepsU.refl (B : Nat) (W : World) : KeepsU B W W := KeepsU.of (Below.refl _ _)
theorem KeepsU.up {B B' : Nat} {W W' : World} (h : KeepsU B W W') (hB : B ≤ B') : KeepsU B' W W' := ⟨h.size, fun k o hk h1 h2 => h.same k o (Nat.le_trans hB hk) h1 h2⟩
theorem KeepsU.put {B l : Nat} (W : World) (o : Obj) (h : l < B) : KeepsU B W (W.putObj l o) := by
  have hg := grownBy_putObj' W l o
  exact ⟨hg.size, fun k x hk h1 _ => (hg.block k (Array.getElem?_eq_some_iff.1 h1).1 (fun e => by cases e; omega)).trans h1⟩
theorem KeepsU.set {B b : Nat} (W : World) (v : Value) (h : b < B) : KeepsU B W (W.setCell ⟨b, 0, none⟩ v) := by
  have hg := grownBy_setCell' W b v
  exact ⟨hg.size, fun k x hk h1 _ => (hg.block k (Array.getElem?_eq_some_iff.1 h1).1 (fun e => by cases e; omega)).trans h1⟩
def ownPostU {α : Type} (B : Nat) (Kp : World → World → Prop) (I : List α → World → Prop) (Ix : Code → List α → World → Prop) (xs : List α) (W : World) : Exit → Act → World → Prop
  | .normal, _, W' => KeepsU B W W' ∧ Kp W W' ∧ I xs W'
  | .ret, _, W' => KeepsU B W W' ∧ Ix .ret xs W'
  | .exit id, _, W' => KeepsU B W W' ∧ Ix (.exit id) xs W'
  | .goto t, _, W' => KeepsU B W W' ∧ Ix (.goto t) xs W'
  | .panic _, _, _ => False
  | .outgrown, _, _ => False
def OwnT {β : Type} (B : Nat) (I : β → World → Prop) : Prop :=
  ∀ s W W' row, I s W → W.grownBy W' row → (∀ r, row = some r → B ≤ r ∧ ∃ o : Obj, W.heap[r]? = some o ∧ (o.isCells = false ∨ ∃ b : Bool, o = .cells #[.bool b] 4 (0, 0))) → I s W'
theorem OwnT.putObj {β : Type} {B : Nat} {I : β → World → Prop} (h : OwnT B I) {s : β} {W : World} {l : Nat} {o : Obj} (o' : Obj) (hs : I s W) (hB : B ≤ l) (hl : W.heap[l]? = some o) (ho : o.isCells = false) : I s (W.putObj l o') :=
  h s W _ (some l) hs (grownBy_putObj' W l o') (fun r e => by cases e; exact ⟨hB, o, hl, .inl ho⟩)
theorem OwnT.alloc {β : Type} {B : Nat} {I : β → World → Prop} (h : OwnT B I) {s : β} {W : World} (o : Obj) (hs : I s W) : I s (W.alloc o) :=
  h s W _ none hs (World.grownBy_alloc W o none) (fun r e => by cases e)
theorem OwnT.and {β : Type} {B : Nat} {I I' : β → World → Prop} (h : OwnT B I) (h' : OwnT B I') : OwnT B (fun s W => I s W ∧ I' s W) := fun s W W' row hs hg hr => ⟨h s W W' row hs.1 hg hr, h' s W W' row hs.2 hg hr⟩
theorem OwnT.bool {β : Type} {B : Nat} {I : β → World → Prop} (h : OwnT B I) {s : β} {W : World} {l : Nat} {b : Bool} (v' : Value) (hs : I s W) (hB : B ≤ l) (hl : Boxed W l 4 (.bool b)) : I s (W.setCell ⟨l, 0, none⟩ v') :=
  h s W _ (some l) hs (grownBy_setCell' W l v') (fun r e => by cases e; exact ⟨hB, _, hl, .inr ⟨b, rfl⟩⟩)
def SeqO {α : Type} (F : Fence) (n : Nat) (P : Program) (g : Nat) (lb : Array Value) (encs : α → Array Value) (Kp : World → World → Prop) (Ok S Sp : List α → Prop) (N : Nat) (w : World) : Prop :=
  ∀ (l : Nat) (J Jx : List α → World → Prop) (W : World), Below w.heap.size w W → l < W.heap.size → OwnT W.heap.size J → OwnT W.heap.size Jx →
    (∀ m pre x W1, J pre W1 → pre.length < N → Ok (pre ++ [x]) → YieldAt F m P l (encs x) W1 fun e W' => KeepsU W.heap.size W1 W' ∧ ((e = .returned (.bool true) ∧ J (pre ++ [x]) W' ∧ Kp W1 W') ∨ (e = .returned (.bool false) ∧ Jx (pre ++ [x]) W'))) →
    J [] W → CallsIn F n P g (#[.func (.yield l) #[] #[]] ++ lb) W fun e W' => (∃ v, e = .returned v) ∧ ((∃ xs, S xs ∧ J xs W') ∨ (∃ pre, Sp pre ∧ Jx pre W'))
theorem ownFrom_abides {β : Type} {B : Nat} {J : β → World → Prop} (h : OwnT B J) : AbidesFrom B J := fun s W W' row hs hg hr =>
  h s W W' row hs hg (fun r e => by obtain ⟨h1, o, h2, h3⟩ := hr r e; exact ⟨h1, o, h2, .inl (Obj.not_cells_of_walk h3)⟩)
theorem ownUp {β : Type} {B B' : Nat} {J : β → World → Prop} (h : OwnT B J) (hB : B ≤ B') : OwnT B' J := fun s W W' row hs hg hr => h s W W' row hs hg (fun r e => ⟨Nat.le_trans hB (hr r e).1, (hr r e).2⟩)
theorem ownBelow {β : Type} {B : Nat} {J : β → World → Prop} (h : OwnT B J) {s : β} {W W' : World} (hs : J s W) (hb : Below W.heap.size W W') : J s W' :=
  h s W W' none hs ⟨hb.os, hb.tape, hb.output, hb.size, fun k hk _ => hb.block k hk⟩ (fun r e => by cases e)
theorem seqO_of {α : Type} {g : Nat} {lb : Array Value} {encs : α → Array Value} {Kp : World → World → Prop} {S Sp : List α → Prop} {N : Nat} {w : World} (h : SeqStopsK Fence.wide n P g lb encs Kp S Sp N w) : SeqO Fence.wide n P g lb encs Kp (fun _ => True) S Sp N w :=
  fun l J Jx W hW _ hJ hJx hY h0 => h l J Jx W hW (ownFrom_abides hJ) (ownFrom_abides hJx) (fun pre x W1 h1 h2 => (hY _ pre x W1 h1 h2 trivial).mono (fun e W' h => h.2)) h0
theorem keep_old {A B : World} {row : Option Nat} {n0 k : Nat} {o : Obj} (hg : A.grownBy B row) (hr : ∀ r, row = some r → n0 ≤ r) (hk : k < n0) (h : A.heap[k]? = some o) : B.heap[k]? = some o :=
  (hg.block k (Array.getElem?_eq_some_iff.1 h).1 (fun e => by have := hr k e.symm; omega)).trans h
theorem wpIn_rangeFuncO {α : Type} {g : Operand} {ps : Array Tmp} {assign body : Code} {Q : Exit → Act → World → Prop} {a : Act} {w : World}
    (hro : F.round = none) (h1 : 1 ≤ n) {gf : Nat} {lb : Array Value} (hg : a.eval g = .func (.func gf) #[] lb) (hFg : F.fn gf) (eg : ∀ args w, (callFunc gf args).run P w = .ok (.enter gf args) w)
    {encs : α → Array Value} {Kp : World → World → Prop} {Ok S Sp : List α → Prop} {N : Nat} {w0 : World} (hseq : SeqO F (n - 1) P gf lb encs Kp Ok S Sp N w0)
    (hKt : ∀ {A B C : World}, Kp A B → Kp B C → Kp A C) (hKb : ∀ (W : World) (o o' : Obj), W.heap[w.heap.size + 1]? = some o → o.isCells = false → Kp W (W.putObj (w.heap.size + 1) o')) (hb0 : Below w0.heap.size w0 w) (hps : ∀ x, (encs x).size = ps.size)
    (I : List α → World → Prop) (Ix : Code → List α → World → Prop) (hI : OwnT w.heap.size I) (hIx : ∀ c, OwnT w.heap.size (Ix c)) (h0 : I [] w) (Ax : α → Act → World → Prop) (hAx : ∀ x a', OwnT w.heap.size (fun (_ : Unit) W => Ax x a' W))
    (hassign : ∀ (l m : Nat) (pre : List α) (x : α) (W : World) (K : Act → World → Prop), I pre W → Ok (pre ++ [x]) → (∀ a' W', KeepsU w.heap.size W W' → Kp W W' → I pre W' → Ax x a' W' → K a' W') →
      assign.wpIn (F.inRound l) m P (Exit.then K (fun _ _ _ => False)) { tmps := (ps.zip (encs x)).foldl (fun t (p, v) => t.setIfInBounds p v) a.tmps, defers := [] } W)
    (hbody : ∀ (l m : Nat) (pre : List α) (x : α) (a' : Act) (W : World), w.heap.size ≤ l → (∃ r, W.heap[l]? = some (.loop r)) → w.heap.size + 2 ≤ W.heap.size → I pre W → Ax x a' W → pre.length < N → Ok (pre ++ [x]) → body.wpIn (F.inRound l) m P (ownPostU w.heap.size Kp I Ix (pre ++ [x]) W) a' W)
    (hdone : ∀ (D : Nat) (xs : List α) (W : World), w.heap.size ≤ D → S xs → I xs W → W.heap[D]? = some (.deferred (some [])) → Q .normal { a with defers := { target := .collected D, args := #[] } :: a.defers } W)
    (hstop : ∀ (D : Nat) (c : Code) (pre : List α) (W : World), w.heap.size ≤ D → Sp pre → Ix c pre W → W.heap[D]? = some (.deferred (some [])) → c.wpIn F n P Q { a with defers := { target := .collected D, args := #[] } :: a.defers } W) :
    (Code.rangeFunc g ps assign body).wpIn F n P Q a w := by
  refine wpIn_rangeFunc ?_
  intro fn hfn
  rw [hro]
  obtain ⟨rec, hrec⟩ : ∃ rec : LoopState → Option Code → Loop, rec = fun st pe => { state := st, pending := pe, fn, tmps := a.tmps, params := ps, assign, body, defers := w.heap.size } := ⟨_, rfl⟩
  obtain ⟨W1, hW1⟩ : ∃ W1, (w.alloc (.deferred (some []))).alloc (.loop (rec .ready none)) = W1 := ⟨_, rfl⟩
  have hs1 : W1.heap.size = w.heap.size + 2 := by rw [← hW1]; simp
  have hL1 : W1.heap[w.heap.size + 1]? = some (.loop (rec .ready none)) := by
    rw [← hW1]; have := World.alloc_heap_new (w.alloc (.deferred (some []))) (.loop (rec .ready none)); rwa [World.size_alloc] at this
  have hK1 : W1.heap[w.heap.size]? = some (.deferred (some [])) := by
    rw [← hW1]; exact (Below.heap_alloc _ _ _ (by simp)).trans (World.alloc_heap_new w _)
  have hI1 : I [] W1 := by rw [← hW1]; exact hI.alloc _ (hI.alloc _ h0)
  have hb1 : Below w0.heap.size w0 W1 := by
    rw [← hW1]; exact hb0.trans ((((Below.refl _ w).alloc (Nat.le_refl _) _).alloc (by simp) _).mono hb0.size)
  refine ⟨w.heap.size + 1, [{ target := .collected w.heap.size, args := #[] }], W1, { target := .fn (.func gf) lb, args := #[.func (.yield (w.heap.size + 1)) #[] #[]] }, W1, gf,
    #[.func (.yield (w.heap.size + 1)) #[] #[]] ++ lb, W1, ?_, ?_, ?_, ?_, fun _ => h1, ?_⟩
  · rw [← hW1, hrec]; exact run_enterLoop_outer _ _ _ _ _
  · simp only [resolve, hg]
    simp [go_sem]
  · intro f' hf'; simp [Target.leads] at hf'; subst hf'; exact hFg
  · simp [invoke, go_sem, eg]
  · refine (hseq (w.heap.size + 1)
      (fun pre W => (I pre W ∧ w.heap.size + 2 ≤ W.heap.size) ∧ W.heap[w.heap.size + 1]? = some (.loop (rec .ready none)) ∧ W.heap[w.heap.size]? = some (.deferred (some [])))
      (fun pre W => ∃ c, Ix c pre W ∧ W.heap[w.heap.size + 1]? = some (.loop (rec .done (some c))) ∧ W.heap[w.heap.size]? = some (.deferred (some [])))
      W1 hb1 (by omega)
      (fun s A B row hs hg' hr => ⟨⟨hI s A B row hs.1.1 hg' (fun r e => ⟨by have := (hr r e).1; omega, (hr r e).2⟩), Nat.le_trans hs.1.2 hg'.size⟩, keep_old hg' (fun r e => (hr r e).1) (by omega) hs.2.1, keep_old hg' (fun r e => (hr r e).1) (by omega) hs.2.2⟩)
      (fun s A B row hs hg' hr => by
        obtain ⟨c, hc, hl, hk⟩ := hs
        exact ⟨c, hIx c s A B row hc hg' (fun r e => ⟨by have := (hr r e).1; omega, (hr r e).2⟩), keep_old hg' (fun r e => (hr r e).1) (by omega) hl, keep_old hg' (fun r e => (hr r e).1) (by omega) hk⟩)
      ?_ ⟨⟨hI1, by omega⟩, hL1, hK1⟩).mono ?_
    · rintro m pre x W ⟨⟨hi, hsz⟩, hl, hk⟩ hlen hok
      have hlt : w.heap.size + 1 < W.heap.size := (Array.getElem?_eq_some_iff.1 hl).1
      have hy := run_yield (P := P) (args := encs x) hl (by rw [hrec]; exact hps x)
      rw [hrec] at hy
      refine ⟨fn, _, assign, body, hy, roundIn_of_wpIn hfn (hassign _ _ pre x W _ hi hok ?_)⟩
      clear hy
      intro a' Wa hkfa hkpa hia hax
      replace hl := hkfa.same _ _ (by omega) hl (.inl rfl)
      replace hk := hkfa.same _ _ (Nat.le_refl _) hk (.inl rfl)
      replace hsz : w.heap.size + 2 ≤ Wa.heap.size := Nat.le_trans hsz hkfa.size
      replace hlt : w.heap.size + 1 < Wa.heap.size := (Array.getElem?_eq_some_iff.1 hl).1
      refine ⟨_, run_beginRound hl (by rw [hrec]), ?_⟩
      have hl2 : (Wa.putObj (w.heap.size + 1) (.loop { rec .ready none with state := .busy })).heap[w.heap.size + 1]? = some (.loop { rec .ready none with state := .busy }) := World.putObj_heap_same hlt
      have hk2 : (Wa.putObj (w.heap.size + 1) (.loop { rec .ready none with state := .busy })).heap[w.heap.size]? = some (.deferred (some [])) := (World.putObj_heap_other (by omega)).trans hk
      have hw2 : Kp Wa (Wa.putObj (w.heap.size + 1) (.loop { rec .ready none with state := .busy })) := hKb _ _ _ hl rfl
      have hg2 := (grownBy_putObj' Wa (w.heap.size + 1) (.loop { rec .ready none with state := .busy })).size
      refine wpIn_mono (hbody _ _ pre x a' _ (by omega) ⟨_, hl2⟩ (Nat.le_trans hsz hg2) (hI.putObj _ hia (by omega) hl rfl) ((hAx x a').putObj (s := ()) _ hax (by omega) hl rfl) hlen hok) ?_
      have fin : ∀ (jump : Option Code) (W3 : World), KeepsU w.heap.size (Wa.putObj (w.heap.size + 1) (.loop { rec .ready none with state := .busy })) W3 →
          (Instr.endRound (w.heap.size + 1) jump).run P W3 = .ok (.bool jump.isNone) (W3.putObj (w.heap.size + 1) (.loop (rec (if jump.isNone then .ready else .done) jump))) ∧
          W3.heap[w.heap.size + 1]? = some (.loop { rec .ready none with state := .busy }) ∧
          (W3.putObj (w.heap.size + 1) (.loop (rec (if jump.isNone then .ready else .done) jump))).heap[w.heap.size + 1]? = some (.loop (rec (if jump.isNone then .ready else .done) jump)) ∧
          (W3.putObj (w.heap.size + 1) (.loop (rec (if jump.isNone then .ready else .done) jump))).heap[w.heap.size]? = some (.deferred (some [])) ∧
          w.heap.size + 2 ≤ (W3.putObj (w.heap.size + 1) (.loop (rec (if jump.isNone then .ready else .done) jump))).heap.size := fun jump W3 hk3 => by
        have hl3 := hk3.same _ _ (by omega) hl2 (.inl rfl)
        have := run_endRound (P := P) jump hl3
        have h9 := (Array.getElem?_eq_some_iff.1 hl3).1
        have h8 := (grownBy_putObj' W3 (w.heap.size + 1) (.loop (rec (if jump.isNone then .ready else .done) jump))).size
        rw [hrec] at this ⊢
        rw [hrec] at h8
        exact ⟨this, by rw [hrec] at hl3; exact hl3, World.putObj_heap_same h9, (World.putObj_heap_other (by omega)).trans (hk3.same _ _ (Nat.le_refl _) hk2 (.inl rfl)), by omega⟩
      have kf : ∀ (W3 : World) (o : Obj), KeepsU w.heap.size (Wa.putObj (w.heap.size + 1) (.loop { rec .ready none with state := .busy })) W3 → KeepsU W1.heap.size W (W3.putObj (w.heap.size + 1) o) := fun W3 o hk3 =>
        (((hkfa.up (by omega)).trans (KeepsU.put Wa _ (by omega))).trans (hk3.up (by omega))).trans (KeepsU.put W3 o (by omega))
      rintro e a3 W3 hp
      cases e with
      | normal =>
        obtain ⟨hk3, hkp3, hi3⟩ := hp
        obtain ⟨hr, hl3, hl4, hk4, hs4⟩ := fin none W3 hk3
        exact ⟨_, _, hr, kf _ _ hk3, .inl ⟨rfl, ⟨⟨hI.putObj _ hi3 (by omega) hl3 rfl, hs4⟩, hl4, hk4⟩, hKt hkpa (hKt (hKt hw2 hkp3) (hKb _ _ _ hl3 rfl))⟩⟩
      | ret =>
        obtain ⟨hk3, hi3⟩ := hp
        obtain ⟨hr, hl3, hl4, hk4, hs4⟩ := fin (some .ret) W3 hk3
        exact ⟨_, _, hr, kf _ _ hk3, .inr ⟨rfl, .ret, (hIx _).putObj _ hi3 (by omega) hl3 rfl, hl4, hk4⟩⟩
      | exit id =>
        obtain ⟨hk3, hi3⟩ := hp
        obtain ⟨hr, hl3, hl4, hk4, hs4⟩ := fin (some (.exit id)) W3 hk3
        exact ⟨_, _, hr, kf _ _ hk3, .inr ⟨rfl, .exit id, (hIx _).putObj _ hi3 (by omega) hl3 rfl, hl4, hk4⟩⟩
      | goto t =>
        obtain ⟨hk3, hi3⟩ := hp
        obtain ⟨hr, hl3, hl4, hk4, hs4⟩ := fin (some (.goto t)) W3 hk3
        exact ⟨_, _, hr, kf _ _ hk3, .inr ⟨rfl, .goto t, (hIx _).putObj _ hi3 (by omega) hl3 rfl, hl4, hk4⟩⟩
      | panic ch => exact hp.elim
      | outgrown => exact hp.elim
    · rintro e W2 ⟨⟨v, rfl⟩, (⟨xs, hS, ⟨hi, -⟩, hl, hk⟩ | ⟨pre, hSp, c, hi, hl, hk⟩)⟩
      · exact ⟨none, _, by have := run_endLoop (P := P) hl (by rw [hrec]; simp); rw [hrec] at this; exact this, hdone _ xs _ (Nat.le_refl _) hS (hI.putObj _ hi (by omega) hl rfl) ((World.putObj_heap_other (by omega)).trans hk)⟩
      · exact ⟨some c, _, by have := run_endLoop (P := P) hl (by rw [hrec]; simp); rw [hrec] at this; exact this, hstop _ c pre _ (Nat.le_refl _) hSp ((hIx c).putObj _ hi (by omega) hl rfl) ((World.putObj_heap_other (by omega)).trans hk)⟩
end Go.Proofs.Ytjhgknagmiekeaa.V
set_option linter.unusedVariables false
set_option linter.unusedSimpArgs false
namespace Go.Proofs.Ytjhgknagmiekeaa.V
open Go.RowKit Go.Lib Go.Proofs Go.Proofs.Ytjhgknagmiekeaa.T Go.Proofs.Ytjhgknagmiekeaa.VA
open Go.Proofs.YtjhgknagmiekeaaW.PrintWords hiding blk_cell
attribute [local go_sem] Oper.semAt_some
structure KpT (n₁ : Nat) (M : Nat → Prop) (W W' : World) : Prop where
  size : W.heap.size ≤ W'.heap.size
  low : ∀ (k : Nat) (o : Obj), W.heap[k]? = some o → k < n₁ → ¬ M k → W'.heap[k]? = some o
  typ : ∀ (k : Nat) (cs : Array Value) (t : TypeId) (fr : Nat × Nat), Quiet t → W.heap[k]? = some (Obj.cells cs t fr) → W'.heap[k]? = some (Obj.cells cs t fr)
theorem KpT.trans {n₁ : Nat} {M : Nat → Prop} {A B C : World} (h : KpT n₁ M A B) (k : KpT n₁ M B C) : KpT n₁ M A C :=
  ⟨Nat.le_trans h.size k.size, fun i o hi h1 h2 => k.low i o (h.low i o hi h1 h2) h1 h2, fun i cs t fr ht hi => k.typ i cs t fr ht (h.typ i cs t fr ht hi)⟩
theorem KpT.of {n₁ : Nat} {M : Nat → Prop} {W W' : World} (h : Below W.heap.size W W') : KpT n₁ M W W' :=
  ⟨h.size, fun k o hk _ _ => (Kept.of h).at hk, fun k cs t fr _ hk => (Kept.of h).at hk⟩
theorem KpT.putObj {n₁ : Nat} {M : Nat → Prop} (W : World) (l : Nat) (o o' : Obj) (hn : n₁ ≤ l) (hl : W.heap[l]? = some o) (hc : o.isCells = false) : KpT n₁ M W (W.putObj l o') := by
  have hg := grownBy_putObj' W l o'
  refine ⟨hg.size, fun k x hk h1 h2 => ?_, fun k cs t fr _ hk => ?_⟩
  · exact (hg.block k (Array.getElem?_eq_some_iff.1 hk).1 (fun e => by cases e; omega)).trans hk
  · refine (hg.block k (Array.getElem?_eq_some_iff.1 hk).1 (fun e => ?_)).trans hk
    cases e
    rw [hk] at hl
    cases hl
    cases hc
theorem kpT_own {β : Type} {n₁ B : Nat} {M : Nat → Prop} {W0 : World} (h1 : n₁ ≤ B) (h0 : W0.heap.size ≤ B) : OwnT B (fun (_ : β) W => KpT n₁ M W0 W) := fun s X Y row hs hg hr => by
  refine ⟨Nat.le_trans hs.size hg.size, fun k o hk h1' h2 => ?_, fun k cs t fr ht hk => ?_⟩
  · exact keep_old hg (fun r e => (hr r e).1) (by omega) (hs.low k o hk h1' h2)
  · exact keep_old hg (fun r e => (hr r e).1) (Nat.lt_of_lt_of_le (Array.getElem?_eq_some_iff.1 hk).1 h0) (hs.typ k cs t fr ht hk)
structure KpQ (W W' : World) : Prop where
  size : W.heap.size ≤ W'.heap.size
  typ : ∀ (k : Nat) (cs : Array Value) (t : TypeId) (fr : Nat × Nat), Quiet t → W.heap[k]? = some (Obj.cells cs t fr) → W'.heap[k]? = some (Obj.cells cs t fr)
theorem KpQ.trans {A B C : World} (h : KpQ A B) (k : KpQ B C) : KpQ A C := ⟨Nat.le_trans h.size k.size, fun i cs t fr ht hi => k.typ i cs t fr ht (h.typ i cs t fr ht hi)⟩
theorem KpQ.of {W W' : World} (h : Below W.heap.size W W') : KpQ W W' := ⟨h.size, fun k cs t fr _ hk => (Kept.of h).at hk⟩
theorem KpT.q {n₁ : Nat} {M : Nat → Prop} {W W' : World} (h : KpT n₁ M W W') : KpQ W W' := ⟨h.size, h.typ⟩
theorem KpQ.putObj (W : World) (l : Nat) (o o' : Obj) (hl : W.heap[l]? = some o) (hc : o.isCells = false) : KpQ W (W.putObj l o') := by
  have hg := grownBy_putObj' W l o'
  refine ⟨hg.size, fun k cs t fr _ hk => ?_⟩
  refine (hg.block k (Array.getElem?_eq_some_iff.1 hk).1 (fun e => ?_)).trans hk
  cases e
  rw [hk] at hl
  cases hl
  cases hc
def PostQ {α : Type} (J Jx : List α → World → Prop) (xs : List α) (e : Ending) (W' : World) : Prop := (∃ v, e = .returned v) ∧ ((∃ ys, ys = xs ∧ J ys W') ∨ (∃ pre, pre <+: xs ∧ Jx pre W'))
theorem ownT_kf {β : Type} {B B' : Nat} {w₀ : World} (hB : w₀.heap.size ≤ B') : OwnT B' (fun (_ : β) W => KeepsU B w₀ W) :=
  fun _ X Y row hs hg hr => ⟨Nat.le_trans hs.size hg.size, fun k o hk h0 ho => keep_old hg (fun r e => (hr r e).1) (Nat.lt_of_lt_of_le (Array.getElem?_eq_some_iff.1 h0).1 hB) (hs.same k o hk h0 ho)⟩
theorem ownT_size {β : Type} {B : Nat} (n : Nat) : OwnT B (fun (_ : β) W => n ≤ W.heap.size) := fun _ X Y row hs hg hr => Nat.le_trans hs hg.size
theorem ownT_pure {β : Type} (B : Nat) (p : β → Prop) : OwnT B (fun s (_ : World) => p s) := fun _ _ _ _ hs _ _ => hs
theorem ownT_old {β : Type} {B : Nat} (b : Nat) (f : β → Obj) (hb : b < B) : OwnT B (fun s W => W.heap[b]? = some (f s)) := fun _ X Y row hs hg hr => keep_old hg (fun r e => (hr r e).1) hb hs
theorem ownT_below {β : Type} {B n : Nat} {w : World} (hn : n ≤ w.heap.size) (hB : n ≤ B) : OwnT B (fun (_ : β) W => Below n w W) := fun _ X Y row hs hg hr => hs.grown hg (Nat.le_trans hn hs.size) (fun k e => Nat.le_trans hB (hr k e).1)
end Go.Proofs.Ytjhgknagmiekeaa.V
set_option linter.unusedVariables false
set_option linter.unusedSimpArgs false
namespace Go.Proofs.Ytjhgknagmiekeaa.V
open Go.RowKit Go.Lib Go.Proofs Go.Proofs.Ytjhgknagmiekeaa.T Go.Proofs.Ytjhgknagmiekeaa.VA
open Go.Proofs.YtjhgknagmiekeaaW.PrintWords hiding blk_cell
attribute [local go_sem] Oper.semAt_some
end Go.Proofs.Ytjhgknagmiekeaa.V
set_option linter.unusedVariables false
set_option linter.unusedSimpArgs false
namespace Go.Proofs.Ytjhgknagmiekeaa.V
open Go.Proofs.Ytjhgknagmiekeaa.VU (below_drewA)
open Go.RowKit Go.Lib Go.Proofs Go.Shelf
open Go.Proofs.Ytjhgknagmiekeaa.T Go.Proofs.Ytjhgknagmiekeaa.N Go.Proofs.Ytjhgknagmiekeaa.K
open Go.Proofs.YtjhgknagmiekeaaW.PrintWords hiding blk_cell
theorem ownT_row {β : Type} {B : Nat} (base : Nat) (e : TypeId) (size : Nat) (he : e ≠ 4) (v : Value) (n : Nat) (xs : List Value) : OwnT B (fun (_ : β) W => W.ownsRow base e size v n xs) := fun s X Y row hs hg hr => by
  refine own_move hs (fun k hk => ?_)
  obtain ⟨cs, hc⟩ := own_typed hs k hk
  refine hg.block k (Array.getElem?_eq_some_iff.1 hc).1 (fun e9 => ?_)
  obtain ⟨-, o, h1, h2⟩ := hr k e9.symm
  rw [hc] at h1
  cases h1
  rcases h2 with h2 | ⟨b, h2⟩
  · cases h2
  · injection h2 with _ h3 _
    exact he h3
theorem ownT_all {β γ : Type} {B : Nat} {p : γ → β → World → Prop} (h : ∀ g, OwnT B (p g)) : OwnT B (fun s W => ∃ g, p g s W) := fun s X Y row hs hg hr => by
  obtain ⟨g, hs⟩ := hs
  exact ⟨g, h g s X Y row hs hg hr⟩
theorem appendedF {W w1 : World} {n₁ B : Nat} {t e : TypeId} {size : Nat} {v v' : Value} {k m : Nat} {xs ys : List Value} {tmp : Obj}
    (hv : Boxed W B t v) (hrow : W.ownsRow n₁ e size v k xs) (hown' : w1.ownsRow n₁ e size v' m ys) (hgrow : (W.alloc tmp).grownBy w1 v.ownBlock) :
    ∀ j, j < W.heap.size → j ≠ B → some j ≠ v.ownBlock → (w1.setCell ⟨B, 0, none⟩ v').heap[j]? = W.heap[j]? := fun j hj hB ho => by
  rw [Below.heap_setCell _ _ _ j hB]
  exact (hgrow.block j (by rw [World.size_alloc]; omega) ho).trans (Below.heap_alloc _ _ _ hj)
theorem appendedU {W w1 : World} {n₁ B B' : Nat} {t e : TypeId} {size : Nat} {v v' : Value} {k m : Nat} {xs ys : List Value} {tmp : Obj} (he : ¬ Quiet e) (hB : B < B')
    (hv : Boxed W B t v) (hrow : W.ownsRow n₁ e size v k xs) (hown' : w1.ownsRow n₁ e size v' m ys) (hgrow : (W.alloc tmp).grownBy w1 v.ownBlock) : KeepsU B' W (w1.setCell ⟨B, 0, none⟩ v') := by
  refine ⟨?_, fun j o hj h hq => ?_⟩
  · have h1 := hgrow.size
    have h2 := (grownBy_setCell' w1 B v').size
    rw [World.size_alloc] at h1
    omega
  · refine (appendedF hv hrow hown' hgrow j (Array.getElem?_eq_some_iff.1 h).1 (by omega) (fun e9 => ?_)).trans h
    obtain ⟨cs', hc⟩ := own_typed hrow j e9.symm
    rw [hc] at h
    cases h
    rcases hq with hq | ⟨_, _, _, hq, hq2⟩
    · cases hq
    · injection hq with _ h3 _
      subst h3
      exact he hq2
theorem appendedT {W w1 : World} {n₁ B : Nat} {M : Nat → Prop} {t e : TypeId} {size : Nat} {v v' : Value} {k m : Nat} {xs ys : List Value} {tmp : Obj} (ht : ¬ Quiet t) (he : ¬ Quiet e) (hM : M B)
    (hv : Boxed W B t v) (hrow : W.ownsRow n₁ e size v k xs) (hown' : w1.ownsRow n₁ e size v' m ys) (hgrow : (W.alloc tmp).grownBy w1 v.ownBlock) : KpT n₁ M W (w1.setCell ⟨B, 0, none⟩ v') := by
  refine ⟨?_, fun j o hj h1 h2 => ?_, fun j cs t' fr hq hj => ?_⟩
  · have h1 := hgrow.size
    have h2 := (grownBy_setCell' w1 B v').size
    rw [World.size_alloc] at h1
    omega
  · refine (appendedF hv hrow hown' hgrow j (Array.getElem?_eq_some_iff.1 hj).1 (fun e9 => h2 (by rw [e9]; exact hM)) (fun e9 => ?_)).trans hj
    have := own_base hrow j e9.symm
    omega
  · refine (appendedF hv hrow hown' hgrow j (Array.getElem?_eq_some_iff.1 hj).1 (fun e9 => ?_) (fun e9 => ?_)).trans hj
    · subst e9
      rw [show W.heap[j]? = _ from hv] at hj
      cases hj
      exact ht hq
    · obtain ⟨cs', hc⟩ := own_typed hrow j e9.symm
      rw [hc] at hj
      cases hj
      exact he hq
end Go.Proofs.Ytjhgknagmiekeaa.V
set_option linter.unusedVariables false
set_option linter.unusedSimpArgs false
namespace Go.Proofs.Ytjhgknagmiekeaa.N
open Go.RowKit Go.Proofs.Ytjhgknagmiekeaa.K Go.Proofs.YtjhgknagmiekeaaW.PrintWords Go.Proofs.YtjhgknagmiekeaaW.PrintLast
open Go.Proofs.Ytjhgknagmiekeaa.V (kpF kpU)
def PlAt (w : World) (v : Value) (idx : List Nat) : Prop := SlI w v (ints idx)
theorem PlAt.below {w w' : World} {v : Value} {idx : List Nat} (h : PlAt w v idx) (hb : Below w.heap.size w w') : PlAt w' v idx := SlI.below h hb
def GoAt (w : World) (v : Value) (l : List S35) : Prop := ∃ A c, v = .slice A l.length c ∧ l.length ≤ c ∧ Kd.C k35 w A l.length l
theorem GoAt.below {w w' : World} {v : Value} {l : List S35} (h : GoAt w v l) (hb : Below w.heap.size w w') : GoAt w' v l := by
  obtain ⟨A, c, h1, h2, h3⟩ := h
  exact ⟨A, c, h1, h2, Kd.C_below h3 hb⟩
theorem theseC (w : World) (t : Rt) (h : Rok t) (v0 v1 v2 v3 v4 : Value) (hm : RtAt w t v0 v1 v2 v3 v4) (idx : List Nat) (hi : ∀ i ∈ idx, i < t.ks.length) (hl : idx.length < 100000000000) (g : Value) (hg : GoAt w g (atPl t idx)) (pv : Value) (hp : PlAt w pv idx) :
    Calls Try.prog 23 #[g, .agg #[v0, v1, v2, v3, v4], pv] w fun e w' => e = .returned (.bool true) ∧ Below w.heap.size w w' := by
  obtain ⟨k, hk⟩ := (these_ev t h idx hi hl).rounds
  obtain ⟨⟨A0, c0, rfl, p0, q0⟩, ⟨A1, c1, rfl, p1, q1⟩, ⟨A2, c2, rfl, p2, q2⟩, ⟨A3, c3, rfl, p3, q3⟩, ⟨A4, c4, rfl, p4, q4⟩⟩ := hm
  obtain ⟨A, c, rfl, h1, h2⟩ := hg
  obtain ⟨B, d, rfl, h3, h4⟩ := hp
  exact musterlaw04_these.calls k A c (atPl t idx) A0 c0 t.ks A1 c1 t.vs A2 c2 t.ls A3 c3 t.ps A4 c4 t.ms B d (ints idx) true w h2 h1 q0 p0 q1 p1 q2 p2 q3 p3 q4 p4 h4 h3 hk
theorem plc_len (xs : List ByteArray) (p : ByteArray → Bool) : (plc xs p).length ≤ xs.length := upto_le xs p xs.length
end Go.Proofs.Ytjhgknagmiekeaa.N
-- Written by a program of this session (wip/tools/printfam.py) out of the translation; hand-proved contracts set in. Lean checks it.
namespace Go.Proofs.Ytjhgknagmiekeaa.B
open Go.RowKit Go.Proofs.YtjhgknagmiekeaaW.PrintWords Go.Proofs.YtjhgknagmiekeaaW.PrintLast Go.Proofs.YtjhgknagmiekeaaW.PrintMore
attribute [local go_sem] max2_int min2_int max_two min_two max_three min_three max_four min_four   -- for this text's walks alone
set_option linter.unusedVariables false
set_option linter.unusedSimpArgs false
def errW : Option Int → Value
  | none => .nilIface
  | some c => .iface 0 (.int .i64 c)
theorem errW_none : errW none = .nilIface := rfl
theorem errW_some (c : Int) : errW (some c) = .iface 0 (.int .i64 c) := rfl
theorem info3 : (Try.prog.info? 3).map (fun i => (i.zero, i.size, i.bytes)) = some (some (.int .i64 0), 1, 8) := by kernel_rfl
theorem info9 : (Try.prog.info? 9).map (fun i => (i.zero, i.size, i.bytes)) = some (some (.string ⟨#[]⟩), 1, 16) := by kernel_rfl
-- the values' own types
structure S35 where
  f0 : ByteArray
  f1 : Int
def z35 : S35 := ⟨(⟨#[]⟩ : ByteArray), (0 : Int)⟩
def k35 : Kd S35 := Kd.iso (Kd.pair Kd.string (Kd.int .i64)) (fun x : S35 => (x.f0, x.f1))
theorem k35_open {w : World} {x : S35} {cs : List Value} (h : k35.K w x cs) : cs = [.string x.f0, .int .i64 x.f1] := by
  obtain ⟨_, _, rfl, rfl, rfl⟩ := h
  exact rfl
theorem k35_mk (w : World) (x : S35)  : k35.K w x [.string x.f0, .int .i64 x.f1] := ⟨[.string x.f0], [.int .i64 x.f1], rfl, rfl, rfl⟩
def rd_T35 (xs : List S35) (i : Int) : S35 := xs.getD i.toNat z35
theorem at_T35 {w : World} {A : Option Addr} {n : Nat} {xs : List S35} (h : Kd.C k35 w A n xs) (i : Int) (h0 : 0 ≤ i) (h1 : i < n) : ∃ ad , A = some ad ∧ w.cell? (ad.add (i.toNat * 2)) = some (.string (rd_T35 xs i).f0) ∧ w.cell? ⟨(ad.add (i.toNat * 2)).block, (ad.add (i.toNat * 2)).off + 1, none⟩ = some (.int .i64 (rd_T35 xs i).f1) := by
  obtain ⟨ad, c, e, _, hK, hc0⟩ := Kd.C_get h z35 i h0 h1
  have hc : ∀ j u, c[j]? = some u → w.cell? (ad.add (i.toNat * 2 + j)) = some u := hc0
  obtain rfl := k35_open hK
  exact ⟨ad, e, hc 0 _ rfl, by rw [← add_field _ _ 1 (by omega)]; exact hc 1 _ rfl⟩
end Go.Proofs.Ytjhgknagmiekeaa.B
-- Written by a program of this session (wip/tools/printfam.py) out of the translation; hand-proved contracts set in. Lean checks it.
namespace Go.Proofs.Ytjhgknagmiekeaa.B
open Go.RowKit Go.Proofs.YtjhgknagmiekeaaW.PrintWords Go.Proofs.YtjhgknagmiekeaaW.PrintLast Go.Proofs.YtjhgknagmiekeaaW.PrintMore
attribute [local go_sem] max2_int min2_int max_two min_two max_three min_three max_four min_four   -- for this text's walks alone
set_option linter.unusedVariables false
set_option linter.unusedSimpArgs false
mutual
def musterref01_Less.l0 : Nat → ByteArray → ByteArray → Int → Option (Bool)
 | 0, _, _, _ => none
 | k + 1, x0, x1, x5 => if x5 < (x1.size : Int) then (if x5 ≥ (x0.size : Int) then (musterref01_Less.j1 k x0 x1 x5 true) else (if 0 ≤ x5 then (if x5 < (x0.size : Int) then (musterref01_Less.j1 k x0 x1 x5 (decide ((bt x0 x5) < (bt x1 x5)))) else (none)) else (none))) else (some false)
def musterref01_Less.j1 : Nat → ByteArray → ByteArray → Int → Bool → Option (Bool)
 | 0, _, _, _, _ => none
 | k + 1, x0, x1, x5, x24 => if x24 = true then (some true) else (if 0 ≤ x5 then (if x5 < (x0.size : Int) then (if x5 < (x1.size : Int) then (if (bt x0 x5) > (bt x1 x5) then (some false) else (musterref01_Less.l0 k x0 x1 (wrap64 (x5 + 1)))) else (none)) else (none)) else (none))
end
def musterref01_Less.f (k : Nat) (a0 : ByteArray) (a1 : ByteArray) : Option (Bool) := musterref01_Less.l0 k a0 a1 0
theorem musterref01_Less.mono_l : ∀ k, (∀ y0 y1 y2, LeO (musterref01_Less.l0 k y0 y1 y2) (musterref01_Less.l0 (k + 1) y0 y1 y2)) ∧ (∀ y0 y1 y2 y3, LeO (musterref01_Less.j1 k y0 y1 y2 y3) (musterref01_Less.j1 (k + 1) y0 y1 y2 y3))
 | 0 => ⟨fun _ _ _ r h => by simp [musterref01_Less.l0] at h, fun _ _ _ _ r h => by simp [musterref01_Less.j1] at h⟩
 | k + 1 => by
  obtain ⟨ih0, ih1⟩ := musterref01_Less.mono_l k
  refine ⟨?_, ?_⟩
  ·intro y0 y1 y2
   unfold musterref01_Less.l0
   repeat' first
   | (with_reducible exact ih0 _ _ _)
   | (with_reducible exact ih1 _ _ _ _)
   | (with_reducible exact LeO.refl _)
   | (with_reducible exact LeO.none _)
   | (with_reducible refine LeO.ite ?_ ?_)
   | (with_reducible refine LeO.bind ?_ (fun _ => ?_))
   | exact ih0 _ _ _
   | exact ih1 _ _ _ _
   | exact LeO.none _
   | refine LeO.ite ?_ ?_
   | refine LeO.bind ?_ (fun _ => ?_)
  ·intro y0 y1 y2 y3
   unfold musterref01_Less.j1
   repeat' first
   | (with_reducible exact ih0 _ _ _)
   | (with_reducible exact ih1 _ _ _ _)
   | (with_reducible exact LeO.refl _)
   | (with_reducible exact LeO.none _)
   | (with_reducible refine LeO.ite ?_ ?_)
   | (with_reducible refine LeO.bind ?_ (fun _ => ?_))
   | exact ih0 _ _ _
   | exact ih1 _ _ _ _
   | exact LeO.none _
   | refine LeO.ite ?_ ?_
   | refine LeO.bind ?_ (fun _ => ?_)
theorem musterref01_Less.mono : ∀ a0 a1 k, LeO (musterref01_Less.f k a0 a1) (musterref01_Less.f (k + 1) a0 a1) := by
 intro a0 a1 k
 obtain ⟨ih0, ih1⟩ := musterref01_Less.mono_l k
 unfold musterref01_Less.f
 repeat' first
   | (with_reducible exact ih0 _ _ _)
   | (with_reducible exact ih1 _ _ _ _)
   | (with_reducible exact LeO.refl _)
   | (with_reducible exact LeO.none _)
   | (with_reducible refine LeO.ite ?_ ?_)
   | (with_reducible refine LeO.bind ?_ (fun _ => ?_))
   | exact ih0 _ _ _
   | exact ih1 _ _ _ _
   | exact LeO.none _
   | refine LeO.ite ?_ ?_
   | refine LeO.bind ?_ (fun _ => ?_)
set_option maxHeartbeats 8000000 in
set_option maxRecDepth 100000 in
theorem musterref01_Less.calls (k : Nat) (a0 : ByteArray) (a1 : ByteArray) (r : Bool) (w : World) (h : musterref01_Less.f k a0 a1 = some r) :
  Calls Try.prog 80 #[.string a0, .string a1] w fun e w' => e = .returned (.bool r) ∧ Drawn0 w w' := by
 have H : (musterref01_Less.l0 k a0 a1 0) = some r := h
 clear h
 have H' := Aside0.mk H
 clear H
 go_enter Try.func80, Try.ntmps80
 go_wp2
 repeat (go_quiet (fail); try go_wp2)
 go_loopg [5] k (fun kq v5 w' => ∃ (x5_1 : Int), v5 = .int .i64 x5_1 ∧ Aside0 (musterref01_Less.l0 kq a0 a1 x5_1 = some r) ∧ Aside0 (kq ≤ k) ∧ Drawn0 w w')
 case atStart => exact ⟨(0), (by first | rfl | (simp; done) | (simp [*]; done)), H', ⟨Nat.le_refl _⟩, by repeat (first | exact Drawn0.refl _ | apply Drawn0.step)⟩
 case round =>
  clear H'
  try clear p2
  obtain ⟨x5_1, rfl, HA, HK1, ⟨m1, rfl⟩⟩ := hrel
  cases gk with
  | zero => exact absurd HA.out (by simp [musterref01_Less.l0])
  | succ k1 =>
   have H := HA.out
   clear HA
   simp only [musterref01_Less.l0] at H
   by_cases c3 : x5_1 < (a1.size : Int)
   ·rw [if_pos c3] at H
    have c3b0 : decide (x5_1 < (a1.size : Int)) = true := decide_eq_true c3
    clear c3
    have HC4 := Aside0.mk H
    clear H
    go_upto_region 4 with (fail)
    repeat (go_quiet (fail); go_upto_region 4 with (fail))
    go_cut [24] (fun v24 wc => ∃ (kq : Nat) (x24_3 : Bool), v24 = .bool x24_3 ∧ Aside0 (musterref01_Less.j1 kq a0 a1 x5_1 x24_3 = some r) ∧ Aside0 (kq ≤ k1) ∧ Drawn0 w wc)
    case first =>
     have H := HC4.out
     clear HC4
     by_cases c5 : x5_1 ≥ (a0.size : Int)
     ·rw [if_pos c5] at H
      have c5b0 : decide ((a0.size : Int) ≤ x5_1) = true := decide_eq_true c5
      clear c5
      (first | rw [c5b0] | (simp only [i64_w, i32_w]; rw [c5b0]) | skip)
      have H' := Aside0.mk H
      clear H
      go_wp2
      repeat (go_quiet (fail); try go_wp2)
      go_meet
      case rel => exact ⟨_, (true), (by first | rfl | (simp; done) | (simp [*]; done)), H', ⟨by have := HK1.out; first | omega | exact Nat.le_refl _⟩, by repeat (first | exact Drawn0.refl _ | apply Drawn0.step)⟩
     ·rw [if_neg c5] at H
      have c5b0 : decide ((a0.size : Int) ≤ x5_1) = false := decide_eq_false c5
      clear c5
      (first | rw [c5b0] | (simp only [i64_w, i32_w]; rw [c5b0]) | skip)
      by_cases c6 : 0 ≤ x5_1
      ·rw [if_pos c6] at H
       have c6b0 : decide (0 ≤ x5_1) = true := decide_eq_true c6
       clear c6
       by_cases c7 : x5_1 < (a0.size : Int)
       ·rw [if_pos c7] at H
        have c7b0 : decide (x5_1 < (a0.size : Int)) = true := decide_eq_true c7
        clear c7
        have H' := Aside0.mk H
        clear H
        have p8 : 0 ≤ (x5_1 : Int) := of_decide_eq_true (by first | (with_reducible assumption) | assumption)
        have q8 : x5_1 < (a0.size : Int) := of_decide_eq_true (by first | (with_reducible assumption) | assumption)
        have hx8 := bt_at a0 x5_1
        replace p8 := eq_true p8
        replace q8 := eq_true q8
        have p9 : 0 ≤ (x5_1 : Int) := of_decide_eq_true (by first | (with_reducible assumption) | assumption)
        have q9 : x5_1 < (a1.size : Int) := of_decide_eq_true (by first | (with_reducible assumption) | assumption)
        have hx9 := bt_at a1 x5_1
        replace p9 := eq_true p9
        replace q9 := eq_true q9
        go_wp2
        repeat (go_quiet (fail); try go_wp2)
        go_meet
        case rel => exact ⟨_, (decide ((bt a0 x5_1) < (bt a1 x5_1))), (by first | rfl | (simp; done) | (simp [*]; done)), H', ⟨by have := HK1.out; first | omega | exact Nat.le_refl _⟩, by repeat (first | exact Drawn0.refl _ | apply Drawn0.step)⟩
       ·rw [if_neg c7] at H
        exact absurd H (by simp)
      ·rw [if_neg c6] at H
       exact absurd H (by simp)
    case rest =>
     clear HC4
     try clear p2
     try clear c3
     try clear c3b0
     try clear c5
     try clear c5b0
     try clear c6
     try clear c6b0
     try clear c7
     try clear c7b0
     try clear c8
     try clear p8
     try clear q8
     try clear hx8
     try clear p9
     try clear q9
     try clear hx9
     try clear p2
     try clear p8
     try clear p9
     try clear q8
     try clear q9
     obtain ⟨kq, x24_3, rfl, HA, HJ3, ⟨mc3, rfl⟩⟩ := hcut
     cases kq with
     | zero => exact absurd HA.out (by simp [musterref01_Less.j1])
     | succ kj3 =>
      have H := HA.out
      clear HA
      simp only [musterref01_Less.j1] at H
      by_cases c10 : x24_3 = true
      ·subst c10
       have H1 : (some true) = some r := by rw [if_pos rfl] at H; exact H
       clear H
       have H := H1
       clear H1
       obtain rfl := Option.some.inj H
       go_wp2
       repeat (go_quiet (fail); try go_wp2)
       go_ret
       exact ⟨by first | rfl | (simp; done) | (simp [*]; done), by repeat (first | exact Drawn0.refl _ | apply Drawn0.step)⟩
      ·replace c10 := Bool.eq_false_iff.mpr c10
       subst c10
       have H1 : (if 0 ≤ x5_1 then (if x5_1 < (a0.size : Int) then (if x5_1 < (a1.size : Int) then (if (bt a0 x5_1) > (bt a1 x5_1) then (some false) else (musterref01_Less.l0 kj3 a0 a1 (wrap64 (x5_1 + 1)))) else (none)) else (none)) else (none)) = some r := by rw [if_neg (show ¬ (false = true) by decide)] at H; exact H
       clear H
       have H := H1
       clear H1
       by_cases c11 : 0 ≤ x5_1
       ·rw [if_pos c11] at H
        have c11b0 : decide (0 ≤ x5_1) = true := decide_eq_true c11
        clear c11
        by_cases c12 : x5_1 < (a0.size : Int)
        ·rw [if_pos c12] at H
         have c12b0 : decide (x5_1 < (a0.size : Int)) = true := decide_eq_true c12
         clear c12
         by_cases c14 : x5_1 < (a1.size : Int)
         ·rw [if_pos c14] at H
          have c14b0 : decide (x5_1 < (a1.size : Int)) = true := decide_eq_true c14
          clear c14
          by_cases c16 : (bt a0 x5_1) > (bt a1 x5_1)
          ·rw [if_pos c16] at H
           have c16b0 : decide ((bt a1 x5_1) < (bt a0 x5_1)) = true := decide_eq_true c16
           clear c16
           obtain rfl := Option.some.inj H
           have p13 : 0 ≤ (x5_1 : Int) := of_decide_eq_true (by first | (with_reducible assumption) | assumption)
           have q13 : x5_1 < (a0.size : Int) := of_decide_eq_true (by first | (with_reducible assumption) | assumption)
           have hx13 := bt_at a0 x5_1
           replace p13 := eq_true p13
           replace q13 := eq_true q13
           have p15 : 0 ≤ (x5_1 : Int) := of_decide_eq_true (by first | (with_reducible assumption) | assumption)
           have q15 : x5_1 < (a1.size : Int) := of_decide_eq_true (by first | (with_reducible assumption) | assumption)
           have hx15 := bt_at a1 x5_1
           replace p15 := eq_true p15
           replace q15 := eq_true q15
           go_wp2
           repeat (go_quiet (fail); try go_wp2)
           go_ret
           exact ⟨by first | rfl | (simp; done) | (simp [*]; done), by repeat (first | exact Drawn0.refl _ | apply Drawn0.step)⟩
          ·rw [if_neg c16] at H
           have c16b0 : decide ((bt a1 x5_1) < (bt a0 x5_1)) = false := decide_eq_false c16
           clear c16
           have H' := Aside0.mk H
           clear H
           have p13 : 0 ≤ (x5_1 : Int) := of_decide_eq_true (by first | (with_reducible assumption) | assumption)
           have q13 : x5_1 < (a0.size : Int) := of_decide_eq_true (by first | (with_reducible assumption) | assumption)
           have hx13 := bt_at a0 x5_1
           replace p13 := eq_true p13
           replace q13 := eq_true q13
           have p15 : 0 ≤ (x5_1 : Int) := of_decide_eq_true (by first | (with_reducible assumption) | assumption)
           have q15 : x5_1 < (a1.size : Int) := of_decide_eq_true (by first | (with_reducible assumption) | assumption)
           have hx15 := bt_at a1 x5_1
           replace p15 := eq_true p15
           replace q15 := eq_true q15
           go_wp2
           repeat (go_quiet (fail); try go_wp2)
           go_roundg kj3
           case measure => have := HK1.out; have := HJ3.out; omega
           case rel => exact ⟨(wrap64 (x5_1 + 1)), (by first | rfl | (simp; done) | (simp [*]; done)), H', ⟨by have := HK1.out; have := HJ3.out; omega⟩, by repeat (first | exact Drawn0.refl _ | apply Drawn0.step)⟩
         ·rw [if_neg c14] at H
          exact absurd H (by simp)
        ·rw [if_neg c12] at H
         exact absurd H (by simp)
       ·rw [if_neg c11] at H
        exact absurd H (by simp)
   ·rw [if_neg c3] at H
    have c3b0 : decide (x5_1 < (a1.size : Int)) = false := decide_eq_false c3
    clear c3
    obtain rfl := Option.some.inj H
    go_wp2
    repeat (go_quiet (fail); try go_wp2)
    go_ret
    exact ⟨by first | rfl | (simp; done) | (simp [*]; done), by repeat (first | exact Drawn0.refl _ | apply Drawn0.step)⟩
end Go.Proofs.Ytjhgknagmiekeaa.B
-- Written by a program of this session (wip/tools/printfam.py) out of the translation; hand-proved contracts set in. Lean checks it.
namespace Go.Proofs.Ytjhgknagmiekeaa.B
open Go.RowKit Go.Proofs.YtjhgknagmiekeaaW.PrintWords Go.Proofs.YtjhgknagmiekeaaW.PrintLast Go.Proofs.YtjhgknagmiekeaaW.PrintMore
attribute [local go_sem] max2_int min2_int max_two min_two max_three min_three max_four min_four   -- for this text's walks alone
set_option linter.unusedVariables false
set_option linter.unusedSimpArgs false
def musterref04_Between.l0 : Nat → ByteArray → ByteArray → List Int → List ByteArray → Int → Int → Option (List Int)
 | 0, _, _, _, _, _, _ => none
 | k + 1, x1, x2, x7, x12, x13, x14 => if x14 < x13 then (if 0 ≤ x14 then (if x14 < (x12.length : Int) then ((musterref01_Less.f k (rdOf ByteArray.empty x12 x14) x1).bind fun t270 => (if t270 = true then (musterref04_Between.l0 k x1 x2 x7 x12 x13 (wrap64 (x14 + 1))) else ((musterref01_Less.f k (rdOf ByteArray.empty x12 x14) x2).bind fun t271 => (if t271 = true then (if x7.length < 17592186044416 then (musterref04_Between.l0 k x1 x2 (x7 ++ [x14]) x12 x13 (wrap64 (x14 + 1))) else (none)) else (musterref04_Between.l0 k x1 x2 x7 x12 x13 (wrap64 (x14 + 1))))))) else (none)) else (none)) else (some x7)
def musterref04_Between.f (k : Nat) (l0_0 : List ByteArray) (l0_1 : List Int) (l0_2 : List Int) (l0_3 : List ByteArray) (l0_4 : List Int) (a1 : ByteArray) (a2 : ByteArray) : Option (List Int) := musterref04_Between.l0 k a1 a2 (([] : List Int)) l0_0 (l0_0.length : Int) 0
theorem musterref04_Between.mono_l : ∀ k, (∀ y0 y1 y2 y3 y4 y5, LeO (musterref04_Between.l0 k y0 y1 y2 y3 y4 y5) (musterref04_Between.l0 (k + 1) y0 y1 y2 y3 y4 y5))
 | 0 => fun _ _ _ _ _ _ r h => by simp [musterref04_Between.l0] at h
 | k + 1 => by
  have ih0 := musterref04_Between.mono_l k
  ·intro y0 y1 y2 y3 y4 y5
   unfold musterref04_Between.l0
   repeat' first
   | (with_reducible exact ih0 _ _ _ _ _ _)
   | (with_reducible exact musterref01_Less.mono _ _ _)
   | (with_reducible exact LeO.refl _)
   | (with_reducible exact LeO.none _)
   | (with_reducible refine LeO.ite ?_ ?_)
   | (with_reducible refine LeO.bind ?_ (fun _ => ?_))
   | exact ih0 _ _ _ _ _ _
   | exact musterref01_Less.mono _ _ _
   | exact LeO.none _
   | refine LeO.ite ?_ ?_
   | refine LeO.bind ?_ (fun _ => ?_)
theorem musterref04_Between.mono : ∀ a0 a1 a2 a3 a4 a5 a6 k, LeO (musterref04_Between.f k a0 a1 a2 a3 a4 a5 a6) (musterref04_Between.f (k + 1) a0 a1 a2 a3 a4 a5 a6) := by
 intro a0 a1 a2 a3 a4 a5 a6 k
 have ih0 := musterref04_Between.mono_l k
 unfold musterref04_Between.f
 repeat' first
   | (with_reducible exact ih0 _ _ _ _ _ _)
   | (with_reducible exact musterref01_Less.mono _ _ _)
   | (with_reducible exact LeO.refl _)
   | (with_reducible exact LeO.none _)
   | (with_reducible refine LeO.ite ?_ ?_)
   | (with_reducible refine LeO.bind ?_ (fun _ => ?_))
   | exact ih0 _ _ _ _ _ _
   | exact musterref01_Less.mono _ _ _
   | exact LeO.none _
   | refine LeO.ite ?_ ?_
   | refine LeO.bind ?_ (fun _ => ?_)
set_option maxHeartbeats 8000000 in
set_option maxRecDepth 100000 in
theorem musterref04_Between.calls (k : Nat) (A0_0 : Option Addr) (c0_0 : Nat) (l0_0 : List ByteArray) (A0_1 : Option Addr) (c0_1 : Nat) (l0_1 : List Int) (A0_2 : Option Addr) (c0_2 : Nat) (l0_2 : List Int) (A0_3 : Option Addr) (c0_3 : Nat) (l0_3 : List ByteArray) (A0_4 : Option Addr) (c0_4 : Nat) (l0_4 : List Int) (a1 : ByteArray) (a2 : ByteArray) (r : List Int) (w : World) (hr0_0 : Kd.C Kd.string w A0_0 l0_0.length l0_0) (hc0_0 : l0_0.length ≤ c0_0) (hr0_1 : Kd.C (Kd.int .i64) w A0_1 l0_1.length l0_1) (hc0_1 : l0_1.length ≤ c0_1) (hr0_2 : Kd.C (Kd.int .i64) w A0_2 l0_2.length l0_2) (hc0_2 : l0_2.length ≤ c0_2) (hr0_3 : Kd.C Kd.string w A0_3 l0_3.length l0_3) (hc0_3 : l0_3.length ≤ c0_3) (hr0_4 : Kd.C (Kd.int .i64) w A0_4 l0_4.length l0_4) (hc0_4 : l0_4.length ≤ c0_4) (h : musterref04_Between.f k l0_0 l0_1 l0_2 l0_3 l0_4 a1 a2 = some r) :
  Calls Try.prog 30 #[.agg #[.slice A0_0 l0_0.length c0_0, .slice A0_1 l0_1.length c0_1, .slice A0_2 l0_2.length c0_2, .slice A0_3 l0_3.length c0_3, .slice A0_4 l0_4.length c0_4], .string a1, .string a2] w fun e w' => ∃ v0_ : Value, e = .returned (v0_) ∧ Kd.R (Kd.int .i64) 3 w' w.heap.size (fun _ => True) v0_ r ∧ Below w.heap.size w w' := by
 have hu28 := Try.underlying28
 have HR0_0 := Aside0.mk hr0_0
 have HC0_0 := Aside0.mk hc0_0
 clear hr0_0 hc0_0
 have HR0_1 := Aside0.mk hr0_1
 have HC0_1 := Aside0.mk hc0_1
 clear hr0_1 hc0_1
 have HR0_2 := Aside0.mk hr0_2
 have HC0_2 := Aside0.mk hc0_2
 clear hr0_2 hc0_2
 have HR0_3 := Aside0.mk hr0_3
 have HC0_3 := Aside0.mk hc0_3
 clear hr0_3 hc0_3
 have HR0_4 := Aside0.mk hr0_4
 have HC0_4 := Aside0.mk hc0_4
 clear hr0_4 hc0_4
 have HB := Aside0.mk (Below.refl w.heap.size w)
 have H : (musterref04_Between.l0 k a1 a2 (([] : List Int)) l0_0 (l0_0.length : Int) 0) = some r := h
 clear h
 obtain ⟨y266, hy266⟩ : ∃ y_ : List Int, y_ = (([] : List Int)) := ⟨_, rfl⟩
 replace H : (musterref04_Between.l0 k a1 a2 y266 l0_0 (l0_0.length : Int) 0) = some r := by first | (rw [hy266]; with_reducible exact H) | (have H2_ := (Option.bind_some _ _).symm.trans H; rw [hy266]; with_reducible exact H2_) | (have H2_ := (Option.bind_some _ _).symm.trans H; with_reducible exact H2_) | with_reducible exact H | (rw [hy266]; exact H) | exact H
 have Ny266 := Aside0.mk hy266
 clear hy266
 have H' := Aside0.mk H
 clear H
 go_enter Try.func30, Try.ntmps30
 go_wp2_with (first | ((with_reducible refine gate_dst (N := 3) rfl ?_); refine box_event ?hg (N := 3) ?hd (cs := #[.slice A0_0 l0_0.length c0_0, .slice A0_1 l0_1.length c0_1, .slice A0_2 l0_2.length c0_2, .slice A0_3 l0_3.length c0_3, .slice A0_4 l0_4.length c0_4]) (t := 28) ?hr ?_; (case hd => rfl); (case hg => rfl); (case hr => first | (go_simp; done) | (go_simp; rfl)); intro gb265 hg w4 hbox hb; have n0_ := Aside0.mk (below_step (by repeat (first | (with_reducible first | exact HB.out | apply below_alloc | apply pw_below_drewN | apply below_drew1) | exact HB.out)) hb); have n1_ := Aside0.mk (hbox); have n2_ := Aside0.mk ((by rw [hg]; exact (below_size (by repeat (first | (with_reducible first | exact HB.out | apply below_alloc | apply pw_below_drewN | apply below_drew1) | exact HB.out))) : w.heap.size ≤ gb265)); have n3_ := Aside0.mk ((by rw [hg]; exact (below_size (by repeat (first | (with_reducible first | exact HB.out | apply below_alloc | apply pw_below_drewN | apply below_drew1) | exact HB.out))) : w.heap.size ≤ gb265)); clear HB; have HB := n0_; have BK265 := n1_; have GW265 := n2_; have GE265 := n3_; clear n0_ n1_ n2_ n3_; clear hb hbox hg) | ((with_reducible refine gate_dst (N := 10) rfl ?_); refine Kd.R_lit (Kd.int .i64) _ 3 ?hg (N := 10) ?hd (xs := ([] : List Int)) (inner := []) (ok := fun _ => True) (okp := fun _ => True) ?hr ?hp (fun _ hk => hk) trivial (Below.refl _ _) (Nat.le_refl _) (by simp) ?_; (case hd => rfl); (case hg => rfl); (case hr => first | (go_simp; done) | (go_simp; rfl)); (case hp => exact (Reps.none _ _)); intro v267 w5 ho6 hb hg_ hnew_; clear hg_ hnew_; (first | rw [← Ny266.out] at ho6 | (simp only [Int.reduceToNat] at ho6; rw [← Ny266.out] at ho6)); have n0_ := Aside0.mk (Kd.R_lower ho6 (below_size (by repeat (first | (with_reducible first | exact HB.out | apply below_alloc | apply pw_below_drewN | apply below_drew1 | refine below_set ?_ GE265.out) | exact HB.out)))); have n1_ := Aside0.mk (blk_below (g := gb265) (o := .cells #[.slice A0_0 l0_0.length c0_0, .slice A0_1 l0_1.length c0_1, .slice A0_2 l0_2.length c0_2, .slice A0_3 l0_3.length c0_3, .slice A0_4 l0_4.length c0_4] 28 (0, 0)) (by (with_reducible repeat (first | refine blk_drewN ?_ _ | refine blk_drew ?_ | refine blk_alloc ?_ _)); exact BK265.out) hb); have n2_ := Aside0.mk (below_step (by repeat (first | (with_reducible first | exact HB.out | apply below_alloc | apply pw_below_drewN | apply below_drew1 | refine below_set ?_ GE265.out) | exact HB.out)) hb); clear BK265; clear HB; have HO268 := n0_; have BK265 := n1_; have HB := n2_; clear n0_ n1_ n2_; clear hb ho6; have hcz7_0 : w5.cell? ⟨gb265, 0, none⟩ = some (.slice A0_0 l0_0.length c0_0) := (blk_cell BK265.out 0).trans rfl; have hcz7_1 : w5.cell? ⟨gb265, 1, none⟩ = some (.slice A0_1 l0_1.length c0_1) := (blk_cell BK265.out 1).trans rfl; have hcz7_2 : w5.cell? ⟨gb265, 2, none⟩ = some (.slice A0_2 l0_2.length c0_2) := (blk_cell BK265.out 2).trans rfl; have hcz7_3 : w5.cell? ⟨gb265, 3, none⟩ = some (.slice A0_3 l0_3.length c0_3) := (blk_cell BK265.out 3).trans rfl; have hcz7_4 : w5.cell? ⟨gb265, 4, none⟩ = some (.slice A0_4 l0_4.length c0_4) := (blk_cell BK265.out 4).trans rfl; have hfz7_0 := blk_frozen BK265.out 0; have hfz7_1 := blk_frozen BK265.out 1; have hfz7_2 := blk_frozen BK265.out 2; have hfz7_3 := blk_frozen BK265.out 3; have hfz7_4 := blk_frozen BK265.out 4))
 go_loopg [7, 14] k (fun kq v7 v14 w' => ∃ (x7_1 : List Int) (x14_1 : Int), v14 = .int .i64 x14_1 ∧ Aside0 (musterref04_Between.l0 kq a1 a2 x7_1 l0_0 (l0_0.length : Int) x14_1 = some r) ∧ Aside0 (kq ≤ k) ∧ Aside0 (Kd.R (Kd.int .i64) 3 w' w.heap.size (fun _ => True) v7 x7_1) ∧ Aside0 (w'.heap[gb265]? = some (.cells #[(.slice A0_0 l0_0.length c0_0), (.slice A0_1 l0_1.length c0_1), (.slice A0_2 l0_2.length c0_2), (.slice A0_3 l0_3.length c0_3), (.slice A0_4 l0_4.length c0_4)] 28 (0, 0))) ∧ Aside0 (Below w.heap.size w w'))
 case atStart => exact ⟨(y266), (0), (by first | rfl | (simp; done) | (simp [*]; done)), H', ⟨Nat.le_refl _⟩, ⟨by (with_reducible repeat (first | apply Kd.R_alloc | apply Kd.R_drewN | apply Kd.R_drew)); exact HO268.out⟩, ⟨by (with_reducible repeat (first | refine blk_drewN ?_ _ | refine blk_drew ?_ | refine blk_alloc ?_ _)); exact BK265.out⟩, ⟨by repeat (first | (with_reducible first | exact HB.out | apply below_alloc | apply pw_below_drewN | apply below_drew1 | refine below_set ?_ GE265.out) | exact HB.out)⟩⟩
 case round =>
  clear H'
  try clear p2
  try clear c3
  try clear hcz7_0
  try clear hcz7_1
  try clear hcz7_2
  try clear hcz7_3
  try clear hcz7_4
  try clear hfz7_0
  try clear hfz7_1
  try clear hfz7_2
  try clear hfz7_3
  try clear hfz7_4
  obtain ⟨x7_1, x14_1, rfl, HA, HK1, HO_7, BK265, HB⟩ := hrel
  cases gk with
  | zero => exact absurd HA.out (by simp [musterref04_Between.l0])
  | succ k1 =>
   have H := HA.out
   clear HA
   simp only [musterref04_Between.l0] at H
   by_cases c8 : x14_1 < (l0_0.length : Int)
   ·rw [if_pos c8] at H
    have c8b0 : decide (x14_1 < (l0_0.length : Int)) = true := decide_eq_true c8
    clear c8
    by_cases c9 : 0 ≤ x14_1
    ·rw [if_pos c9] at H
     have c9b0 : decide (0 ≤ x14_1) = true := decide_eq_true c9
     clear c9
     by_cases c10 : x14_1 < (l0_0.length : Int)
     ·rw [if_pos c10] at H
      have c10b0 : decide (x14_1 < (l0_0.length : Int)) = true := decide_eq_true c10
      clear c10
      replace H := Option.bind_eq_some_iff.mp H
      obtain ⟨t270, A110, H⟩ := H
      replace H : (if t270 = true then (musterref04_Between.l0 k1 a1 a2 x7_1 l0_0 (l0_0.length : Int) (wrap64 (x14_1 + 1))) else ((musterref01_Less.f k1 (rdOf ByteArray.empty l0_0 x14_1) a2).bind fun t271 => (if t271 = true then (if x7_1.length < 17592186044416 then (musterref04_Between.l0 k1 a1 a2 (x7_1 ++ [x14_1]) l0_0 (l0_0.length : Int) (wrap64 (x14_1 + 1))) else (none)) else (musterref04_Between.l0 k1 a1 a2 x7_1 l0_0 (l0_0.length : Int) (wrap64 (x14_1 + 1)))))) = some r := H
      have A11 := Aside0.mk A110
      clear A110
      by_cases c12 : t270 = true
      ·subst c12
       have H1 : (musterref04_Between.l0 k1 a1 a2 x7_1 l0_0 (l0_0.length : Int) (wrap64 (x14_1 + 1))) = some r := by rw [if_pos rfl] at H; exact H
       clear H
       have H := H1
       clear H1
       have H' := Aside0.mk H
       clear H
       have p269 : 0 ≤ (x14_1 : Int) := of_decide_eq_true (by first | (with_reducible assumption) | assumption)
       have q269 : x14_1 < (l0_0.length : Int) := of_decide_eq_true (by first | (with_reducible assumption) | assumption)
       obtain ⟨ad269, e269, hx269_0⟩ := Kd.at_string HR0_0.out x14_1 p269 q269
       cases e269
       replace hx269_0 := (HB.out.cell (World.block_lt_of_cell? w _ hx269_0)).trans hx269_0
       replace p269 := eq_true p269
       replace q269 := eq_true q269
       go_wp2_with (first | ((with_reducible refine gate_callee (f := 80) rfl ?_); refine goesL_ (some 21) rfl rfl Try.func80 (by kernel_rfl) rfl #[.string (rdOf ByteArray.empty l0_0 x14_1), .string a1] rfl (by (try simp only [List.map_toArray, List.map_cons, List.map_nil]); first | done | rfl | (simp only [List.length_drop, List.length_take]; rfl)) ?_; (with_reducible refine (musterref01_Less.calls k1 (rdOf ByteArray.empty l0_0 x14_1) a1 true _ A11.out).mono ?_); rintro e w' ⟨rfl, ⟨nd, rfl⟩⟩; refine ⟨_, rfl, ?_⟩))
       go_roundg k1
       case measure => have := HK1.out; omega
       case rel => exact ⟨(x7_1), (wrap64 (x14_1 + 1)), (by first | rfl | (simp; done) | (simp [*]; done)), H', ⟨by have := HK1.out; omega⟩, ⟨by (with_reducible repeat (first | apply Kd.R_alloc | apply Kd.R_drewN | apply Kd.R_drew)); exact HO_7.out⟩, ⟨by (with_reducible repeat (first | refine blk_drewN ?_ _ | refine blk_drew ?_ | refine blk_alloc ?_ _)); exact BK265.out⟩, ⟨by repeat (first | (with_reducible first | exact HB.out | apply below_alloc | apply pw_below_drewN | apply below_drew1 | refine below_set ?_ GE265.out) | exact HB.out)⟩⟩
      ·replace c12 := Bool.eq_false_iff.mpr c12
       subst c12
       have H1 : ((musterref01_Less.f k1 (rdOf ByteArray.empty l0_0 x14_1) a2).bind fun t271 => (if t271 = true then (if x7_1.length < 17592186044416 then (musterref04_Between.l0 k1 a1 a2 (x7_1 ++ [x14_1]) l0_0 (l0_0.length : Int) (wrap64 (x14_1 + 1))) else (none)) else (musterref04_Between.l0 k1 a1 a2 x7_1 l0_0 (l0_0.length : Int) (wrap64 (x14_1 + 1))))) = some r := by rw [if_neg (show ¬ (false = true) by decide)] at H; exact H
       clear H
       have H := H1
       clear H1
       replace H := Option.bind_eq_some_iff.mp H
       obtain ⟨t271, A130, H⟩ := H
       replace H : (if t271 = true then (if x7_1.length < 17592186044416 then (musterref04_Between.l0 k1 a1 a2 (x7_1 ++ [x14_1]) l0_0 (l0_0.length : Int) (wrap64 (x14_1 + 1))) else (none)) else (musterref04_Between.l0 k1 a1 a2 x7_1 l0_0 (l0_0.length : Int) (wrap64 (x14_1 + 1)))) = some r := H
       have A13 := Aside0.mk A130
       clear A130
       by_cases c14 : t271 = true
       ·subst c14
        have H1 : (if x7_1.length < 17592186044416 then (musterref04_Between.l0 k1 a1 a2 (x7_1 ++ [x14_1]) l0_0 (l0_0.length : Int) (wrap64 (x14_1 + 1))) else (none)) = some r := by rw [if_pos rfl] at H; exact H
        clear H
        have H := H1
        clear H1
        by_cases c15 : x7_1.length < 17592186044416
        ·rw [if_pos c15] at H
         have LMc15 := Aside0.mk c15
         clear c15
         obtain ⟨y272, hy272⟩ : ∃ y_ : List Int, y_ = (x7_1 ++ [x14_1]) := ⟨_, rfl⟩
         replace H : (musterref04_Between.l0 k1 a1 a2 y272 l0_0 (l0_0.length : Int) (wrap64 (x14_1 + 1))) = some r := by first | (rw [hy272]; with_reducible exact H) | (have H2_ := (Option.bind_some _ _).symm.trans H; rw [hy272]; with_reducible exact H2_) | (have H2_ := (Option.bind_some _ _).symm.trans H; with_reducible exact H2_) | with_reducible exact H | (rw [hy272]; exact H) | exact H
         have Ny272 := Aside0.mk hy272
         clear hy272
         have H' := Aside0.mk H
         clear H
         have p269 : 0 ≤ (x14_1 : Int) := of_decide_eq_true (by first | (with_reducible assumption) | assumption)
         have q269 : x14_1 < (l0_0.length : Int) := of_decide_eq_true (by first | (with_reducible assumption) | assumption)
         obtain ⟨ad269, e269, hx269_0⟩ := Kd.at_string HR0_0.out x14_1 p269 q269
         cases e269
         replace hx269_0 := (HB.out.cell (World.block_lt_of_cell? w _ hx269_0)).trans hx269_0
         replace p269 := eq_true p269
         replace q269 := eq_true q269
         go_wp2_with (first | ((with_reducible refine gate_callee (f := 80) rfl ?_); refine goesL_ (some 21) rfl rfl Try.func80 (by kernel_rfl) rfl #[.string (rdOf ByteArray.empty l0_0 x14_1), .string a1] rfl (by (try simp only [List.map_toArray, List.map_cons, List.map_nil]); first | done | rfl | (simp only [List.length_drop, List.length_take]; rfl)) ?_; (with_reducible refine (musterref01_Less.calls k1 (rdOf ByteArray.empty l0_0 x14_1) a1 false _ A11.out).mono ?_); rintro e w' ⟨rfl, ⟨nd, rfl⟩⟩; refine ⟨_, rfl, ?_⟩) | (go_at_call 80; (with_reducible refine (musterref01_Less.calls k1 (rdOf ByteArray.empty l0_0 x14_1) a2 true _ A13.out).mono ?_); rintro e w' ⟨rfl, ⟨nd, rfl⟩⟩) | ((with_reducible refine gate_builtin (b := .append) (xs := #[.tmp 28, .tmp 30]) rfl ?_); at_builtin; refine Kd.R_append (Kd.int .i64) (w0 := w) w.heap.size rfl (.tmp 28) (.tmp 30) 26 3 (.int .i64 0) 8 rfl Try.underlying26 info3 rfl (by decide) (by omega) u7 x7_1 x14_1 [.int .i64 x14_1] (fun _ => True) (fun _ => False) rfl rfl ?aP (fun _ hk => hk.elim) ?aF ?aO ?aB ?aS ?aL ?_; (case aP => exact rfl); (case aB => exact (by repeat (first | (with_reducible first | exact HB.out | apply below_alloc | apply pw_below_drewN | apply below_drew1 | refine below_set ?_ GE265.out) | exact HB.out))); (case aF => exact (fun _ _ => trivial)); (case aO => exact (by (with_reducible repeat (first | apply Kd.R_alloc | apply Kd.R_drewN | apply Kd.R_drew)); exact HO_7.out)); (case aS => exact (below_size (by repeat (first | (with_reducible first | exact HB.out | apply below_alloc | apply pw_below_drewN | apply below_drew1 | refine below_set ?_ GE265.out) | exact HB.out)))); (case aL => have := LMc15.out; omega); intro v273 w16 ho hb hg hat; rw [← Ny272.out] at ho; have n0_ := Aside0.mk (blk_grown (g := gb265) (o := .cells #[.slice (some ad269) l0_0.length c0_0, .slice A0_1 l0_1.length c0_1, .slice A0_2 l0_2.length c0_2, .slice A0_3 l0_3.length c0_3, .slice A0_4 l0_4.length c0_4] 28 (0, 0)) (by (with_reducible repeat (first | refine blk_drewN ?_ _ | refine blk_drew ?_ | refine blk_alloc ?_ _)); exact BK265.out) hg (Kd.R_ne HO_7.out BK265.out (by decide))); have n1_ := Aside0.mk (hb); have n2_ := Aside0.mk (ho); clear BK265; clear HB; clear HO_7; have BK265 := n0_; have HB := n1_; have HO274 := n2_; clear n0_ n1_ n2_; clear ho hb hg hat))
         go_roundg k1
         case measure => have := HK1.out; omega
         case rel => exact ⟨(y272), (wrap64 (x14_1 + 1)), (by first | rfl | (simp; done) | (simp [*]; done)), H', ⟨by have := HK1.out; omega⟩, ⟨by (with_reducible repeat (first | apply Kd.R_alloc | apply Kd.R_drewN | apply Kd.R_drew)); exact HO274.out⟩, ⟨by (with_reducible repeat (first | refine blk_drewN ?_ _ | refine blk_drew ?_ | refine blk_alloc ?_ _)); exact BK265.out⟩, ⟨by repeat (first | (with_reducible first | exact HB.out | apply below_alloc | apply pw_below_drewN | apply below_drew1 | refine below_set ?_ GE265.out) | exact HB.out)⟩⟩
        ·rw [if_neg c15] at H
         exact absurd H (by simp)
       ·replace c14 := Bool.eq_false_iff.mpr c14
        subst c14
        have H1 : (musterref04_Between.l0 k1 a1 a2 x7_1 l0_0 (l0_0.length : Int) (wrap64 (x14_1 + 1))) = some r := by rw [if_neg (show ¬ (false = true) by decide)] at H; exact H
        clear H
        have H := H1
        clear H1
        have H' := Aside0.mk H
        clear H
        have p269 : 0 ≤ (x14_1 : Int) := of_decide_eq_true (by first | (with_reducible assumption) | assumption)
        have q269 : x14_1 < (l0_0.length : Int) := of_decide_eq_true (by first | (with_reducible assumption) | assumption)
        obtain ⟨ad269, e269, hx269_0⟩ := Kd.at_string HR0_0.out x14_1 p269 q269
        cases e269
        replace hx269_0 := (HB.out.cell (World.block_lt_of_cell? w _ hx269_0)).trans hx269_0
        replace p269 := eq_true p269
        replace q269 := eq_true q269
        go_wp2_with (first | ((with_reducible refine gate_callee (f := 80) rfl ?_); refine goesL_ (some 21) rfl rfl Try.func80 (by kernel_rfl) rfl #[.string (rdOf ByteArray.empty l0_0 x14_1), .string a1] rfl (by (try simp only [List.map_toArray, List.map_cons, List.map_nil]); first | done | rfl | (simp only [List.length_drop, List.length_take]; rfl)) ?_; (with_reducible refine (musterref01_Less.calls k1 (rdOf ByteArray.empty l0_0 x14_1) a1 false _ A11.out).mono ?_); rintro e w' ⟨rfl, ⟨nd, rfl⟩⟩; refine ⟨_, rfl, ?_⟩) | (go_at_call 80; (with_reducible refine (musterref01_Less.calls k1 (rdOf ByteArray.empty l0_0 x14_1) a2 false _ A13.out).mono ?_); rintro e w' ⟨rfl, ⟨nd, rfl⟩⟩))
        go_roundg k1
        case measure => have := HK1.out; omega
        case rel => exact ⟨(x7_1), (wrap64 (x14_1 + 1)), (by first | rfl | (simp; done) | (simp [*]; done)), H', ⟨by have := HK1.out; omega⟩, ⟨by (with_reducible repeat (first | apply Kd.R_alloc | apply Kd.R_drewN | apply Kd.R_drew)); exact HO_7.out⟩, ⟨by (with_reducible repeat (first | refine blk_drewN ?_ _ | refine blk_drew ?_ | refine blk_alloc ?_ _)); exact BK265.out⟩, ⟨by repeat (first | (with_reducible first | exact HB.out | apply below_alloc | apply pw_below_drewN | apply below_drew1 | refine below_set ?_ GE265.out) | exact HB.out)⟩⟩
     ·rw [if_neg c10] at H
      exact absurd H (by simp)
    ·rw [if_neg c9] at H
     exact absurd H (by simp)
   ·rw [if_neg c8] at H
    have c8b0 : decide (x14_1 < (l0_0.length : Int)) = false := decide_eq_false c8
    clear c8
    obtain rfl := Option.some.inj H
    go_wp2
    go_ret
    exact ⟨_, by first | rfl | (simp [errW_none, errW_some] <;> rfl) | (simp [*, errW_none, errW_some] <;> rfl), by (with_reducible repeat (first | apply Kd.R_alloc | apply Kd.R_drewN | apply Kd.R_drew)); exact HO_7.out, by repeat (first | (with_reducible first | exact HB.out | apply below_alloc | apply pw_below_drewN | apply below_drew1 | refine below_set ?_ GE265.out) | exact HB.out)⟩
end Go.Proofs.Ytjhgknagmiekeaa.B
set_option linter.unusedVariables false
set_option linter.unusedSimpArgs false
namespace Go.Proofs.Ytjhgknagmiekeaa.VF
open Go.RowKit Go.Lib Go.Proofs Go.Proofs.YtjhgknagmiekeaaW.PrintWords Go.Proofs.Ytjhgknagmiekeaa.T Go.Proofs.Ytjhgknagmiekeaa.V
attribute [local go_sem] Oper.semAt_some
def Post (n₁ : Nat) (M : Nat → Prop) (J Jx : List (ByteArray × Int) → World → Prop) (pre xs : List (ByteArray × Int)) (W : World) (e : Ending) (W' : World) : Prop :=
  (e = .returned (.bool true) ∧ J (pre ++ xs) W' ∧ KpM n₁ M W W') ∨ (e = .returned (.bool false) ∧ ∃ q, q <+: xs ∧ Jx (pre ++ q) W')
set_option maxRecDepth 100000 in
set_option maxHeartbeats 4000000 in
theorem skip_in (bp : Nat) (l n₁ NN : Nat) (M : Nat → Prop) (J Jx : List (ByteArray × Int) → World → Prop) (hJ : Abd J) (wI : World) (sk kp : ByteArray → Bool)
    (hsk : ∀ q W, Stnd wI n₁ M W → Calls Try.prog 78 #[.string q, .pointer (some ⟨bp, 0, none⟩)] W fun e W' => e = .returned (.bool (sk q)) ∧ Below W.heap.size W W') (m : Nat) (n : Nd) (p : ByteArray) (pre : List (ByteArray × Int)) (W : World)
    (hst : Stnd wI n₁ M W) (hJ0 : J pre W) (hs : sk p = true) :
    CallsIn Fence.wide m Try.prog 118 #[nodeV n.b p, .func (.func 78) #[] #[.pointer (some ⟨bp, 0, none⟩)], .func (.func 79) #[] #[.pointer (some ⟨bp, 0, none⟩)], .func (.yield l) #[] #[]] W (Post n₁ M J Jx pre (ovr sk kp p n) W) := by
  have hdd : ∀ k : Nat, (Fence.wide.depth.isSome = true → 1 ≤ k) := fun k h => by cases h
  have HB0 := Aside0.mk ((Below.refl W.heap.size W).alloc (Nat.le_refl _) (.cells #[.pointer (some ⟨n.b, 0, none⟩), .string p] 60))
  have q1 := Aside0.mk (fun W1 => pathC W1 n.b p)
  have HK := Aside0.mk (fun W1 (h : Below W.heap.size W W1) => hsk p W1 (hst.kp (KpM.of h)))
  rw [hs] at HK
  have e0 : ovr sk kp p n = [] := by rw [ovr_eq, hs]; rfl
  rw [e0]
  have HJ := Aside0.mk (And.intro hJ hJ0)
  clear hJ hst hJ0 hs e0 hsk
  unfold nodeV ptr at q1 ⊢
  refine callsIn_of_wp Try.func118 rfl trivial ?_ rfl
  simp only [Try.ntmps118, List.size_toArray, List.length_cons, List.length_nil, Nat.reduceAdd, Nat.reduceSub, Array.replicate_succ, Array.replicate_zero, List.push_toArray, List.append_toArray, List.nil_append, List.cons_append]
  gi_wp2_with (refine ⟨trivial, hdd _, ?_⟩; gi_at_call 94; refine (callsIn_wide.2 (q1.out _)).mono ?_)
  rintro e W1 ⟨rfl, B1⟩
  have HB1 := Aside0.mk (belowAt HB0.out B1)
  have q2 := Aside0.mk (HK.out W1 HB1.out)
  clear B1 q1 HK
  gi_wp2_with (refine ⟨trivial, hdd _, ?_⟩; gi_at_call 78; refine (callsIn_wide.2 q2.out).mono ?_)
  rintro e W2 ⟨rfl, B2⟩
  have HB2 := Aside0.mk (belowAt HB1.out B2)
  clear B2 q2
  gi_wp2
  go_ret
  exact .inl ⟨rfl, by rw [List.append_nil]; exact abide HJ.out.1 HJ.out.2 HB2.out, KpM.of HB2.out⟩
end Go.Proofs.Ytjhgknagmiekeaa.VF
set_option linter.unusedVariables false
set_option linter.unusedSimpArgs false
namespace Go.Proofs.Ytjhgknagmiekeaa.VF
open Go.RowKit Go.Lib Go.Proofs Go.Proofs.Ytjhgknagmiekeaa.T Go.Proofs.Ytjhgknagmiekeaa.V
open Go.Proofs.YtjhgknagmiekeaaW.PrintWords hiding blk_cell
attribute [local go_sem] Oper.semAt_some
theorem skip94 {K : Prop} (h : K) : Fence.wide.fn 94 ∧ K := ⟨trivial, h⟩
theorem rowForm {w : World} {base n : Nat} {v : Value} {ps : List Value} (h : w.ownsRow base 60 2 v n ps) : ∃ A c, v = .slice A n c ∧ True := by
  rcases h.2 with ⟨rfl, rfl⟩ | ⟨g, cap, cur, rfl, _⟩
  · exact ⟨none, 0, rfl, trivial⟩
  · exact ⟨_, _, rfl, trivial⟩
theorem ownsNode {w : World} {base n : Nat} {A : Option Addr} {c : Nat} {ps : List Value} (h : w.ownsRow base 60 2 (.slice A n c) n ps) (hn : 0 < n) : ∃ g cap cur, (A = some ⟨g, 0, none⟩ ∧ c = cap) ∧ base ≤ g ∧ w.heap[g]? = some (.cells cur 60 (0, 0)) ∧ ∀ j, j < n * 2 → cur[j]? = ps[j]? := by
  rcases h.2 with ⟨_, h0⟩ | ⟨g, cap, cur, e, hb, hg, hnc, hcm, hcs, ht⟩
  · omega
  · injection e with e1 _ e3
    refine ⟨g, cap, cur, ⟨e1, e3⟩, hb, hg, fun j hj => ?_⟩
    have e := List.getElem?_take_of_lt (l := cur.toList) hj
    rw [ht] at e
    rw [← Array.getElem?_toList]
    exact e.symm
theorem ownsRow_kp {w w' : World} {n₁ : Nat} {M : Nat → Prop} {base n : Nat} {v : Value} {ps : List Value} (h : w.ownsRow base 60 2 v n ps) (k : KpM n₁ M w w') : w'.ownsRow base 60 2 v n ps := by
  refine ⟨h.1, ?_⟩
  rcases h.2 with h0 | ⟨g, cap, cur, rfl, hb, hg, rest⟩
  · exact .inl h0
  · exact .inr ⟨g, cap, cur, rfl, hb, k.node g cur _ hg, rest⟩
set_option maxRecDepth 100000 in
set_option maxHeartbeats 8000000 in
theorem deep_in (bp : Nat) (l n₁ NN : Nat) (M : Nat → Prop) (J Jx : List (ByteArray × Int) → World → Prop) (hJ : Abd J)
    (hY : ∀ m pre (x : ByteArray × Int) W, J pre W → pre.length < NN → YieldAt Fence.wide m Try.prog l #[.string x.1, .int .i64 x.2] W fun e W' => (e = .returned (.bool true) ∧ J (pre ++ [x]) W' ∧ KpM n₁ M W W') ∨ (e = .returned (.bool false) ∧ Jx (pre ++ [x]) W'))
    (wI wB : World) (hkB : Kept wB wI) (hnB : wB.heap.size ≤ n₁) (hM : ∀ k, k < wB.heap.size → ¬ M k) (sk kp : ByteArray → Bool)
    (hsk : ∀ q W, Stnd wI n₁ M W → Calls Try.prog 78 #[.string q, .pointer (some ⟨bp, 0, none⟩)] W fun e W' => e = .returned (.bool (sk q)) ∧ Below W.heap.size W W')
    (hkp : ∀ q W, Stnd wI n₁ M W → Calls Try.prog 79 #[.string q, .pointer (some ⟨bp, 0, none⟩)] W fun e W' => e = .returned (.bool (kp q)) ∧ Below W.heap.size W W') (m : Nat) (n : Nd) (p : ByteArray) (pre : List (ByteArray × Int)) (W : World)
    (hn : NdAt wB n) (ho : Ok n) (hv : ∀ l, n.leaf = some l → ∃ v, l.val = .int .i64 v) (hp : ∀ k ∈ n.kids, p.size + k.label.size < 9000000000000000000)
    (hst : Stnd wI n₁ M W) (hnW : n₁ ≤ W.heap.size) (hJ0 : J pre W) (hN : pre.length + (ovr sk kp p n).length ≤ NN) (hs : sk p = false)
    (IH : ∀ i (hi : i < n.kids.length) pre' W', Stnd wI n₁ M W' → n₁ ≤ W'.heap.size → J pre' W' → pre'.length + (ovr sk kp (p ++ n.kids[i].label) n.kids[i]).length ≤ NN →
      CallsIn Fence.wide (m - 1) Try.prog 118 #[nodeV n.kids[i].b (p ++ n.kids[i].label), .func (.func 78) #[] #[.pointer (some ⟨bp, 0, none⟩)], .func (.func 79) #[] #[.pointer (some ⟨bp, 0, none⟩)], .func (.yield l) #[] #[]] W' (Post n₁ M J Jx pre' (ovr sk kp (p ++ n.kids[i].label) n.kids[i]) W')) :
    CallsIn Fence.wide m Try.prog 118 #[nodeV n.b p, .func (.func 78) #[] #[.pointer (some ⟨bp, 0, none⟩)], .func (.func 79) #[] #[.pointer (some ⟨bp, 0, none⟩)], .func (.yield l) #[] #[]] W (Post n₁ M J Jx pre (ovr sk kp p n) W) := by
  have hdd : ∀ k : Nat, (Fence.wide.depth.isSome = true → 1 ≤ k) := fun k h => by cases h
  have HB0 := Aside0.mk ((Below.refl W.heap.size W).alloc (Nat.le_refl _) (.cells #[.pointer (some ⟨n.b, 0, none⟩), .string p] 60))
  have hx0 := heap_alloc_new W (.cells #[.pointer (some ⟨n.b, 0, none⟩), .string p] 60)
  have q1 := Aside0.mk (fun W1 => pathC W1 n.b p)
  have qs := Aside0.mk (fun W1 (h : Stnd wI n₁ M W1) => hsk p W1 h)
  rw [hs] at qs
  have qp := Aside0.mk (fun W1 (h : Stnd wI n₁ M W1) => hkp p W1 h)
  have HkB := Aside0.mk (And.intro hkB (And.intro hnB hM))
  have HN := Aside0.mk (And.intro hn (And.intro ho (And.intro hp hv)))
  have HS0 := Aside0.mk hst
  have HnW := Aside0.mk hnW
  have HJa := Aside0.mk hJ
  have HJ0 := Aside0.mk hJ0
  have HY := Aside0.mk hY
  have HNN := Aside0.mk hN
  have HSk := Aside0.mk hs
  have HIH := Aside0.mk IH
  have hfew := ho.few
  obtain ⟨len, elen⟩ : ∃ len, n.kids.length = len := ⟨_, rfl⟩
  have HLen := Aside0.mk elen
  have hl256 : len ≤ 256 := by omega
  have HX0 := Aside0.mk hx0
  have HStd := Aside0.mk (fun W1 (h : Below W.heap.size W W1) => hst.kp (KpM.of h))
  have hbox : ∀ W1, Below (W.alloc (.cells #[.pointer (some ⟨n.b, 0, none⟩), .string p] 60)).heap.size (W.alloc (.cells #[.pointer (some ⟨n.b, 0, none⟩), .string p] 60)) W1 → W1.heap[W.heap.size]? = some (.cells #[.pointer (some ⟨n.b, 0, none⟩), .string p] 60 (0, 0)) := fun W1 h => (Kept.of h).at hx0
  have HBox := Aside0.mk hbox
  clear hkB hnB hM hn ho hp hv hst hnW hJ hJ0 hY hN hs IH hfew elen hx0 hbox hsk hkp
  unfold nodeV ptr at q1 ⊢
  refine callsIn_of_wp Try.func118 rfl trivial ?_ rfl
  simp only [Try.ntmps118, List.size_toArray, List.length_cons, List.length_nil, Nat.reduceAdd, Nat.reduceSub, Array.replicate_succ, Array.replicate_zero, List.push_toArray, List.append_toArray, List.nil_append, List.cons_append]
  gi_wp2_with (refine ⟨trivial, hdd _, ?_⟩; gi_at_call 94; refine (callsIn_wide.2 (q1.out _)).mono ?_)
  rintro e W1 ⟨rfl, B1⟩
  have HA1 := Aside0.mk B1
  have q2 := Aside0.mk (qs.out W1 (HStd.out W1 (belowAt HB0.out B1)))
  clear B1 qs
  gi_wp2_with (refine ⟨trivial, hdd _, ?_⟩; gi_at_call 78; refine (callsIn_wide.2 q2.out).mono ?_)
  rintro e W2 ⟨rfl, B2⟩
  have HA2 := Aside0.mk (belowAt HA1.out B2)
  have hb2 := HBox.out W2 HA2.out
  have b20 : W2.cell? ⟨W.heap.size, 0, none⟩ = some (.pointer (some ⟨n.b, 0, none⟩)) := by rw [blk_cell hb2]; rfl
  have b21 : W2.cell? ⟨W.heap.size, 1, none⟩ = some (.string p) := by rw [blk_cell hb2]; rfl
  have HS2 := Aside0.mk (HStd.out W2 (belowAt HB0.out HA2.out))
  have q3 := Aside0.mk (valueC W2 n p (NdAt.keep (HS2.out.kept HkB.out.1 HkB.out.2.1 HkB.out.2.2) n HN.out.1))
  clear B2 q2 hb2 HA1
  cases hlf : n.leaf with
  | none =>
    rw [hlf] at q3
    have HLf := Aside0.mk hlf
    unfold lookV nodeV ptr at q3
    clear hlf
    gi_wp2_with (refine ⟨trivial, hdd _, ?_⟩; gi_at_call 93; refine (callsIn_wide.2 q3.out).mono ?_)
    rintro e W3 ⟨rfl, B3⟩
    have HA3 := Aside0.mk (belowAt HA2.out B3)
    have hb3 := HBox.out W3 HA3.out
    have b30 : W3.cell? ⟨W.heap.size, 0, none⟩ = some (.pointer (some ⟨n.b, 0, none⟩)) := by rw [blk_cell hb3]; rfl
    have b31 : W3.cell? ⟨W.heap.size, 1, none⟩ = some (.string p) := by rw [blk_cell hb3]; rfl
    clear B3 q3 hb3 b20 b21
    gi_wp2
    repeat (first | (refine ⟨fun _ h => (by cases h), ?_⟩; gi_wp2) | ((with_reducible refine skip94 ?_); gi_wp2))
    have HSt := Aside0.mk (HStd.out W3 (belowAt HB0.out HA3.out))
    have HKp := Aside0.mk (KpM.of (n₁ := n₁) (M := M) (belowAt HB0.out HA3.out))
    have HJc : Aside0 (J (pre ++ ownE kp p n.leaf) W3) := ⟨by rw [HLf.out]; show J (pre ++ []) W3; rw [List.append_nil]; exact abide HJa.out HJ0.out (belowAt HB0.out HA3.out)⟩
    have HK := Aside0.mk (HSt.out.kept HkB.out.1 HkB.out.2.1 HkB.out.2.2)
    have qk := Aside0.mk (kidsO W3 n p (NdAt.keep HK.out n HN.out.1) HN.out.2.1 HN.out.2.2.1)
    unfold nodeV ptr at qk
    gi_wp2_with (refine ⟨trivial, hdd _, ?_⟩; gi_at_call 95; refine (callsIn_wide.2 qk.out).mono ?_)
    rintro e Wd ⟨v, rfl, ho, Bd⟩
    obtain ⟨A, c, ev, hrow⟩ := rowForm ho
    rw [HLen.out] at ho ev
    subst ev
    have HRow := Aside0.mk ho
    have HSd := Aside0.mk (HSt.out.kp (KpM.of Bd))
    have HKd := Aside0.mk (HKp.out.trans (KpM.of Bd))
    have HJd := Aside0.mk (abide HJa.out HJc.out Bd)
    have HWd := Aside0.mk (Nat.le_trans HnW.out (HKp.out.trans (KpM.of Bd)).size)
    clear ho hrow Bd qk HK HSt HKp HJc
    gi_wp2
    gi_loopw [12, 40] (fun v12 v40 wr => ∃ j : Nat, v40 = .int .i64 (j : Int) ∧ Aside0 (j ≤ len) ∧ Aside0 (J (pre ++ (ownE kp p n.leaf ++ ovrs sk kp p (n.kids.take j))) wr) ∧ Aside0 (Stnd wI n₁ M wr) ∧ Aside0 (KpM n₁ M W wr) ∧ Aside0 (wr.ownsRow (W3.heap.size + 1) 60 2 (.slice A len c) len (flatK p n.kids)))
      (fun v12 v40 wr => len - (RowKit.intOf v40).toNat)
    case atStart => exact ⟨0, rfl, ⟨Nat.zero_le _⟩, ⟨by simpa [ovrs] using HJd.out⟩, HSd, HKd, HRow⟩
    case round =>
      obtain ⟨j, rfl, HI, HJr, HSr, HKr, HRr⟩ := hrel
      by_cases hlt : j < len
      · have hj' : j < n.kids.length := by rw [HLen.out]; exact hlt
        obtain ⟨g, cap, cur, eg, hgb, hgg, hgc⟩ := ownsNode HRr.out (by omega)
        obtain ⟨rfl, rfl⟩ := eg
        have hf := flatK_get p n.kids j hj'
        have hn2 : j * 2 + 1 < len * 2 := by omega
        have c0 : wr.cell? ⟨g, j * 2, none⟩ = some (.pointer (some ⟨n.kids[j].b, 0, none⟩)) := by rw [blk_cell hgg, hgc (j * 2) (by omega), hf.1]; rfl
        have c1 : wr.cell? ⟨g, j * 2 + 1, none⟩ = some (.string (p ++ n.kids[j].label)) := by rw [blk_cell hgg, hgc (j * 2 + 1) hn2, hf.2]
        have hB2 := (Below.refl wr.heap.size wr).alloc (Nat.le_refl _) (.cells #[.pointer (some ⟨n.kids[j].b, 0, none⟩), .string (p ++ n.kids[j].label)] 60)
        have HB2 := Aside0.mk hB2
        have epre : ovr sk kp p n = ownE kp p n.leaf ++ ovrs sk kp p n.kids := by rw [ovr_eq, HSk.out]; rfl
        have hpt := ovrs_take sk kp p n.kids j hj'
        have hpp := ovrs_pre sk kp p n.kids (j + 1)
        have hNN : (pre ++ (ownE kp p n.leaf ++ ovrs sk kp p (n.kids.take j))).length + (ovr sk kp (p ++ n.kids[j].label) n.kids[j]).length ≤ NN := by
          have h1 := HNN.out
          rw [epre] at h1
          have h2 := hpp.length_le
          rw [hpt] at h2
          simp only [List.length_append] at h1 h2 ⊢
          omega
        have q9 := Aside0.mk (HIH.out j hj' _ _ (HSr.out.kp (KpM.of hB2)) (Nat.le_trans (Nat.le_trans HnW.out HKr.out.size) hB2.size) (abide HJa.out HJr.out hB2) hNN)
        have HPT := Aside0.mk (And.intro epre (And.intro hpt hpp))
        obtain ⟨kb, ekb⟩ : ∃ kb, n.kids[j].b = kb := ⟨_, rfl⟩
        obtain ⟨kp2, ekp⟩ : ∃ kp2, p ++ n.kids[j].label = kp2 := ⟨_, rfl⟩
        have HOv := Aside0.mk (show ovr sk kp (p ++ n.kids[j].label) n.kids[j] = ovr sk kp kp2 n.kids[j] by rw [ekp])
        rw [ekb, ekp] at q9 HB2
        rw [ekb] at c0
        rw [ekp] at c1
        have hltI : (j : Int) < (len : Int) := by omega
        have ew : wrap64 ((j : Int) + 1) = (j : Int) + 1 := by unfold wrap64; omega
        clear hf hn2 hgb hgg hgc hB2 epre hpt hpp hNN ekb ekp
        unfold nodeV ptr at q9
        gi_wp2_with (refine ⟨trivial, hdd _, ?_⟩; gi_at_call 118; refine q9.out.mono ?_)
        rintro e Wz (⟨rfl, hjz, hkz⟩ | ⟨rfl, q, hq, hxz⟩)
        · have HZ := Aside0.mk (And.intro hjz hkz)
          clear hjz hkz q9
          gi_wp2
          go_roundw
          case rel =>
            have hk2 := (KpM.of HB2.out).trans HZ.out.2
            refine ⟨j + 1, by simp, ⟨hlt⟩, ⟨?_⟩, ⟨HSr.out.kp hk2⟩, ⟨HKr.out.trans hk2⟩, ⟨ownsRow_kp HRr.out hk2⟩⟩
            have h1 := HZ.out.1
            rw [List.append_assoc, List.append_assoc, ← HOv.out, ← HPT.out.2.1] at h1
            exact h1
          case measure => simp [RowKit.intOf]; (try rw [ew]); omega
        · have HZ := Aside0.mk (And.intro hq hxz)
          clear hq hxz q9
          gi_wp2
          go_ret
          refine .inr ⟨rfl, ownE kp p n.leaf ++ ovrs sk kp p (n.kids.take j) ++ q, ?_, ?_⟩
          · rw [HPT.out.1, List.append_assoc]
            refine (List.prefix_append_right_inj _).2 (List.IsPrefix.trans ?_ HPT.out.2.2)
            rw [HPT.out.2.1, HOv.out]
            exact (List.prefix_append_right_inj _).2 HZ.out.1
          · rw [← List.append_assoc]; exact HZ.out.2
      · have hjl : j = len := by have := HI.out; omega
        subst hjl
        gi_wp2
        go_ret
        refine .inl ⟨rfl, ?_, HKr.out⟩
        have h1 := HJr.out
        rw [List.take_of_length_le (by rw [HLen.out]; exact Nat.le_refl _)] at h1
        rw [ovr_eq, HSk.out]
        exact h1
  | some lf =>
    obtain ⟨v, hvv⟩ := HN.out.2.2.2 lf hlf
    rw [hlf] at q3
    unfold lookV at q3
    simp only [hvv] at q3
    have HLf := Aside0.mk hlf
    have HVal := Aside0.mk hvv
    unfold nodeV ptr at q3
    clear hlf hvv
    cases hkpp : kp p with
    | false =>
      have HKpp := Aside0.mk hkpp
      clear hkpp
      gi_wp2_with (refine ⟨trivial, hdd _, ?_⟩; gi_at_call 93; refine (callsIn_wide.2 q3.out).mono ?_)
      rintro e W3 ⟨rfl, B3⟩
      have HA3 := Aside0.mk (belowAt HA2.out B3)
      have hb3 := HBox.out W3 HA3.out
      have b30 : W3.cell? ⟨W.heap.size, 0, none⟩ = some (.pointer (some ⟨n.b, 0, none⟩)) := by rw [blk_cell hb3]; rfl
      have b31 : W3.cell? ⟨W.heap.size, 1, none⟩ = some (.string p) := by rw [blk_cell hb3]; rfl
      clear B3 q3 hb3 b20 b21
      gi_wp2_with (refine ⟨trivial, hdd _, ?_⟩; gi_at_call 94; refine (callsIn_wide.2 (q1.out _)).mono ?_)
      rintro e W4 ⟨rfl, B4⟩
      have HA4 := Aside0.mk (belowAt HA3.out B4)
      have q4 := Aside0.mk (qp.out W4 (HStd.out W4 (belowAt HB0.out HA4.out)))
      rw [HKpp.out] at q4
      clear B4
      gi_wp2_with (refine ⟨trivial, hdd _, ?_⟩; gi_at_call 79; refine (callsIn_wide.2 q4.out).mono ?_)
      rintro e W5 ⟨rfl, B5⟩
      have HA5 := Aside0.mk (belowAt HA4.out B5)
      have hb5 := HBox.out W5 HA5.out
      have b50 : W5.cell? ⟨W.heap.size, 0, none⟩ = some (.pointer (some ⟨n.b, 0, none⟩)) := by rw [blk_cell hb5]; rfl
      have b51 : W5.cell? ⟨W.heap.size, 1, none⟩ = some (.string p) := by rw [blk_cell hb5]; rfl
      clear B5 q4 hb5 b30 b31
      gi_wp2
      repeat (first | (refine ⟨fun _ h => (by cases h), ?_⟩; gi_wp2) | ((with_reducible refine skip94 ?_); gi_wp2))
      have HSt := Aside0.mk (HStd.out W5 (belowAt HB0.out HA5.out))
      have HKp := Aside0.mk (KpM.of (n₁ := n₁) (M := M) (belowAt HB0.out HA5.out))
      have HJc : Aside0 (J (pre ++ ownE kp p n.leaf) W5) := ⟨by rw [HLf.out]; show J (pre ++ (if kp p = true then [(p, valI lf.val)] else [])) W5; rw [HKpp.out]; show J (pre ++ []) W5; rw [List.append_nil]; exact abide HJa.out HJ0.out (belowAt HB0.out HA5.out)⟩
      have HK := Aside0.mk (HSt.out.kept HkB.out.1 HkB.out.2.1 HkB.out.2.2)
      have qk := Aside0.mk (kidsO W5 n p (NdAt.keep HK.out n HN.out.1) HN.out.2.1 HN.out.2.2.1)
      unfold nodeV ptr at qk
      gi_wp2_with (refine ⟨trivial, hdd _, ?_⟩; gi_at_call 95; refine (callsIn_wide.2 qk.out).mono ?_)
      rintro e Wd ⟨v, rfl, ho, Bd⟩
      obtain ⟨A, c, ev, hrow⟩ := rowForm ho
      rw [HLen.out] at ho ev
      subst ev
      have HRow := Aside0.mk ho
      have HSd := Aside0.mk (HSt.out.kp (KpM.of Bd))
      have HKd := Aside0.mk (HKp.out.trans (KpM.of Bd))
      have HJd := Aside0.mk (abide HJa.out HJc.out Bd)
      have HWd := Aside0.mk (Nat.le_trans HnW.out (HKp.out.trans (KpM.of Bd)).size)
      clear ho hrow Bd qk HK HSt HKp HJc
      gi_wp2
      gi_loopw [12, 40] (fun v12 v40 wr => ∃ j : Nat, v40 = .int .i64 (j : Int) ∧ Aside0 (j ≤ len) ∧ Aside0 (J (pre ++ (ownE kp p n.leaf ++ ovrs sk kp p (n.kids.take j))) wr) ∧ Aside0 (Stnd wI n₁ M wr) ∧ Aside0 (KpM n₁ M W wr) ∧ Aside0 (wr.ownsRow (W5.heap.size + 1) 60 2 (.slice A len c) len (flatK p n.kids)))
        (fun v12 v40 wr => len - (RowKit.intOf v40).toNat)
      case atStart => exact ⟨0, rfl, ⟨Nat.zero_le _⟩, ⟨by simpa [ovrs] using HJd.out⟩, HSd, HKd, HRow⟩
      case round =>
        obtain ⟨j, rfl, HI, HJr, HSr, HKr, HRr⟩ := hrel
        by_cases hlt : j < len
        · have hj' : j < n.kids.length := by rw [HLen.out]; exact hlt
          obtain ⟨g, cap, cur, eg, hgb, hgg, hgc⟩ := ownsNode HRr.out (by omega)
          obtain ⟨rfl, rfl⟩ := eg
          have hf := flatK_get p n.kids j hj'
          have hn2 : j * 2 + 1 < len * 2 := by omega
          have c0 : wr.cell? ⟨g, j * 2, none⟩ = some (.pointer (some ⟨n.kids[j].b, 0, none⟩)) := by rw [blk_cell hgg, hgc (j * 2) (by omega), hf.1]; rfl
          have c1 : wr.cell? ⟨g, j * 2 + 1, none⟩ = some (.string (p ++ n.kids[j].label)) := by rw [blk_cell hgg, hgc (j * 2 + 1) hn2, hf.2]
          have hB2 := (Below.refl wr.heap.size wr).alloc (Nat.le_refl _) (.cells #[.pointer (some ⟨n.kids[j].b, 0, none⟩), .string (p ++ n.kids[j].label)] 60)
          have HB2 := Aside0.mk hB2
          have epre : ovr sk kp p n = ownE kp p n.leaf ++ ovrs sk kp p n.kids := by rw [ovr_eq, HSk.out]; rfl
          have hpt := ovrs_take sk kp p n.kids j hj'
          have hpp := ovrs_pre sk kp p n.kids (j + 1)
          have hNN : (pre ++ (ownE kp p n.leaf ++ ovrs sk kp p (n.kids.take j))).length + (ovr sk kp (p ++ n.kids[j].label) n.kids[j]).length ≤ NN := by
            have h1 := HNN.out
            rw [epre] at h1
            have h2 := hpp.length_le
            rw [hpt] at h2
            simp only [List.length_append] at h1 h2 ⊢
            omega
          have q9 := Aside0.mk (HIH.out j hj' _ _ (HSr.out.kp (KpM.of hB2)) (Nat.le_trans (Nat.le_trans HnW.out HKr.out.size) hB2.size) (abide HJa.out HJr.out hB2) hNN)
          have HPT := Aside0.mk (And.intro epre (And.intro hpt hpp))
          obtain ⟨kb, ekb⟩ : ∃ kb, n.kids[j].b = kb := ⟨_, rfl⟩
          obtain ⟨kp2, ekp⟩ : ∃ kp2, p ++ n.kids[j].label = kp2 := ⟨_, rfl⟩
          have HOv := Aside0.mk (show ovr sk kp (p ++ n.kids[j].label) n.kids[j] = ovr sk kp kp2 n.kids[j] by rw [ekp])
          rw [ekb, ekp] at q9 HB2
          rw [ekb] at c0
          rw [ekp] at c1
          have hltI : (j : Int) < (len : Int) := by omega
          have ew : wrap64 ((j : Int) + 1) = (j : Int) + 1 := by unfold wrap64; omega
          clear hf hn2 hgb hgg hgc hB2 epre hpt hpp hNN ekb ekp
          unfold nodeV ptr at q9
          gi_wp2_with (refine ⟨trivial, hdd _, ?_⟩; gi_at_call 118; refine q9.out.mono ?_)
          rintro e Wz (⟨rfl, hjz, hkz⟩ | ⟨rfl, q, hq, hxz⟩)
          · have HZ := Aside0.mk (And.intro hjz hkz)
            clear hjz hkz q9
            gi_wp2
            go_roundw
            case rel =>
              have hk2 := (KpM.of HB2.out).trans HZ.out.2
              refine ⟨j + 1, by simp, ⟨hlt⟩, ⟨?_⟩, ⟨HSr.out.kp hk2⟩, ⟨HKr.out.trans hk2⟩, ⟨ownsRow_kp HRr.out hk2⟩⟩
              have h1 := HZ.out.1
              rw [List.append_assoc, List.append_assoc, ← HOv.out, ← HPT.out.2.1] at h1
              exact h1
            case measure => simp [RowKit.intOf]; (try rw [ew]); omega
          · have HZ := Aside0.mk (And.intro hq hxz)
            clear hq hxz q9
            gi_wp2
            go_ret
            refine .inr ⟨rfl, ownE kp p n.leaf ++ ovrs sk kp p (n.kids.take j) ++ q, ?_, ?_⟩
            · rw [HPT.out.1, List.append_assoc]
              refine (List.prefix_append_right_inj _).2 (List.IsPrefix.trans ?_ HPT.out.2.2)
              rw [HPT.out.2.1, HOv.out]
              exact (List.prefix_append_right_inj _).2 HZ.out.1
            · rw [← List.append_assoc]; exact HZ.out.2
        · have hjl : j = len := by have := HI.out; omega
          subst hjl
          gi_wp2
          go_ret
          refine .inl ⟨rfl, ?_, HKr.out⟩
          have h1 := HJr.out
          rw [List.take_of_length_le (by rw [HLen.out]; exact Nat.le_refl _)] at h1
          rw [ovr_eq, HSk.out]
          exact h1
    | true =>
      have HKpp := Aside0.mk hkpp
      have eown : ownE kp p n.leaf = [(p, v)] := by rw [HLf.out]; show (if kp p = true then [(p, valI lf.val)] else []) = _; rw [hkpp, HVal.out]; rfl
      have HOwn := Aside0.mk eown
      have hlen1 : pre.length < NN := by
        have h1 := HNN.out
        rw [ovr_eq, HSk.out, eown] at h1
        simp at h1
        omega
      have HL1 := Aside0.mk hlen1
      clear hkpp eown hlen1
      gi_wp2_with (refine ⟨trivial, hdd _, ?_⟩; gi_at_call 93; refine (callsIn_wide.2 q3.out).mono ?_)
      rintro e W3 ⟨rfl, B3⟩
      have HA3 := Aside0.mk (belowAt HA2.out B3)
      have hb3 := HBox.out W3 HA3.out
      have b30 : W3.cell? ⟨W.heap.size, 0, none⟩ = some (.pointer (some ⟨n.b, 0, none⟩)) := by rw [blk_cell hb3]; rfl
      have b31 : W3.cell? ⟨W.heap.size, 1, none⟩ = some (.string p) := by rw [blk_cell hb3]; rfl
      clear B3 q3 hb3 b20 b21
      gi_wp2_with (refine ⟨trivial, hdd _, ?_⟩; gi_at_call 94; refine (callsIn_wide.2 (q1.out _)).mono ?_)
      rintro e W4 ⟨rfl, B4⟩
      have HA4 := Aside0.mk (belowAt HA3.out B4)
      have q4 := Aside0.mk (qp.out W4 (HStd.out W4 (belowAt HB0.out HA4.out)))
      rw [HKpp.out] at q4
      clear B4
      gi_wp2_with (refine ⟨trivial, hdd _, ?_⟩; gi_at_call 79; refine (callsIn_wide.2 q4.out).mono ?_)
      rintro e W5 ⟨rfl, B5⟩
      have HA5 := Aside0.mk (belowAt HA4.out B5)
      have hb5 := HBox.out W5 HA5.out
      have b50 : W5.cell? ⟨W.heap.size, 0, none⟩ = some (.pointer (some ⟨n.b, 0, none⟩)) := by rw [blk_cell hb5]; rfl
      have b51 : W5.cell? ⟨W.heap.size, 1, none⟩ = some (.string p) := by rw [blk_cell hb5]; rfl
      clear B5 q4 hb5 b30 b31
      gi_wp2_with (refine ⟨trivial, hdd _, ?_⟩; gi_at_call 94; refine (callsIn_wide.2 (q1.out _)).mono ?_)
      rintro e W6 ⟨rfl, B6⟩
      have HA6 := Aside0.mk (belowAt HA5.out B6)
      have hb6 := HBox.out W6 HA6.out
      have hy0 := HY.out (m - 1) pre (p, v) W6 (abide HJa.out HJ0.out (belowAt HB0.out HA6.out)) HL1.out
      obtain ⟨fn, tmps, assign, body, hy, hR⟩ := hy0
      dsimp only at hy
      have HR := Aside0.mk hR
      have HB6 := Aside0.mk hb6
      clear B6 hb6 hR b50 b51 q1
      gi_wp2
      refine ⟨hdd _, ?_⟩
      refine HR.out.mono ?_
      rintro e W7 (⟨rfl, hJ7, hk7⟩ | ⟨rfl, hx7⟩)
      · have hb7 := hk7.node _ _ _ HB6.out
        have b70 : W7.cell? ⟨W.heap.size, 0, none⟩ = some (.pointer (some ⟨n.b, 0, none⟩)) := by rw [blk_cell hb7]; rfl
        have b71 : W7.cell? ⟨W.heap.size, 1, none⟩ = some (.string p) := by rw [blk_cell hb7]; rfl
        have HSt := Aside0.mk ((HStd.out W6 (belowAt HB0.out HA6.out)).kp hk7)
        have HKp := Aside0.mk ((KpM.of (n₁ := n₁) (M := M) (belowAt HB0.out HA6.out)).trans hk7)
        have HJc : Aside0 (J (pre ++ ownE kp p n.leaf) W7) := ⟨by rw [HOwn.out]; exact hJ7⟩
        clear hJ7 hk7 hb7 HR hy
        gi_wp2
        have HK := Aside0.mk (HSt.out.kept HkB.out.1 HkB.out.2.1 HkB.out.2.2)
        have qk := Aside0.mk (kidsO W7 n p (NdAt.keep HK.out n HN.out.1) HN.out.2.1 HN.out.2.2.1)
        unfold nodeV ptr at qk
        gi_wp2_with (refine ⟨trivial, hdd _, ?_⟩; gi_at_call 95; refine (callsIn_wide.2 qk.out).mono ?_)
        rintro e Wd ⟨v, rfl, ho, Bd⟩
        obtain ⟨A, c, ev, hrow⟩ := rowForm ho
        rw [HLen.out] at ho ev
        subst ev
        have HRow := Aside0.mk ho
        have HSd := Aside0.mk (HSt.out.kp (KpM.of Bd))
        have HKd := Aside0.mk (HKp.out.trans (KpM.of Bd))
        have HJd := Aside0.mk (abide HJa.out HJc.out Bd)
        have HWd := Aside0.mk (Nat.le_trans HnW.out (HKp.out.trans (KpM.of Bd)).size)
        clear ho hrow Bd qk HK HSt HKp HJc
        gi_wp2
        gi_loopw [12, 40] (fun v12 v40 wr => ∃ j : Nat, v40 = .int .i64 (j : Int) ∧ Aside0 (j ≤ len) ∧ Aside0 (J (pre ++ (ownE kp p n.leaf ++ ovrs sk kp p (n.kids.take j))) wr) ∧ Aside0 (Stnd wI n₁ M wr) ∧ Aside0 (KpM n₁ M W wr) ∧ Aside0 (wr.ownsRow (W7.heap.size + 1) 60 2 (.slice A len c) len (flatK p n.kids)))
          (fun v12 v40 wr => len - (RowKit.intOf v40).toNat)
        case atStart => exact ⟨0, rfl, ⟨Nat.zero_le _⟩, ⟨by simpa [ovrs] using HJd.out⟩, HSd, HKd, HRow⟩
        case round =>
          obtain ⟨j, rfl, HI, HJr, HSr, HKr, HRr⟩ := hrel
          by_cases hlt : j < len
          · have hj' : j < n.kids.length := by rw [HLen.out]; exact hlt
            obtain ⟨g, cap, cur, eg, hgb, hgg, hgc⟩ := ownsNode HRr.out (by omega)
            obtain ⟨rfl, rfl⟩ := eg
            have hf := flatK_get p n.kids j hj'
            have hn2 : j * 2 + 1 < len * 2 := by omega
            have c0 : wr.cell? ⟨g, j * 2, none⟩ = some (.pointer (some ⟨n.kids[j].b, 0, none⟩)) := by rw [blk_cell hgg, hgc (j * 2) (by omega), hf.1]; rfl
            have c1 : wr.cell? ⟨g, j * 2 + 1, none⟩ = some (.string (p ++ n.kids[j].label)) := by rw [blk_cell hgg, hgc (j * 2 + 1) hn2, hf.2]
            have hB2 := (Below.refl wr.heap.size wr).alloc (Nat.le_refl _) (.cells #[.pointer (some ⟨n.kids[j].b, 0, none⟩), .string (p ++ n.kids[j].label)] 60)
            have HB2 := Aside0.mk hB2
            have epre : ovr sk kp p n = ownE kp p n.leaf ++ ovrs sk kp p n.kids := by rw [ovr_eq, HSk.out]; rfl
            have hpt := ovrs_take sk kp p n.kids j hj'
            have hpp := ovrs_pre sk kp p n.kids (j + 1)
            have hNN : (pre ++ (ownE kp p n.leaf ++ ovrs sk kp p (n.kids.take j))).length + (ovr sk kp (p ++ n.kids[j].label) n.kids[j]).length ≤ NN := by
              have h1 := HNN.out
              rw [epre] at h1
              have h2 := hpp.length_le
              rw [hpt] at h2
              simp only [List.length_append] at h1 h2 ⊢
              omega
            have q9 := Aside0.mk (HIH.out j hj' _ _ (HSr.out.kp (KpM.of hB2)) (Nat.le_trans (Nat.le_trans HnW.out HKr.out.size) hB2.size) (abide HJa.out HJr.out hB2) hNN)
            have HPT := Aside0.mk (And.intro epre (And.intro hpt hpp))
            obtain ⟨kb, ekb⟩ : ∃ kb, n.kids[j].b = kb := ⟨_, rfl⟩
            obtain ⟨kp2, ekp⟩ : ∃ kp2, p ++ n.kids[j].label = kp2 := ⟨_, rfl⟩
            have HOv := Aside0.mk (show ovr sk kp (p ++ n.kids[j].label) n.kids[j] = ovr sk kp kp2 n.kids[j] by rw [ekp])
            rw [ekb, ekp] at q9 HB2
            rw [ekb] at c0
            rw [ekp] at c1
            have hltI : (j : Int) < (len : Int) := by omega
            have ew : wrap64 ((j : Int) + 1) = (j : Int) + 1 := by unfold wrap64; omega
            clear hf hn2 hgb hgg hgc hB2 epre hpt hpp hNN ekb ekp
            unfold nodeV ptr at q9
            gi_wp2_with (refine ⟨trivial, hdd _, ?_⟩; gi_at_call 118; refine q9.out.mono ?_)
            rintro e Wz (⟨rfl, hjz, hkz⟩ | ⟨rfl, q, hq, hxz⟩)
            · have HZ := Aside0.mk (And.intro hjz hkz)
              clear hjz hkz q9
              gi_wp2
              go_roundw
              case rel =>
                have hk2 := (KpM.of HB2.out).trans HZ.out.2
                refine ⟨j + 1, by simp, ⟨hlt⟩, ⟨?_⟩, ⟨HSr.out.kp hk2⟩, ⟨HKr.out.trans hk2⟩, ⟨ownsRow_kp HRr.out hk2⟩⟩
                have h1 := HZ.out.1
                rw [List.append_assoc, List.append_assoc, ← HOv.out, ← HPT.out.2.1] at h1
                exact h1
              case measure => simp [RowKit.intOf]; (try rw [ew]); omega
            · have HZ := Aside0.mk (And.intro hq hxz)
              clear hq hxz q9
              gi_wp2
              go_ret
              refine .inr ⟨rfl, ownE kp p n.leaf ++ ovrs sk kp p (n.kids.take j) ++ q, ?_, ?_⟩
              · rw [HPT.out.1, List.append_assoc]
                refine (List.prefix_append_right_inj _).2 (List.IsPrefix.trans ?_ HPT.out.2.2)
                rw [HPT.out.2.1, HOv.out]
                exact (List.prefix_append_right_inj _).2 HZ.out.1
              · rw [← List.append_assoc]; exact HZ.out.2
          · have hjl : j = len := by have := HI.out; omega
            subst hjl
            gi_wp2
            go_ret
            refine .inl ⟨rfl, ?_, HKr.out⟩
            have h1 := HJr.out
            rw [List.take_of_length_le (by rw [HLen.out]; exact Nat.le_refl _)] at h1
            rw [ovr_eq, HSk.out]
            exact h1
      · have HX := Aside0.mk hx7
        clear hx7 HR hy
        gi_wp2
        go_ret
        refine .inr ⟨rfl, [(p, v)], ?_, HX.out⟩
        rw [ovr_eq, HSk.out, HOwn.out]
        exact List.prefix_append _ _
end Go.Proofs.Ytjhgknagmiekeaa.VF
set_option linter.unusedVariables false
set_option linter.unusedSimpArgs false
namespace Go.Proofs.Ytjhgknagmiekeaa.VF
open Go.RowKit Go.Lib Go.Proofs Go.Proofs.Ytjhgknagmiekeaa.T Go.Proofs.Ytjhgknagmiekeaa.V
open Go.Proofs.YtjhgknagmiekeaaW.PrintWords hiding blk_cell
theorem over_in (bp : Nat) (l n₁ NN : Nat) (M : Nat → Prop) (J Jx : List (ByteArray × Int) → World → Prop) (hJ : Abd J)
    (hY : ∀ m pre (x : ByteArray × Int) W, J pre W → pre.length < NN → YieldAt Fence.wide m Try.prog l #[.string x.1, .int .i64 x.2] W fun e W' => (e = .returned (.bool true) ∧ J (pre ++ [x]) W' ∧ KpM n₁ M W W') ∨ (e = .returned (.bool false) ∧ Jx (pre ++ [x]) W'))
    (wI wB : World) (hkB : Kept wB wI) (hnB : wB.heap.size ≤ n₁) (hM : ∀ k, k < wB.heap.size → ¬ M k) (sk kp : ByteArray → Bool)
    (hsk : ∀ q W, Stnd wI n₁ M W → Calls Try.prog 78 #[.string q, .pointer (some ⟨bp, 0, none⟩)] W fun e W' => e = .returned (.bool (sk q)) ∧ Below W.heap.size W W')
    (hkp : ∀ q W, Stnd wI n₁ M W → Calls Try.prog 79 #[.string q, .pointer (some ⟨bp, 0, none⟩)] W fun e W' => e = .returned (.bool (kp q)) ∧ Below W.heap.size W W') :
    ∀ (N : Nat) (n : Nd) (m : Nat) (p : ByteArray) (B : Nat) (pre : List (ByteArray × Int)) (W : World), nsz n ≤ N → NdAt wB n → Ok n → IntVals n → Fits n B → p.size + (B - n.label.size) < 9000000000000000000 →
      Stnd wI n₁ M W → n₁ ≤ W.heap.size → J pre W → pre.length + (ovr sk kp p n).length ≤ NN →
      CallsIn Fence.wide m Try.prog 118 #[nodeV n.b p, .func (.func 78) #[] #[.pointer (some ⟨bp, 0, none⟩)], .func (.func 79) #[] #[.pointer (some ⟨bp, 0, none⟩)], .func (.yield l) #[] #[]] W (Post n₁ M J Jx pre (ovr sk kp p n) W) := by
  intro N
  induction N with
  | zero =>
    intro n m p B pre W hN
    cases n with
    | mk _ _ _ ks _ => exfalso; unfold nsz at hN; omega
  | succ N ih =>
    intro n m p B pre W hN hn ho hv hf hB hst hnW hJ0 hNN
    have hfa : ∀ k ∈ n.kids, k.label.size ≤ B - n.label.size ∧ Fits k (B - n.label.size) := fun k hk => by
      have h1 := hf.parts.2.mem k hk
      exact ⟨h1.parts.1, h1⟩
    cases hs : sk p with
    | true => exact skip_in bp l n₁ NN M J Jx hJ wI sk kp hsk m n p pre W hst hJ0 hs
    | false =>
      refine deep_in bp l n₁ NN M J Jx hJ hY wI wB hkB hnB hM sk kp hsk hkp m n p pre W hn ho (fun l hl => ?_) (fun k hk => by have := (hfa k hk).1; omega) hst hnW hJ0 hNN hs (fun i hi pre' W' h1 h2 h3 h4 => ?_)
      · exact hv [] l (by rw [findT_nil]; exact hl)
      · have hka : n.kids[i] ∈ n.kids := List.getElem_mem _
        have hsz := nsz_kid hka
        have hfk := hfa _ hka
        refine ih n.kids[i] (m - 1) _ (B - n.label.size) pre' W' (by omega) (hn.parts.choose_spec.2.2.2.mem _ hka) (ho.parts.2.2.get _ hka) (fun r l e => hv (L n.kids[i].label ++ r) l (by rw [findT_kid ho hka]; exact e)) hfk.2 ?_ h1 h2 h3 h4
        rw [ByteArray.size_append]
        have := hfk.1
        omega
theorem below_drewA {B : Nat} {w w' : World} (h : Below B w w') : Below B w w'.drew := ⟨h.os, h.tape, h.output, h.size, h.block⟩
def Closed (w : World) (bp : Nat) (bt bs bk tb : Nat) : Prop := w.heap[bt]? = some (.cells #[ptr tb] 24 (0, 0)) ∧ w.heap[bs]? = some (.cells #[.func (.func 78) #[] #[.pointer (some ⟨bp, 0, none⟩)]] 110 (0, 0)) ∧ w.heap[bk]? = some (.cells #[.func (.func 79) #[] #[.pointer (some ⟨bp, 0, none⟩)]] 110 (0, 0))
set_option maxHeartbeats 4000000 in
set_option maxRecDepth 100000 in
theorem walked_calls (bp : Nat) (l n₁ NN : Nat) (M : Nat → Prop) (J Jx : List (ByteArray × Int) → World → Prop) (hJ : Abd J)
    (hY : ∀ m pre (x : ByteArray × Int) W, J pre W → pre.length < NN → YieldAt Fence.wide m Try.prog l #[.string x.1, .int .i64 x.2] W fun e W' => (e = .returned (.bool true) ∧ J (pre ++ [x]) W' ∧ KpM n₁ M W W') ∨ (e = .returned (.bool false) ∧ Jx (pre ++ [x]) W'))
    (wI wB : World) (hkB : Kept wB wI) (hnB : wB.heap.size ≤ n₁) (hM : ∀ k, k < wB.heap.size → ¬ M k) (sk kp : ByteArray → Bool)
    (hsk : ∀ q W, Stnd wI n₁ M W → Calls Try.prog 78 #[.string q, .pointer (some ⟨bp, 0, none⟩)] W fun e W' => e = .returned (.bool (sk q)) ∧ Below W.heap.size W W')
    (hkp : ∀ q W, Stnd wI n₁ M W → Calls Try.prog 79 #[.string q, .pointer (some ⟨bp, 0, none⟩)] W fun e W' => e = .returned (.bool (kp q)) ∧ Below W.heap.size W W')
    (tb : Nat) (root : Nd) (ht : Tr wB tb root) (bt bs bk : Nat) (W : World) (hc : Closed W bp bt bs bk tb) (hst : Stnd wI n₁ M W) (hnW : n₁ ≤ W.heap.size) (hJ0 : J [] W) (hNN : (ovr sk kp ⟨#[]⟩ root).length ≤ NN) :
    Calls Try.prog 117 #[.func (.yield l) #[] #[], ptr bt, ptr bs, ptr bk] W fun e W' => (∃ v, e = .returned v) ∧ ((∃ ys, ys = ovr sk kp ⟨#[]⟩ root ∧ J ys W') ∨ (∃ pre, pre <+: ovr sk kp ⟨#[]⟩ root ∧ Jx pre W')) := by
  obtain ⟨h1, h2, h3⟩ := hc
  have c1 : W.cell? ⟨bt, 0, none⟩ = some (.pointer (some ⟨tb, 0, none⟩)) := by rw [blk_cell h1]; rfl
  have c2 : W.cell? ⟨bs, 0, none⟩ = some (.func (.func 78) #[] #[.pointer (some ⟨bp, 0, none⟩)]) := by rw [blk_cell h2]; rfl
  have c3 : W.cell? ⟨bk, 0, none⟩ = some (.func (.func 79) #[] #[.pointer (some ⟨bp, 0, none⟩)]) := by rw [blk_cell h3]; rfl
  have hkW : Kept wB W := hst.kept hkB hnB hM
  have q1 := Aside0.mk (fun W1 (h : Below W.heap.size W W1) => rootC W1 tb root _ ((ht.at_.keep hkW).keep (Kept.of h)))
  have q2 : Aside0 (∀ W1, Below W.heap.size W W1 → Calls Try.prog 118 #[nodeV root.b ⟨#[]⟩, .func (.func 78) #[] #[.pointer (some ⟨bp, 0, none⟩)], .func (.func 79) #[] #[.pointer (some ⟨bp, 0, none⟩)], .func (.yield l) #[] #[]] W1 fun e W' => ∃ b, e = .returned (.bool b) ∧ Aside0 ((∃ ys, ys = ovr sk kp ⟨#[]⟩ root ∧ J ys W') ∨ (∃ pre, pre <+: ovr sk kp ⟨#[]⟩ root ∧ Jx pre W'))) := ⟨fun W1 h => by
    have q := callsIn_wide.1 (over_in bp l n₁ NN M J Jx hJ hY wI wB hkB hnB hM sk kp hsk hkp (nsz root) root 3 ⟨#[]⟩ 3999999999999 [] W1 (Nat.le_refl _) ht.at_.root ht.fine.ok ht.vals ht.fine.fits (by show 0 + _ < _; omega) (hst.kp (KpM.of h)) (Nat.le_trans hnW h.size) (abide hJ hJ0 h) (by simpa using hNN))
    refine q.mono ?_
    rintro e W' (⟨rfl, h1, h2⟩ | ⟨rfl, q, h1, h2⟩)
    · exact ⟨true, rfl, ⟨.inl ⟨_, rfl, by simpa using h1⟩⟩⟩
    · exact ⟨false, rfl, ⟨.inr ⟨q, h1, by simpa using h2⟩⟩⟩⟩
  have HB0 := Aside0.mk (below_drewA (Below.refl W.heap.size W))
  clear hkW hsk hkp ht h1 h2 h3 hst hnW hJ0 hNN hJ hY hkB hnB hM
  unfold nodeV ptr at q1 q2
  unfold ptr
  go_enter Try.func117, Try.ntmps117
  have HBn := HB0
  go_region_with (first
    | (go_at_call 42; refine (q1.out _ HBn.out).mono ?_; rintro e W1 ⟨rfl, B1⟩; have d2 := (Kept.of B1).cell c2; have d3 := (Kept.of B1).cell c3; have n0_ := Aside0.mk (belowAt HBn.out B1); clear HBn; have HBn := n0_; clear n0_ B1)
    | (go_at_call 118; refine (q2.out _ HBn.out).mono ?_; rintro e W2 ⟨b, rfl, HF⟩))
  all_goals
    refine bodyPost_end (results_none rfl _ _ _) rfl ?_
    exact ⟨⟨_, rfl⟩, HF.out⟩
end Go.Proofs.Ytjhgknagmiekeaa.VF
set_option linter.unusedVariables false
set_option linter.unusedSimpArgs false
namespace Go.Proofs.Ytjhgknagmiekeaa.VF
open Go.RowKit Go.Lib Go.Proofs Go.Proofs.Ytjhgknagmiekeaa.T Go.Proofs.Ytjhgknagmiekeaa.V
open Go.Proofs.YtjhgknagmiekeaaW.PrintWords hiding blk_cell
theorem seq (w : World) (n NN n₁ : Nat) (M : Nat → Prop) (wB : World) (hkB : Kept wB w) (hnB : wB.heap.size ≤ n₁) (hnw : n₁ ≤ w.heap.size) (hM : ∀ k, k < wB.heap.size → ¬ M k)
    (tb : Nat) (root : Nd) (ht : Tr wB tb root) (bp : Nat) (bt bs bk : Nat) (hc : Closed w bp bt bs bk tb) (p : ByteArray) (hp : Bx w bp p) (hbp : bp < n₁) (hMp : ¬ M bp) (hNN : (ovr (fun q => skF (L p) (L q)) (fun q => kpF (L p) (L q)) ⟨#[]⟩ root).length ≤ NN) :
    SeqStopsK Fence.wide n Try.prog 117 #[ptr bt, ptr bs, ptr bk] (fun x : ByteArray × Int => #[.string x.1, .int .i64 x.2]) (KpM n₁ M) (fun ys => ys = ovr (fun q => skF (L p) (L q)) (fun q => kpF (L p) (L q)) ⟨#[]⟩ root) (fun ys => ys <+: ovr (fun q => skF (L p) (L q)) (fun q => kpF (L p) (L q)) ⟨#[]⟩ root) NN w := by
  intro l J Jx W hw hJ hJx hY hJ0
  have hk : Kept w W := Kept.of hw
  have hc2 : Closed W bp bt bs bk tb := ⟨hk.at hc.1, hk.at hc.2.1, hk.at hc.2.2⟩
  have hbx : ∀ W1, Stnd W n₁ M W1 → Bx W1 bp p := fun W1 h => h bp _ (hk.at hp) hbp hMp
  refine callsIn_wide.2 (walked_calls bp l n₁ NN M J Jx (abd_of hJ) (fun m pre x W1 h1 h2 => yieldDepth m (hY pre x W1 h1 h2)) W wB (hkB.trans hk (Nat.le_trans hnB hnw)) hnB hM (fun q => skF (L p) (L q)) (fun q => kpF (L p) (L q))
    (fun q W1 h1 => skFC q p bp W1 (hbx W1 h1)) (fun q W1 h1 => kpFC q p bp W1 (hbx W1 h1)) tb root ht bt bs bk W hc2 (Stnd.refl W n₁ M) (Nat.le_trans hnw hw.size) hJ0 hNN)
end Go.Proofs.Ytjhgknagmiekeaa.VF
set_option linter.unusedVariables false
set_option linter.unusedSimpArgs false
namespace Go.Proofs.Ytjhgknagmiekeaa.V
open Go.RowKit Go.Lib Go.Proofs Go.Proofs.Ytjhgknagmiekeaa.T
open Go.Proofs.YtjhgknagmiekeaaW.PrintWords hiding blk_cell
attribute [local go_sem] Oper.semAt_some
abbrev fromL (lo : ByteArray) (root : Nd) : List (ByteArray × Int) := ovr (fun q => skF (L lo) (L q)) (fun q => kpF (L lo) (L q)) ⟨#[]⟩ root
def lessB (hi : ByteArray) (x : ByteArray × Int) : Bool := Op.bytesLess x.1.toList hi.toList
abbrev btwL (lo hi : ByteArray) (root : Nd) : List (ByteArray × Int) := (fromL lo root).takeWhile (lessB hi)
theorem tw_pre {α : Type} (p : α → Bool) : ∀ (q L : List α), q <+: L → (∀ y ∈ q, p y = true) → q <+: L.takeWhile p
  | [], L, _, _ => List.nil_prefix
  | a :: q, [], h, _ => by have := h.length_le; simp at this
  | a :: q, b :: L, h, ha => by
    rw [List.cons_prefix_cons] at h
    obtain ⟨rfl, h⟩ := h
    rw [List.takeWhile_cons, if_pos (ha a (by simp)), List.cons_prefix_cons]
    exact ⟨rfl, tw_pre p q L h (fun y hy => ha y (by simp [hy]))⟩
theorem tw_stop {α : Type} (p : α → Bool) : ∀ (q L : List α) (x : α), q ++ [x] <+: L → (∀ y ∈ q, p y = true) → p x = false → q = L.takeWhile p
  | [], [], x, h, _, _ => by have := h.length_le; simp at this
  | [], b :: L, x, h, _, hx => by
    rw [List.nil_append, List.cons_prefix_cons] at h
    obtain ⟨rfl, h⟩ := h
    rw [List.takeWhile_cons, if_neg (by simp [hx])]
  | a :: q, [], x, h, _, _ => by have := h.length_le; simp at this
  | a :: q, b :: L, x, h, ha, hx => by
    rw [List.cons_append, List.cons_prefix_cons] at h
    obtain ⟨rfl, h⟩ := h
    rw [List.takeWhile_cons, if_pos (ha a (by simp))]
    exact congrArg (a :: ·) (tw_stop p q L x h (fun y hy => ha y (by simp [hy])) hx)
theorem tw_all {α : Type} (p : α → Bool) : ∀ (L : List α), (∀ y ∈ L, p y = true) → L.takeWhile p = L
  | [], _ => rfl
  | a :: L, h => by rw [List.takeWhile_cons, if_pos (h a (by simp)), tw_all p L (fun y hy => h y (by simp [hy]))]
theorem roundIn_round {m : Nat} {P : Program} {l : Nat} {f : FuncId} {tmps : Array Value} {assign body : Code} {w : World} {R : Ending → World → Prop} (l' : Nat) (h : RoundIn Fence.wide m P l f tmps assign body w R) : RoundIn (Fence.wide.inRound l') m P l f tmps assign body w R := h
set_option maxRecDepth 100000 in
set_option maxHeartbeats 8000000 in
theorem betweenSeq (w : World) (n NN n₁ : Nat) (M : Nat → Prop) (wB : World) (hkB : Kept wB w) (hnB : wB.heap.size ≤ n₁) (hnw : n₁ ≤ w.heap.size) (hM : ∀ k, k < wB.heap.size → ¬ M k) (hM2 : ∀ k, n₁ ≤ k → ¬ M k)
    (tb : Nat) (root : Nd) (ht : Tr wB tb root) (bt bl bh : Nat) (lo hi : ByteArray) (hc : w.heap[bt]? = some (.cells #[ptr tb] 24 (0, 0))) (hl : Bx w bl lo) (hh : Bx w bh hi) (hNN : (fromL lo root).length ≤ NN) :
    SeqO Fence.wide n Try.prog 81 #[ptr bt, ptr bl, ptr bh] (fun x : ByteArray × Int => #[.string x.1, .int .i64 x.2]) (KpT n₁ M) (fun _ => True) (fun ys => ys = btwL lo hi root) (fun ys => ys <+: btwL lo hi root) NN w := by
  intro l J Jx W hW hlW hJ hJx hY h0
  have hkW : Kept w W := Kept.of hW
  have b1 := hkW.at hc
  have b2 : W.heap[bl]? = some (.cells #[.string lo] 9 (0, 0)) := hkW.at hl
  have b3 : W.heap[bh]? = some (.cells #[.string hi] 9 (0, 0)) := hkW.at hh
  have hkBW : Kept wB W := hkB.trans hkW (Nat.le_trans hnB hnw)
  have hnW : n₁ ≤ W.heap.size := Nat.le_trans hnw hW.size
  have hBa : Below W.heap.size W (W.alloc (.cells #[.func (.yield l) #[] #[]] 111)) := (Below.refl _ W).alloc (Nat.le_refl _) _
  have c1 : (W.alloc (.cells #[.func (.yield l) #[] #[]] 111)).cell? ⟨bt, 0, none⟩ = some (.pointer (some ⟨tb, 0, none⟩)) := by rw [blk_cell ((Kept.of hBa).at b1)]; rfl
  have c2 : (W.alloc (.cells #[.func (.yield l) #[] #[]] 111)).cell? ⟨bl, 0, none⟩ = some (.string lo) := by rw [blk_cell ((Kept.of hBa).at b2)]; rfl
  have qf := Aside0.mk (fun w1 => show CallsIn Fence.wide 8 Try.prog 27 _ w1 _ from callsIn_wide.2 (fromC tb lo w1))
  unfold ptr at qf ⊢
  refine (show CallsIn Fence.wide n Try.prog 81 #[.func (.yield l) #[] #[], .pointer (some ⟨bt, 0, none⟩), .pointer (some ⟨bl, 0, none⟩), .pointer (some ⟨bh, 0, none⟩)] W (PostQ J Jx (btwL lo hi root)) from ?_)
  refine callsIn_wide.2 (callsIn_wide.1 (show CallsIn Fence.wide 9 Try.prog 81 _ W _ from ?_))
  refine callsIn_of_wp_marks Try.func81 rfl trivial ?_ rfl
  simp only [Try.ntmps81, List.size_toArray, List.length_cons, List.length_nil, Nat.reduceAdd, Nat.reduceSub, Array.replicate_succ, Array.replicate_zero, List.push_toArray, List.append_toArray, List.nil_append, List.cons_append]
  have HA := Aside0.mk (And.intro hBa (And.intro b1 (And.intro b2 b3)))
  clear hBa b1 b2 b3
  gi_wp2_with (refine ⟨trivial, ?_⟩; gi_at_call 27; refine (qf.out _).mono ?_; rintro e W2 ⟨bp, bt', bs, bk, rfl, g0, g1, g2, g3, g4, g5⟩; have H2 := Aside0.mk (And.intro g0 (And.intro g1 (And.intro g2 (And.intro g3 (And.intro g4 g5))))); clear g0 g1 g2 g3 g4 g5)
  clear qf c1 c2
  obtain ⟨g0, g1, g2, g3, g4, g5⟩ := H2.out
  obtain ⟨hBa, b1, b2, b3⟩ := HA.out
  have hB2 : Below W.heap.size W W2 := belowAt hBa g5
  have hs2 : W.heap.size + 1 ≤ W2.heap.size := by have := g5.size; rwa [World.size_alloc] at this
  have bY : W2.heap[W.heap.size]? = some (.cells #[.func (.yield l) #[] #[]] 111 (0, 0)) := (Kept.of g5).at (World.alloc_heap_new W _)
  have bH : W2.heap[bh]? = some (.cells #[.string hi] 9 (0, 0)) := (Kept.of hB2).at b3
  rw [World.size_alloc] at g0
  have hbp : bp < W2.heap.size := (Array.getElem?_eq_some_iff.1 g1).1
  refine wpIn_rangeFuncO rfl (by decide) (gf := 117) (lb := #[ptr bt', ptr bs, ptr bk]) rfl trivial (enters_of Try.func117 (by kernel_rfl) rfl)
    (seqO_of (VF.seq W2 8 (fromL lo root).length W2.heap.size (fun k => M k ∨ (n₁ ≤ k ∧ k ≠ bp)) wB (hkBW.trans (Kept.of hB2) (Nat.le_trans hnB hnW)) (by omega) (Nat.le_refl _) (fun k hk => by rintro (h | ⟨h, -⟩); exact hM k hk h; omega) tb root ht bp bt' bs bk ⟨g2, g3, g4⟩ lo g1 hbp (by rintro (h | ⟨-, h⟩); exact hM2 bp (by omega) h; exact h rfl) (Nat.le_refl _)))
    kpT (fun Z o o' h hc => KpM.putObj Z _ o o' (by omega) h hc) (Below.refl _ _) (fun _ => rfl)
    (fun pre Z => J pre Z ∧ (∀ y ∈ pre, lessB hi y = true) ∧ KpT n₁ M W2 Z ∧ KeepsU W.heap.size W Z)
    (fun cd q Z => cd = .ret ∧ KeepsU W.heap.size W Z ∧ ((∃ pre x, q = pre ++ [x] ∧ (∀ y ∈ pre, lessB hi y = true) ∧ lessB hi x = false ∧ J pre Z) ∨ ((∀ y ∈ q, lessB hi y = true) ∧ Jx q Z)))
    ?hI ?hIx ?h0 (fun (x : ByteArray × Int) a' (Z : World) => a' = { tmps := #[.func (.yield l) #[] #[], .pointer (some ⟨bt, 0, none⟩), .pointer (some ⟨bl, 0, none⟩), .pointer (some ⟨bh, 0, none⟩), .pointer (some ⟨W.heap.size, 0, none⟩), .string x.1, .int .i64 x.2, .pointer (some ⟨tb, 0, none⟩), .string lo, .func (.func 117) #[] #[.pointer (some ⟨bt', 0, none⟩), .pointer (some ⟨bs, 0, none⟩), .pointer (some ⟨bk, 0, none⟩)], .string x.1, .int .i64 x.2, undef, undef, undef, undef, undef, undef, undef, undef, undef, undef], defers := [] }) ?hAx ?assign ?body ?done ?stop
  case assign =>
    intro l' m' pre x Wa K hI hok hK
    gi_wp2
    exact hK _ _ (KeepsU.refl _ _) (KpM.of (Below.refl _ _)) hI rfl
  case hI => exact OwnT.and (fun s => ownUp hJ (by omega) s) (OwnT.and (ownT_pure _ _) (OwnT.and (kpT_own (by omega) (Nat.le_refl _)) (ownT_kf (by omega))))
  case hIx =>
    intro cd s X Y row hs hg hr
    obtain ⟨k1, k2, k3⟩ := hs
    refine ⟨k1, ownT_kf (β := Unit) (B' := W2.heap.size) (by omega) () X Y row k2 hg hr, ?_⟩
    rcases k3 with ⟨pre, x, h1, h2, h3, h4⟩ | ⟨h1, h2⟩
    · exact .inl ⟨pre, x, h1, h2, h3, ownUp hJ (by omega) pre X Y row h4 hg hr⟩
    · exact .inr ⟨h1, ownUp hJx (by omega) s X Y row h2 hg hr⟩
  case hAx => exact fun x a' => ownT_pure _ (fun _ => a' = _)
  case h0 => exact ⟨ownBelow hJ h0 hB2, (fun y hy => by cases hy), KpT.of (Below.refl _ _), KeepsU.of hB2⟩
  case body =>
    rintro l' m' pre x a' Zb hl' hr0 hsz ⟨hJb, hab, hKb, hUb⟩ rfl hlt hok
    have bHz := hKb.typ _ _ 9 _ (by unfold Quiet; simp) bH
    have bPz := hKb.typ _ _ 9 _ (by unfold Quiet; simp) g1
    have cH : Zb.cell? ⟨bh, 0, none⟩ = some (.string hi) := by rw [blk_cell bHz]; rfl
    have cY : Zb.cell? ⟨W.heap.size, 0, none⟩ = some (.func (.yield l) #[] #[]) := by rw [blk_cell (hKb.typ _ _ 111 _ (by unfold Quiet; simp) bY)]; rfl
    have hdd : ∀ k : Nat, (Fence.wide.depth.isSome = true → 1 ≤ k) := fun k h => by cases h
    have HZ := Aside0.mk (And.intro hJb (And.intro hab (And.intro hKb (And.intro hUb bPz))))
    have HS := Aside0.mk (And.intro hs2 (And.intro hnW g0))
    obtain ⟨fn, tm, asg, bd, hy, hRR⟩ := hY (m' - 1) pre x Zb hJb (by omega) trivial
    have HRR := Aside0.mk hRR
    clear hJb hab hKb hUb hRR bHz bPz hr0 hok hY b1 b2 b3 g1 g2 g3 g4 g5 bY bH hBa hB2 hl hh hc ht hkB hkW hkBW h0 hW hlW hJ hJx
    try dsimp only at hy
    cases hb : lessB hi x with
    | false =>
      have hb1 : Op.bytesLess x.1.toList hi.toList = false := hb
      have HBx := Aside0.mk hb
      clear hb
      gi_wp2
      repeat (first | (refine ⟨fun _ h => (by cases h), ?_⟩; gi_wp2))
      exact ⟨KeepsU.refl _ _, rfl, HZ.out.2.2.2.1, .inl ⟨pre, x, rfl, HZ.out.2.1, HBx.out, HZ.out.1⟩⟩
    | true =>
      have hb1 : Op.bytesLess x.1.toList hi.toList = true := hb
      have HBx := Aside0.mk hb
      clear hb
      gi_wp2
      refine ⟨fun h => (by cases h), ?_⟩
      refine (roundIn_round l' HRR.out).mono ?_
      rintro e Z7 ⟨hU7, (⟨rfl, hJ7, hK7⟩ | ⟨rfl, hx7⟩)⟩
      · have H7 := Aside0.mk (And.intro hU7 (And.intro hJ7 hK7))
        clear hU7 hJ7 hK7 HRR hy
        gi_wp2
        have hk : KpM W2.heap.size (fun k => M k ∨ (n₁ ≤ k ∧ k ≠ bp)) Zb Z7 := by
          refine ⟨H7.out.2.2.size, fun k o hk h1 h2 => ?_, fun k cs fr hk => H7.out.2.2.typ k cs 60 fr (by unfold Quiet; simp) hk⟩
          by_cases hkn : k < n₁
          · exact H7.out.2.2.low k o hk hkn (fun h => h2 (.inl h))
          · have hkb : k = bp := Classical.byContradiction fun hne => h2 (.inr ⟨by omega, hne⟩)
            subst hkb
            rw [HZ.out.2.2.2.2] at hk
            cases hk
            exact H7.out.2.2.typ _ _ 9 _ (by unfold Quiet; simp) HZ.out.2.2.2.2
        refine ⟨H7.out.1.up (by have := HS.out; omega), hk, H7.out.2.1, fun y hy => ?_, HZ.out.2.2.1.trans H7.out.2.2, HZ.out.2.2.2.1.trans H7.out.1⟩
        rcases List.mem_append.1 hy with h | h
        · exact HZ.out.2.1 y h
        · rw [List.mem_singleton.1 h]; exact HBx.out
      · have H7 := Aside0.mk (And.intro hU7 hx7)
        clear hU7 hx7 HRR hy
        gi_wp2
        refine ⟨H7.out.1.up (by have := HS.out; omega), rfl, HZ.out.2.2.2.1.trans H7.out.1, .inr ⟨fun y hy => ?_, H7.out.2⟩⟩
        rcases List.mem_append.1 hy with h | h
        · exact HZ.out.2.1 y h
        · rw [List.mem_singleton.1 h]; exact HBx.out
  case done =>
    rintro D ys Zd hD e9 ⟨hJd, hab, hKd, hUd⟩ hDk
    have HF := Aside0.mk (And.intro hJd (And.intro hab (And.intro hDk (And.intro hD e9))))
    clear hJd hab hKd hUd hDk hD e9 hY b1 b2 b3 g1 g2 g3 g4 g5 bY bH hBa hl hh hc ht hkB hkW hkBW h0 hlW
    gi_wp2
    refine ⟨by simp, .inl ⟨_, _, rfl, run_takeDeferred HF.out.2.2.1, ?_⟩⟩
    refine ⟨_, results_none rfl _ _ _, ⟨_, rfl⟩, .inl ⟨_, ?_, hJ.putObj _ HF.out.1 (by have := HF.out.2.2.2.1; omega) HF.out.2.2.1 rfl⟩⟩
    rw [HF.out.2.2.2.2]
    refine (tw_all _ _ (fun y hy => HF.out.2.1 y ?_)).symm
    rw [HF.out.2.2.2.2]
    exact hy
  case stop =>
    rintro D cd q Zd hD hSp ⟨rfl, hUd, hor⟩ hDk
    have HF := Aside0.mk (And.intro hor (And.intro hDk (And.intro hD hSp)))
    clear hUd hor hDk hD hSp hY b1 b2 b3 g1 g2 g3 g4 g5 bY bH hBa hl hh hc ht hkB hkW hkBW h0 hlW
    gi_wp2
    refine ⟨by simp, .inl ⟨_, _, rfl, run_takeDeferred HF.out.2.1, ?_⟩⟩
    refine ⟨_, results_none rfl _ _ _, ⟨_, rfl⟩, ?_⟩
    rcases HF.out.1 with ⟨pre, x, rfl, h1, h2, h3⟩ | ⟨h1, h2⟩
    · exact .inl ⟨pre, tw_stop _ pre _ x HF.out.2.2.2 h1 h2, hJ.putObj _ h3 (by have := HF.out.2.2.1; omega) HF.out.2.1 rfl⟩
    · exact .inr ⟨q, tw_pre _ q _ HF.out.2.2.2 h1, hJx.putObj _ h2 (by have := HF.out.2.2.1; omega) HF.out.2.1 rfl⟩
set_option maxHeartbeats 4000000 in
set_option maxRecDepth 100000 in
theorem betweenC (tb : Nat) (lo hi : ByteArray) (w : World) : Calls Try.prog 29 #[ptr tb, .string lo, .string hi] w fun e w' => e = .returned (.func (.func 81) #[] #[ptr w.heap.size, ptr (w.heap.size + 1), ptr (w.heap.size + 2)]) ∧ w'.heap[w.heap.size]? = some (.cells #[ptr tb] 24 (0, 0)) ∧ Bx w' (w.heap.size + 1) lo ∧ Bx w' (w.heap.size + 2) hi ∧ Below w.heap.size w w' := by
  have H1 := Aside0.mk (((((Below.refl w.heap.size w).alloc (Nat.le_refl _) (.cells #[ptr tb] 24)).alloc (by simp) (.cells #[.string lo] 9)).alloc (by simp; omega) (.cells #[.string hi] 9)))
  have hA : (((w.alloc (.cells #[ptr tb] 24)).alloc (.cells #[.string lo] 9)).alloc (.cells #[.string hi] 9)).heap[w.heap.size]? = some (.cells #[ptr tb] 24 (0, 0)) := (Below.heap_alloc _ _ _ (by simp; omega)).trans ((Below.heap_alloc _ _ _ (by simp)).trans (World.alloc_heap_new w _))
  have hB : (((w.alloc (.cells #[ptr tb] 24)).alloc (.cells #[.string lo] 9)).alloc (.cells #[.string hi] 9)).heap[w.heap.size + 1]? = some (.cells #[.string lo] 9 (0, 0)) := (Below.heap_alloc _ _ _ (by simp)).trans (by have := World.alloc_heap_new (w.alloc (.cells #[ptr tb] 24)) (.cells #[.string lo] 9); rwa [World.size_alloc] at this)
  have hC : (((w.alloc (.cells #[ptr tb] 24)).alloc (.cells #[.string lo] 9)).alloc (.cells #[.string hi] 9)).heap[w.heap.size + 2]? = some (.cells #[.string hi] 9 (0, 0)) := by have := World.alloc_heap_new ((w.alloc (.cells #[ptr tb] 24)).alloc (.cells #[.string lo] 9)) (.cells #[.string hi] 9); rwa [World.size_alloc, World.size_alloc] at this
  have H2 := Aside0.mk (And.intro hA (And.intro hB hC))
  clear hA hB hC
  unfold ptr at *
  go_enter Try.func29, Try.ntmps29
  go_wp2_with fail
  go_ret
  exact ⟨rfl, H2.out.1, H2.out.2.1, H2.out.2.2, H1.out⟩
end Go.Proofs.Ytjhgknagmiekeaa.V
