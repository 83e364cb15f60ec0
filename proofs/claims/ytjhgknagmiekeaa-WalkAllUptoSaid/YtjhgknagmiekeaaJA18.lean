/- joined: V10g V15 V20 V21 V22 V14h V16h V23h N8 V23 V11 -/
import Derived.Test.YtjhgknagmiekeaaJA15
import Derived.Test.YtjhgknagmiekeaaJA17
import Derived.Stop.RegionWithIn
import Derived.RangeFuncBox
import Derived.Test.YtjhgknagmiekeaaJA14
import Derived.Test.YtjhgknagmiekeaaJA12
import Derived.Deep.RegionHeld3
import Derived.Laws.AppendOwnNone
import Derived.Sort.LoopGhostIn
import Derived.Test.YtjhgknagmiekeaaJA2
import Derived.Test.YtjhgknagmiekeaaRows
import Derived.Test.YtjhgknagmiekeaaJA4
import Derived.Deep.Slices
import Derived.Deep.Fields
import Derived.ChangeSame
import Derived.SizedLaws
import Derived.ProofKit
set_option linter.unusedVariables false
set_option linter.unusedSimpArgs false
namespace Go.Proofs.Ytjhgknagmiekeaa.V
open Go.Proofs.Ytjhgknagmiekeaa.VOU (below_drewA)
open Go.RowKit Go.Lib Go.Proofs Go.Shelf
open Go.Proofs.Ytjhgknagmiekeaa.T Go.Proofs.Ytjhgknagmiekeaa.N Go.Proofs.Ytjhgknagmiekeaa.K
open Go.Proofs.YtjhgknagmiekeaaW.PrintWords hiding blk_cell
theorem own_weak {w : World} {b b' : Nat} {e : TypeId} {size : Nat} {v : Value} {n : Nat} {xs : List Value} (h : w.ownsRow b e size v n xs) (hb : b' ≤ b) : w.ownsRow b' e size v n xs := by
  refine ⟨h.1, ?_⟩
  rcases h.2 with h2 | ⟨g, cap, cur, h1, h2, h3⟩
  · exact .inl h2
  · exact .inr ⟨g, cap, cur, h1, Nat.le_trans hb h2, h3⟩
theorem appended2 {W w1 : World} {n₁ n₀ B : Nat} {t e : TypeId} {size : Nat} {v v' : Value} {k m : Nat} {xs ys : List Value} {tmp : Obj} {M : Nat → Prop}
    (hv : Boxed W B t v) (hte : t ≠ e) (ht : t ≠ 60) (he : e ≠ 60) (hrow : W.ownsRow n₁ e size v k xs) (hn₁ : n₁ ≤ W.heap.size) (hn₀ : n₀ ≤ n₁) (hB : n₀ ≤ B) (hM : M B)
    (hown' : w1.ownsRow n₁ e size v' m ys) (hgrow : (W.alloc tmp).grownBy w1 v.ownBlock) :
    Boxed w1 B t v ∧ Boxed (w1.setCell ⟨B, 0, none⟩ v') B t v' ∧ (w1.setCell ⟨B, 0, none⟩ v').ownsRow n₁ e size v' m ys ∧ KeepsOthers W (w1.setCell ⟨B, 0, none⟩ v') ∧ Below n₀ W (w1.setCell ⟨B, 0, none⟩ v') ∧ KpM n₁ M W (w1.setCell ⟨B, 0, none⟩ v') ∧ (∀ k, k < n₁ → k ≠ B → (w1.setCell ⟨B, 0, none⟩ v').heap[k]? = W.heap[k]?) := by
  obtain ⟨a1, a2, a3, a4, a5⟩ := hv.appended hte (own_weak hrow hn₀) (Nat.le_trans hn₀ hn₁) hB (own_weak hown' hn₀) hgrow
  have hne : ∀ k, k < n₁ → some k ≠ v.ownBlock := fun k hk e9 => by
    rcases hrow.2 with ⟨rfl, _⟩ | ⟨g, cap, cur, rfl, hb, _, _⟩
    · simp [Value.ownBlock] at e9
    · obtain rfl : k = g := by simpa [Value.ownBlock] using e9
      omega
  have hlow : ∀ k, k < n₁ → k ≠ B → (w1.setCell ⟨B, 0, none⟩ v').heap[k]? = W.heap[k]? := fun k hk hkB => by
    rw [Below.heap_setCell _ _ _ k hkB]
    exact (hgrow.block k (by rw [World.size_alloc]; omega) (hne k hk)).trans (Below.heap_alloc _ _ _ (by omega))
  refine ⟨a1, a2, hown'.kept (grownBy_setCell' w1 B v') (.inr (a1.not_row hte hown').symm), a4, a5, ⟨a5.size, fun k o hk h1 h2 => ?_, fun k cs fr hk => ?_⟩, hlow⟩
  · exact (hlow k h1 (fun e9 => h2 (by rw [e9]; exact hM))).trans hk
  · have hkB : k ≠ B := fun e9 => by
      subst e9
      rw [show W.heap[k]? = _ from hv] at hk
      injection hk with h1
      injection h1 with _ h2 _
      exact ht h2
    have hlt := (Array.getElem?_eq_some_iff.1 hk).1
    rw [Below.heap_setCell _ _ _ k hkB]
    refine (hgrow.block k (by rw [World.size_alloc]; omega) (fun e9 => ?_)).trans ((Below.heap_alloc _ _ _ (by omega)).trans hk)
    rcases hrow.2 with ⟨rfl, _⟩ | ⟨g, cap, cur, rfl, hb, hgb, _⟩
    · simp [Value.ownBlock] at e9
    · obtain rfl : k = g := by simpa [Value.ownBlock] using e9
      rw [hk] at hgb
      injection hgb with h1
      injection h1 with _ h2 _
      exact he h2.symm
def rowv (l : List (ByteArray × Int)) : List Value := l.flatMap (fun x => [.string x.1, .int .i64 x.2])
theorem rowv_snoc (l : List (ByteArray × Int)) (x : ByteArray × Int) : rowv (l ++ [x]) = rowv l ++ [.string x.1, .int .i64 x.2] := by simp [rowv]
abbrev mkE (x : ByteArray × Int) : S35 := ⟨x.1, x.2⟩
theorem cell_two_new (w : World) (x y : Value) (t : TypeId) : ∀ j u, [x, y][j]? = some u → (w.alloc (.cells #[x, y] t)).cell? ((⟨w.heap.size, 0, none⟩ : Addr).add j) = some u := by
  intro j u hj
  have h := World.alloc_heap_new w (.cells #[x, y] t)
  match j, hj with
  | 0, hj => cases hj; show World.cell? _ ⟨_, 0, none⟩ = _; rw [blk_cell h]; rfl
  | 1, hj => cases hj; show World.cell? _ ⟨_, 1, none⟩ = _; rw [blk_cell h]; rfl
  | j + 2, hj => cases hj
theorem rowv_drop : ∀ (l : List (ByteArray × Int)) (j : Nat) (x : ByteArray × Int), l[j]? = some x → ((rowv l).drop (j * 2)).take 2 = [.string x.1, .int .i64 x.2]
  | [], j, x, h => by cases h
  | y :: l, 0, x, h => by cases h; rfl
  | y :: l, j + 1, x, h => by
    rw [show (j + 1) * 2 = j * 2 + 2 from by omega]
    exact rowv_drop l j x (by simpa using h)
theorem rowv_len (l : List (ByteArray × Int)) : (rowv l).length = l.length * 2 := by
  induction l with
  | nil => rfl
  | cons x l ih => rw [show rowv (x :: l) = .string x.1 :: .int .i64 x.2 :: rowv l from rfl, List.length_cons, List.length_cons, ih, List.length_cons]; omega
theorem rowv_reps (l : List (ByteArray × Int)) (w : World) : Reps (k35.K w) 2 (l.map mkE) (rowv l) := by
  refine ⟨by rw [rowv_len, List.length_map], fun j p hp => ?_⟩
  rw [List.getElem?_map] at hp
  obtain ⟨x, hx, rfl⟩ := Option.map_eq_some_iff.1 hp
  rw [rowv_drop l j x hx]
  exact k35_mk w (mkE x)
theorem own_got {w : World} {base : Nat} {v : Value} {l : List (ByteArray × Int)} (h : w.ownsRow base 35 2 v l.length (rowv l)) : ∃ A c, v = .slice A (l.map mkE).length c ∧ (l.map mkE).length ≤ c ∧ EntAt w A (l.map mkE) := by
  obtain ⟨A, c, e, hr⟩ := own_reads_row h (rowv_reps l w) (by rw [List.length_map])
  refine ⟨A, c, by rw [List.length_map]; exact e, ?_, by show ReadsRow _ _ _ _ _ _; rw [List.length_map]; exact hr⟩
  rw [List.length_map]
  rcases h.2 with ⟨h1, h2⟩ | ⟨g, cap, cur, h1, h2, h3, h4, h5⟩
  · omega
  · rw [e] at h1
    injection h1 with _ _ h9
    omega
theorem info35 : (Try.prog.info? 35).map (fun i => (i.zero, i.size, i.bytes)) = some (some (.agg #[.string ⟨#[]⟩, .int .i64 0]), 2, 24) := by kernel_rfl
end Go.Proofs.Ytjhgknagmiekeaa.V
set_option linter.unusedVariables false
set_option linter.unusedSimpArgs false
namespace Go.Proofs.Ytjhgknagmiekeaa.V
open Go.RowKit Go.Lib Go.Proofs Go.Shelf
open Go.Proofs.Ytjhgknagmiekeaa.T
open Go.Proofs.YtjhgknagmiekeaaW.PrintWords hiding blk_cell
def TreeTy (t : TypeId) : Prop := t = 58 ∨ t = 117 ∨ t = 124 ∨ t = 127
structure FarB (X : Nat → Prop) (W W' : World) : Prop where
  off : ∀ k, X k → ∀ cs t fr, W.heap[k]? = some (.cells cs t fr) → ¬ TreeTy t
  same : ∀ k, ¬ X k → k < W.heap.size → W'.heap[k]? = W.heap[k]?
theorem FarB.at {X : Nat → Prop} {W W' : World} (h : FarB X W W') {b : Nat} {cs : Array Value} {t : TypeId} {fr : Nat × Nat} (hv : W.heap[b]? = some (.cells cs t fr)) (ht : TreeTy t) : W'.heap[b]? = some (.cells cs t fr) :=
  (h.same b (fun e => h.off b e _ _ _ hv ht) (Array.getElem?_eq_some_iff.1 hv).1).trans hv
theorem FarB.trans {X : Nat → Prop} {A B C : World} (h : FarB X A B) (k : FarB (fun _ => False) B C) : FarB X A C := ⟨h.off, fun j h1 h2 => by
  have e := h.same j h1 h2
  have h3 : j < B.heap.size := by
    have h4 : A.heap[j]? = some A.heap[j] := Array.getElem?_eq_getElem h2
    rw [h4] at e
    exact (Array.getElem?_eq_some_iff.1 e).1
  exact (k.same j (fun x => x) h3).trans e⟩
end Go.Proofs.Ytjhgknagmiekeaa.V
set_option linter.unusedVariables false
set_option linter.unusedSimpArgs false
namespace Go.Proofs.Ytjhgknagmiekeaa.V
open Go.RowKit Go.Lib Go.Proofs Go.Proofs.Ytjhgknagmiekeaa.T
variable {F : Fence} {n : Nat} {P : Program}
def Quiet (t : TypeId) : Prop := t = 4 ∨ t = 9 ∨ t = 24 ∨ t = 60 ∨ t = 110 ∨ t = 111 ∨ t = 132
def qObj (o : Obj) : Prop := o.isCells = false ∨ ∃ cs t fr, o = .cells cs t fr ∧ Quiet t
structure KeepsU (B : Nat) (W W' : World) : Prop where
  size : W.heap.size ≤ W'.heap.size
  same : ∀ (k : Nat) (o : Obj), B ≤ k → W.heap[k]? = some o → qObj o → W'.heap[k]? = some o
theorem KeepsU.trans {B : Nat} {X Y Z : World} (h : KeepsU B X Y) (k : KeepsU B Y Z) : KeepsU B X Z := ⟨Nat.le_trans h.size k.size, fun i o hB hi ho => k.same i o hB (h.same i o hB hi ho) ho⟩
theorem KeepsU.of {B : Nat} {W W' : World} (h : Below W.heap.size W W') : KeepsU B W W' := ⟨h.size, fun k o _ hk _ => (Kept.of h).at hk⟩
theorem KeepsU.refl (B : Nat) (W : World) : KeepsU B W W := KeepsU.of (Below.refl _ _)
theorem KeepsU.up {B B' : Nat} {W W' : World} (h : KeepsU B W W') (hB : B ≤ B') : KeepsU B' W W' := ⟨h.size, fun k o hk h1 h2 => h.same k o (Nat.le_trans hB hk) h1 h2⟩
theorem KeepsU.put {B l : Nat} (W : World) (o : Obj) (h : l < B) : KeepsU B W (W.putObj l o) := by
  have hg := grownBy_putObj' W l o
  exact ⟨hg.size, fun k x hk h1 _ => (hg.block k (Array.getElem?_eq_some_iff.1 h1).1 (fun e => by cases e; omega)).trans h1⟩
theorem KeepsU.set {B b : Nat} (W : World) (v : Value) (h : b < B) : KeepsU B W (W.setCell ⟨b, 0, none⟩ v) := by
  have hg := grownBy_setCell' W b v
  exact ⟨hg.size, fun k x hk h1 _ => (hg.block k (Array.getElem?_eq_some_iff.1 h1).1 (fun e => by cases e; omega)).trans h1⟩
def ownPostU {α : Type} (B : Nat) (Kp : World → World → Prop) (I : List α → World → Prop) (Ix : Code → List α → World → Prop) (xs : List α) (W : World) : Exit → Act → World → Prop
  | .normal, _, W' => KeepsU B W W' ∧ Kp W W' ∧ I xs W'
  | .ret, _, W' => KeepsU B W W' ∧ Ix .ret xs W'
  | .exit id, _, W' => KeepsU B W W' ∧ Ix (.exit id) xs W'
  | .goto t, _, W' => KeepsU B W W' ∧ Ix (.goto t) xs W'
  | .panic _, _, _ => False
  | .outgrown, _, _ => False
def OwnT {β : Type} (B : Nat) (I : β → World → Prop) : Prop :=
  ∀ s W W' row, I s W → W.grownBy W' row → (∀ r, row = some r → B ≤ r ∧ ∃ o : Obj, W.heap[r]? = some o ∧ (o.isCells = false ∨ ∃ b : Bool, o = .cells #[.bool b] 4 (0, 0))) → I s W'
theorem OwnT.putObj {β : Type} {B : Nat} {I : β → World → Prop} (h : OwnT B I) {s : β} {W : World} {l : Nat} {o : Obj} (o' : Obj) (hs : I s W) (hB : B ≤ l) (hl : W.heap[l]? = some o) (ho : o.isCells = false) : I s (W.putObj l o') :=
  h s W _ (some l) hs (grownBy_putObj' W l o') (fun r e => by cases e; exact ⟨hB, o, hl, .inl ho⟩)
theorem OwnT.alloc {β : Type} {B : Nat} {I : β → World → Prop} (h : OwnT B I) {s : β} {W : World} (o : Obj) (hs : I s W) : I s (W.alloc o) :=
  h s W _ none hs (World.grownBy_alloc W o none) (fun r e => by cases e)
theorem OwnT.and {β : Type} {B : Nat} {I I' : β → World → Prop} (h : OwnT B I) (h' : OwnT B I') : OwnT B (fun s W => I s W ∧ I' s W) := fun s W W' row hs hg hr => ⟨h s W W' row hs.1 hg hr, h' s W W' row hs.2 hg hr⟩
theorem OwnT.bool {β : Type} {B : Nat} {I : β → World → Prop} (h : OwnT B I) {s : β} {W : World} {l : Nat} {b : Bool} (v' : Value) (hs : I s W) (hB : B ≤ l) (hl : Boxed W l 4 (.bool b)) : I s (W.setCell ⟨l, 0, none⟩ v') :=
  h s W _ (some l) hs (grownBy_setCell' W l v') (fun r e => by cases e; exact ⟨hB, _, hl, .inr ⟨b, rfl⟩⟩)
def SeqO {α : Type} (F : Fence) (n : Nat) (P : Program) (g : Nat) (lb : Array Value) (encs : α → Array Value) (Kp : World → World → Prop) (Ok S Sp : List α → Prop) (N : Nat) (w : World) : Prop :=
  ∀ (l : Nat) (J Jx : List α → World → Prop) (W : World), Below w.heap.size w W → l < W.heap.size → OwnT W.heap.size J → OwnT W.heap.size Jx →
    (∀ m pre x W1, J pre W1 → pre.length < N → Ok (pre ++ [x]) → YieldAt F m P l (encs x) W1 fun e W' => KeepsU W.heap.size W1 W' ∧ ((e = .returned (.bool true) ∧ J (pre ++ [x]) W' ∧ Kp W1 W') ∨ (e = .returned (.bool false) ∧ Jx (pre ++ [x]) W'))) →
    J [] W → CallsIn F n P g (#[.func (.yield l) #[] #[]] ++ lb) W fun e W' => (∃ v, e = .returned v) ∧ ((∃ xs, S xs ∧ J xs W') ∨ (∃ pre, Sp pre ∧ Jx pre W'))
theorem ownFrom_abides {β : Type} {B : Nat} {J : β → World → Prop} (h : OwnT B J) : AbidesFrom B J := fun s W W' row hs hg hr =>
  h s W W' row hs hg (fun r e => by obtain ⟨h1, o, h2, h3⟩ := hr r e; exact ⟨h1, o, h2, .inl (Obj.not_cells_of_walk h3)⟩)
theorem ownUp {β : Type} {B B' : Nat} {J : β → World → Prop} (h : OwnT B J) (hB : B ≤ B') : OwnT B' J := fun s W W' row hs hg hr => h s W W' row hs hg (fun r e => ⟨Nat.le_trans hB (hr r e).1, (hr r e).2⟩)
theorem ownBelow {β : Type} {B : Nat} {J : β → World → Prop} (h : OwnT B J) {s : β} {W W' : World} (hs : J s W) (hb : Below W.heap.size W W') : J s W' :=
  h s W W' none hs ⟨hb.os, hb.tape, hb.output, hb.size, fun k hk _ => hb.block k hk⟩ (fun r e => by cases e)
theorem seqO_of {α : Type} {g : Nat} {lb : Array Value} {encs : α → Array Value} {Kp : World → World → Prop} {S Sp : List α → Prop} {N : Nat} {w : World} (h : SeqStopsK Fence.wide n P g lb encs Kp S Sp N w) : SeqO Fence.wide n P g lb encs Kp (fun _ => True) S Sp N w :=
  fun l J Jx W hW _ hJ hJx hY h0 => h l J Jx W hW (ownFrom_abides hJ) (ownFrom_abides hJx) (fun pre x W1 h1 h2 => (hY _ pre x W1 h1 h2 trivial).mono (fun e W' h => h.2)) h0
theorem keep_old {A B : World} {row : Option Nat} {n0 k : Nat} {o : Obj} (hg : A.grownBy B row) (hr : ∀ r, row = some r → n0 ≤ r) (hk : k < n0) (h : A.heap[k]? = some o) : B.heap[k]? = some o :=
  (hg.block k (Array.getElem?_eq_some_iff.1 h).1 (fun e => by have := hr k e.symm; omega)).trans h
theorem wpIn_rangeFuncO {α : Type} {g : Operand} {ps : Array Tmp} {assign body : Code} {Q : Exit → Act → World → Prop} {a : Act} {w : World}
    (hro : F.round = none) (h1 : 1 ≤ n) {gf : Nat} {lb : Array Value} (hg : a.eval g = .func (.func gf) #[] lb) (hFg : F.fn gf) (eg : ∀ args w, (callFunc gf args).run P w = .ok (.enter gf args) w)
    {encs : α → Array Value} {Kp : World → World → Prop} {Ok S Sp : List α → Prop} {N : Nat} {w0 : World} (hseq : SeqO F (n - 1) P gf lb encs Kp Ok S Sp N w0)
    (hKt : ∀ {A B C : World}, Kp A B → Kp B C → Kp A C) (hKb : ∀ (W : World) (o o' : Obj), W.heap[w.heap.size + 1]? = some o → o.isCells = false → Kp W (W.putObj (w.heap.size + 1) o')) (hb0 : Below w0.heap.size w0 w) (hps : ∀ x, (encs x).size = ps.size)
    (I : List α → World → Prop) (Ix : Code → List α → World → Prop) (hI : OwnT w.heap.size I) (hIx : ∀ c, OwnT w.heap.size (Ix c)) (h0 : I [] w) (Ax : α → Act → World → Prop) (hAx : ∀ x a', OwnT w.heap.size (fun (_ : Unit) W => Ax x a' W))
    (hassign : ∀ (l m : Nat) (pre : List α) (x : α) (W : World) (K : Act → World → Prop), I pre W → Ok (pre ++ [x]) → (∀ a' W', KeepsU w.heap.size W W' → Kp W W' → I pre W' → Ax x a' W' → K a' W') →
      assign.wpIn (F.inRound l) m P (Exit.then K (fun _ _ _ => False)) { tmps := (ps.zip (encs x)).foldl (fun t (p, v) => t.setIfInBounds p v) a.tmps, defers := [] } W)
    (hbody : ∀ (l m : Nat) (pre : List α) (x : α) (a' : Act) (W : World), w.heap.size ≤ l → (∃ r, W.heap[l]? = some (.loop r)) → w.heap.size + 2 ≤ W.heap.size → I pre W → Ax x a' W → pre.length < N → Ok (pre ++ [x]) → body.wpIn (F.inRound l) m P (ownPostU w.heap.size Kp I Ix (pre ++ [x]) W) a' W)
    (hdone : ∀ (D : Nat) (xs : List α) (W : World), w.heap.size ≤ D → S xs → I xs W → W.heap[D]? = some (.deferred (some [])) → Q .normal { a with defers := { target := .collected D, args := #[] } :: a.defers } W)
    (hstop : ∀ (D : Nat) (c : Code) (pre : List α) (W : World), w.heap.size ≤ D → Sp pre → Ix c pre W → W.heap[D]? = some (.deferred (some [])) → c.wpIn F n P Q { a with defers := { target := .collected D, args := #[] } :: a.defers } W) :
    (Code.rangeFunc g ps assign body).wpIn F n P Q a w := by
  refine wpIn_rangeFunc ?_
  intro fn hfn
  rw [hro]
  obtain ⟨rec, hrec⟩ : ∃ rec : LoopState → Option Code → Loop, rec = fun st pe => { state := st, pending := pe, fn, tmps := a.tmps, params := ps, assign, body, defers := w.heap.size } := ⟨_, rfl⟩
  obtain ⟨W1, hW1⟩ : ∃ W1, (w.alloc (.deferred (some []))).alloc (.loop (rec .ready none)) = W1 := ⟨_, rfl⟩
  have hs1 : W1.heap.size = w.heap.size + 2 := by rw [← hW1]; simp
  have hL1 : W1.heap[w.heap.size + 1]? = some (.loop (rec .ready none)) := by
    rw [← hW1]; have := World.alloc_heap_new (w.alloc (.deferred (some []))) (.loop (rec .ready none)); rwa [World.size_alloc] at this
  have hK1 : W1.heap[w.heap.size]? = some (.deferred (some [])) := by
    rw [← hW1]; exact (Below.heap_alloc _ _ _ (by simp)).trans (World.alloc_heap_new w _)
  have hI1 : I [] W1 := by rw [← hW1]; exact hI.alloc _ (hI.alloc _ h0)
  have hb1 : Below w0.heap.size w0 W1 := by
    rw [← hW1]; exact hb0.trans ((((Below.refl _ w).alloc (Nat.le_refl _) _).alloc (by simp) _).mono hb0.size)
  refine ⟨w.heap.size + 1, [{ target := .collected w.heap.size, args := #[] }], W1, { target := .fn (.func gf) lb, args := #[.func (.yield (w.heap.size + 1)) #[] #[]] }, W1, gf,
    #[.func (.yield (w.heap.size + 1)) #[] #[]] ++ lb, W1, ?_, ?_, ?_, ?_, fun _ => h1, ?_⟩
  · rw [← hW1, hrec]; exact run_enterLoop_outer _ _ _ _ _
  · simp only [resolve, hg]
    simp [go_sem]
  · intro f' hf'; simp [Target.leads] at hf'; subst hf'; exact hFg
  · simp [invoke, go_sem, eg]
  · refine (hseq (w.heap.size + 1)
      (fun pre W => (I pre W ∧ w.heap.size + 2 ≤ W.heap.size) ∧ W.heap[w.heap.size + 1]? = some (.loop (rec .ready none)) ∧ W.heap[w.heap.size]? = some (.deferred (some [])))
      (fun pre W => ∃ c, Ix c pre W ∧ W.heap[w.heap.size + 1]? = some (.loop (rec .done (some c))) ∧ W.heap[w.heap.size]? = some (.deferred (some [])))
      W1 hb1 (by omega)
      (fun s A B row hs hg' hr => ⟨⟨hI s A B row hs.1.1 hg' (fun r e => ⟨by have := (hr r e).1; omega, (hr r e).2⟩), Nat.le_trans hs.1.2 hg'.size⟩, keep_old hg' (fun r e => (hr r e).1) (by omega) hs.2.1, keep_old hg' (fun r e => (hr r e).1) (by omega) hs.2.2⟩)
      (fun s A B row hs hg' hr => by
        obtain ⟨c, hc, hl, hk⟩ := hs
        exact ⟨c, hIx c s A B row hc hg' (fun r e => ⟨by have := (hr r e).1; omega, (hr r e).2⟩), keep_old hg' (fun r e => (hr r e).1) (by omega) hl, keep_old hg' (fun r e => (hr r e).1) (by omega) hk⟩)
      ?_ ⟨⟨hI1, by omega⟩, hL1, hK1⟩).mono ?_
    · rintro m pre x W ⟨⟨hi, hsz⟩, hl, hk⟩ hlen hok
      have hlt : w.heap.size + 1 < W.heap.size := (Array.getElem?_eq_some_iff.1 hl).1
      have hy := run_yield (P := P) (args := encs x) hl (by rw [hrec]; exact hps x)
      rw [hrec] at hy
      refine ⟨fn, _, assign, body, hy, roundIn_of_wpIn hfn (hassign _ _ pre x W _ hi hok ?_)⟩
      clear hy
      intro a' Wa hkfa hkpa hia hax
      replace hl := hkfa.same _ _ (by omega) hl (.inl rfl)
      replace hk := hkfa.same _ _ (Nat.le_refl _) hk (.inl rfl)
      replace hsz : w.heap.size + 2 ≤ Wa.heap.size := Nat.le_trans hsz hkfa.size
      replace hlt : w.heap.size + 1 < Wa.heap.size := (Array.getElem?_eq_some_iff.1 hl).1
      refine ⟨_, run_beginRound hl (by rw [hrec]), ?_⟩
      have hl2 : (Wa.putObj (w.heap.size + 1) (.loop { rec .ready none with state := .busy })).heap[w.heap.size + 1]? = some (.loop { rec .ready none with state := .busy }) := World.putObj_heap_same hlt
      have hk2 : (Wa.putObj (w.heap.size + 1) (.loop { rec .ready none with state := .busy })).heap[w.heap.size]? = some (.deferred (some [])) := (World.putObj_heap_other (by omega)).trans hk
      have hw2 : Kp Wa (Wa.putObj (w.heap.size + 1) (.loop { rec .ready none with state := .busy })) := hKb _ _ _ hl rfl
      have hg2 := (grownBy_putObj' Wa (w.heap.size + 1) (.loop { rec .ready none with state := .busy })).size
      refine wpIn_mono (hbody _ _ pre x a' _ (by omega) ⟨_, hl2⟩ (Nat.le_trans hsz hg2) (hI.putObj _ hia (by omega) hl rfl) ((hAx x a').putObj (s := ()) _ hax (by omega) hl rfl) hlen hok) ?_
      have fin : ∀ (jump : Option Code) (W3 : World), KeepsU w.heap.size (Wa.putObj (w.heap.size + 1) (.loop { rec .ready none with state := .busy })) W3 →
          (Instr.endRound (w.heap.size + 1) jump).run P W3 = .ok (.bool jump.isNone) (W3.putObj (w.heap.size + 1) (.loop (rec (if jump.isNone then .ready else .done) jump))) ∧
          W3.heap[w.heap.size + 1]? = some (.loop { rec .ready none with state := .busy }) ∧
          (W3.putObj (w.heap.size + 1) (.loop (rec (if jump.isNone then .ready else .done) jump))).heap[w.heap.size + 1]? = some (.loop (rec (if jump.isNone then .ready else .done) jump)) ∧
          (W3.putObj (w.heap.size + 1) (.loop (rec (if jump.isNone then .ready else .done) jump))).heap[w.heap.size]? = some (.deferred (some [])) ∧
          w.heap.size + 2 ≤ (W3.putObj (w.heap.size + 1) (.loop (rec (if jump.isNone then .ready else .done) jump))).heap.size := fun jump W3 hk3 => by
        have hl3 := hk3.same _ _ (by omega) hl2 (.inl rfl)
        have := run_endRound (P := P) jump hl3
        have h9 := (Array.getElem?_eq_some_iff.1 hl3).1
        have h8 := (grownBy_putObj' W3 (w.heap.size + 1) (.loop (rec (if jump.isNone then .ready else .done) jump))).size
        rw [hrec] at this ⊢
        rw [hrec] at h8
        exact ⟨this, by rw [hrec] at hl3; exact hl3, World.putObj_heap_same h9, (World.putObj_heap_other (by omega)).trans (hk3.same _ _ (Nat.le_refl _) hk2 (.inl rfl)), by omega⟩
      have kf : ∀ (W3 : World) (o : Obj), KeepsU w.heap.size (Wa.putObj (w.heap.size + 1) (.loop { rec .ready none with state := .busy })) W3 → KeepsU W1.heap.size W (W3.putObj (w.heap.size + 1) o) := fun W3 o hk3 =>
        (((hkfa.up (by omega)).trans (KeepsU.put Wa _ (by omega))).trans (hk3.up (by omega))).trans (KeepsU.put W3 o (by omega))
      rintro e a3 W3 hp
      cases e with
      | normal =>
        obtain ⟨hk3, hkp3, hi3⟩ := hp
        obtain ⟨hr, hl3, hl4, hk4, hs4⟩ := fin none W3 hk3
        exact ⟨_, _, hr, kf _ _ hk3, .inl ⟨rfl, ⟨⟨hI.putObj _ hi3 (by omega) hl3 rfl, hs4⟩, hl4, hk4⟩, hKt hkpa (hKt (hKt hw2 hkp3) (hKb _ _ _ hl3 rfl))⟩⟩
      | ret =>
        obtain ⟨hk3, hi3⟩ := hp
        obtain ⟨hr, hl3, hl4, hk4, hs4⟩ := fin (some .ret) W3 hk3
        exact ⟨_, _, hr, kf _ _ hk3, .inr ⟨rfl, .ret, (hIx _).putObj _ hi3 (by omega) hl3 rfl, hl4, hk4⟩⟩
      | exit id =>
        obtain ⟨hk3, hi3⟩ := hp
        obtain ⟨hr, hl3, hl4, hk4, hs4⟩ := fin (some (.exit id)) W3 hk3
        exact ⟨_, _, hr, kf _ _ hk3, .inr ⟨rfl, .exit id, (hIx _).putObj _ hi3 (by omega) hl3 rfl, hl4, hk4⟩⟩
      | goto t =>
        obtain ⟨hk3, hi3⟩ := hp
        obtain ⟨hr, hl3, hl4, hk4, hs4⟩ := fin (some (.goto t)) W3 hk3
        exact ⟨_, _, hr, kf _ _ hk3, .inr ⟨rfl, .goto t, (hIx _).putObj _ hi3 (by omega) hl3 rfl, hl4, hk4⟩⟩
      | panic ch => exact hp.elim
      | outgrown => exact hp.elim
    · rintro e W2 ⟨⟨v, rfl⟩, (⟨xs, hS, ⟨hi, -⟩, hl, hk⟩ | ⟨pre, hSp, c, hi, hl, hk⟩)⟩
      · exact ⟨none, _, by have := run_endLoop (P := P) hl (by rw [hrec]; simp); rw [hrec] at this; exact this, hdone _ xs _ (Nat.le_refl _) hS (hI.putObj _ hi (by omega) hl rfl) ((World.putObj_heap_other (by omega)).trans hk)⟩
      · exact ⟨some c, _, by have := run_endLoop (P := P) hl (by rw [hrec]; simp); rw [hrec] at this; exact this, hstop _ c pre _ (Nat.le_refl _) hSp ((hIx c).putObj _ hi (by omega) hl rfl) ((World.putObj_heap_other (by omega)).trans hk)⟩
end Go.Proofs.Ytjhgknagmiekeaa.V
set_option linter.unusedVariables false
set_option linter.unusedSimpArgs false
namespace Go.Proofs.Ytjhgknagmiekeaa.V
open Go.RowKit Go.Lib Go.Proofs Go.Proofs.Ytjhgknagmiekeaa.T Go.Proofs.Ytjhgknagmiekeaa.VOA
open Go.Proofs.YtjhgknagmiekeaaW.PrintWords hiding blk_cell
attribute [local go_sem] Oper.semAt_some
structure KpT (n₁ : Nat) (M : Nat → Prop) (W W' : World) : Prop where
  size : W.heap.size ≤ W'.heap.size
  low : ∀ (k : Nat) (o : Obj), W.heap[k]? = some o → k < n₁ → ¬ M k → W'.heap[k]? = some o
  typ : ∀ (k : Nat) (cs : Array Value) (t : TypeId) (fr : Nat × Nat), Quiet t → W.heap[k]? = some (Obj.cells cs t fr) → W'.heap[k]? = some (Obj.cells cs t fr)
theorem KpT.trans {n₁ : Nat} {M : Nat → Prop} {A B C : World} (h : KpT n₁ M A B) (k : KpT n₁ M B C) : KpT n₁ M A C :=
  ⟨Nat.le_trans h.size k.size, fun i o hi h1 h2 => k.low i o (h.low i o hi h1 h2) h1 h2, fun i cs t fr ht hi => k.typ i cs t fr ht (h.typ i cs t fr ht hi)⟩
theorem KpT.of {n₁ : Nat} {M : Nat → Prop} {W W' : World} (h : Below W.heap.size W W') : KpT n₁ M W W' :=
  ⟨h.size, fun k o hk _ _ => (Kept.of h).at hk, fun k cs t fr _ hk => (Kept.of h).at hk⟩
theorem KpT.kpM {n₁ : Nat} {M : Nat → Prop} {W W' : World} (h : KpT n₁ M W W') : KpM n₁ M W W' := ⟨h.size, h.low, fun k cs fr hk => h.typ k cs 60 fr (by unfold Quiet; simp) hk⟩
theorem KpT.putObj {n₁ : Nat} {M : Nat → Prop} (W : World) (l : Nat) (o o' : Obj) (hn : n₁ ≤ l) (hl : W.heap[l]? = some o) (hc : o.isCells = false) : KpT n₁ M W (W.putObj l o') := by
  have hg := grownBy_putObj' W l o'
  refine ⟨hg.size, fun k x hk h1 h2 => ?_, fun k cs t fr _ hk => ?_⟩
  · exact (hg.block k (Array.getElem?_eq_some_iff.1 hk).1 (fun e => by cases e; omega)).trans hk
  · refine (hg.block k (Array.getElem?_eq_some_iff.1 hk).1 (fun e => ?_)).trans hk
    cases e
    rw [hk] at hl
    cases hl
    cases hc
theorem kpT_own {β : Type} {n₁ B : Nat} {M : Nat → Prop} {W0 : World} (h1 : n₁ ≤ B) (h0 : W0.heap.size ≤ B) : OwnT B (fun (_ : β) W => KpT n₁ M W0 W) := fun s X Y row hs hg hr => by
  refine ⟨Nat.le_trans hs.size hg.size, fun k o hk h1' h2 => ?_, fun k cs t fr ht hk => ?_⟩
  · exact keep_old hg (fun r e => (hr r e).1) (by omega) (hs.low k o hk h1' h2)
  · exact keep_old hg (fun r e => (hr r e).1) (Nat.lt_of_lt_of_le (Array.getElem?_eq_some_iff.1 hk).1 h0) (hs.typ k cs t fr ht hk)
structure KpQ (W W' : World) : Prop where
  size : W.heap.size ≤ W'.heap.size
  typ : ∀ (k : Nat) (cs : Array Value) (t : TypeId) (fr : Nat × Nat), Quiet t → W.heap[k]? = some (Obj.cells cs t fr) → W'.heap[k]? = some (Obj.cells cs t fr)
theorem KpQ.trans {A B C : World} (h : KpQ A B) (k : KpQ B C) : KpQ A C := ⟨Nat.le_trans h.size k.size, fun i cs t fr ht hi => k.typ i cs t fr ht (h.typ i cs t fr ht hi)⟩
theorem KpQ.of {W W' : World} (h : Below W.heap.size W W') : KpQ W W' := ⟨h.size, fun k cs t fr _ hk => (Kept.of h).at hk⟩
theorem KpT.q {n₁ : Nat} {M : Nat → Prop} {W W' : World} (h : KpT n₁ M W W') : KpQ W W' := ⟨h.size, h.typ⟩
theorem KpQ.putObj (W : World) (l : Nat) (o o' : Obj) (hl : W.heap[l]? = some o) (hc : o.isCells = false) : KpQ W (W.putObj l o') := by
  have hg := grownBy_putObj' W l o'
  refine ⟨hg.size, fun k cs t fr _ hk => ?_⟩
  refine (hg.block k (Array.getElem?_eq_some_iff.1 hk).1 (fun e => ?_)).trans hk
  cases e
  rw [hk] at hl
  cases hl
  cases hc
theorem row_q {w w' : World} {base n : Nat} {v : Value} {ps : List Value} (h : w.ownsRow base 60 2 v n ps) (k : KpQ w w') : w'.ownsRow base 60 2 v n ps := by
  refine ⟨h.1, ?_⟩
  rcases h.2 with h0 | ⟨g, cap, cur, rfl, hb, hg, rest⟩
  · exact .inl h0
  · exact .inr ⟨g, cap, cur, rfl, hb, k.typ g cur 60 _ (by unfold Quiet; simp) hg, rest⟩
theorem boxed_q {w w' : World} {B : Nat} {t : TypeId} {v : Value} (ht : Quiet t) (h : Boxed w B t v) (k : KpQ w w') : Boxed w' B t v := k.typ B _ t _ ht h
def flatN (xs : List (Nat × ByteArray)) : List Value := xs.flatMap (fun x => [ptr x.1, .string x.2])
theorem flatN_get : ∀ (xs : List (Nat × ByteArray)) (j : Nat) (h : j < xs.length), (flatN xs)[j * 2]? = some (ptr xs[j].1) ∧ (flatN xs)[j * 2 + 1]? = some (.string xs[j].2)
  | x :: xs, 0, h => ⟨rfl, rfl⟩
  | x :: xs, j + 1, h => by
    have h1 := flatN_get xs j (by simpa using h)
    have e : flatN (x :: xs) = ptr x.1 :: .string x.2 :: flatN xs := rfl
    rw [e, show (j + 1) * 2 = j * 2 + 2 from by omega, List.getElem?_cons_succ, List.getElem?_cons_succ, show j * 2 + 2 + 1 = j * 2 + 1 + 2 from by omega, List.getElem?_cons_succ, List.getElem?_cons_succ]
    exact h1
def bwL (xs : List (Nat × ByteArray)) : List (Nat × Nat × ByteArray) := ((List.range xs.length).zip xs).reverse
theorem bwL_len (xs : List (Nat × ByteArray)) : (bwL xs).length = xs.length := by unfold bwL; simp
theorem bwL_get (xs : List (Nat × ByteArray)) (j : Nat) (h : j < xs.length) : (bwL xs)[xs.length - 1 - j]'(by rw [bwL_len]; omega) = (j, xs[j]) := by
  unfold bwL
  rw [List.getElem_reverse, List.getElem_zip, List.getElem_range]
  have e : ((List.range xs.length).zip xs).length - 1 - (xs.length - 1 - j) = j := by simp; omega
  simp only [e]
theorem bwL_take (xs : List (Nat × ByteArray)) (j : Nat) (h : j < xs.length) : (bwL xs).take (xs.length - j) = (bwL xs).take (xs.length - (j + 1)) ++ [(j, xs[j])] := by
  have e : xs.length - j = (xs.length - (j + 1)) + 1 := by omega
  have e2 : xs.length - (j + 1) = xs.length - 1 - j := by omega
  rw [e, e2, List.take_add_one, List.getElem?_eq_getElem (by rw [bwL_len]; omega), bwL_get xs j h]
  rfl
def PostQ {α : Type} (J Jx : List α → World → Prop) (xs : List α) (e : Ending) (W' : World) : Prop := (∃ v, e = .returned v) ∧ ((∃ ys, ys = xs ∧ J ys W') ∨ (∃ pre, pre <+: xs ∧ Jx pre W'))
abbrev encB (x : Nat × Nat × ByteArray) : Array Value := #[.int .i64 (x.1 : Int), nodeV x.2.1 x.2.2]
set_option maxRecDepth 100000 in
set_option maxHeartbeats 4000000 in
theorem bwSeq (w : World) (n NN bs base : Nat) (A : Option Addr) (c : Nat) (xs : List (Nat × ByteArray)) (hb : Boxed w bs 132 (.slice A xs.length c)) (hrow : w.ownsRow base 60 2 (.slice A xs.length c) xs.length (flatN xs)) (hlen : xs.length < 10000000000) (hNN : xs.length ≤ NN) :
    SeqO Fence.wide n Try.prog 144 #[ptr bs] encB KpQ (fun ys => ys <+: bwL xs) (fun ys => ys = bwL xs) (fun ys => ys <+: bwL xs) NN w := by
  intro l J Jx W hW hl hJ hJx hY h0
  have hdd : ∀ k : Nat, (Fence.wide.depth.isSome = true → 1 ≤ k) := fun k h => by cases h
  obtain ⟨len, elen⟩ : ∃ len, xs.length = len := ⟨_, rfl⟩
  rw [elen] at hb hrow hNN hlen
  have hbW : Boxed W bs 132 (.slice A len c) := (Kept.of hW).at hb
  have hrW : W.ownsRow base 60 2 (.slice A len c) len (flatN xs) := row_q hrow (KpQ.of hW)
  have cW := hbW.cell
  have HE := Aside0.mk elen
  have HB := Aside0.mk hbW
  have HR := Aside0.mk hrW
  have HY := Aside0.mk hY
  have HJ := Aside0.mk hJ
  have H0 := Aside0.mk h0
  have HNN := Aside0.mk hNN
  clear hb hrow hW hbW hrW hY hJ hJx h0 elen hNN
  unfold ptr
  refine (show CallsIn Fence.wide n Try.prog 144 #[.func (.yield l) #[] #[], .pointer (some ⟨bs, 0, none⟩)] W (PostQ J Jx (bwL xs)) from ?_)
  refine callsIn_of_wp Try.func144 rfl trivial ?_ rfl
  simp only [Try.ntmps144, List.size_toArray, List.length_cons, List.length_nil, Nat.reduceAdd, Nat.reduceSub, Array.replicate_succ, Array.replicate_zero, List.push_toArray, List.append_toArray, List.nil_append, List.cons_append]
  gi_wp2
  gi_loopw [3] (fun v3 wr => ∃ (j : Nat) (z : Int), v3 = .int .i64 z ∧ Aside0 (z + 1 = (j : Int) ∧ j ≤ len) ∧ Aside0 (J ((bwL xs).take (len - j)) wr) ∧ Aside0 (KpQ W wr)) (fun v3 wr => (RowKit.intOf v3 + 1).toNat)
  case atStart =>
    exact ⟨len, (len : Int) - 1, rfl, ⟨by omega, Nat.le_refl _⟩, ⟨by rw [Nat.sub_self]; exact H0.out⟩, ⟨KpQ.of (Below.refl _ _)⟩⟩
  case round =>
    obtain ⟨j, z, rfl, HI, HJr, HKr⟩ := hrel
    by_cases hz : 0 ≤ z
    · obtain ⟨i, rfl⟩ : ∃ i : Nat, z = (i : Int) := ⟨z.toNat, by omega⟩
      have hij : j = i + 1 := by have := HI.out.1; omega
      have hil : i < len := by have := HI.out.2; omega
      have hix : i < xs.length := by rw [HE.out]; exact hil
      have cB := (boxed_q (by unfold Quiet; simp) HB.out HKr.out).cell
      obtain ⟨g, cap, cur, ⟨rfl, rfl⟩, hgb, hgg, hgc⟩ := ownsNode (row_q HR.out HKr.out) (by omega)
      have hf := flatN_get xs i hix
      have c0 : wr.cell? ⟨g, i * 2, none⟩ = some (ptr xs[i].1) := by rw [blk_cell hgg, hgc (i * 2) (by omega), hf.1]
      have c1 : wr.cell? ⟨g, i * 2 + 1, none⟩ = some (.string xs[i].2) := by rw [blk_cell hgg, hgc (i * 2 + 1) (by omega), hf.2]
      have hbt := bwL_take xs i hix
      rw [HE.out] at hbt
      have hy0 := HY.out (n - 1) ((bwL xs).take (len - j)) (i, xs[i]) wr HJr.out (by rw [List.length_take, bwL_len]; have := HNN.out; omega) (by rw [hij, ← hbt]; exact List.take_prefix _ _)
      rw [hij] at hy0
      rw [← hbt] at hy0
      have HBT := Aside0.mk hbt
      have HIJ := Aside0.mk hij
      obtain ⟨kb, ekb⟩ : ∃ kb, xs[i].1 = kb := ⟨_, rfl⟩
      obtain ⟨kp, ekp⟩ : ∃ kp, xs[i].2 = kp := ⟨_, rfl⟩
      have ex : encB (i, xs[i]) = #[.int .i64 (i : Int), .agg #[.pointer (some ⟨kb, 0, none⟩), .string kp]] := by show #[Value.int .i64 (i : Int), nodeV xs[i].1 xs[i].2] = _; rw [ekb, ekp]; rfl
      rw [ex] at hy0
      rw [ekb] at c0
      rw [ekp] at c1
      unfold ptr at c0
      obtain ⟨fn, tmps, assign, body, hy, hRR⟩ := hy0
      have HRR := Aside0.mk hRR
      clear hRR ex ekb ekp hbt hf hgb hgg hgc hij
      gi_wp2
      refine ⟨hdd _, ?_⟩
      refine HRR.out.mono ?_
      rintro e W7 ⟨-, (⟨rfl, hJ7, hk7⟩ | ⟨rfl, hx7⟩)⟩
      · have H7 := Aside0.mk (And.intro hJ7 hk7)
        clear hJ7 hk7 HRR hy
        gi_wp2
        go_roundw
        case rel => exact ⟨i, (i : Int) - 1, rfl, ⟨by omega, by omega⟩, ⟨H7.out.1⟩, ⟨HKr.out.trans H7.out.2⟩⟩
        case measure => simp [RowKit.intOf]
      · have H7 := Aside0.mk hx7
        clear hx7 HRR hy
        gi_wp2
        refine bodyPost_end (results_none rfl _ _ _) rfl ?_
        exact ⟨⟨_, rfl⟩, .inr ⟨_, List.take_prefix _ _, H7.out⟩⟩
    · have hj0 : j = 0 := by have := HI.out.1; omega
      have HJ0 := Aside0.mk hj0
      gi_wp2
      refine bodyPost_end (results_none rfl _ _ _) rfl ?_
      refine ⟨⟨_, rfl⟩, .inl ⟨_, rfl, ?_⟩⟩
      have h1 := HJr.out
      rw [HJ0.out, Nat.sub_zero, List.take_of_length_le (by rw [bwL_len, HE.out]; exact Nat.le_refl _)] at h1
      exact h1
theorem ownT_kf {β : Type} {B B' : Nat} {w₀ : World} (hB : w₀.heap.size ≤ B') : OwnT B' (fun (_ : β) W => KeepsU B w₀ W) :=
  fun _ X Y row hs hg hr => ⟨Nat.le_trans hs.size hg.size, fun k o hk h0 ho => keep_old hg (fun r e => (hr r e).1) (Nat.lt_of_lt_of_le (Array.getElem?_eq_some_iff.1 h0).1 hB) (hs.same k o hk h0 ho)⟩
theorem ownT_size {β : Type} {B : Nat} (n : Nat) : OwnT B (fun (_ : β) W => n ≤ W.heap.size) := fun _ X Y row hs hg hr => Nat.le_trans hs hg.size
theorem ownT_pure {β : Type} (B : Nat) (p : β → Prop) : OwnT B (fun s (_ : World) => p s) := fun _ _ _ _ hs _ _ => hs
theorem ownT_old {β : Type} {B : Nat} (b : Nat) (f : β → Obj) (hb : b < B) : OwnT B (fun s W => W.heap[b]? = some (f s)) := fun _ X Y row hs hg hr => keep_old hg (fun r e => (hr r e).1) hb hs
theorem ownT_blk {β : Type} {B : Nat} (b : Nat) (cs : Array Value) (t : TypeId) (fr : Nat × Nat) (ht : t ≠ 4) : OwnT B (fun (_ : β) W => W.heap[b]? = some (.cells cs t fr)) := fun _ X Y row hs hg hr =>
  (hg.block b (Array.getElem?_eq_some_iff.1 hs).1 (fun e => by
    obtain ⟨-, o, h1, h2⟩ := hr b e.symm
    rw [hs] at h1
    cases h1
    rcases h2 with h2 | ⟨v, h2⟩
    · cases h2
    · injection h2 with _ h3 _
      exact ht h3)).trans hs
theorem ownT_below {β : Type} {B n : Nat} {w : World} (hn : n ≤ w.heap.size) (hB : n ≤ B) : OwnT B (fun (_ : β) W => Below n w W) := fun _ X Y row hs hg hr => hs.grown hg (Nat.le_trans hn hs.size) (fun k e => Nat.le_trans hB (hr k e).1)
theorem callsIn_round {m : Nat} {P : Program} {f : FuncId} {args : Array Value} {w : World} {R : Ending → World → Prop} (l : Nat) (h : CallsIn Fence.wide m P f args w R) : CallsIn (Fence.wide.inRound l) m P f args w R := h
theorem setNew_at {W Z : World} {b k : Nat} {o : Obj} (v : Value) (hb : W.heap.size ≤ b) (h : W.heap[k]? = some o) (hz : Z.heap[k]? = some o) : (Z.setCell ⟨b, 0, none⟩ v).heap[k]? = some o := by
  have h1 := (Array.getElem?_eq_some_iff.1 h).1
  rw [Below.heap_setCell _ _ _ k (by show k ≠ b; omega)]
  exact hz
theorem KeepsU.setNew {B b : Nat} {W Z : World} (h : KeepsU B W Z) (v : Value) (hb : W.heap.size ≤ b) : KeepsU B W (Z.setCell ⟨b, 0, none⟩ v) :=
  ⟨Nat.le_trans h.size (grownBy_setCell' Z b v).size, fun k o hk h1 h2 => setNew_at v hb h1 (h.same k o hk h1 h2)⟩
theorem KpT.setNew {n₁ b : Nat} {M : Nat → Prop} {W Z : World} (h : KpT n₁ M W Z) (v : Value) (hb : W.heap.size ≤ b) : KpT n₁ M W (Z.setCell ⟨b, 0, none⟩ v) :=
  ⟨Nat.le_trans h.size (grownBy_setCell' Z b v).size, fun k o h1 h2 h3 => setNew_at v hb h1 (h.low k o h1 h2 h3), fun k cs t fr ht h1 => setNew_at v hb h1 (h.typ k cs t fr ht h1)⟩
theorem putNew_at {W Z : World} {b k : Nat} {o : Obj} (o' : Obj) (hb : W.heap.size ≤ b) (h : W.heap[k]? = some o) (hz : Z.heap[k]? = some o) : (Z.putObj b o').heap[k]? = some o := by
  have h1 := (Array.getElem?_eq_some_iff.1 h).1
  exact (World.putObj_heap_other (by omega)).trans hz
theorem KeepsU.putNew {B b : Nat} {W Z : World} (h : KeepsU B W Z) (o' : Obj) (hb : W.heap.size ≤ b) : KeepsU B W (Z.putObj b o') :=
  ⟨Nat.le_trans h.size (grownBy_putObj' Z b o').size, fun k o hk h1 h2 => putNew_at o' hb h1 (h.same k o hk h1 h2)⟩
theorem KpT.putNew {n₁ b : Nat} {M : Nat → Prop} {W Z : World} (h : KpT n₁ M W Z) (o' : Obj) (hb : W.heap.size ≤ b) : KpT n₁ M W (Z.putObj b o') :=
  ⟨Nat.le_trans h.size (grownBy_putObj' Z b o').size, fun k o h1 h2 h3 => putNew_at o' hb h1 (h.low k o h1 h2 h3), fun k cs t fr ht h1 => putNew_at o' hb h1 (h.typ k cs t fr ht h1)⟩
end Go.Proofs.Ytjhgknagmiekeaa.V
set_option linter.unusedVariables false
set_option linter.unusedSimpArgs false
namespace Go.Proofs.Ytjhgknagmiekeaa.V
open Go.RowKit Go.Lib Go.Proofs Go.Proofs.Ytjhgknagmiekeaa.T Go.Proofs.Ytjhgknagmiekeaa.VOA
open Go.Proofs.YtjhgknagmiekeaaW.PrintWords hiding blk_cell
attribute [local go_sem] Oper.semAt_some
abbrev bkL (p : ByteArray) (n : Nd) : List (ByteArray × Int) := (ovr (fun _ => false) (fun _ => true) p n).reverse
abbrev bkLs (p : ByteArray) (ks : List Nd) : List (ByteArray × Int) := (ovrs (fun _ => false) (fun _ => true) p ks).reverse
theorem bkL_eq (p : ByteArray) (n : Nd) : bkL p n = bkLs p n.kids ++ ownE (fun _ => true) p n.leaf := by
  unfold bkL bkLs
  rw [ovr_eq, if_neg (by simp), List.reverse_append]
  congr 1
  cases n.leaf with
  | none => rfl
  | some l => rfl
theorem bkLs_drop (p : ByteArray) (ks : List Nd) (i : Nat) (h : i < ks.length) : bkLs p (ks.drop i) = bkLs p (ks.drop (i + 1)) ++ bkL (p ++ ks[i].label) ks[i] := by
  unfold bkLs bkL
  rw [List.drop_eq_getElem_cons h, ovrs, List.reverse_append]
theorem bkLs_pre (p : ByteArray) : ∀ (ks : List Nd) (i : Nat), bkLs p (ks.drop i) <+: bkLs p ks
  | ks, 0 => by simp
  | [], i + 1 => by simp
  | k :: r, i + 1 => by
    rw [List.drop_succ_cons]
    refine (bkLs_pre p r i).trans ?_
    unfold bkLs
    rw [ovrs, List.reverse_append]
    exact List.prefix_append _ _
def kidL (p : ByteArray) (ks : List Nd) : List (Nat × ByteArray) := ks.map (fun k => (k.b, p ++ k.label))
theorem kidL_flat (p : ByteArray) (ks : List Nd) : flatN (kidL p ks) = flatK p ks := by unfold flatN kidL flatK; rw [List.flatMap_map]
theorem kidL_len (p : ByteArray) (ks : List Nd) : (kidL p ks).length = ks.length := by simp [kidL]
theorem kidL_get (p : ByteArray) (ks : List Nd) (i : Nat) (h : i < ks.length) : (kidL p ks)[i]'(by rw [kidL_len]; exact h) = (ks[i].b, p ++ ks[i].label) := by simp [kidL]
theorem bwL_next (xs : List (Nat × ByteArray)) (pre : List (Nat × Nat × ByteArray)) (x : Nat × Nat × ByteArray) (h : pre ++ [x] <+: bwL xs) : ∃ i, ∃ h : i < xs.length, pre.length + (i + 1) = xs.length ∧ x = (i, xs[i]) := by
  have h1 := h.length_le
  rw [List.length_append, bwL_len, List.length_singleton] at h1
  refine ⟨xs.length - 1 - pre.length, by omega, by omega, ?_⟩
  have h2 : (bwL xs)[pre.length]? = some x := by
    obtain ⟨t, ht⟩ := h
    rw [← ht]
    simp
  have h3 := bwL_get xs (xs.length - 1 - pre.length) (by omega)
  rw [List.getElem?_eq_getElem (by rw [bwL_len]; omega)] at h2
  have e : xs.length - 1 - (xs.length - 1 - pre.length) = pre.length := by omega
  simp only [e] at h3
  rw [h3] at h2
  exact (Option.some.inj h2).symm
def PostB (n₁ : Nat) (M : Nat → Prop) (B : Nat) (J Jx : List (ByteArray × Int) → World → Prop) (pre xs : List (ByteArray × Int)) (W : World) (e : Ending) (W' : World) : Prop :=
  KeepsU B W W' ∧ ((e = .returned (.bool true) ∧ J (pre ++ xs) W' ∧ KpT n₁ M W W') ∨ (e = .returned (.bool false) ∧ ∃ q, q <+: xs ∧ Jx (pre ++ q) W'))
theorem results_box {fn : Func} {p : Tmp} (h : fn.results = #[.cell p 4]) (tmps : Array Value) (w : World) (g : Nat) (b : Bool) (hp : tmps.getD p undef = .pointer (some ⟨g, 0, none⟩)) (hg : Boxed w g 4 (.bool b)) :
    (results fn tmps).run Try.prog w = .ok (.bool b) w := by
  have hp' : tmps[p]?.getD undef = .pointer (some ⟨g, 0, none⟩) := by simpa using hp
  have hc := hg.cell
  simp [results, h, hp', asAddr, go_sem, hc]
set_option maxHeartbeats 4000000 in
set_option maxRecDepth 100000 in
theorem backwardC (A : Option Addr) (n c : Nat) (w : World) : Calls Try.prog 120 #[.slice A n c] w fun e w' => e = .returned (.func (.func 144) #[] #[ptr w.heap.size]) ∧ Boxed w' w.heap.size 132 (.slice A n c) ∧ Below w.heap.size w w' := by
  have H1 := Aside0.mk (World.alloc_heap_new w (.cells #[.slice A n c] 132))
  have H2 := Aside0.mk ((Below.refl w.heap.size w).alloc (Nat.le_refl _) (.cells #[.slice A n c] 132))
  unfold ptr
  go_enter Try.func120, Try.ntmps120
  go_wp2_with fail
  go_ret
  exact ⟨rfl, H1.out, H2.out⟩
theorem yield_r {B n₁ : Nat} {M : Nat → Prop} {J Jx : List (ByteArray × Int) → World → Prop} {xs : List (ByteArray × Int)} {W W' : World} {e : Ending} (h : KeepsU B W W' ∧ ((e = .returned (.bool true) ∧ J xs W' ∧ KpT n₁ M W W') ∨ (e = .returned (.bool false) ∧ Jx xs W'))) :
    ∃ r, e = .returned (.bool r) ∧ Aside0 (KeepsU B W W' ∧ ((r = true ∧ J xs W' ∧ KpT n₁ M W W') ∨ (r = false ∧ Jx xs W'))) := by
  obtain ⟨h0, (⟨h1, h2⟩ | ⟨h1, h2⟩)⟩ := h
  · exact ⟨true, h1, ⟨h0, .inl ⟨rfl, h2⟩⟩⟩
  · exact ⟨false, h1, ⟨h0, .inr ⟨rfl, h2⟩⟩⟩
theorem back_ret {D b n₁ B0 : Nat} {M : Nat → Prop} {J Jx : List (ByteArray × Int) → World → Prop} {pre xs : List (ByteArray × Int)} {W Z Z2 : World} {b0 : Bool} {tmps : Array Value} (r : Bool) (hz : Below (Z.setCell ⟨b, 0, none⟩ (.bool r)).heap.size (Z.setCell ⟨b, 0, none⟩ (.bool r)) Z2) (hJ : OwnT B0 J) (hJx : OwnT B0 Jx) (hb : Boxed Z b 4 (.bool b0)) (hD : Z.heap[D]? = some (.deferred (some []))) (hbW : W.heap.size ≤ b) (hDW : W.heap.size ≤ D) (hB0 : B0 ≤ W.heap.size) (hu : KeepsU B0 W Z)
    (hr : (r = true ∧ J (pre ++ xs) Z ∧ KpT n₁ M W Z) ∨ (r = false ∧ ∃ q, q <+: xs ∧ Jx (pre ++ q) Z)) (ht : tmps.getD 4 undef = .pointer (some ⟨b, 0, none⟩)) :
    bodyPostM Fence.wide 9 Try.prog Try.f83 (PostB n₁ M B0 J Jx pre xs W) .ret { tmps := tmps, defers := [{ target := .collected D, args := #[] }] } Z2 := by
  have hbD : D ≠ b := fun e => by subst e; rw [show Z.heap[D]? = _ from hb] at hD; cases hD
  have hD2 : Z2.heap[D]? = some (.deferred (some [])) := (Kept.of hz).at ((Below.heap_setCell _ _ _ D hbD).trans hD)
  have hb2 : Boxed Z2 b 4 (.bool r) := (Kept.of hz).at (show (Z.setCell ⟨b, 0, none⟩ (.bool r)).heap[b]? = _ from hb.set _)
  refine ⟨by simp, .inl ⟨_, _, rfl, run_takeDeferred hD2, ?_⟩⟩
  refine ⟨_, results_box rfl _ _ _ _ ht (show Boxed _ _ _ _ from (World.putObj_heap_other hbD.symm).trans hb2), ((hu.setNew _ hbW).trans (KeepsU.of hz)).putNew _ hDW, ?_⟩
  rcases hr with ⟨rfl, hj, hk⟩ | ⟨rfl, q, hq, hj⟩
  · exact .inl ⟨rfl, hJ.putObj _ (ownBelow hJ (hJ.bool _ hj (by omega) hb) hz) (by omega) hD2 rfl, ((hk.setNew _ hbW).trans (KpT.of hz)).putNew _ hDW⟩
  · exact .inr ⟨rfl, q, hq, hJx.putObj _ (ownBelow hJx (hJx.bool _ hj (by omega) hb) hz) (by omega) hD2 rfl⟩
set_option maxRecDepth 100000 in
set_option maxHeartbeats 8000000 in
theorem back_deep (l n₁ NN B0 : Nat) (M : Nat → Prop) (J Jx : List (ByteArray × Int) → World → Prop) (hJ : OwnT B0 J) (hJx : OwnT B0 Jx)
    (hY : ∀ m pre (x : ByteArray × Int) W, J pre W → pre.length < NN → YieldAt Fence.wide m Try.prog l #[.string x.1, .int .i64 x.2] W fun e W' => KeepsU B0 W W' ∧ ((e = .returned (.bool true) ∧ J (pre ++ [x]) W' ∧ KpT n₁ M W W') ∨ (e = .returned (.bool false) ∧ Jx (pre ++ [x]) W')))
    (wB wI : World) (hkB : Kept wB wI) (hnB : wB.heap.size ≤ n₁) (hM : ∀ k, k < wB.heap.size → ¬ M k) (m : Nat) (n : Nd) (p : ByteArray) (pre : List (ByteArray × Int)) (W : World)
    (hn : NdAt wB n) (ho : Ok n) (hv : ∀ l, n.leaf = some l → ∃ v, l.val = .int .i64 v) (hp : ∀ k ∈ n.kids, p.size + k.label.size < 9000000000000000000)
    (hst : Stnd wI n₁ M W) (hnW : n₁ ≤ W.heap.size) (hB0 : B0 ≤ W.heap.size) (hJ0 : J pre W) (hN : pre.length + (bkL p n).length ≤ NN)
    (IH : ∀ m i (hi : i < n.kids.length) pre' W', Stnd wI n₁ M W' → n₁ ≤ W'.heap.size → B0 ≤ W'.heap.size → J pre' W' → pre'.length + (bkL (p ++ n.kids[i].label) n.kids[i]).length ≤ NN →
      CallsIn Fence.wide m Try.prog 83 #[nodeV n.kids[i].b (p ++ n.kids[i].label), .func (.yield l) #[] #[]] W' (PostB n₁ M B0 J Jx pre' (bkL (p ++ n.kids[i].label) n.kids[i]) W')) :
    CallsIn Fence.wide m Try.prog 83 #[nodeV n.b p, .func (.yield l) #[] #[]] W (PostB n₁ M B0 J Jx pre (bkL p n) W) := by
  have hdd : ∀ k : Nat, (Fence.wide.depth.isSome = true → 1 ≤ k) := fun k h => by cases h
  have hkW : Kept wB W := hst.kept hkB hnB hM
  have qk := Aside0.mk (fun W1 (h : Below W.heap.size W W1) => kidsO W1 n p (NdAt.keep (Kept.of h) n (NdAt.keep hkW n hn)) ho hp)
  have qb := Aside0.mk (fun A n c W1 => backwardC A n c W1)
  unfold nodeV ptr at *
  refine callsIn_wide.2 (callsIn_wide.1 (show CallsIn Fence.wide 9 Try.prog 83 _ W _ from ?_))
  refine callsIn_of_wp_marks Try.func83 rfl trivial ?_ rfl
  simp only [Try.ntmps83, List.size_toArray, List.length_cons, List.length_nil, Nat.reduceAdd, Nat.reduceSub, Array.replicate_succ, Array.replicate_zero, List.push_toArray, List.append_toArray, List.nil_append, List.cons_append]
  have HS0 := Aside0.mk (And.intro hst (And.intro hnW hB0))
  have HBW := Aside0.mk ((((Below.refl W.heap.size W).alloc (Nat.le_refl _) (.cells #[.pointer (some ⟨n.b, 0, none⟩), .string p] 60)).alloc (by simp) (.cells #[.func (.yield l) #[] #[]] 111)).alloc (by simp; omega) (.cells #[.bool false] 4))
  obtain ⟨len, elen⟩ : ∃ len, n.kids.length = len := ⟨_, rfl⟩
  have HLen := Aside0.mk elen
  clear hst hnW hB0 elen
  gi_wp2_with (first
    | (refine ⟨trivial, ?_⟩; gi_at_call 95; refine (callsIn_wide.2 (qk.out _ HBW.out)).mono ?_; rintro e W1 ⟨v, rfl, ho, B1⟩; obtain ⟨A, c, ev, hrow⟩ := rowForm ho; rw [HLen.out] at ho ev; subst ev; have H1 := Aside0.mk (And.intro ho B1); clear ho hrow B1)
    | (refine ⟨trivial, ?_⟩; gi_at_call 120; refine (callsIn_wide.2 (qb.out _ _ _ _)).mono ?_; rintro e W2 ⟨rfl, h1, h2⟩; have H2 := Aside0.mk (And.intro h1 h2); clear h1 h2))
  have hxl := kidL_len p n.kids
  rw [HLen.out] at hxl
  have hb2 : Boxed W2 W1.heap.size 132 (.slice A (kidL p n.kids).length c) := by rw [hxl]; exact H2.out.1
  have hr2 : W2.ownsRow (W.heap.size + 1 + 1 + 1 + 1) 60 2 (.slice A (kidL p n.kids).length c) (kidL p n.kids).length (flatN (kidL p n.kids)) := by
    rw [hxl, kidL_flat]
    refine row_q ?_ (KpQ.of H2.out.2)
    have := H1.out.1
    simpa using this
  have hk2 : Below W.heap.size W W2 := belowAt (belowAt HBW.out H1.out.2) H2.out.2
  have hsz : W.heap.size + 3 ≤ W1.heap.size := by have := H1.out.2.size; simpa using this
  have hsz2 : W1.heap.size + 1 ≤ W2.heap.size := hb2.lt
  have hL : ∀ k o, ((((W.alloc (.cells #[.pointer (some ⟨n.b, 0, none⟩), .string p] 60)).alloc (.cells #[.func (.yield l) #[] #[]] 111)).alloc (.cells #[.bool false] 4))).heap[k]? = some o → W2.heap[k]? = some o := fun k o h => (Kept.of H2.out.2).at ((Kept.of H1.out.2).at h)
  have b60 : W2.heap[W.heap.size]? = some (.cells #[.pointer (some ⟨n.b, 0, none⟩), .string p] 60 (0, 0)) := hL _ _ ((Below.heap_alloc _ _ _ (by simp; omega)).trans ((Below.heap_alloc _ _ _ (by simp)).trans (World.alloc_heap_new W _)))
  have b111 : W2.heap[W.heap.size + 1]? = some (.cells #[.func (.yield l) #[] #[]] 111 (0, 0)) := hL _ _ ((Below.heap_alloc _ _ _ (by simp)).trans (by have := World.alloc_heap_new (W.alloc (.cells #[.pointer (some ⟨n.b, 0, none⟩), .string p] 60)) (.cells #[.func (.yield l) #[] #[]] 111); rwa [World.size_alloc] at this))
  have b4 : W2.heap[W.heap.size + 2]? = some (.cells #[.bool false] 4 (0, 0)) := hL _ _ (by have := World.alloc_heap_new ((W.alloc (.cells #[.pointer (some ⟨n.b, 0, none⟩), .string p] 60)).alloc (.cells #[.func (.yield l) #[] #[]] 111)) (.cells #[.bool false] 4); rwa [World.size_alloc, World.size_alloc] at this)
  have hnW := HS0.out.2.1
  have hB0 := HS0.out.2.2
  have hxn : bkL p n = bkLs p n.kids ++ ownE (fun _ => true) p n.leaf := bkL_eq p n
  have hlen256 : len ≤ 256 := by have := ho.few; have := HLen.out; omega
  refine wpIn_rangeFuncO rfl (by decide) (gf := 144) (lb := #[ptr W1.heap.size]) rfl trivial (enters_of Try.func144 (by kernel_rfl) rfl)
    (bwSeq W2 8 len W1.heap.size (W.heap.size + 1 + 1 + 1 + 1) A c (kidL p n.kids) hb2 hr2 (by omega) (by omega)) (fun h k => h.trans k) (fun W o o' h hc => KpQ.putObj W _ o o' h hc) (Below.refl _ _) (fun _ => rfl)
    (fun pre' Z => J (pre ++ bkLs p (n.kids.drop (len - pre'.length))) Z ∧ KpT n₁ M W2 Z ∧ KeepsU B0 W Z ∧ pre'.length ≤ len)
    (fun cd _ Z => cd = .ret ∧ KeepsU B0 W Z ∧ (∃ q, q <+: bkL p n ∧ Jx (pre ++ q) Z) ∧ Boxed Z (W.heap.size + 2) 4 (.bool false))
    ?hI ?hIx ?h0 (fun (x : Nat × Nat × ByteArray) a' (Z : World) => ∃ bx : Nat, a' = { tmps := #[.agg #[.pointer (some ⟨n.b, 0, none⟩), .string p], .func (.yield l) #[] #[], .pointer (some ⟨W.heap.size, 0, none⟩), .pointer (some ⟨W.heap.size + 1, 0, none⟩), .pointer (some ⟨W.heap.size + 1 + 1, 0, none⟩), undef, .pointer (some ⟨bx, 0, none⟩), undef, undef, .agg #[.pointer (some ⟨n.b, 0, none⟩), .string p], .slice A len c, .func (.func 144) #[] #[.pointer (some ⟨W1.heap.size, 0, none⟩)], .int .i64 (x.1 : Int), .agg #[.pointer (some ⟨x.2.1, 0, none⟩), .string x.2.2], undef, undef, undef, undef, undef, undef, undef, undef, undef, undef, undef, undef, undef, undef, undef, undef, undef, undef], defers := [] } ∧ Z.heap[bx]? = some (Obj.cells #[ptr x.2.1, .string x.2.2] 60 (0, 0))) ?hAx ?assign ?body ?done ?stop
  case assign =>
    intro l' m' pre' x Wa K hI hok hK
    rw [show (#[12, 13] : Array Tmp).zip (encB x) = #[(12, Value.int .i64 (x.1 : Int)), (13, Value.agg #[.pointer (some ⟨x.2.1, 0, none⟩), .string x.2.2])] from by unfold encB nodeV ptr; simp]
    have HK := Aside0.mk (And.intro hI (And.intro hok hK))
    clear hI hok hK
    simp only [List.foldl_toArray, Array.foldl, List.foldl_cons, List.foldl_nil]
    gi_wp2
    have hb : Below Wa.heap.size Wa (Wa.alloc (.cells #[.pointer (some ⟨x.2.1, 0, none⟩), .string x.2.2] 60)) := (Below.refl _ Wa).alloc (Nat.le_refl _) _
    exact HK.out.2.2 _ _ (KeepsU.of hb) (KpQ.of hb) ⟨ownBelow hJ HK.out.1.1 hb, HK.out.1.2.1.trans (KpT.of hb), HK.out.1.2.2.1.trans (KeepsU.of hb), HK.out.1.2.2.2⟩ ⟨Wa.heap.size, rfl, World.alloc_heap_new Wa _⟩
  case hI => exact OwnT.and (fun s => ownUp hJ (by omega) (pre ++ bkLs p (n.kids.drop (len - s.length)))) (OwnT.and (kpT_own (by omega) (Nat.le_refl _)) (OwnT.and (ownT_kf (by omega)) (ownT_pure _ _)))
  case hIx =>
    intro cd s X Y row hs hg hr
    obtain ⟨h1, h2, ⟨q, hq, hx⟩, h4⟩ := hs
    exact ⟨h1, ownT_kf (β := Unit) (by omega) () X Y row h2 hg hr, ⟨q, hq, ownUp hJx (by omega) _ X Y row hx hg hr⟩, ownT_old (β := Unit) (W.heap.size + 2) (fun _ => .cells #[.bool false] 4 (0, 0)) (by omega) () X Y row h4 hg hr⟩
  case hAx =>
    rintro x a' s X Y row ⟨bx, h1, h2⟩ hg hr
    exact ⟨bx, h1, ownT_blk (β := Unit) bx _ 60 (0, 0) (by decide) () X Y row h2 hg hr⟩
  case h0 =>
    refine ⟨?_, KpT.of (Below.refl _ _), KeepsU.of hk2, Nat.zero_le _⟩
    show J (pre ++ bkLs p (n.kids.drop (len - 0))) W2
    rw [Nat.sub_zero, List.drop_eq_nil_of_le (by rw [HLen.out]; exact Nat.le_refl _)]
    show J (pre ++ []) W2
    rw [List.append_nil]
    exact ownBelow hJ hJ0 hk2
  case body =>
    rintro l' m' pre' x a' Wb hl' ⟨r0, hr0⟩ hsz ⟨hJb, hKb, hFb, hlb⟩ ⟨bx, rfl, hbx⟩ hlt hok
    obtain ⟨i, hi, e1, e2⟩ := bwL_next _ _ _ hok
    rw [hxl] at e1
    have hi' : i < n.kids.length := by rw [HLen.out]; omega
    have e3 : x = (i, n.kids[i].b, p ++ n.kids[i].label) := by rw [e2, kidL_get p n.kids i hi']
    have ed : len - pre'.length = i + 1 := by omega
    have ed2 : len - (pre' ++ [x]).length = i := by rw [List.length_append, List.length_singleton]; omega
    have hdr := bkLs_drop p n.kids i hi'
    have hpp := bkLs_pre p n.kids i
    rw [ed] at hJb
    have hNN : (pre ++ bkLs p (n.kids.drop (i + 1))).length + (bkL (p ++ n.kids[i].label) n.kids[i]).length ≤ NN := by
      have h2 := hpp.length_le
      rw [hdr, List.length_append] at h2
      rw [hxn, List.length_append] at hN
      rw [List.length_append]
      omega
    have q := Aside0.mk (IH 8 i hi' _ Wb ((HS0.out.1.kp (KpM.of hk2)).kp hKb.kpM) (by omega) (by omega) hJb hNN)
    have c0 : Wb.cell? ⟨bx, 0, none⟩ = some (.pointer (some ⟨n.kids[i].b, 0, none⟩)) := by rw [blk_cell hbx, e3]; rfl
    have c1 : Wb.cell? ⟨bx, 1, none⟩ = some (.string (p ++ n.kids[i].label)) := by rw [blk_cell hbx, e3]; rfl
    have c2 : Wb.cell? ⟨W.heap.size + 1, 0, none⟩ = some (.func (.yield l) #[] #[]) := by rw [blk_cell (hKb.typ _ _ 111 _ (by unfold Quiet; simp) b111)]; rfl
    have HB9 := Aside0.mk (And.intro hKb (And.intro hFb hlb))
    have HNX := Aside0.mk (And.intro hdr (And.intro hpp (And.intro ed2 hxn)))
    have HSZ := Aside0.mk (And.intro hsz (And.intro hk2.size (And.intro hB0 hsz2)))
    have HB4 := Aside0.mk b4
    have HX := Aside0.mk e3
    obtain ⟨kb, ekb⟩ : ∃ kb, n.kids[i].b = kb := ⟨_, rfl⟩
    obtain ⟨kl, ekl⟩ : ∃ kl, p ++ n.kids[i].label = kl := ⟨_, rfl⟩
    have HEK := Aside0.mk (And.intro ekb ekl)
    rw [ekb, ekl] at q
    rw [ekb] at c0
    rw [ekl] at c1
    clear hKb hFb hlb hdr hpp ed2 hxn hsz hk2 hB0 hsz2 hJb hok hr0 hbx hNN e1 e2 e3 ed ekb ekl hb2 hr2 b4 b60 b111 hL hxl hlen256 IH hY hkB hM hn ho hv hp hJ0 hN hJ hkW qk qb hnB hnW hi
    gi_wp2_with (refine ⟨trivial, hdd _, ?_⟩; gi_at_call 83; refine (callsIn_round _ (callsIn_wide.2 (callsIn_wide.1 q.out))).mono ?_)
    rintro e W7 ⟨hk7, (⟨rfl, hJ7, hp7⟩ | ⟨rfl, qq, hq7, hx7⟩)⟩
    · have H7 := Aside0.mk (And.intro hk7 (And.intro hJ7 hp7))
      clear hk7 hJ7 hp7 q
      gi_wp2
      refine ⟨H7.out.1.up (by have := HSZ.out; omega), H7.out.2.2.q, ?_, HB9.out.1.trans H7.out.2.2, HB9.out.2.1.trans H7.out.1, by rw [List.length_append, List.length_singleton]; omega⟩
      show J (pre ++ bkLs p (n.kids.drop (len - (pre' ++ [x]).length))) W7
      rw [HNX.out.2.2.1, HNX.out.1, HEK.out.2, ← List.append_assoc]
      exact H7.out.2.1
    · have hb4 := hk7.same (W.heap.size + 2) _ (by have := HSZ.out.2.2.1; omega) (HB9.out.1.typ _ _ 4 _ (by unfold Quiet; simp) HB4.out) (.inr ⟨_, _, _, rfl, by unfold Quiet; simp⟩)
      have hb4' : Boxed W7 (W.heap.size + 1 + 1) 4 (.bool false) := hb4
      have cB := hb4'.cell
      have fB := hb4'.frozen
      have H7 := Aside0.mk (And.intro hk7 (And.intro hq7 (And.intro hx7 hb4')))
      clear hk7 hq7 hx7 q hb4 hb4'
      gi_wp2
      have hs4 : W.heap.size + 1 + 1 < W2.heap.size := by have := (Array.getElem?_eq_some_iff.1 HB4.out).1; omega
      refine ⟨(H7.out.1.up (by have := HSZ.out; omega)).trans (KeepsU.set _ _ hs4), rfl, (HB9.out.2.1.trans H7.out.1).setNew _ (by omega), ⟨bkLs p (n.kids.drop (i + 1)) ++ qq, ?_, ?_⟩, H7.out.2.2.2.set _⟩
      · rw [HNX.out.2.2.2]
        refine List.IsPrefix.trans ?_ (List.prefix_append _ _)
        refine List.IsPrefix.trans ?_ HNX.out.2.1
        rw [HNX.out.1, HEK.out.2]
        exact (List.prefix_append_right_inj _).2 H7.out.2.1
      · rw [← List.append_assoc]
        exact hJx.bool _ H7.out.2.2.1 (by have := HSZ.out; omega) H7.out.2.2.2
  case stop =>
    rintro D cd pre' Wd hD hSp ⟨rfl, hF, ⟨q, hq, hx⟩, hb4⟩ hDk
    gi_wp2
    refine ⟨by simp, .inl ⟨_, _, rfl, run_takeDeferred hDk, ?_⟩⟩
    refine ⟨_, results_box rfl _ _ _ _ rfl (show Boxed _ _ _ _ from (World.putObj_heap_other (by omega)).trans hb4), hF.putNew _ (by omega), .inr ⟨rfl, q, hq, hJx.putObj _ hx (by omega) hDk rfl⟩⟩
  case done =>
    rintro D ys Wd hD e9 ⟨hJd, hKd, hFd, -⟩ hDk
    rw [e9, bwL_len, hxl, Nat.sub_self, List.drop_zero] at hJd
    have q3 := Aside0.mk (valueC Wd n p (NdAt.keep (((HS0.out.1.kp (KpM.of hk2)).kp hKd.kpM).kept hkB hnB hM) n hn))
    have q4 := Aside0.mk (fun W1 => pathC W1 n.b p)
    have d60 := hKd.typ _ _ 60 _ (by unfold Quiet; simp) b60
    have d111 := hKd.typ _ _ 111 _ (by unfold Quiet; simp) b111
    have d4 := hKd.typ _ _ 4 _ (by unfold Quiet; simp) b4
    have c0 : Wd.cell? ⟨W.heap.size, 0, none⟩ = some (.pointer (some ⟨n.b, 0, none⟩)) := by rw [blk_cell d60]; rfl
    have c1 : Wd.cell? ⟨W.heap.size, 1, none⟩ = some (.string p) := by rw [blk_cell d60]; rfl
    have HD := Aside0.mk (And.intro hJd (And.intro hKd (And.intro hFd (And.intro hDk hD))))
    have HSZ := Aside0.mk (And.intro hk2 (And.intro hB0 (And.intro hsz2 hsz)))
    have HXN := Aside0.mk hxn
    clear hJd hKd hFd hDk hD hk2 hsz2 hsz hxn hb2 hr2 b4 b60 b111 hL hxl hlen256 IH hkB hM hn ho hp hJ0 qk qb hnB hkW e9
    cases hlf : n.leaf with
    | none =>
      rw [hlf] at q3
      unfold lookV nodeV ptr at q3
      have HLf := Aside0.mk hlf
      clear hlf hv q4
      gi_wp2_with (refine ⟨trivial, ?_⟩; gi_at_call 93; refine (callsIn_wide.2 q3.out).mono ?_; rintro e W3 ⟨rfl, B3⟩; have hb4 : Boxed W3 (W.heap.size + 1 + 1) 4 (.bool false) := (Kept.of B3).at d4; have cB := hb4.cell; have fB := hb4.frozen; have H3 := Aside0.mk (And.intro B3 hb4); clear B3 hb4)
      clear q3
      refine Code.wpIn_mono NoPanic.imp ?_
      first | (gi_region_with (first | (with_reducible refine skip94 ?_) | (refine ⟨fun _ h => (by cases h), ?_⟩))) | fail
      all_goals (
        refine NoPanic.normal ?_
        gi_wp2_with fail
        refine back_ret true (VOU.below_drewA (Below.refl _ _)) hJ hJx H3.out.2 ((Kept.of H3.out.1).at HD.out.2.2.2.1) (by omega) (by have := HD.out.2.2.2.2; have := HSZ.out.1.size; omega) HSZ.out.2.1 (HD.out.2.2.1.trans (KeepsU.of H3.out.1)) (.inl ⟨rfl, ?_, ((KpT.of HSZ.out.1).trans HD.out.2.1).trans (KpT.of H3.out.1)⟩) rfl
        rw [HXN.out, HLf.out]
        show J (pre ++ (bkLs p n.kids ++ [])) W3
        rw [List.append_nil]
        exact ownBelow hJ HD.out.1 H3.out.1)
    | some lf =>
      obtain ⟨v, hvv⟩ := hv lf hlf
      have eown : ownE (fun _ => true) p n.leaf = [(p, v)] := by rw [hlf]; show (if true = true then [(p, valI lf.val)] else []) = _; rw [hvv]; rfl
      rw [hlf] at q3
      unfold lookV at q3
      simp only [hvv] at q3
      unfold nodeV ptr at q3 q4
      have hlt : (pre ++ bkLs p n.kids).length < NN := by
        rw [HXN.out, eown, List.length_append, List.length_singleton] at hN
        rw [List.length_append]
        omega
      have HOwn := Aside0.mk (And.intro eown hlt)
      have HY := Aside0.mk hY
      have c2 : Wd.cell? ⟨W.heap.size + 1, 0, none⟩ = some (.func (.yield l) #[] #[]) := by rw [blk_cell d111]; rfl
      clear hlf hvv hv eown hlt hY
      gi_wp2_with (refine ⟨trivial, ?_⟩; gi_at_call 93; refine (callsIn_wide.2 q3.out).mono ?_; rintro e W3 ⟨rfl, B3⟩; have hb4 : Boxed W3 (W.heap.size + 1 + 1) 4 (.bool false) := (Kept.of B3).at d4; have x0 := (Kept.of B3).cell c0; have x1 := (Kept.of B3).cell c1; have x2 := (Kept.of B3).cell c2; have H3 := Aside0.mk (And.intro B3 hb4); have HB3 := Aside0.mk (VOU.below_drewA B3); clear B3 hb4)
      clear q3
      refine Code.wpIn_mono NoPanic.imp ?_
      gi_region_with (first
        | (refine ⟨trivial, ?_⟩; gi_at_call 94; refine (callsIn_wide.2 (q4.out _)).mono ?_; rintro e W4 ⟨rfl, B4⟩; have HB4 := Aside0.mk (belowAt HB3.out B4); have y2 := (Kept.of B4).cell x2; obtain ⟨fn, tm, asg, bd, hy, hR⟩ := HY.out 8 _ (p, v) W4 (ownBelow hJ HD.out.1 HB4.out) HOwn.out.2; have HR := Aside0.mk hR; clear hR B4)
        | (refine HR.out.mono ?_; rintro e W5 h5; obtain ⟨r, rfl, H5⟩ := yield_r h5; have hb5 : Boxed W5 (W.heap.size + 1 + 1) 4 (.bool false) := H5.out.1.same (W.heap.size + 1 + 1) _ (by have := HSZ.out.2.1; omega) ((Kept.of HB4.out).at d4) (.inr ⟨_, _, _, rfl, by unfold Quiet; simp⟩); have cB := hb5.cell; have fB := hb5.frozen; have HB5 := Aside0.mk hb5; clear hb5 h5))
      all_goals (
        refine NoPanic.normal ?_
        gi_wp2_with fail
        have hs2 : W.heap.size ≤ W2.heap.size := HSZ.out.1.size
        refine back_ret r (Below.refl _ _) hJ hJx HB5.out (H5.out.1.same D _ (by have := HD.out.2.2.2.2; have := HSZ.out.2.1; omega) ((Kept.of HB4.out).at HD.out.2.2.2.1) (.inl rfl)) (by omega) (by have := HD.out.2.2.2.2; omega) HSZ.out.2.1 ((HD.out.2.2.1.trans (KeepsU.of HB4.out)).trans H5.out.1) ?_ rfl
        rw [HXN.out, HOwn.out.1]
        rcases H5.out.2 with ⟨h1, h2, h3⟩ | ⟨h1, h2⟩
        · exact .inl ⟨h1, by rw [← List.append_assoc]; exact h2, (((KpT.of HSZ.out.1).trans HD.out.2.1).trans (KpT.of HB4.out)).trans h3⟩
        · exact .inr ⟨h1, bkLs p n.kids ++ [(p, v)], List.prefix_refl _, by rw [← List.append_assoc]; exact h2⟩)
theorem back_in (l n₁ NN B0 : Nat) (M : Nat → Prop) (J Jx : List (ByteArray × Int) → World → Prop) (hJ : OwnT B0 J) (hJx : OwnT B0 Jx)
    (hY : ∀ m pre (x : ByteArray × Int) W, J pre W → pre.length < NN → YieldAt Fence.wide m Try.prog l #[.string x.1, .int .i64 x.2] W fun e W' => KeepsU B0 W W' ∧ ((e = .returned (.bool true) ∧ J (pre ++ [x]) W' ∧ KpT n₁ M W W') ∨ (e = .returned (.bool false) ∧ Jx (pre ++ [x]) W')))
    (wB wI : World) (hkB : Kept wB wI) (hnB : wB.heap.size ≤ n₁) (hM : ∀ k, k < wB.heap.size → ¬ M k) :
    ∀ (N : Nat) (n : Nd) (m : Nat) (p : ByteArray) (B : Nat) (pre : List (ByteArray × Int)) (W : World), nsz n ≤ N → NdAt wB n → Ok n → IntVals n → Fits n B → p.size + (B - n.label.size) < 9000000000000000000 →
      Stnd wI n₁ M W → n₁ ≤ W.heap.size → B0 ≤ W.heap.size → J pre W → pre.length + (bkL p n).length ≤ NN →
      CallsIn Fence.wide m Try.prog 83 #[nodeV n.b p, .func (.yield l) #[] #[]] W (PostB n₁ M B0 J Jx pre (bkL p n) W) := by
  intro N
  induction N with
  | zero =>
    intro n m p B pre W hN
    cases n with
    | mk _ _ _ ks _ => exfalso; unfold nsz at hN; omega
  | succ N ih =>
    intro n m p B pre W hN hn ho hv hf hB hst hnW hB0 hJ0 hNN
    have hfa : ∀ k ∈ n.kids, k.label.size ≤ B - n.label.size ∧ Fits k (B - n.label.size) := fun k hk => by
      have h1 := hf.parts.2.mem k hk
      exact ⟨h1.parts.1, h1⟩
    refine back_deep l n₁ NN B0 M J Jx hJ hJx hY wB wI hkB hnB hM m n p pre W hn ho (fun l hl => ?_) (fun k hk => by have := (hfa k hk).1; omega) hst hnW hB0 hJ0 hNN (fun m i hi pre' W' h1 h2 h3 h4 h5 => ?_)
    · exact hv [] l (by rw [findT_nil]; exact hl)
    · have hka : n.kids[i] ∈ n.kids := List.getElem_mem _
      have hsz := nsz_kid hka
      have hfk := hfa _ hka
      refine ih n.kids[i] m _ (B - n.label.size) pre' W' (by omega) (hn.parts.choose_spec.2.2.2.mem _ hka) (ho.parts.2.2.get _ hka) (fun r l e => hv (L n.kids[i].label ++ r) l (by rw [findT_kid ho hka]; exact e)) hfk.2 ?_ h1 h2 h3 h4 h5
      rw [ByteArray.size_append]
      have := hfk.1
      omega
set_option maxRecDepth 100000 in
set_option maxHeartbeats 4000000 in
theorem backSeq (w : World) (n NN n₁ : Nat) (M : Nat → Prop) (wB : World) (hkB : Kept wB w) (hnB : wB.heap.size ≤ n₁) (hnw : n₁ ≤ w.heap.size) (hM : ∀ k, k < wB.heap.size → ¬ M k)
    (tb : Nat) (root : Nd) (ht : Tr wB tb root) (bt : Nat) (hc : w.heap[bt]? = some (.cells #[ptr tb] 24 (0, 0))) (hNN : (bkL ⟨#[]⟩ root).length ≤ NN) :
    SeqO Fence.wide n Try.prog 82 #[ptr bt] (fun x : ByteArray × Int => #[.string x.1, .int .i64 x.2]) (KpT n₁ M) (fun _ => True) (fun ys => ys = bkL ⟨#[]⟩ root) (fun ys => ys <+: bkL ⟨#[]⟩ root) NN w := by
  intro l J Jx W hW hl hJ hJx hY h0
  have hdd : ∀ k : Nat, (Fence.wide.depth.isSome = true → 1 ≤ k) := fun k h => by cases h
  have hkW : Kept w W := Kept.of hW
  have c1 : W.cell? ⟨bt, 0, none⟩ = some (.pointer (some ⟨tb, 0, none⟩)) := by rw [blk_cell (hkW.at hc)]; rfl
  have hkBW : Kept wB W := hkB.trans hkW (Nat.le_trans hnB hnw)
  have q1 := Aside0.mk (fun W1 (h : Below W.heap.size W W1) => rootC W1 tb root _ ((ht.at_.keep hkBW).keep (Kept.of h)))
  have q2 : Aside0 (∀ W1, Below W.heap.size W W1 → CallsIn Fence.wide (n - 1) Try.prog 83 #[nodeV root.b ⟨#[]⟩, .func (.yield l) #[] #[]] W1 fun e W' => ∃ r, e = .returned (.bool r) ∧ Aside0 ((∃ ys, ys = bkL ⟨#[]⟩ root ∧ J ys W') ∨ (∃ pre, pre <+: bkL ⟨#[]⟩ root ∧ Jx pre W'))) := ⟨fun W1 h => by
    have q := back_in l n₁ NN W.heap.size M J Jx hJ hJx (fun m pre x W1 h1 h2 => hY m pre x W1 h1 h2 trivial) wB W hkBW hnB hM (nsz root) root (n - 1) ⟨#[]⟩ 3999999999999 [] W1 (Nat.le_refl _) ht.at_.root ht.fine.ok ht.vals ht.fine.fits (by show 0 + _ < _; omega) ((Stnd.refl W n₁ M).kp (KpM.of h)) (by have := hW.size; have := h.size; omega) h.size (ownBelow hJ h0 h) (by simpa using hNN)
    refine q.mono ?_
    rintro e W' ⟨-, (⟨rfl, h1, h2⟩ | ⟨rfl, q, h1, h2⟩)⟩
    · exact ⟨true, rfl, ⟨.inl ⟨_, rfl, by simpa using h1⟩⟩⟩
    · exact ⟨false, rfl, ⟨.inr ⟨q, h1, by simpa using h2⟩⟩⟩⟩
  clear hW hl hJ hJx hY h0 hkW hkBW hkB hnB hnw hM ht hc hNN
  unfold nodeV ptr at q1 q2
  unfold ptr
  refine (show CallsIn Fence.wide n Try.prog 82 #[.func (.yield l) #[] #[], .pointer (some ⟨bt, 0, none⟩)] W (PostQ J Jx (bkL ⟨#[]⟩ root)) from ?_)
  refine callsIn_of_wp Try.func82 rfl trivial ?_ rfl
  simp only [Try.ntmps82, List.size_toArray, List.length_cons, List.length_nil, Nat.reduceAdd, Nat.reduceSub, Array.replicate_succ, Array.replicate_zero, List.push_toArray, List.append_toArray, List.nil_append, List.cons_append]
  gi_wp2_with (first
    | (refine ⟨trivial, hdd _, ?_⟩; gi_at_call 42; refine (callsIn_wide.2 (q1.out _ (Below.refl _ _))).mono ?_; rintro e W1 ⟨rfl, B1⟩; have HB1 := Aside0.mk B1; clear B1)
    | (refine ⟨trivial, hdd _, ?_⟩; gi_at_call 83; refine (q2.out _ HB1.out).mono ?_; rintro e W2 ⟨r, rfl, HF⟩))
  refine bodyPost_end (results_none rfl _ _ _) rfl ?_
  exact ⟨⟨_, rfl⟩, HF.out⟩
set_option maxHeartbeats 4000000 in
set_option maxRecDepth 100000 in
theorem backC (tb : Nat) (w : World) : Calls Try.prog 31 #[ptr tb] w fun e w' => e = .returned (.func (.func 82) #[] #[ptr w.heap.size]) ∧ w'.heap[w.heap.size]? = some (.cells #[ptr tb] 24 (0, 0)) ∧ Below w.heap.size w w' := by
  have H1 := Aside0.mk (World.alloc_heap_new w (.cells #[ptr tb] 24))
  have H2 := Aside0.mk ((Below.refl w.heap.size w).alloc (Nat.le_refl _) (.cells #[ptr tb] 24))
  unfold ptr at *
  go_enter Try.func31, Try.ntmps31
  go_wp2_with fail
  go_ret
  exact ⟨rfl, H1.out, H2.out⟩
end Go.Proofs.Ytjhgknagmiekeaa.V
set_option linter.unusedVariables false
set_option linter.unusedSimpArgs false
namespace Go.Proofs.Ytjhgknagmiekeaa.V
open Go.RowKit Go.Lib Go.Proofs Go.Shelf
open Go.Proofs.Ytjhgknagmiekeaa.T Go.Proofs.Ytjhgknagmiekeaa.N Go.Proofs.Ytjhgknagmiekeaa.K
open Go.Proofs.YtjhgknagmiekeaaW.PrintWords hiding blk_cell
theorem all_eq {root : Nd} {t : Rt} (hg : T.Good root) (h : Agree root t) : ovr (fun _ => false) (fun _ => true) ⟨#[]⟩ root = t.ks.zip t.vs := by
  have e := ovr_eqs hg h (fun _ => false) (fun _ => true) hskA
  rw [e]
  exact List.filter_eq_self.2 (fun _ _ => rfl)
theorem KpM.setNew {n₁ b : Nat} {M : Nat → Prop} {W Z : World} (h : KpM n₁ M W Z) (v : Value) (hb : W.heap.size ≤ b) : KpM n₁ M W (Z.setCell ⟨b, 0, none⟩ v) := by
  have key : ∀ (k : Nat) (o : Obj), W.heap[k]? = some o → Z.heap[k]? = some o → (Z.setCell ⟨b, 0, none⟩ v).heap[k]? = some o := fun k o h1 h2 => by
    have := (Array.getElem?_eq_some_iff.1 h1).1
    rw [Below.heap_setCell _ _ _ k (by show k ≠ b; omega)]
    exact h2
  exact ⟨Nat.le_trans h.size (grownBy_setCell' Z b v).size, fun k o h1 h2 h3 => key k o h1 (h.low k o h1 h2 h3), fun k cs fr h1 => key k _ h1 (h.node k cs fr h1)⟩
end Go.Proofs.Ytjhgknagmiekeaa.V
set_option linter.unusedVariables false
set_option linter.unusedSimpArgs false
namespace Go.Proofs.Ytjhgknagmiekeaa.V
open Go.Proofs.Ytjhgknagmiekeaa.VOU (below_drewA)
open Go.RowKit Go.Lib Go.Proofs Go.Shelf
open Go.Proofs.Ytjhgknagmiekeaa.T Go.Proofs.Ytjhgknagmiekeaa.N Go.Proofs.Ytjhgknagmiekeaa.K
open Go.Proofs.YtjhgknagmiekeaaW.PrintWords hiding blk_cell
theorem ownT_row {β : Type} {B : Nat} (base : Nat) (e : TypeId) (size : Nat) (he : e ≠ 4) (v : Value) (n : Nat) (xs : List Value) : OwnT B (fun (_ : β) W => W.ownsRow base e size v n xs) := fun s X Y row hs hg hr => by
  refine own_move hs (fun k hk => ?_)
  obtain ⟨cs, hc⟩ := own_typed hs k hk
  refine hg.block k (Array.getElem?_eq_some_iff.1 hc).1 (fun e9 => ?_)
  obtain ⟨-, o, h1, h2⟩ := hr k e9.symm
  rw [hc] at h1
  cases h1
  rcases h2 with h2 | ⟨b, h2⟩
  · cases h2
  · injection h2 with _ h3 _
    exact he h3
theorem ownT_all {β γ : Type} {B : Nat} {p : γ → β → World → Prop} (h : ∀ g, OwnT B (p g)) : OwnT B (fun s W => ∃ g, p g s W) := fun s X Y row hs hg hr => by
  obtain ⟨g, hs⟩ := hs
  exact ⟨g, h g s X Y row hs hg hr⟩
theorem appendedF {W w1 : World} {n₁ B : Nat} {t e : TypeId} {size : Nat} {v v' : Value} {k m : Nat} {xs ys : List Value} {tmp : Obj}
    (hv : Boxed W B t v) (hrow : W.ownsRow n₁ e size v k xs) (hown' : w1.ownsRow n₁ e size v' m ys) (hgrow : (W.alloc tmp).grownBy w1 v.ownBlock) :
    ∀ j, j < W.heap.size → j ≠ B → some j ≠ v.ownBlock → (w1.setCell ⟨B, 0, none⟩ v').heap[j]? = W.heap[j]? := fun j hj hB ho => by
  rw [Below.heap_setCell _ _ _ j hB]
  exact (hgrow.block j (by rw [World.size_alloc]; omega) ho).trans (Below.heap_alloc _ _ _ hj)
theorem appendedU {W w1 : World} {n₁ B B' : Nat} {t e : TypeId} {size : Nat} {v v' : Value} {k m : Nat} {xs ys : List Value} {tmp : Obj} (he : ¬ Quiet e) (hB : B < B')
    (hv : Boxed W B t v) (hrow : W.ownsRow n₁ e size v k xs) (hown' : w1.ownsRow n₁ e size v' m ys) (hgrow : (W.alloc tmp).grownBy w1 v.ownBlock) : KeepsU B' W (w1.setCell ⟨B, 0, none⟩ v') := by
  refine ⟨?_, fun j o hj h hq => ?_⟩
  · have h1 := hgrow.size
    have h2 := (grownBy_setCell' w1 B v').size
    rw [World.size_alloc] at h1
    omega
  · refine (appendedF hv hrow hown' hgrow j (Array.getElem?_eq_some_iff.1 h).1 (by omega) (fun e9 => ?_)).trans h
    obtain ⟨cs', hc⟩ := own_typed hrow j e9.symm
    rw [hc] at h
    cases h
    rcases hq with hq | ⟨_, _, _, hq, hq2⟩
    · cases hq
    · injection hq with _ h3 _
      subst h3
      exact he hq2
theorem row_keep {w w' : World} {base : Nat} {e : TypeId} {size n : Nat} {v : Value} {xs : List Value} (h : w.ownsRow base e size v n xs) (hk : ∀ k, base ≤ k → k < w.heap.size → w'.heap[k]? = w.heap[k]?) : w'.ownsRow base e size v n xs :=
  own_move h (fun k e9 => hk k (own_base h k e9) (own_lt h k e9))
end Go.Proofs.Ytjhgknagmiekeaa.V
set_option linter.unusedVariables false
set_option linter.unusedSimpArgs false
namespace Go.Proofs.Ytjhgknagmiekeaa.V
open Go.RowKit Go.Lib Go.Proofs Go.Shelf
open Go.Proofs.Ytjhgknagmiekeaa.T Go.Proofs.Ytjhgknagmiekeaa.N Go.Proofs.Ytjhgknagmiekeaa.K
open Go.Proofs.YtjhgknagmiekeaaW.PrintWords hiding blk_cell
theorem wpListIn_append_own_none {F : Fence} {n : Nat} {P : Program} (w : World) {ops : Array Oper} {rest : List Oper} {o : Oper} {a : Act} {Q : Exit → Act → World → Prop}
    (hg : o.guard = none) (s x : Operand) (t : TypeId) (hop : o.op = Op.call { callee := Callee.builtin Builtin.append, args := #[s, x], argTypes := #[t, t] })
    (base : Nat) (e : TypeId) (i : TypeInfo) (size : Nat) (h1 : P.underlying t = some (.slice e)) (h2 : P.info? e = some i)
    (v : Value) (k : Nat) (xs : List Value) (hs : a.eval s = v) (hown : w.ownsRow base e size v k xs) (hx : a.eval x = .slice none 0 0)
    (hK : wpListIn F n P ops Q rest (a.put o.dst v) w) : wpListIn F n P ops Q (o :: rest) a w := by
  refine wpListIn_plain hg fun K hK' => ?_
  have hrun := run_append_owned_none (P := P) (w := w) base t o.type e i size h1 h2 v k xs hown
  unfold Oper.wpIn
  refine ⟨?_, ?_⟩
  · simp [Oper.about, hop, resolve, Target.leads, Sem.run_pure]
  · rw [Oper.semAt_plain F _ _ (by rw [hop]; intro c hc'; cases hc')]
    simp [execOp, hop, resolve, invoke, builtin, hs, hx, hrun, Result.andThen]
    exact hK' _ _ hK
abbrev mk_ (D : Nat) : Deferred := { target := .collected D, args := #[] }
theorem leaves_marks {F : Fence} {n : Nat} {P : Program} {fn : Func} {tmps : Array Value} {R : Ending → World → Prop} {b : Nat} : ∀ (ds : List Nat) (W : World), b ≤ W.heap.size → (∀ D ∈ ds, W.heap[D]? = some (.deferred (some []))) → ds.Nodup → (∀ D ∈ ds, b ≤ D) →
    (∀ W', Below b W W' → LeavesIn F n P fn tmps R [] .returning W') → LeavesInM F n P fn tmps R (ds.map mk_) .returning W
  | [], W, hW, _, _, _, h => h W (Below.refl _ _)
  | D :: ds, W, hW, h1, h2, h3, h => by
    have hD := h1 D (by simp)
    have hb : Below b W (W.putObj D (.deferred none)) := (Below.refl b W).grown (grownBy_putObj' W D _) hW (fun k e => by cases e; exact h3 D (by simp))
    refine ⟨by simp, .inl ⟨D, _, rfl, run_takeDeferred hD, ?_⟩⟩
    refine leaves_marks ds _ (Nat.le_trans hW hb.size) (fun D' hD' => ?_) (List.nodup_cons.1 h2).2 (fun D' hD' => h3 D' (by simp [hD'])) (fun W' hW' => h W' (hb.trans hW'))
    have hne : D' ≠ D := fun e => (List.nodup_cons.1 h2).1 (by rw [← e]; exact hD')
    exact (World.putObj_heap_other hne).trans (h1 D' (by simp [hD']))
theorem rowv_cons (x : ByteArray × Int) (l : List (ByteArray × Int)) : rowv (x :: l) = [.string x.1, .int .i64 x.2] ++ rowv l := rfl
theorem row_src {w : World} {base : Nat} {v : Value} {l : List (ByteArray × Int)} (h : w.ownsRow base 35 2 v l.length (rowv l)) : (v = .slice none 0 0 ∧ l = []) ∨ ∃ g c, v = .slice (some ⟨g, 0, none⟩) l.length c ∧ ∀ j u, (rowv l)[j]? = some u → w.cell? ((⟨g, 0, none⟩ : Addr).add j) = some u := by
  rcases h.2 with ⟨h1, h2⟩ | ⟨g, cap, cur, rfl, hb, hg, hnc, hcm, hcs, ht⟩
  · exact .inl ⟨h1, List.length_eq_zero_iff.1 h2⟩
  · refine .inr ⟨g, cap, rfl, fun j u hj => ?_⟩
    rw [Addr.add_lit, Nat.zero_add, blk_cell hg]
    have hlt : j < l.length * 2 := by
      have := (List.getElem?_eq_some_iff.1 hj).1
      rwa [rowv_len] at this
    have e := List.getElem?_take_of_lt (l := cur.toList) hlt
    rw [ht, hj] at e
    rw [← Array.getElem?_toList]
    exact e.symm
theorem rowv_one (l : List (ByteArray × Int)) : ∀ u ∈ rowv l, u.oneCell' = true := fun u hu => by
  unfold rowv at hu
  rw [List.mem_flatMap] at hu
  obtain ⟨x, -, hx⟩ := hu
  rcases List.mem_cons.1 hx with rfl | hx
  · rfl
  · rcases List.mem_cons.1 hx with rfl | hx
    · rfl
    · cases hx
theorem kpF_nil : ∀ q : List UInt8, kpF [] q = true := fun q => by
  unfold kpF
  have : ¬ q < [] := by intro h; cases h
  simp [this]
theorem cell_far {W : World} {b : Nat} {v : Value} {a : Addr} {u : Value} (hne : a.block ≠ b) (h : W.cell? a = some u) : (W.setCell ⟨b, 0, none⟩ v).cell? a = some u := (World.cell?_of_block (Below.heap_setCell _ _ _ _ hne)).trans h
theorem ownT_olds {β : Type} (W0 : World) (b : Nat) : OwnT W0.heap.size (fun (_ : β) W => ∀ k, k < W0.heap.size → k ≠ b → W.heap[k]? = W0.heap[k]?) := fun s X Y row hs hg hr k h1 h2 => by
  have h3 := hs k h1 h2
  have h4 : W0.heap[k]? = some W0.heap[k] := Array.getElem?_eq_getElem h1
  rw [h4] at h3 ⊢
  exact keep_old hg (fun r e => (hr r e).1) h1 h3
theorem keepsU_same {W W' : World} {b B : Nat} (hs : W.heap.size ≤ W'.heap.size) (h : ∀ k, k < W.heap.size → k ≠ b → W'.heap[k]? = W.heap[k]?) (hb : b < B) : KeepsU B W W' :=
  ⟨hs, fun k o hk h1 _ => (h k (Array.getElem?_eq_some_iff.1 h1).1 (by omega)).trans h1⟩
theorem kpT_same {W W' : World} {b n₁ : Nat} {M : Nat → Prop} {t : TypeId} {v : Value} (hv : Boxed W b t v) (ht : ¬ Quiet t) (hM : M b) (hs : W.heap.size ≤ W'.heap.size) (h : ∀ k, k < W.heap.size → k ≠ b → W'.heap[k]? = W.heap[k]?) : KpT n₁ M W W' := by
  refine ⟨hs, fun k o h1 _ h3 => (h k (Array.getElem?_eq_some_iff.1 h1).1 (fun e => h3 (by rw [e]; exact hM))).trans h1, fun k cs t' fr hq h1 => (h k (Array.getElem?_eq_some_iff.1 h1).1 (fun e => ?_)).trans h1⟩
  subst e
  rw [show W.heap[k]? = _ from hv] at h1
  cases h1
  exact ht hq
theorem form35 {w : World} {base n : Nat} {v : Value} {xs : List Value} (h : w.ownsRow base 35 2 v n xs) : ∃ A c, v = .slice A n c := by
  rcases h.2 with ⟨rfl, rfl⟩ | ⟨g, cap, cur, rfl, _⟩
  · exact ⟨_, _, rfl⟩
  · exact ⟨_, _, rfl⟩
end Go.Proofs.Ytjhgknagmiekeaa.V
set_option linter.unusedVariables false
set_option linter.unusedSimpArgs false
namespace Go.Proofs.Ytjhgknagmiekeaa.N
open Go.RowKit Go.Proofs.Ytjhgknagmiekeaa.K Go.Proofs.YtjhgknagmiekeaaW.PrintWords Go.Proofs.YtjhgknagmiekeaaW.PrintLast
open Go.Proofs.Ytjhgknagmiekeaa.V (kpF kpU)
def PlAt (w : World) (v : Value) (idx : List Nat) : Prop := SlI w v (ints idx)
theorem PlAt.below {w w' : World} {v : Value} {idx : List Nat} (h : PlAt w v idx) (hb : Below w.heap.size w w') : PlAt w' v idx := SlI.below h hb
theorem fromRtC (w : World) (t : Rt) (h : Rok t) (hl : t.ks.length < 100000000000) (v0 v1 v2 v3 v4 : Value) (hm : RtAt w t v0 v1 v2 v3 v4) (lo : ByteArray) :
    Calls Try.prog 28 #[.agg #[v0, v1, v2, v3, v4], .string lo] w fun e w' => ∃ A n c, e = .returned (.slice A n c) ∧ PlAt w' (.slice A n c) (plc t.ks (fun k => kpF (T.L lo) (T.L k))) ∧ Below w.heap.size w w' := by
  obtain ⟨k, hk⟩ := (from_ev t h hl lo).rounds
  obtain ⟨⟨A0, c0, rfl, p0, q0⟩, ⟨A1, c1, rfl, p1, q1⟩, ⟨A2, c2, rfl, p2, q2⟩, ⟨A3, c3, rfl, p3, q3⟩, ⟨A4, c4, rfl, p4, q4⟩⟩ := hm
  refine (musterref04_From.calls k A0 c0 t.ks A1 c1 t.vs A2 c2 t.ls A3 c3 t.ps A4 c4 t.ms lo _ w q0 p0 q1 p1 q2 p2 q3 p3 q4 p4 hk).mono ?_
  rintro e w' ⟨v, rfl, hr, hb⟩
  obtain ⟨A, c, rfl, h1, h2⟩ := Kd.R_reads hr
  exact ⟨A, _, c, rfl, ⟨A, c, rfl, h1, h2⟩, hb⟩
def GoAt (w : World) (v : Value) (l : List S35) : Prop := ∃ A c, v = .slice A l.length c ∧ l.length ≤ c ∧ Kd.C k35 w A l.length l
theorem GoAt.below {w w' : World} {v : Value} {l : List S35} (h : GoAt w v l) (hb : Below w.heap.size w w') : GoAt w' v l := by
  obtain ⟨A, c, h1, h2, h3⟩ := h
  exact ⟨A, c, h1, h2, Kd.C_below h3 hb⟩
theorem theseC (w : World) (t : Rt) (h : Rok t) (v0 v1 v2 v3 v4 : Value) (hm : RtAt w t v0 v1 v2 v3 v4) (idx : List Nat) (hi : ∀ i ∈ idx, i < t.ks.length) (hl : idx.length < 100000000000) (g : Value) (hg : GoAt w g (atPl t idx)) (pv : Value) (hp : PlAt w pv idx) :
    Calls Try.prog 23 #[g, .agg #[v0, v1, v2, v3, v4], pv] w fun e w' => e = .returned (.bool true) ∧ Below w.heap.size w w' := by
  obtain ⟨k, hk⟩ := (these_ev t h idx hi hl).rounds
  obtain ⟨⟨A0, c0, rfl, p0, q0⟩, ⟨A1, c1, rfl, p1, q1⟩, ⟨A2, c2, rfl, p2, q2⟩, ⟨A3, c3, rfl, p3, q3⟩, ⟨A4, c4, rfl, p4, q4⟩⟩ := hm
  obtain ⟨A, c, rfl, h1, h2⟩ := hg
  obtain ⟨B, d, rfl, h3, h4⟩ := hp
  exact musterlaw04_these.calls k A c (atPl t idx) A0 c0 t.ks A1 c1 t.vs A2 c2 t.ls A3 c3 t.ps A4 c4 t.ms B d (ints idx) true w h2 h1 q0 p0 q1 p1 q2 p2 q3 p3 q4 p4 h4 h3 hk
theorem plc_len (xs : List ByteArray) (p : ByteArray → Bool) : (plc xs p).length ≤ xs.length := upto_le xs p xs.length
end Go.Proofs.Ytjhgknagmiekeaa.N
set_option linter.unusedVariables false
set_option linter.unusedSimpArgs false
namespace Go.Proofs.Ytjhgknagmiekeaa.V
open Go.Proofs.Ytjhgknagmiekeaa.VOU (below_drewA)
open Go.RowKit Go.Lib Go.Proofs Go.Shelf
open Go.Proofs.Ytjhgknagmiekeaa.T Go.Proofs.Ytjhgknagmiekeaa.N Go.Proofs.Ytjhgknagmiekeaa.K
open Go.Proofs.YtjhgknagmiekeaaW.PrintWords hiding blk_cell
attribute [local go_sem] Oper.semAt_some
set_option maxRecDepth 100000 in
set_option maxHeartbeats 8000000 in
theorem allLaw (A : Option Addr) (c : Nat) (l : List S35) (w : World) (hl : EntAt w A l) (hc : l.length ≤ c) (hlen : l.length < 10000000000) (hs : ∀ e ∈ l, e.f0.size < 4000000000000) :
    Calls Try.prog 7 #[.slice A l.length c] w fun e w' => e = .returned (.bool true) ∧ Below w.heap.size w w' := by
  refine callsIn_wide.1 (show CallsIn Fence.wide 9 Try.prog 7 _ w _ from ?_)
  have qa := Aside0.mk (show CallsIn Fence.wide 8 Try.prog 20 _ w _ from callsIn_wide.2 (aliveC w))
  have qb := Aside0.mk (fun w1 (h : Below w.heap.size w w1) => show CallsIn Fence.wide 8 Try.prog 21 _ w1 _ from callsIn_wide.2 (builtC A c l w1 (Kd.C_below hl h) hc hlen hs))
  have qf := Aside0.mk (fun w1 tb => show CallsIn Fence.wide 8 Try.prog 26 _ w1 _ from callsIn_wide.2 (allC tb w1))
  have qg := Aside0.mk (fun w1 tb => show CallsIn Fence.wide 8 Try.prog 31 _ w1 _ from callsIn_wide.2 ((backC tb w1).mono (R' := fun e w' => ∃ bb, e = .returned (.func (.func 82) #[] #[ptr bb]) ∧ w'.heap[bb]? = some (.cells #[ptr tb] 24 (0, 0)) ∧ Below w1.heap.size w1 w') (fun e w' ⟨h0, h1, h2⟩ => ⟨_, h0, h1, h2⟩)))
  have HN := Aside0.mk hlen
  clear hl hc hlen hs
  unfold ptr at qb qf qg
  have hnf := funcNil
  refine callsIn_of_wp_marks Try.func7 rfl trivial ?_ rfl
  simp only [Try.ntmps7, List.size_toArray, List.length_cons, List.length_nil, Nat.reduceAdd, Nat.reduceSub, Array.replicate_succ, Array.replicate_zero, List.push_toArray, List.append_toArray, List.nil_append, List.cons_append]
  gi_wp2_with (first
    | (refine ⟨trivial, ?_⟩; gi_at_call 20; refine qa.out.mono ?_; rintro e w0 ⟨rfl, hb0⟩; have HB0 := Aside0.mk hb0; clear hb0)
    | (refine ⟨trivial, ?_⟩; gi_at_call 21; refine (qb.out _ HB0.out).mono ?_; rintro e w1 ⟨tb, root, t, v0, v1, v2, v3, v4, rfl, ht, hk, ha, hr, hl, hv, hb⟩; obtain ⟨⟨A0, n0, c0, rfl⟩, ⟨A1, n1, c1, rfl⟩, ⟨A2, n2, c2, rfl⟩, ⟨A3, n3, c3, rfl⟩, ⟨A4, n4, c4, rfl⟩⟩ := hr.forms; have H1 := Aside0.mk (And.intro ht (And.intro hk (And.intro ha (And.intro hr (And.intro hl (belowAt HB0.out hb)))))); clear ht hk ha hr hl hv hb)
    | (refine ⟨trivial, ?_⟩; gi_at_call 26; refine (qf.out _ _).mono ?_; rintro e w2 ⟨bt, bs, bk, rfl, h1, h2, h3, h4⟩; have H2 := Aside0.mk (And.intro h1 (And.intro h2 (And.intro h3 h4))); clear h1 h2 h3 h4)
    | (refine ⟨trivial, ?_⟩; gi_at_call 31; refine (qg.out _ _).mono ?_; rintro e w3 ⟨bb, rfl, h1, h2⟩; have H3 := Aside0.mk (And.intro h1 h2); clear h1 h2))
  clear qa qb qf qg hnf
  obtain ⟨h1, h2, h3, h4⟩ := H2.out
  obtain ⟨h5, h6⟩ := H3.out
  simp only [World.size_alloc] at h4
  have bM2 : w2.heap[w1.heap.size]? = some (.cells #[.slice A0 n0 c0, .slice A1 n1 c1, .slice A2 n2 c2, .slice A3 n3 c3, .slice A4 n4 c4] 28 (0, 0)) := (h4.block _ (by omega)).trans (World.alloc_heap_new w1 _)
  have hB2 : Below w1.heap.size w1 w2 := ((Below.refl _ w1).alloc (Nat.le_refl _) _).trans (h4.mono (by omega))
  have bM : w3.heap[w1.heap.size]? = some (.cells #[.slice A0 n0 c0, .slice A1 n1 c1, .slice A2 n2 c2, .slice A3 n3 c3, .slice A4 n4 c4] 28 (0, 0)) := (Kept.of h6).at bM2
  have hB3 : Below w1.heap.size w1 w3 := belowAt hB2 h6
  have hsm : w1.heap.size + 1 ≤ w2.heap.size := by have := h4.size; simpa using this
  have hs3 := h6.size
  obtain ⟨ht, hk, ha, hr, hl, hbw⟩ := H1.out
  have hall := all_eq ht.fine.toGood ha
  have hvl : t.vs.length = t.ks.length := hk.v
  have hzl : (t.ks.zip t.vs).length = t.ks.length := by rw [List.length_zip]; omega
  obtain ⟨Aq, cq, eq1, -, -⟩ := hr.a0
  have en0 : t.ks.length = n0 := by injection eq1 with _ e _; exact e.symm
  have hNs : n0 < 10000000000 := by have := HN.out; omega
  have t3 : Tr w3 tb root := ht.keep (Kept.of hB3)
  have r3 := hr.below hB3
  have hw3 : Below w.heap.size w w3 := belowAt hbw hB3
  obtain ⟨i0, hi0, hz0, hz1, hz2⟩ := info_parts info35
  have hml : 10000000000 ≤ maxLen := by decide
  have HALL := Aside0.mk (And.intro hall (And.intro hzl (And.intro en0 (And.intro hk (And.intro r3 (And.intro t3 hw3))))))
  have HCL := Aside0.mk (And.intro ((Kept.of h6).at h1) (And.intro ((Kept.of h6).at h2) (And.intro ((Kept.of h6).at h3) h5)))
  have HM3 := Aside0.mk (And.intro bM (And.intro hsm hs3))
  clear H1 H2 H3 h1 h2 h3 h4 h5 h6 bM2 hB2 hB3 bM hsm hs3 ht hk ha hr hl hbw hall hvl hzl eq1 en0 t3 r3 hw3
  refine wpIn_loop_ghost_k (fun k a Z => ∃ (i : Nat) (u7 u8 u9 u10 u11 u12 u33 u34 u35 u36 u37 u38 u39 u40 u41 u42 u43 u44 u45 u46 u47 u48 u49 u50 u51 u52 u53 u54 u55 u56 u57 u58 u59 u60 u61 u62 u63 u64 u65 u66 : Value) (ds : List Nat), a = { tmps := #[.slice A l.length c, undef, .bool false, .pointer (some ⟨tb, 0, none⟩), .pointer (some ⟨w1.heap.size, 0, none⟩), .func (.func 117) #[] #[.pointer (some ⟨bt, 0, none⟩), .pointer (some ⟨bs, 0, none⟩), .pointer (some ⟨bk, 0, none⟩)], .func (.func 82) #[] #[.pointer (some ⟨bb, 0, none⟩)], u7, u8, u9, u10, u11, u12, .bool true, .bool false, .tuple #[.pointer (some ⟨tb, 0, none⟩), .agg #[.slice A0 n0 c0, .slice A1 n1 c1, .slice A2 n2 c2, .slice A3 n3 c3, .slice A4 n4 c4]], .slice A l.length c, .tuple #[.pointer (some ⟨tb, 0, none⟩), .agg #[.slice A0 n0 c0, .slice A1 n1 c1, .slice A2 n2 c2, .slice A3 n3 c3, .slice A4 n4 c4]], .pointer (some ⟨tb, 0, none⟩), .agg #[.slice A0 n0 c0, .slice A1 n1 c1, .slice A2 n2 c2, .slice A3 n3 c3, .slice A4 n4 c4], .pointer (some ⟨tb, 0, none⟩), .bool false, .pointer (some ⟨tb, 0, none⟩), .func (.func 117) #[] #[.pointer (some ⟨bt, 0, none⟩), .pointer (some ⟨bs, 0, none⟩), .pointer (some ⟨bk, 0, none⟩)], .pointer (some ⟨tb, 0, none⟩), .func (.func 82) #[] #[.pointer (some ⟨bb, 0, none⟩)], .func (.func 117) #[] #[.pointer (some ⟨bt, 0, none⟩), .pointer (some ⟨bs, 0, none⟩), .pointer (some ⟨bk, 0, none⟩)], .bool false, .bool false, .func (.func 82) #[] #[.pointer (some ⟨bb, 0, none⟩)], .bool false, .bool false, .int .i64 (i : Int), u33, u34, u35, u36, u37, u38, u39, u40, u41, u42, u43, u44, u45, u46, u47, u48, u49, u50, u51, u52, u53, u54, u55, u56, u57, u58, u59, u60, u61, u62, u63, u64, u65, u66], defers := ds.map mk_ } ∧ Aside0 (i + k = 3 ∧ i ≤ 2) ∧ Aside0 ((∀ D ∈ ds, Z.heap[D]? = some (.deferred (some []))) ∧ ds.Nodup ∧ ∀ D ∈ ds, w3.heap.size ≤ D) ∧ Aside0 (Below w3.heap.size w3 Z)) 3
    ⟨0, undef, undef, undef, undef, undef, undef, undef, undef, undef, undef, undef, undef, undef, undef, undef, undef, undef, undef, undef, undef, undef, undef, undef, undef, undef, undef, undef, undef, undef, undef, undef, undef, undef, undef, undef, undef, undef, undef, undef, undef, [], rfl, ⟨by omega, by omega⟩, ⟨by simp, by simp, by simp⟩, ⟨Below.refl _ _⟩⟩ ?_
  rintro k a Z ⟨i, u7, u8, u9, u10, u11, u12, u33, u34, u35, u36, u37, u38, u39, u40, u41, u42, u43, u44, u45, u46, u47, u48, u49, u50, u51, u52, u53, u54, u55, u56, u57, u58, u59, u60, u61, u62, u63, u64, u65, u66, ds, rfl, HI, HM, HBz⟩ J K hJ hK
  have HJK := Aside0.mk (And.intro hJ hK)
  clear hJ hK
  by_cases hi : i < 2
  · have d1 : decide ((i : Int) < 2) = true := by simp; omega
    have HI2 := Aside0.mk hi
    have HI3 := Aside0.mk (show wrap64 ((i : Int) + 1) = ((i + 1 : Nat) : Int) ∧ k - 1 < k ∧ i + 1 + (k - 1) = 3 ∧ i + 1 ≤ 2 from ⟨by unfold wrap64; omega, by have := HI.out; omega, by have := HI.out; omega, by omega⟩)
    clear hi
    gi_wp2
    obtain ⟨Za, eZa⟩ : ∃ Za, ((Z.alloc (Obj.cells #[.slice none 0 0] 22)).alloc (Obj.cells #[.slice none 0 0] 22)) = Za := ⟨_, rfl⟩
    rw [eZa]
    have sZ : Za.heap.size = Z.heap.size + 2 := by rw [← eZa]; simp
    have hBZ : Below Z.heap.size Z Za := by rw [← eZa]; exact ((Below.refl _ Z).alloc (Nat.le_refl _) _).alloc (by simp) _
    have b1 : Boxed Za Z.heap.size 22 (.slice none 0 0) := by rw [← eZa]; exact (Below.heap_alloc _ _ _ (by simp)).trans (World.alloc_heap_new Z _)
    have b2 : Boxed Za (Z.heap.size + 1) 22 (.slice none 0 0) := by rw [← eZa]; have := World.alloc_heap_new (Z.alloc (Obj.cells #[.slice none 0 0] 22)) (Obj.cells #[.slice none 0 0] 22); rwa [World.size_alloc] at this
    have hB3a : Below w3.heap.size w3 Za := belowAt HBz.out hBZ
    have k3 := Kept.of hB3a
    have HBZ := Aside0.mk hBZ
    have s3z := HBz.out.size
    clear eZa
    refine wpIn_rangeFuncO rfl (by decide) (gf := 117) (lb := #[ptr bt, ptr bs, ptr bk]) rfl trivial (enters_of Try.func117 (by kernel_rfl) rfl)
      (seqO_of (VA.seq Za 8 n0 Za.heap.size (fun k => k = Z.heap.size) w3 k3 (by omega) (Nat.le_refl _) (fun k hk e => by omega) tb root HALL.out.2.2.2.2.2.1 bt bs bk ⟨k3.at HCL.out.1, k3.at HCL.out.2.1, k3.at HCL.out.2.2.1⟩ (by rw [HALL.out.1, HALL.out.2.1, HALL.out.2.2.1]; exact Nat.le_refl _)))
      (fun h k => kpT h k) (fun W o o' h hc => KpM.putObj W _ o o' (by omega) h hc) (Below.refl _ _) (fun _ => rfl)
      (fun pre W => (∃ v, Boxed W Z.heap.size 22 v ∧ W.ownsRow Za.heap.size 35 2 v pre.length (rowv pre)) ∧ (∀ k, k < Za.heap.size → k ≠ Z.heap.size → W.heap[k]? = Za.heap[k]?) ∧ Below w3.heap.size w3 W ∧ Za.heap.size ≤ W.heap.size)
      (fun _ _ _ => False) ?hI (fun _ _ _ _ _ hs _ _ => hs) ⟨⟨_, b1, World.ownsRow_nil _ _ _ _⟩, fun _ _ _ => rfl, hB3a, Nat.le_refl _⟩ (fun (x : ByteArray × Int) a' (Y : World) => a' = { tmps := #[.slice A l.length c, undef, .bool false, .pointer (some ⟨tb, 0, none⟩), .pointer (some ⟨w1.heap.size, 0, none⟩), .func (.func 117) #[] #[.pointer (some ⟨bt, 0, none⟩), .pointer (some ⟨bs, 0, none⟩), .pointer (some ⟨bk, 0, none⟩)], .func (.func 82) #[] #[.pointer (some ⟨bb, 0, none⟩)], .pointer (some ⟨Z.heap.size, 0, none⟩), .pointer (some ⟨Z.heap.size + 1, 0, none⟩), .string x.1, .int .i64 x.2, u11, u12, .bool true, .bool false, .tuple #[.pointer (some ⟨tb, 0, none⟩), .agg #[.slice A0 n0 c0, .slice A1 n1 c1, .slice A2 n2 c2, .slice A3 n3 c3, .slice A4 n4 c4]], .slice A l.length c, .tuple #[.pointer (some ⟨tb, 0, none⟩), .agg #[.slice A0 n0 c0, .slice A1 n1 c1, .slice A2 n2 c2, .slice A3 n3 c3, .slice A4 n4 c4]], .pointer (some ⟨tb, 0, none⟩), .agg #[.slice A0 n0 c0, .slice A1 n1 c1, .slice A2 n2 c2, .slice A3 n3 c3, .slice A4 n4 c4], .pointer (some ⟨tb, 0, none⟩), .bool false, .pointer (some ⟨tb, 0, none⟩), .func (.func 117) #[] #[.pointer (some ⟨bt, 0, none⟩), .pointer (some ⟨bs, 0, none⟩), .pointer (some ⟨bk, 0, none⟩)], .pointer (some ⟨tb, 0, none⟩), .func (.func 82) #[] #[.pointer (some ⟨bb, 0, none⟩)], .func (.func 117) #[] #[.pointer (some ⟨bt, 0, none⟩), .pointer (some ⟨bs, 0, none⟩), .pointer (some ⟨bk, 0, none⟩)], .bool false, .bool false, .func (.func 82) #[] #[.pointer (some ⟨bb, 0, none⟩)], .bool false, .bool false, .int .i64 (i : Int), .bool true, .func (.func 117) #[] #[.pointer (some ⟨bt, 0, none⟩), .pointer (some ⟨bs, 0, none⟩), .pointer (some ⟨bk, 0, none⟩)], .string x.1, .int .i64 x.2, u37, u38, u39, u40, u41, u42, u43, u44, u45, u46, u47, u48, u49, u50, u51, u52, u53, u54, u55, u56, u57, u58, u59, u60, u61, u62, u63, u64, u65, u66], defers := [] }) (fun x a' => ownT_pure _ (fun _ => a' = _)) ?assign ?body ?done ?stop
    case hI => exact OwnT.and (fun s X Y row hs hg hr => (ownT_all (β := Unit) (B := Za.heap.size) (fun v => OwnT.and (ownT_old Z.heap.size (fun _ => .cells #[v] 22 (0, 0)) (by omega)) (ownT_row Za.heap.size 35 2 (by decide) v s.length (rowv s)))) () X Y row hs hg hr) (OwnT.and (ownT_olds Za _) (OwnT.and (ownT_below (Nat.le_refl _) (by omega)) (ownT_size _)))
    case assign =>
      intro l' m' pre x Wa K2 hI hok hK2
      gi_wp2
      exact hK2 _ _ (KeepsU.refl _ _) (KpM.of (Below.refl _ _)) hI rfl
    case body =>
      rintro l' m' pre x a' W hl' hr0 hszW ⟨⟨v, hv, hrow⟩, hold, hB, hW⟩ rfl hlt hok
      have hc := hv.cell
      gi_wp2_with (gi_at_builtin; refine wpListIn_append_own _ rfl _ _ 22 rfl Za.heap.size 35 i0 (.agg #[.string ⟨#[]⟩, .int .i64 0]) 2 24 Try.underlying22 hi0 hz0 hz1 hz2 rfl (by decide) _ _ _ rfl (hrow.alloc _) ⟨W.heap.size, 0, none⟩ 1 1 [.string x.1, .int .i64 x.2] rfl rfl (cell_two_new _ _ _ _) (by simp [Value.oneCell']) (by omega) (by omega) (by simp; omega) ?_; intro v' w1' hown' hgrow _; obtain ⟨g', cap', rfl⟩ := ownsRow_succ hown'; obtain ⟨hv1, hv2, hr2, hk2, hb2, hkp, hlow⟩ := appended2 (n₀ := w3.heap.size) (M := fun k => k = Z.heap.size) hv (by decide) (by decide) (by decide) hrow hW (by omega) (by omega) rfl hown' hgrow; have hku := appendedU (B' := Za.heap.size) (by unfold Quiet; decide) (by omega) hv hrow hown' hgrow; have hc1 := hv1.cell; have hf1 := hv1.frozen)
      exact ⟨hku, hkp, ⟨_, hv2, by rw [List.length_append, rowv_snoc]; exact hr2⟩, fun k h1 h2 => (hlow k h1 h2).trans (hold k h1 h2), hB.trans hb2, Nat.le_trans hW hb2.size⟩
    case stop =>
      rintro D cd pre W _ _ h _
      exact h.elim
    case done =>
      rintro D1 ys W1 hD1 e9 ⟨⟨v, hv, hrow⟩, hold, hB, hW⟩ hK1
      have hys : ys = t.ks.zip t.vs := by rw [e9, HALL.out.1]
      have hyl : ys.length = n0 := by rw [hys, HALL.out.2.1, HALL.out.2.2.1]
      have b2' : Boxed W1 (Z.heap.size + 1) 22 (.slice none 0 0) := (hold _ (by omega) (by omega)).trans b2
      have k31 := Kept.of hB
      have hs31 := hB.size
      have HD1 := Aside0.mk (And.intro hD1 (And.intro hK1 (And.intro hys (And.intro hyl (And.intro hv hrow)))))
      have HO1 := Aside0.mk (And.intro hold (And.intro hB hW))
      clear hD1 e9 hys hyl hv hrow hK1
      gi_wp2
      refine wpIn_rangeFuncO rfl (by decide) (gf := 82) (lb := #[ptr bb]) rfl trivial (enters_of Try.func82 (by kernel_rfl) rfl)
        (backSeq W1 8 n0 W1.heap.size (fun k => k = Z.heap.size + 1) w3 k31 (by omega) (Nat.le_refl _) (fun k hk e => by omega) tb root HALL.out.2.2.2.2.2.1 bb (k31.at HCL.out.2.2.2) (by rw [List.length_reverse, HALL.out.1, HALL.out.2.1, HALL.out.2.2.1]; exact Nat.le_refl _))
        (fun h k => h.trans k) (fun W o o' h hc => KpT.putObj W _ o o' (by omega) h hc) (Below.refl _ _) (fun _ => rfl)
        (fun pre W => (∃ v, Boxed W (Z.heap.size + 1) 22 v ∧ W.ownsRow W1.heap.size 35 2 v pre.reverse.length (rowv pre.reverse)) ∧ (∀ k, k < W1.heap.size → k ≠ Z.heap.size + 1 → W.heap[k]? = W1.heap[k]?) ∧ Below w3.heap.size w3 W ∧ W1.heap.size ≤ W.heap.size)
        (fun _ _ _ => False) ?hI2 (fun _ _ _ _ _ hs _ _ => hs) ⟨⟨_, b2', World.ownsRow_nil _ _ _ _⟩, fun _ _ _ => rfl, hB, Nat.le_refl _⟩ (fun (x : ByteArray × Int) a' (Y : World) => a' = { tmps := #[.slice A l.length c, undef, .bool false, .pointer (some ⟨tb, 0, none⟩), .pointer (some ⟨w1.heap.size, 0, none⟩), .func (.func 117) #[] #[.pointer (some ⟨bt, 0, none⟩), .pointer (some ⟨bs, 0, none⟩), .pointer (some ⟨bk, 0, none⟩)], .func (.func 82) #[] #[.pointer (some ⟨bb, 0, none⟩)], .pointer (some ⟨Z.heap.size, 0, none⟩), .pointer (some ⟨Z.heap.size + 1, 0, none⟩), u9, u10, .string x.1, .int .i64 x.2, .bool true, .bool false, .tuple #[.pointer (some ⟨tb, 0, none⟩), .agg #[.slice A0 n0 c0, .slice A1 n1 c1, .slice A2 n2 c2, .slice A3 n3 c3, .slice A4 n4 c4]], .slice A l.length c, .tuple #[.pointer (some ⟨tb, 0, none⟩), .agg #[.slice A0 n0 c0, .slice A1 n1 c1, .slice A2 n2 c2, .slice A3 n3 c3, .slice A4 n4 c4]], .pointer (some ⟨tb, 0, none⟩), .agg #[.slice A0 n0 c0, .slice A1 n1 c1, .slice A2 n2 c2, .slice A3 n3 c3, .slice A4 n4 c4], .pointer (some ⟨tb, 0, none⟩), .bool false, .pointer (some ⟨tb, 0, none⟩), .func (.func 117) #[] #[.pointer (some ⟨bt, 0, none⟩), .pointer (some ⟨bs, 0, none⟩), .pointer (some ⟨bk, 0, none⟩)], .pointer (some ⟨tb, 0, none⟩), .func (.func 82) #[] #[.pointer (some ⟨bb, 0, none⟩)], .func (.func 117) #[] #[.pointer (some ⟨bt, 0, none⟩), .pointer (some ⟨bs, 0, none⟩), .pointer (some ⟨bk, 0, none⟩)], .bool false, .bool false, .func (.func 82) #[] #[.pointer (some ⟨bb, 0, none⟩)], .bool false, .bool false, .int .i64 (i : Int), .bool true, .func (.func 117) #[] #[.pointer (some ⟨bt, 0, none⟩), .pointer (some ⟨bs, 0, none⟩), .pointer (some ⟨bk, 0, none⟩)], u35, u36, u37, u38, u39, u40, u41, u42, .func (.func 82) #[] #[.pointer (some ⟨bb, 0, none⟩)], .string x.1, .int .i64 x.2, u46, u47, u48, u49, u50, u51, u52, u53, u54, u55, u56, u57, u58, u59, u60, u61, u62, u63, u64, u65, u66], defers := [] }) (fun x a' => ownT_pure _ (fun _ => a' = _)) ?assign2 ?body2 ?done2 ?stop2
      case hI2 => exact OwnT.and (fun s X Y row hs hg hr => (ownT_all (β := Unit) (B := W1.heap.size) (fun v => OwnT.and (ownT_old (Z.heap.size + 1) (fun _ => .cells #[v] 22 (0, 0)) (by omega)) (ownT_row W1.heap.size 35 2 (by decide) v s.reverse.length (rowv s.reverse)))) () X Y row hs hg hr) (OwnT.and (ownT_olds W1 _) (OwnT.and (ownT_below (Nat.le_refl _) (by omega)) (ownT_size _)))
      case assign2 =>
        intro l' m' pre x Wa K2 hI hok hK2
        gi_wp2
        exact hK2 _ _ (KeepsU.refl _ _) (KpT.of (Below.refl _ _)) hI rfl
      case stop2 =>
        rintro D cd pre W _ _ h _
        exact h.elim
      case body2 =>
        rintro l' m' pre x a' W hl' hr0 hszW ⟨⟨v, hv, hrow⟩, hold, hB, hW⟩ rfl hlt hok
        have own49 : (W.alloc (Obj.cells #[.string x.1, .int .i64 x.2] 35)).ownsRow W1.heap.size 35 2 (.slice (some ⟨W.heap.size, 0, none⟩) 1 1) 1 [.string x.1, .int .i64 x.2] := World.ownsRow_lit (base := W1.heap.size) (e := 35) (size := 2) W #[.string x.1, .int .i64 x.2] 1 hW (by decide) (by simp)
        have hv1 := hv.alloc (Obj.cells #[.string x.1, .int .i64 x.2] 35)
        have hc := hv.cell
        have hc0 := hv1.cell
        have hf0 := hv1.frozen
        have hsa : (W.alloc (Obj.cells #[.string x.1, .int .i64 x.2] 35)).heap.size = W.heap.size + 1 := by simp
        have hba : Below W.heap.size W (W.alloc (Obj.cells #[.string x.1, .int .i64 x.2] 35)) := (Below.refl _ W).alloc (Nat.le_refl _) _
        have HW := Aside0.mk (And.intro hv (And.intro hold (And.intro hB (And.intro hW (And.intro hsa hba)))))
        rcases row_src hrow with ⟨rfl, hnil⟩ | ⟨g, cq, rfl, hcells⟩
        · have HNL := Aside0.mk hnil
          clear hnil hold hB hsa hba hv hv1 hr0 hrow
          gi_wp2_with (gi_at_builtin; refine wpListIn_append_own_none _ rfl _ _ 22 rfl W1.heap.size 35 i0 2 Try.underlying22 hi0 _ 1 _ rfl own49 rfl ?_)
          obtain ⟨hv, hold, hB, hW, hsa, hba⟩ := HW.out
          obtain ⟨Wn, eWn⟩ : ∃ Wn, ((W.alloc (Obj.cells #[.string x.1, .int .i64 x.2] 35)).setCell ⟨Z.heap.size + 1, 0, none⟩ (.slice (some ⟨W.heap.size, 0, none⟩) 1 1)) = Wn := ⟨_, rfl⟩
          have hsame : ∀ k, k < W.heap.size → k ≠ Z.heap.size + 1 → Wn.heap[k]? = W.heap[k]? := fun k h1 h2 => by rw [← eWn]; exact (Below.heap_setCell _ _ _ _ (by exact h2)).trans (hba.block k h1)
          have hsz : W.heap.size ≤ Wn.heap.size := by rw [← eWn]; simp [World.setCell]
          have hbx : Boxed Wn (Z.heap.size + 1) 22 (.slice (some ⟨W.heap.size, 0, none⟩) 1 1) := by rw [← eWn]; exact (hv.alloc _).set _
          have hro : Wn.ownsRow W1.heap.size 35 2 (.slice (some ⟨W.heap.size, 0, none⟩) 1 1) 1 [.string x.1, .int .i64 x.2] := by rw [← eWn]; exact row_keep own49 (fun k h1 h2 => Below.heap_setCell _ _ _ _ (by show k ≠ Z.heap.size + 1; omega))
          have hbw : Below w3.heap.size w3 Wn := by rw [← eWn]; exact (hB.trans (hba.mono (by omega))).setCell (p := ⟨Z.heap.size + 1, 0, none⟩) (by show w3.heap.size ≤ Z.heap.size + 1; omega) _
          rw [eWn]
          refine ⟨keepsU_same hsz hsame (by omega), kpT_same (M := fun k => k = Z.heap.size + 1) hv (by unfold Quiet; decide) rfl hsz hsame, ⟨_, hbx, ?_⟩, fun k h1 h2 => (hsame k (by omega) h2).trans (hold k h1 h2), hbw, by omega⟩
          have hp : pre = [] := by simpa using HNL.out
          subst hp
          exact hro
        · have hcl : ∀ j u, (rowv pre.reverse)[j]? = some u → (W.alloc (Obj.cells #[.string x.1, .int .i64 x.2] 35)).cell? ((⟨g, 0, none⟩ : Addr).add j) = some u := fun j u hj => (Kept.of hba).cell (hcells j u hj)
          obtain ⟨m, hm⟩ : ∃ m, pre.reverse.length = m := ⟨_, rfl⟩
          have hpl : m < n0 := by rw [← hm, List.length_reverse]; exact hlt
          have hrl : (rowv pre.reverse).length = m * 2 := by rw [rowv_len, hm]
          rw [hm] at hc hc0 HW
          have HLM := Aside0.mk hm
          clear hold hB hba hv hv1 hr0 hrow hcells hm
          gi_wp2_with (gi_at_builtin; (refine wpListIn_append_own _ rfl _ _ 22 rfl W1.heap.size 35 i0 (.agg #[.string ⟨#[]⟩, .int .i64 0]) 2 24 Try.underlying22 hi0 hz0 hz1 hz2 rfl (by decide) (.slice (some ⟨W.heap.size, 0, none⟩) 1 1) 1 [.string x.1, .int .i64 x.2] rfl own49 ⟨g, 0, none⟩ m cq (rowv pre.reverse) rfl hrl hcl (rowv_one _) (by omega) (by omega) (by rw [hsa]; omega) ?_); intro v' w1' hown' hgrow _; obtain ⟨A', c', rfl⟩ := form35 hown'; have hgr : (W.alloc (Obj.cells #[.string x.1, .int .i64 x.2] 35)).grownBy w1' (some W.heap.size) := hgrow; have hne : some (Z.heap.size + 1) ≠ some W.heap.size := (fun e => by have e2 := Option.some.inj e; omega); have hvk := (HW.out.1.alloc (Obj.cells #[.string x.1, .int .i64 x.2] 35)).kept hgr hne; have hc1 := hvk.cell; have hf1 := hvk.frozen; have HVK := Aside0.mk hvk; have HGR := Aside0.mk (And.intro hown' hgr); clear hvk hown' hgrow hgr hne)
          obtain ⟨hv, hold, hB, hW, hsa, hba⟩ := HW.out
          obtain ⟨hown', hgrow⟩ := HGR.out
          obtain ⟨Wn, eWn⟩ : ∃ Wn, (w1'.setCell ⟨Z.heap.size + 1, 0, none⟩ (.slice A' (1 + m) c')) = Wn := ⟨_, rfl⟩
          have hsame : ∀ k, k < W.heap.size → k ≠ Z.heap.size + 1 → Wn.heap[k]? = W.heap[k]? := fun k h1 h2 => by
            rw [← eWn]
            exact (Below.heap_setCell _ _ _ _ (by exact h2)).trans ((hgrow.block k (by omega) (fun e => by have e2 := Option.some.inj e; omega)).trans (hba.block k h1))
          have hgs := hgrow.size
          have hsz : W.heap.size ≤ Wn.heap.size := by
            have h9 : Wn.heap.size = w1'.heap.size := by rw [← eWn]; simp [World.setCell]
            omega
          have hbx : Boxed Wn (Z.heap.size + 1) 22 (.slice A' (1 + m) c') := by rw [← eWn]; exact HVK.out.set _
          have hro : Wn.ownsRow W1.heap.size 35 2 (.slice A' (1 + m) c') (1 + m) ([.string x.1, .int .i64 x.2] ++ rowv pre.reverse) := by rw [← eWn]; exact row_keep hown' (fun k h1 h2 => Below.heap_setCell _ _ _ _ (by show k ≠ Z.heap.size + 1; omega))
          have hbw : Below w3.heap.size w3 Wn := by
            rw [← eWn]
            exact ((hB.trans (hba.mono (by omega))).grown hgrow (by omega) (fun k e => by have e2 := Option.some.inj e; omega)).setCell (p := ⟨Z.heap.size + 1, 0, none⟩) (by show w3.heap.size ≤ Z.heap.size + 1; omega) _
          rw [eWn]
          refine ⟨keepsU_same hsz hsame (by omega), kpT_same (M := fun k => k = Z.heap.size + 1) hv (by unfold Quiet; decide) rfl hsz hsame, ⟨_, hbx, ?_⟩, fun k h1 h2 => (hsame k (by omega) h2).trans (hold k h1 h2), hbw, by omega⟩
          have e1 : (pre ++ [x]).reverse = x :: pre.reverse := by simp
          have e2 : (x :: pre.reverse).length = 1 + m := by rw [List.length_cons, HLM.out]; omega
          have e3 : (pre ++ [x]).length = 1 + m := by rw [← e2, ← e1, List.length_reverse]
          first
            | (rw [e1, e2, rowv_cons]; exact hro)
            | (rw [e1, e3, rowv_cons]; exact hro)
      case done2 =>
        rintro D2 zs W3 hD2 e92 ⟨⟨v2, hv2, hrow2⟩, hold2, hB2, hW2⟩ hK2
        obtain ⟨hall, hzl, en0, hk, r3, t3, hw3⟩ := HALL.out
        obtain ⟨hD1, hK1, hys, hyl, hv, hrow⟩ := HD1.out
        obtain ⟨hold, hB1, hW1⟩ := HO1.out
        have hzr : zs.reverse = t.ks.zip t.vs := by rw [e92, List.reverse_reverse, hall]
        have hzn : zs.reverse.length = n0 := by rw [hzr, hzl, en0]
        have hv3 : Boxed W3 Z.heap.size 22 v := (hold2 _ (by omega) (by omega)).trans hv
        have hrow3 : W3.ownsRow Za.heap.size 35 2 v ys.length (rowv ys) := row_keep hrow (fun k h1 h2 => hold2 k h2 (by omega))
        have hK13 : W3.heap[D1]? = some (.deferred (some [])) := (hold2 D1 (Array.getElem?_eq_some_iff.1 hK1).1 (by omega)).trans hK1
        have hMd : ∀ D ∈ ds, W3.heap[D]? = some (.deferred (some [])) := fun D hD => by
          have h1 := HM.out.1 D hD
          have h2 := (Array.getElem?_eq_some_iff.1 h1).1
          exact (hold2 D (by omega) (by omega)).trans ((hold D (by omega) (by omega)).trans ((Kept.of HBZ.out).at h1))
        obtain ⟨Au, cu, rfl, hu1, hu2⟩ := own_got hrow3
        obtain ⟨Ad, cd, rfl, hd1, hd2⟩ := own_got hrow2
        have hfz : (t.ks.zip t.vs).filter (fun x => kpF (L ⟨#[]⟩) (L x.1)) = t.ks.zip t.vs := List.filter_eq_self.2 (fun _ _ => kpF_nil _)
        have hgu : GoAt W3 (.slice Au (ys.map mkE).length cu) (atPl t (plc t.ks (fun k => kpF (L ⟨#[]⟩) (L k)))) := by
          rw [← got_eq t hk, hfz, ← hys]
          exact ⟨Au, cu, rfl, hu1, hu2⟩
        have hgd : GoAt W3 (.slice Ad (zs.reverse.map mkE).length cd) (atPl t (plc t.ks (fun k => kpF (L ⟨#[]⟩) (L k)))) := by
          rw [← got_eq t hk, hfz, ← hzr]
          exact ⟨Ad, cd, rfl, hd1, hd2⟩
        have enu : (ys.map mkE).length = n0 := by rw [List.length_map, hyl]
        have end_ : (zs.reverse.map mkE).length = n0 := by rw [List.length_map, hzn]
        rw [enu] at hgu hv3
        rw [end_] at hgd hv2
        have hl8 : t.ks.length < 100000000000 := by omega
        have hrt := r3.below hB2
        have q1 := Aside0.mk (fun W1 (h : Below W3.heap.size W3 W1) => fromRtC W1 t hk hl8 _ _ _ _ _ (hrt.below h) ⟨#[]⟩)
        have q2 := Aside0.mk (fun W1 (h : Below W3.heap.size W3 W1) pv (hp : PlAt W1 pv (plc t.ks (fun k => kpF (L ⟨#[]⟩) (L k)))) => theseC W1 t hk _ _ _ _ _ (hrt.below h) (plc t.ks (fun k => kpF (L ⟨#[]⟩) (L k))) (fun i hi => plc_mem hi) (by have := plc_len t.ks (fun k => kpF (L ⟨#[]⟩) (L k)); omega) _ (hgu.below h) pv hp)
        have q3 := Aside0.mk (fun W1 (h : Below W3.heap.size W3 W1) pv (hp : PlAt W1 pv (plc t.ks (fun k => kpF (L ⟨#[]⟩) (L k)))) => theseC W1 t hk _ _ _ _ _ (hrt.below h) (plc t.ks (fun k => kpF (L ⟨#[]⟩) (L k))) (fun i hi => plc_mem hi) (by have := plc_len t.ks (fun k => kpF (L ⟨#[]⟩) (L k)); omega) _ (hgd.below h) pv hp)
        have hbm := (Kept.of hB2).at HM3.out.1
        have g1 := hv3.cell
        have g2 := hv2.cell
        have m0 : W3.cell? ⟨w1.heap.size, 0, none⟩ = some (.slice A0 n0 c0) := by rw [blk_cell hbm]; rfl
        have m1 : W3.cell? ⟨w1.heap.size, 1, none⟩ = some (.slice A1 n1 c1) := by rw [blk_cell hbm]; rfl
        have m2 : W3.cell? ⟨w1.heap.size, 2, none⟩ = some (.slice A2 n2 c2) := by rw [blk_cell hbm]; rfl
        have m3 : W3.cell? ⟨w1.heap.size, 3, none⟩ = some (.slice A3 n3 c3) := by rw [blk_cell hbm]; rfl
        have m4 : W3.cell? ⟨w1.heap.size, 4, none⟩ = some (.slice A4 n4 c4) := by rw [blk_cell hbm]; rfl
        have HBn := Aside0.mk (below_drewA (Below.refl W3.heap.size W3))
        have hD12 : D1 < W1.heap.size := (Array.getElem?_eq_some_iff.1 hK1).1
        have HEND := Aside0.mk (And.intro hMd (And.intro hK13 (And.intro hK2 (And.intro hB2 (And.intro hD1 (And.intro hD2 (And.intro hD12 (And.intro sZ (And.intro s3z hW1)))))))))
        have HC0 := Aside0.mk (And.intro g1 (And.intro g2 (And.intro m0 (And.intro m1 (And.intro m2 (And.intro m3 m4))))))
        clear hMd hK13 hK2 hB2 hD1 hD2 hD12 sZ s3z hW1 hrt hgu hgd hl8 hbm hfz enu end_ hrow3 hv3 hv2 hrow2 hold2 hW2 hzr hzn hold hB1 hK1 hys hyl hv hrow hall hzl en0 hk r3 t3 hw3 e92 b1 b2 hB3a k3 k31 hs31 hB b2' hW hu1 hu2 hd1 hd2 hz2 hz1 hz0 hi0 hBZ
        gi_wp2_with fail
        refine wpIn_wide.2 ?_
        refine Code.wp_mono NoPanic.imp ?_
        go_region_held3 (fun Y => Y.cell? ⟨Z.heap.size, 0, none⟩ = some (.slice Au n0 cu) ∧ Y.cell? ⟨Z.heap.size + 1, 0, none⟩ = some (.slice Ad n0 cd) ∧ Y.cell? ⟨w1.heap.size, 0, none⟩ = some (.slice A0 n0 c0) ∧ Y.cell? ⟨w1.heap.size, 1, none⟩ = some (.slice A1 n1 c1) ∧ Y.cell? ⟨w1.heap.size, 2, none⟩ = some (.slice A2 n2 c2) ∧ Y.cell? ⟨w1.heap.size, 3, none⟩ = some (.slice A3 n3 c3) ∧ Y.cell? ⟨w1.heap.size, 4, none⟩ = some (.slice A4 n4 c4))
          (first | exact ⟨g1, g2, m0, m1, m2, m3, m4⟩ | exact ⟨(Kept.of HBn.out).cell HC0.out.1, (Kept.of HBn.out).cell HC0.out.2.1, (Kept.of HBn.out).cell HC0.out.2.2.1, (Kept.of HBn.out).cell HC0.out.2.2.2.1, (Kept.of HBn.out).cell HC0.out.2.2.2.2.1, (Kept.of HBn.out).cell HC0.out.2.2.2.2.2.1, (Kept.of HBn.out).cell HC0.out.2.2.2.2.2.2⟩)
          (first
            | (go_at_call 28; refine (q1.out _ HBn.out).mono ?_; rintro e W4 ⟨Ap, np, cp, rfl, hp, B1⟩; have HP := Aside0.mk hp; have n0_ := Aside0.mk (belowAt HBn.out B1); clear hp HBn; have HBn := n0_; clear n0_ B1)
            | (go_at_call 23; (with_reducible refine (q2.out _ HBn.out _ HP.out).mono ?_); rintro e W5 ⟨rfl, B2⟩; have n0_ := Aside0.mk (belowAt HBn.out B2); clear HBn HP; have HBn := n0_; clear n0_ B2)
            | (go_at_call 23; (with_reducible refine (q3.out _ HBn.out _ HP.out).mono ?_); rintro e W6 ⟨rfl, B2⟩; have n0_ := Aside0.mk (belowAt HBn.out B2); clear HBn HP; have HBn := n0_; clear n0_ B2))
        refine NoPanic.normal ?_
        gi_wp2_with fail
        have HE := HEND.out
        obtain ⟨e1, e2, e3, e4, e5, e6, e7, e8, e9, e10⟩ := HE
        have hm := HM.out
        have hi := HI.out
        have hi2 := HI2.out
        have kn := Kept.of HBn.out
        obtain ⟨hwr, f1, f2, f3⟩ := HI3.out
        rw [hwr]
        refine HJK.out.2 _ _ (Handed.intro (k - 1) f1 (HJK.out.1 _ _ _ ⟨i + 1, _, _, _, _, _, _, _, _, _, _, _, _, _, _, _, _, _, _, _, _, _, _, _, _, _, _, _, _, _, _, _, _, _, _, _, _, _, _, _, _, D2 :: D1 :: ds, rfl, ⟨f2, f3⟩, ⟨?m1, ?m2, ?m3⟩, ⟨e4.trans (HBn.out.mono e4.size)⟩⟩))
        case m1 =>
          intro D hD
          rcases List.mem_cons.1 hD with rfl | hD
          · exact kn.at e3
          · rcases List.mem_cons.1 hD with rfl | hD
            · exact kn.at e2
            · exact kn.at (e1 D hD)
        case m2 =>
          have hz : ∀ D ∈ ds, D < Z.heap.size := fun D hD => (Array.getElem?_eq_some_iff.1 (hm.1 D hD)).1
          refine List.nodup_cons.2 ⟨fun h => ?_, List.nodup_cons.2 ⟨fun h => ?_, hm.2.1⟩⟩
          · rcases List.mem_cons.1 h with h | h
            · omega
            · have := hz _ h; omega
          · have := hz _ h; omega
        case m3 =>
          intro D hD
          rcases List.mem_cons.1 hD with rfl | hD
          · omega
          · rcases List.mem_cons.1 hD with rfl | hD
            · omega
            · exact hm.2.2 D hD
  · have hi2 : i = 2 := by have := HI.out; omega
    have d1 : decide ((i : Int) < 2) = false := by simp; omega
    have HI2 := Aside0.mk hi2
    clear hi hi2
    gi_wp2
    refine leaves_marks (b := w3.heap.size) ds Z HBz.out.size HM.out.1 HM.out.2.1 HM.out.2.2 (fun W' hW' => ?_)
    exact ⟨_, results_tmp rfl _ _ _, rfl, (HALL.out.2.2.2.2.2.2.trans (HBz.out.mono (by have := HALL.out.2.2.2.2.2.2.size; omega))).trans (hW'.mono (by have := HALL.out.2.2.2.2.2.2.size; omega))⟩
end Go.Proofs.Ytjhgknagmiekeaa.V
set_option linter.unusedVariables false
set_option linter.unusedSimpArgs false
namespace Go.Proofs.Ytjhgknagmiekeaa.R
open Go.ChangeShapes Go.WideShapes Go.Deep Go.RowKit
open Go.Proofs.YtjhgknagmiekeaaW.PrintWords Go.Proofs.Ytjhgknagmiekeaa.K
section
variable {H : Type} {enc : TypeId × Value → H} {P : Program} {w : World} {base : Nat} {spare : Nat → Bool} {held : Bool}
theorem open_slice_fields {t e : TypeId} {fs : Array Field} {fuel : Nat} {cs : List Value} {x : DataW H × List MemPlace} (ht : P.underlying t = some (.slice e)) (he : P.underlying e = some (.struct fs))
    (hone : oneCellFields P fs = true) (hC : P.cellsOf e = fs.size) (h : DataW.trod enc P w base spare held fuel t cs = some x) :
    (cs = [.slice none 0 0] ∧ x = (.nil, [])) ∨
    ∃ (a : Addr) (len cap m : Nat) (D : Nat → DataW H) (Pl : Nat → List MemPlace), cs = [.slice (some a) len cap] ∧ base ≤ a.block ∧ len ≤ cap ∧ cap ≤ maxLen ∧ m = (if spare a.block then cap else len) ∧
      x = (.slice ((List.range len).map D) ((List.range (m - len)).map fun j => D (len + j)), MemPlace.row a (m * fs.size) ++ (List.range m).flatMap Pl) ∧
      ∀ i, i < m → ∃ (ys : List (DataW H × List MemPlace)) (n : Nat), D i = .agg (ys.map (·.1)) ∧ Pl i = ys.flatMap (·.2) ∧ ys.length = fs.size ∧
        ∀ (j : Nat) (f : Field), fs[j]? = some f → ∃ (v : Value) (y : DataW H × List MemPlace), w.cell? (a.add (i * fs.size + j)) = some v ∧ ys[j]? = some y ∧ DataW.trod enc P w base spare held n f.type [v] = some y := by
  rcases open_slice ht h with h0 | ⟨a, len, cap, m, n, D, Pl, hcs, hb, hl, hm, hmm, hx, hi⟩
  · exact .inl h0
  · refine .inr ⟨a, len, cap, m, D, Pl, hcs, hb, hl, hm, hmm, by rw [hC] at hx; exact hx, fun i him => ?_⟩
    obtain ⟨cs', hc, ht'⟩ := hi i him
    rw [hC] at hc
    obtain ⟨ys, n', hn', hy, hlen, hyl, hf⟩ := DataW.trod_struct he ht'
    obtain ⟨_, hcl, hat⟩ := World.cells?_some hc
    simp only [Prod.mk.injEq] at hy
    refine ⟨ys, n', hy.1, hy.2, hyl, fun j f hj => ?_⟩
    obtain ⟨ho, hk⟩ := hone_of hone j f hj
    have hjl : j < fs.size := (Array.getElem?_eq_some_iff.1 hj).1
    have hcell := hat j hjl
    have hv : cs'[j]? = some (cs'[j]'(by omega)) := List.getElem?_eq_getElem (by omega)
    have h1 := hf j f hj
    rw [ho, hk] at h1
    have hone' : (cs'.drop j).take 1 = [cs'[j]'(by omega)] := by
      rw [List.drop_eq_getElem_cons (by omega)]
      rfl
    rw [hone'] at h1
    have hys : ys[j]? = some (ys[j]'(by omega)) := List.getElem?_eq_getElem (by omega)
    refine ⟨_, _, ?_, hys, h1.trans hys⟩
    rw [← Go.Deep.add_add, hcell, hv]
end
def dE {H : Type} (p : S35) : DataW H := .agg [.lit (.string p.f0.data.toList), .lit (.int .i64 p.f1)]
theorem open_entries {H : Type} {enc : TypeId × Value → H} {W : World} {base : Nat} {spare : Nat → Bool} {held : Bool} {a : Option Addr} {len cap : Nat} {d : DataW H} {ps : List MemPlace}
    (h : DataW.Trod enc Try.prog W base spare held 22 (.slice a len cap) d ps) :
    ∃ l : List S35, len = l.length ∧ l.length ≤ cap ∧ Kd.C k35 W a l.length l ∧ ((d = .nil ∧ l = []) ∨ ∃ sp, d = .slice (l.map dE) sp) := by
  obtain ⟨fuel, hf⟩ := h
  rcases open_slice_fields (fs := #[_, _]) Try.underlying22 Try.underlying35 (by kernel_rfl) (by kernel_rfl) hf with ⟨hcs, hx⟩ | ⟨ad, len', cap', m, D, Pl, hcs, _, hl, hm, hmm, hx, hi⟩
  · simp [Value.cells] at hcs
    obtain ⟨rfl, rfl, rfl⟩ := hcs
    obtain ⟨rfl, _⟩ := Prod.mk.inj hx
    exact ⟨[], rfl, by simp, Kd.C_nil k35 W, .inl ⟨rfl, rfl⟩⟩
  · simp [Value.cells] at hcs
    obtain ⟨rfl, rfl, rfl⟩ := hcs
    obtain ⟨hx, _⟩ := Prod.mk.inj hx
    subst hx
    have hlm : len ≤ m := by rw [hmm]; split; exact hl; exact Nat.le_refl _
    have each : ∀ i : Nat, ∃ p : S35, i < len → D i = dE p ∧ W.cell? (ad.add (i * 2)) = some (.string p.f0) ∧ W.cell? (ad.add (i * 2 + 1)) = some (.int .i64 p.f1) := by
      intro i
      by_cases hil : i < len
      · obtain ⟨ys, n, hD, _, hyl, hj⟩ := hi i (by omega)
        obtain ⟨v0, y0, c0, e0, t0⟩ := hj 0 _ rfl
        obtain ⟨v1, y1, c1, e1, t1⟩ := hj 1 _ rfl
        obtain ⟨s0, q0, r0, w0⟩ := DataW.trod_string Try.underlying9 t0
        obtain ⟨n1, q1, r1, w1⟩ := DataW.trod_int Try.underlying3 t1
        simp only [List.cons.injEq, and_true] at q0 q1
        subst q0 q1 r0 r1
        refine ⟨⟨s0, n1⟩, fun _ => ⟨?_, c0, c1⟩⟩
        have hys : ys = [(.lit (.string s0.data.toList), []), (.lit (.int .i64 n1), [])] := by
          match ys, hyl, e0, e1 with
          | [a, b], _, e0, e1 => simp at e0 e1; rw [e0, e1]
        rw [hD, hys]
        rfl
      · exact ⟨⟨⟨#[]⟩, 0⟩, fun h => absurd h hil⟩
    obtain ⟨g, hg⟩ := Classical.axiomOfChoice each
    refine ⟨(List.range len).map g, by simp, by simpa using hl, ?_, .inr ⟨(List.range (m - len)).map fun j => D (len + j), ?_⟩⟩
    · have hlen : ((List.range len).map g).length = len := by simp
      rw [hlen]
      refine ⟨hlen, by unfold maxLen at hm; omega, fun _ => ⟨ad, rfl, fun j p hp => ?_⟩⟩
      have hj : j < len := by have := (List.getElem?_eq_some_iff.1 hp).1; rw [hlen] at this; exact this
      have hpe : p = g j := by
        rw [List.getElem?_map, List.getElem?_range hj] at hp
        simpa using hp.symm
      subst hpe
      obtain ⟨_, c0, c1⟩ := hg j hj
      refine ⟨_, rfl, k35_mk W (g j), fun i u hu => ?_⟩
      match i, hu with
      | 0, hu => simp at hu; subst hu; exact c0
      | 1, hu => simp at hu; subst hu; exact c1
    · congr 1
      rw [List.map_map]
      apply List.map_congr_left
      intro j hj
      exact (hg j (List.mem_range.1 hj)).1
def wt : List S35 → Nat
  | [] => 0
  | p :: ps => p.f0.size + 1 + wt ps
theorem wt_bulk {H : Type} (l : List S35) : wt l ≤ Rows.uptoBulkAll (l.map (dE (H := H))) := by
  induction l with
  | nil => exact Nat.zero_le _
  | cons p ps ih =>
    have e : p.f0.data.toList.length = p.f0.size := T.L_len _
    simp only [List.map_cons, Rows.uptoBulkAll, wt, dE, Rows.uptoBulk, e]
    omega
theorem wt_of {H : Type} {d : DataW H} {l : List S35} (h : (d = .nil ∧ l = []) ∨ ∃ sp, d = .slice (l.map dE) sp) : wt l ≤ Rows.uptoBulk d := by
  rcases h with ⟨rfl, rfl⟩ | ⟨sp, rfl⟩
  · exact Nat.zero_le _
  · have := wt_bulk (H := H) l
    simp only [Rows.uptoBulk]
    omega
theorem wt_len : ∀ (l : List S35), l.length ≤ wt l
  | [] => Nat.zero_le _
  | p :: ps => by have := wt_len ps; simp only [List.length_cons, wt]; omega
theorem wt_mem : ∀ (l : List S35) (p : S35), p ∈ l → p.f0.size ≤ wt l
  | q :: l, p, h => by
    simp only [wt]
    rcases List.mem_cons.1 h with e | e
    · rw [e]; omega
    · have := wt_mem l p e; omega
end Go.Proofs.Ytjhgknagmiekeaa.R
