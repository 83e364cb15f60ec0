/- joined: V10g V15 V20 V21 V22 V16h V6OU N13 N11 N14 N12 N8 N15 -/
import Derived.Test.YtjhgknagmiekeaaJD13
import Derived.Test.YtjhgknagmiekeaaJD15
import Derived.Stop.RegionWithIn
import Derived.RangeFuncBox
import Derived.Test.YtjhgknagmiekeaaJD12
import Derived.Test.YtjhgknagmiekeaaJD10
import Derived.Deep.RegionHeld3
import Derived.Test.YtjhgknagmiekeaaJD9
import Derived.Test.YtjhgknagmiekeaaJD6
set_option linter.unusedVariables false
set_option linter.unusedSimpArgs false
namespace Go.Proofs.Ytjhgknagmiekeaa.V
open Go.Proofs.Ytjhgknagmiekeaa.VOU (below_drewA)
open Go.RowKit Go.Lib Go.Proofs Go.Shelf
open Go.Proofs.Ytjhgknagmiekeaa.T Go.Proofs.Ytjhgknagmiekeaa.N Go.Proofs.Ytjhgknagmiekeaa.K
open Go.Proofs.YtjhgknagmiekeaaW.PrintWords hiding blk_cell
theorem own_weak {w : World} {b b' : Nat} {e : TypeId} {size : Nat} {v : Value} {n : Nat} {xs : List Value} (h : w.ownsRow b e size v n xs) (hb : b' ≤ b) : w.ownsRow b' e size v n xs := by
  refine ⟨h.1, ?_⟩
  rcases h.2 with h2 | ⟨g, cap, cur, h1, h2, h3⟩
  · exact .inl h2
  · exact .inr ⟨g, cap, cur, h1, Nat.le_trans hb h2, h3⟩
theorem appended2 {W w1 : World} {n₁ n₀ B : Nat} {t e : TypeId} {size : Nat} {v v' : Value} {k m : Nat} {xs ys : List Value} {tmp : Obj} {M : Nat → Prop}
    (hv : Boxed W B t v) (hte : t ≠ e) (ht : t ≠ 60) (he : e ≠ 60) (hrow : W.ownsRow n₁ e size v k xs) (hn₁ : n₁ ≤ W.heap.size) (hn₀ : n₀ ≤ n₁) (hB : n₀ ≤ B) (hM : M B)
    (hown' : w1.ownsRow n₁ e size v' m ys) (hgrow : (W.alloc tmp).grownBy w1 v.ownBlock) :
    Boxed w1 B t v ∧ Boxed (w1.setCell ⟨B, 0, none⟩ v') B t v' ∧ (w1.setCell ⟨B, 0, none⟩ v').ownsRow n₁ e size v' m ys ∧ KeepsOthers W (w1.setCell ⟨B, 0, none⟩ v') ∧ Below n₀ W (w1.setCell ⟨B, 0, none⟩ v') ∧ KpM n₁ M W (w1.setCell ⟨B, 0, none⟩ v') ∧ (∀ k, k < n₁ → k ≠ B → (w1.setCell ⟨B, 0, none⟩ v').heap[k]? = W.heap[k]?) := by
  obtain ⟨a1, a2, a3, a4, a5⟩ := hv.appended hte (own_weak hrow hn₀) (Nat.le_trans hn₀ hn₁) hB (own_weak hown' hn₀) hgrow
  have hne : ∀ k, k < n₁ → some k ≠ v.ownBlock := fun k hk e9 => by
    rcases hrow.2 with ⟨rfl, _⟩ | ⟨g, cap, cur, rfl, hb, _, _⟩
    · simp [Value.ownBlock] at e9
    · obtain rfl : k = g := by simpa [Value.ownBlock] using e9
      omega
  have hlow : ∀ k, k < n₁ → k ≠ B → (w1.setCell ⟨B, 0, none⟩ v').heap[k]? = W.heap[k]? := fun k hk hkB => by
    rw [Below.heap_setCell _ _ _ k hkB]
    exact (hgrow.block k (by rw [World.size_alloc]; omega) (hne k hk)).trans (Below.heap_alloc _ _ _ (by omega))
  refine ⟨a1, a2, hown'.kept (grownBy_setCell' w1 B v') (.inr (a1.not_row hte hown').symm), a4, a5, ⟨a5.size, fun k o hk h1 h2 => ?_, fun k cs fr hk => ?_⟩, hlow⟩
  · exact (hlow k h1 (fun e9 => h2 (by rw [e9]; exact hM))).trans hk
  · have hkB : k ≠ B := fun e9 => by
      subst e9
      rw [show W.heap[k]? = _ from hv] at hk
      injection hk with h1
      injection h1 with _ h2 _
      exact ht h2
    have hlt := (Array.getElem?_eq_some_iff.1 hk).1
    rw [Below.heap_setCell _ _ _ k hkB]
    refine (hgrow.block k (by rw [World.size_alloc]; omega) (fun e9 => ?_)).trans ((Below.heap_alloc _ _ _ (by omega)).trans hk)
    rcases hrow.2 with ⟨rfl, _⟩ | ⟨g, cap, cur, rfl, hb, hgb, _⟩
    · simp [Value.ownBlock] at e9
    · obtain rfl : k = g := by simpa [Value.ownBlock] using e9
      rw [hk] at hgb
      injection hgb with h1
      injection h1 with _ h2 _
      exact he h2.symm
theorem cell_two_new (w : World) (x y : Value) (t : TypeId) : ∀ j u, [x, y][j]? = some u → (w.alloc (.cells #[x, y] t)).cell? ((⟨w.heap.size, 0, none⟩ : Addr).add j) = some u := by
  intro j u hj
  have h := World.alloc_heap_new w (.cells #[x, y] t)
  match j, hj with
  | 0, hj => cases hj; show World.cell? _ ⟨_, 0, none⟩ = _; rw [blk_cell h]; rfl
  | 1, hj => cases hj; show World.cell? _ ⟨_, 1, none⟩ = _; rw [blk_cell h]; rfl
  | j + 2, hj => cases hj
end Go.Proofs.Ytjhgknagmiekeaa.V
set_option linter.unusedVariables false
set_option linter.unusedSimpArgs false
namespace Go.Proofs.Ytjhgknagmiekeaa.V
open Go.RowKit Go.Lib Go.Proofs Go.Shelf
open Go.Proofs.Ytjhgknagmiekeaa.T
open Go.Proofs.YtjhgknagmiekeaaW.PrintWords hiding blk_cell
def TreeTy (t : TypeId) : Prop := t = 58 ∨ t = 117 ∨ t = 124 ∨ t = 127
structure FarB (X : Nat → Prop) (W W' : World) : Prop where
  off : ∀ k, X k → ∀ cs t fr, W.heap[k]? = some (.cells cs t fr) → ¬ TreeTy t
  same : ∀ k, ¬ X k → k < W.heap.size → W'.heap[k]? = W.heap[k]?
theorem FarB.at {X : Nat → Prop} {W W' : World} (h : FarB X W W') {b : Nat} {cs : Array Value} {t : TypeId} {fr : Nat × Nat} (hv : W.heap[b]? = some (.cells cs t fr)) (ht : TreeTy t) : W'.heap[b]? = some (.cells cs t fr) :=
  (h.same b (fun e => h.off b e _ _ _ hv ht) (Array.getElem?_eq_some_iff.1 hv).1).trans hv
theorem FarB.trans {X : Nat → Prop} {A B C : World} (h : FarB X A B) (k : FarB (fun _ => False) B C) : FarB X A C := ⟨h.off, fun j h1 h2 => by
  have e := h.same j h1 h2
  have h3 : j < B.heap.size := by
    have h4 : A.heap[j]? = some A.heap[j] := Array.getElem?_eq_getElem h2
    rw [h4] at e
    exact (Array.getElem?_eq_some_iff.1 e).1
  exact (k.same j (fun x => x) h3).trans e⟩
theorem farB_row {X : Nat → Prop} {W W' : World} (h : FarB X W W') {v : Value} {ks : List Nd} (hr : Row W v (ptrs ks)) : Row W' v (ptrs ks) := by
  rcases hr with hr | ⟨ad, c, hv, hr⟩
  · exact .inl hr
  · refine .inr ⟨ad, c, hv, fun i hi => ?_⟩
    obtain ⟨h1, cs, fr, h2⟩ := hr i hi
    have h3 := h.at h2 (.inl rfl)
    have eb : (ad.add i).block = ad.block := by unfold Addr.add; split <;> rfl
    exact ⟨(World.cell?_of_block (by rw [eb]; exact h3.trans h2.symm) : W'.cell? (ad.add i) = W.cell? (ad.add i)).trans h1, cs, fr, h3⟩
theorem farB_leaf {X : Nat → Prop} {W W' : World} (h : FarB X W W') {o : Option Lf} (hl : LfAt W o) : LfAt W' o := fun l e => h.at (hl l e) (.inr (.inr (.inr rfl)))
mutual
theorem farB_nd {X : Nat → Prop} {W W' : World} (h : FarB X W W') : ∀ t : Nd, NdAt W t → NdAt W' t
  | .mk b label leaf kids mark, hn => by
    unfold NdAt at hn ⊢
    obtain ⟨⟨kv, h1, h2⟩, h3, h4, h5⟩ := hn
    exact ⟨⟨kv, h.at h1 (.inr (.inl rfl)), farB_row h h2⟩, farB_leaf h h3, farB_nds h kids h4, h5⟩
theorem farB_nds {X : Nat → Prop} {W W' : World} (h : FarB X W W') : ∀ ks : List Nd, NdsAt W ks → NdsAt W' ks
  | [], _ => by unfold NdsAt; trivial
  | n :: r, hn => by
    unfold NdsAt at hn ⊢
    exact ⟨farB_nd h n hn.1, farB_nds h r hn.2⟩
end
theorem farB_tr {X : Nat → Prop} {W W' : World} (h : FarB X W W') {tb : Nat} {root : Nd} (ht : Tr W tb root) : Tr W' tb root := ⟨⟨h.at ht.at_.blk (.inr (.inr (.inl rfl))), farB_nd h root ht.at_.root⟩, ht.fine, ht.vals⟩
theorem farB_box {W : World} {B : Nat} {t : TypeId} {v : Value} (hv : Boxed W B t v) (ht : ¬ TreeTy t) (v' : Value) : FarB (fun k => k = B) W (W.setCell ⟨B, 0, none⟩ v') := by
  refine ⟨fun k hk cs t' fr h => ?_, fun k hk h1 => Below.heap_setCell _ _ _ k hk⟩
  subst hk
  rw [show W.heap[k]? = _ from hv] at h
  cases h
  exact ht
end Go.Proofs.Ytjhgknagmiekeaa.V
set_option linter.unusedVariables false
set_option linter.unusedSimpArgs false
namespace Go.Proofs.Ytjhgknagmiekeaa.V
open Go.RowKit Go.Lib Go.Proofs Go.Proofs.Ytjhgknagmiekeaa.T
variable {F : Fence} {n : Nat} {P : Program}
def Quiet (t : TypeId) : Prop := t = 4 ∨ t = 9 ∨ t = 24 ∨ t = 60 ∨ t = 110 ∨ t = 111 ∨ t = 132
def qObj (o : Obj) : Prop := o.isCells = false ∨ ∃ cs t fr, o = .cells cs t fr ∧ Quiet t
structure KeepsU (B : Nat) (W W' : World) : Prop where
 size : W.heap.size ≤ W'.heap.size
 same : ∀ (k : Nat) (o : Obj), B ≤ k → W.heap[k]? = some o → qObj o → W'.heap[k]? = some o
theorem KeepsU.trans {B : Nat} {X Y Z : World} (h : KeepsU B X Y) (k : KeepsU B Y Z) : KeepsU B X Z := ⟨Nat.le_trans h.size k.size, fun i o hB hi ho => k.same i o hB (h.same i o hB hi ho) ho⟩
theorem KeepsU.of {B : Nat} {W W' : World} (h : Below W.heap.size W W') : KeepsU B W W' := ⟨h.size, fun k o _ hk _ => (Kept.of h).at hk⟩
theorem KeepsU.refl (B : Nat) (W : World) : KeepsU B W W := KeepsU.of (Below.refl _ _)
theorem KeepsU.up {B B' : Nat} {W W' : World} (h : KeepsU B W W') (hB : B ≤ B') : KeepsU B' W W' := ⟨h.size, fun k o hk h1 h2 => h.same k o (Nat.le_trans hB hk) h1 h2⟩
theorem KeepsU.put {B l : Nat} (W : World) (o : Obj) (h : l < B) : KeepsU B W (W.putObj l o) := by
 have hg := grownBy_putObj' W l o
 exact ⟨hg.size, fun k x hk h1 _ => (hg.block k (Array.getElem?_eq_some_iff.1 h1).1 (fun e => by cases e; omega)).trans h1⟩
theorem KeepsU.set {B b : Nat} (W : World) (v : Value) (h : b < B) : KeepsU B W (W.setCell ⟨b, 0, none⟩ v) := by
 have hg := grownBy_setCell' W b v
 exact ⟨hg.size, fun k x hk h1 _ => (hg.block k (Array.getElem?_eq_some_iff.1 h1).1 (fun e => by cases e; omega)).trans h1⟩
def ownPostU {α : Type} (B : Nat) (Kp : World → World → Prop) (I : List α → World → Prop) (Ix : Code → List α → World → Prop) (xs : List α) (W : World) : Exit → Act → World → Prop
 | .normal, _, W' => KeepsU B W W' ∧ Kp W W' ∧ I xs W'
 | .ret, _, W' => KeepsU B W W' ∧ Ix .ret xs W'
 | .exit id, _, W' => KeepsU B W W' ∧ Ix (.exit id) xs W'
 | .goto t, _, W' => KeepsU B W W' ∧ Ix (.goto t) xs W'
 | .panic _, _, _ => False
 | .outgrown, _, _ => False
def OwnT {β : Type} (B : Nat) (I : β → World → Prop) : Prop :=
 ∀ s W W' row, I s W → W.grownBy W' row → (∀ r, row = some r → B ≤ r ∧ ∃ o : Obj, W.heap[r]? = some o ∧ (o.isCells = false ∨ ∃ b : Bool, o = .cells #[.bool b] 4 (0, 0))) → I s W'
theorem OwnT.putObj {β : Type} {B : Nat} {I : β → World → Prop} (h : OwnT B I) {s : β} {W : World} {l : Nat} {o : Obj} (o' : Obj) (hs : I s W) (hB : B ≤ l) (hl : W.heap[l]? = some o) (ho : o.isCells = false) : I s (W.putObj l o') :=
 h s W _ (some l) hs (grownBy_putObj' W l o') (fun r e => by cases e; exact ⟨hB, o, hl, .inl ho⟩)
theorem OwnT.alloc {β : Type} {B : Nat} {I : β → World → Prop} (h : OwnT B I) {s : β} {W : World} (o : Obj) (hs : I s W) : I s (W.alloc o) :=
 h s W _ none hs (World.grownBy_alloc W o none) (fun r e => by cases e)
theorem OwnT.and {β : Type} {B : Nat} {I I' : β → World → Prop} (h : OwnT B I) (h' : OwnT B I') : OwnT B (fun s W => I s W ∧ I' s W) := fun s W W' row hs hg hr => ⟨h s W W' row hs.1 hg hr, h' s W W' row hs.2 hg hr⟩
theorem OwnT.bool {β : Type} {B : Nat} {I : β → World → Prop} (h : OwnT B I) {s : β} {W : World} {l : Nat} {b : Bool} (v' : Value) (hs : I s W) (hB : B ≤ l) (hl : Boxed W l 4 (.bool b)) : I s (W.setCell ⟨l, 0, none⟩ v') :=
 h s W _ (some l) hs (grownBy_setCell' W l v') (fun r e => by cases e; exact ⟨hB, _, hl, .inr ⟨b, rfl⟩⟩)
def SeqO {α : Type} (F : Fence) (n : Nat) (P : Program) (g : Nat) (lb : Array Value) (encs : α → Array Value) (Kp : World → World → Prop) (Ok S Sp : List α → Prop) (N : Nat) (w : World) : Prop :=
 ∀ (l : Nat) (J Jx : List α → World → Prop) (W : World), Below w.heap.size w W → l < W.heap.size → OwnT W.heap.size J → OwnT W.heap.size Jx →
  (∀ m pre x W1, J pre W1 → pre.length < N → Ok (pre ++ [x]) → YieldAt F m P l (encs x) W1 fun e W' => KeepsU W.heap.size W1 W' ∧ ((e = .returned (.bool true) ∧ J (pre ++ [x]) W' ∧ Kp W1 W') ∨ (e = .returned (.bool false) ∧ Jx (pre ++ [x]) W'))) →
  J [] W → CallsIn F n P g (#[.func (.yield l) #[] #[]] ++ lb) W fun e W' => (∃ v, e = .returned v) ∧ ((∃ xs, S xs ∧ J xs W') ∨ (∃ pre, Sp pre ∧ Jx pre W'))
theorem ownBelow {β : Type} {B : Nat} {J : β → World → Prop} (h : OwnT B J) {s : β} {W W' : World} (hs : J s W) (hb : Below W.heap.size W W') : J s W' :=
 h s W W' none hs ⟨hb.os, hb.tape, hb.output, hb.size, fun k hk _ => hb.block k hk⟩ (fun r e => by cases e)
theorem keep_old {A B : World} {row : Option Nat} {n0 k : Nat} {o : Obj} (hg : A.grownBy B row) (hr : ∀ r, row = some r → n0 ≤ r) (hk : k < n0) (h : A.heap[k]? = some o) : B.heap[k]? = some o :=
 (hg.block k (Array.getElem?_eq_some_iff.1 h).1 (fun e => by have := hr k e.symm; omega)).trans h
theorem wpIn_rangeFuncO {α : Type} {g : Operand} {ps : Array Tmp} {assign body : Code} {Q : Exit → Act → World → Prop} {a : Act} {w : World}
  (hro : F.round = none) (h1 : 1 ≤ n) {gf : Nat} {lb : Array Value} (hg : a.eval g = .func (.func gf) #[] lb) (hFg : F.fn gf) (eg : ∀ args w, (callFunc gf args).run P w = .ok (.enter gf args) w)
  {encs : α → Array Value} {Kp : World → World → Prop} {Ok S Sp : List α → Prop} {N : Nat} {w0 : World} (hseq : SeqO F (n - 1) P gf lb encs Kp Ok S Sp N w0)
  (hKt : ∀ {A B C : World}, Kp A B → Kp B C → Kp A C) (hKb : ∀ (W : World) (o o' : Obj), W.heap[w.heap.size + 1]? = some o → o.isCells = false → Kp W (W.putObj (w.heap.size + 1) o')) (hb0 : Below w0.heap.size w0 w) (hps : ∀ x, (encs x).size = ps.size)
  (I : List α → World → Prop) (Ix : Code → List α → World → Prop) (hI : OwnT w.heap.size I) (hIx : ∀ c, OwnT w.heap.size (Ix c)) (h0 : I [] w) (Ax : α → Act → World → Prop) (hAx : ∀ x a', OwnT w.heap.size (fun (_ : Unit) W => Ax x a' W))
  (hassign : ∀ (l m : Nat) (pre : List α) (x : α) (W : World) (K : Act → World → Prop), I pre W → Ok (pre ++ [x]) → (∀ a' W', KeepsU w.heap.size W W' → Kp W W' → I pre W' → Ax x a' W' → K a' W') →
   assign.wpIn (F.inRound l) m P (Exit.then K (fun _ _ _ => False)) { tmps := (ps.zip (encs x)).foldl (fun t (p, v) => t.setIfInBounds p v) a.tmps, defers := [] } W)
  (hbody : ∀ (l m : Nat) (pre : List α) (x : α) (a' : Act) (W : World), w.heap.size ≤ l → (∃ r, W.heap[l]? = some (.loop r)) → w.heap.size + 2 ≤ W.heap.size → I pre W → Ax x a' W → pre.length < N → Ok (pre ++ [x]) → body.wpIn (F.inRound l) m P (ownPostU w.heap.size Kp I Ix (pre ++ [x]) W) a' W)
  (hdone : ∀ (D : Nat) (xs : List α) (W : World), w.heap.size ≤ D → S xs → I xs W → W.heap[D]? = some (.deferred (some [])) → Q .normal { a with defers := { target := .collected D, args := #[] } :: a.defers } W)
  (hstop : ∀ (D : Nat) (c : Code) (pre : List α) (W : World), w.heap.size ≤ D → Sp pre → Ix c pre W → W.heap[D]? = some (.deferred (some [])) → c.wpIn F n P Q { a with defers := { target := .collected D, args := #[] } :: a.defers } W) :
  (Code.rangeFunc g ps assign body).wpIn F n P Q a w := by
 refine wpIn_rangeFunc ?_
 intro fn hfn
 rw [hro]
 obtain ⟨rec, hrec⟩ : ∃ rec : LoopState → Option Code → Loop, rec = fun st pe => { state := st, pending := pe, fn, tmps := a.tmps, params := ps, assign, body, defers := w.heap.size } := ⟨_, rfl⟩
 obtain ⟨W1, hW1⟩ : ∃ W1, (w.alloc (.deferred (some []))).alloc (.loop (rec .ready none)) = W1 := ⟨_, rfl⟩
 have hs1 : W1.heap.size = w.heap.size + 2 := by rw [← hW1]; simp
 have hL1 : W1.heap[w.heap.size + 1]? = some (.loop (rec .ready none)) := by
  rw [← hW1]; have := World.alloc_heap_new (w.alloc (.deferred (some []))) (.loop (rec .ready none)); rwa [World.size_alloc] at this
 have hK1 : W1.heap[w.heap.size]? = some (.deferred (some [])) := by
  rw [← hW1]; exact (Below.heap_alloc _ _ _ (by simp)).trans (World.alloc_heap_new w _)
 have hI1 : I [] W1 := by rw [← hW1]; exact hI.alloc _ (hI.alloc _ h0)
 have hb1 : Below w0.heap.size w0 W1 := by
  rw [← hW1]; exact hb0.trans ((((Below.refl _ w).alloc (Nat.le_refl _) _).alloc (by simp) _).mono hb0.size)
 refine ⟨w.heap.size + 1, [{ target := .collected w.heap.size, args := #[] }], W1, { target := .fn (.func gf) lb, args := #[.func (.yield (w.heap.size + 1)) #[] #[]] }, W1, gf,
  #[.func (.yield (w.heap.size + 1)) #[] #[]] ++ lb, W1, ?_, ?_, ?_, ?_, fun _ => h1, ?_⟩
 ·rw [← hW1, hrec]; exact run_enterLoop_outer _ _ _ _ _
 ·simp only [resolve, hg]
  simp [go_sem]
 ·intro f' hf'; simp [Target.leads] at hf'; subst hf'; exact hFg
 ·simp [invoke, go_sem, eg]
 ·refine (hseq (w.heap.size + 1)
   (fun pre W => (I pre W ∧ w.heap.size + 2 ≤ W.heap.size) ∧ W.heap[w.heap.size + 1]? = some (.loop (rec .ready none)) ∧ W.heap[w.heap.size]? = some (.deferred (some [])))
   (fun pre W => ∃ c, Ix c pre W ∧ W.heap[w.heap.size + 1]? = some (.loop (rec .done (some c))) ∧ W.heap[w.heap.size]? = some (.deferred (some [])))
   W1 hb1 (by omega)
   (fun s A B row hs hg' hr => ⟨⟨hI s A B row hs.1.1 hg' (fun r e => ⟨by have := (hr r e).1; omega, (hr r e).2⟩), Nat.le_trans hs.1.2 hg'.size⟩, keep_old hg' (fun r e => (hr r e).1) (by omega) hs.2.1, keep_old hg' (fun r e => (hr r e).1) (by omega) hs.2.2⟩)
   (fun s A B row hs hg' hr => by
    obtain ⟨c, hc, hl, hk⟩ := hs
    exact ⟨c, hIx c s A B row hc hg' (fun r e => ⟨by have := (hr r e).1; omega, (hr r e).2⟩), keep_old hg' (fun r e => (hr r e).1) (by omega) hl, keep_old hg' (fun r e => (hr r e).1) (by omega) hk⟩)
   ?_ ⟨⟨hI1, by omega⟩, hL1, hK1⟩).mono ?_
  ·rintro m pre x W ⟨⟨hi, hsz⟩, hl, hk⟩ hlen hok
   have hlt : w.heap.size + 1 < W.heap.size := (Array.getElem?_eq_some_iff.1 hl).1
   have hy := run_yield (P := P) (args := encs x) hl (by rw [hrec]; exact hps x)
   rw [hrec] at hy
   refine ⟨fn, _, assign, body, hy, roundIn_of_wpIn hfn (hassign _ _ pre x W _ hi hok ?_)⟩
   clear hy
   intro a' Wa hkfa hkpa hia hax
   replace hl := hkfa.same _ _ (by omega) hl (.inl rfl)
   replace hk := hkfa.same _ _ (Nat.le_refl _) hk (.inl rfl)
   replace hsz : w.heap.size + 2 ≤ Wa.heap.size := Nat.le_trans hsz hkfa.size
   replace hlt : w.heap.size + 1 < Wa.heap.size := (Array.getElem?_eq_some_iff.1 hl).1
   refine ⟨_, run_beginRound hl (by rw [hrec]), ?_⟩
   have hl2 : (Wa.putObj (w.heap.size + 1) (.loop { rec .ready none with state := .busy })).heap[w.heap.size + 1]? = some (.loop { rec .ready none with state := .busy }) := World.putObj_heap_same hlt
   have hk2 : (Wa.putObj (w.heap.size + 1) (.loop { rec .ready none with state := .busy })).heap[w.heap.size]? = some (.deferred (some [])) := (World.putObj_heap_other (by omega)).trans hk
   have hw2 : Kp Wa (Wa.putObj (w.heap.size + 1) (.loop { rec .ready none with state := .busy })) := hKb _ _ _ hl rfl
   have hg2 := (grownBy_putObj' Wa (w.heap.size + 1) (.loop { rec .ready none with state := .busy })).size
   refine wpIn_mono (hbody _ _ pre x a' _ (by omega) ⟨_, hl2⟩ (Nat.le_trans hsz hg2) (hI.putObj _ hia (by omega) hl rfl) ((hAx x a').putObj (s := ()) _ hax (by omega) hl rfl) hlen hok) ?_
   have fin : ∀ (jump : Option Code) (W3 : World), KeepsU w.heap.size (Wa.putObj (w.heap.size + 1) (.loop { rec .ready none with state := .busy })) W3 →
     (Instr.endRound (w.heap.size + 1) jump).run P W3 = .ok (.bool jump.isNone) (W3.putObj (w.heap.size + 1) (.loop (rec (if jump.isNone then .ready else .done) jump))) ∧
     W3.heap[w.heap.size + 1]? = some (.loop { rec .ready none with state := .busy }) ∧
     (W3.putObj (w.heap.size + 1) (.loop (rec (if jump.isNone then .ready else .done) jump))).heap[w.heap.size + 1]? = some (.loop (rec (if jump.isNone then .ready else .done) jump)) ∧
     (W3.putObj (w.heap.size + 1) (.loop (rec (if jump.isNone then .ready else .done) jump))).heap[w.heap.size]? = some (.deferred (some [])) ∧
     w.heap.size + 2 ≤ (W3.putObj (w.heap.size + 1) (.loop (rec (if jump.isNone then .ready else .done) jump))).heap.size := fun jump W3 hk3 => by
    have hl3 := hk3.same _ _ (by omega) hl2 (.inl rfl)
    have := run_endRound (P := P) jump hl3
    have h9 := (Array.getElem?_eq_some_iff.1 hl3).1
    have h8 := (grownBy_putObj' W3 (w.heap.size + 1) (.loop (rec (if jump.isNone then .ready else .done) jump))).size
    rw [hrec] at this ⊢
    rw [hrec] at h8
    exact ⟨this, by rw [hrec] at hl3; exact hl3, World.putObj_heap_same h9, (World.putObj_heap_other (by omega)).trans (hk3.same _ _ (Nat.le_refl _) hk2 (.inl rfl)), by omega⟩
   have kf : ∀ (W3 : World) (o : Obj), KeepsU w.heap.size (Wa.putObj (w.heap.size + 1) (.loop { rec .ready none with state := .busy })) W3 → KeepsU W1.heap.size W (W3.putObj (w.heap.size + 1) o) := fun W3 o hk3 =>
    (((hkfa.up (by omega)).trans (KeepsU.put Wa _ (by omega))).trans (hk3.up (by omega))).trans (KeepsU.put W3 o (by omega))
   rintro e a3 W3 hp
   cases e with
   | normal =>
    obtain ⟨hk3, hkp3, hi3⟩ := hp
    obtain ⟨hr, hl3, hl4, hk4, hs4⟩ := fin none W3 hk3
    exact ⟨_, _, hr, kf _ _ hk3, .inl ⟨rfl, ⟨⟨hI.putObj _ hi3 (by omega) hl3 rfl, hs4⟩, hl4, hk4⟩, hKt hkpa (hKt (hKt hw2 hkp3) (hKb _ _ _ hl3 rfl))⟩⟩
   | ret =>
    obtain ⟨hk3, hi3⟩ := hp
    obtain ⟨hr, hl3, hl4, hk4, hs4⟩ := fin (some .ret) W3 hk3
    exact ⟨_, _, hr, kf _ _ hk3, .inr ⟨rfl, .ret, (hIx _).putObj _ hi3 (by omega) hl3 rfl, hl4, hk4⟩⟩
   | exit id =>
    obtain ⟨hk3, hi3⟩ := hp
    obtain ⟨hr, hl3, hl4, hk4, hs4⟩ := fin (some (.exit id)) W3 hk3
    exact ⟨_, _, hr, kf _ _ hk3, .inr ⟨rfl, .exit id, (hIx _).putObj _ hi3 (by omega) hl3 rfl, hl4, hk4⟩⟩
   | goto t =>
    obtain ⟨hk3, hi3⟩ := hp
    obtain ⟨hr, hl3, hl4, hk4, hs4⟩ := fin (some (.goto t)) W3 hk3
    exact ⟨_, _, hr, kf _ _ hk3, .inr ⟨rfl, .goto t, (hIx _).putObj _ hi3 (by omega) hl3 rfl, hl4, hk4⟩⟩
   | panic ch => exact hp.elim
   | outgrown => exact hp.elim
  ·rintro e W2 ⟨⟨v, rfl⟩, (⟨xs, hS, ⟨hi, -⟩, hl, hk⟩ | ⟨pre, hSp, c, hi, hl, hk⟩)⟩
   ·exact ⟨none, _, by have := run_endLoop (P := P) hl (by rw [hrec]; simp); rw [hrec] at this; exact this, hdone _ xs _ (Nat.le_refl _) hS (hI.putObj _ hi (by omega) hl rfl) ((World.putObj_heap_other (by omega)).trans hk)⟩
   ·exact ⟨some c, _, by have := run_endLoop (P := P) hl (by rw [hrec]; simp); rw [hrec] at this; exact this, hstop _ c pre _ (Nat.le_refl _) hSp ((hIx c).putObj _ hi (by omega) hl rfl) ((World.putObj_heap_other (by omega)).trans hk)⟩
end Go.Proofs.Ytjhgknagmiekeaa.V
set_option linter.unusedVariables false
set_option linter.unusedSimpArgs false
namespace Go.Proofs.Ytjhgknagmiekeaa.V
open Go.RowKit Go.Lib Go.Proofs Go.Proofs.Ytjhgknagmiekeaa.T Go.Proofs.Ytjhgknagmiekeaa.VOA
open Go.Proofs.YtjhgknagmiekeaaW.PrintWords hiding blk_cell
attribute [local go_sem] Oper.semAt_some
structure KpT (n₁ : Nat) (M : Nat → Prop) (W W' : World) : Prop where
 size : W.heap.size ≤ W'.heap.size
 low : ∀ (k : Nat) (o : Obj), W.heap[k]? = some o → k < n₁ → ¬ M k → W'.heap[k]? = some o
 typ : ∀ (k : Nat) (cs : Array Value) (t : TypeId) (fr : Nat × Nat), Quiet t → W.heap[k]? = some (Obj.cells cs t fr) → W'.heap[k]? = some (Obj.cells cs t fr)
theorem KpT.trans {n₁ : Nat} {M : Nat → Prop} {A B C : World} (h : KpT n₁ M A B) (k : KpT n₁ M B C) : KpT n₁ M A C :=
 ⟨Nat.le_trans h.size k.size, fun i o hi h1 h2 => k.low i o (h.low i o hi h1 h2) h1 h2, fun i cs t fr ht hi => k.typ i cs t fr ht (h.typ i cs t fr ht hi)⟩
theorem KpT.of {n₁ : Nat} {M : Nat → Prop} {W W' : World} (h : Below W.heap.size W W') : KpT n₁ M W W' :=
 ⟨h.size, fun k o hk _ _ => (Kept.of h).at hk, fun k cs t fr _ hk => (Kept.of h).at hk⟩
theorem KpT.putObj {n₁ : Nat} {M : Nat → Prop} (W : World) (l : Nat) (o o' : Obj) (hn : n₁ ≤ l) (hl : W.heap[l]? = some o) (hc : o.isCells = false) : KpT n₁ M W (W.putObj l o') := by
 have hg := grownBy_putObj' W l o'
 refine ⟨hg.size, fun k x hk h1 h2 => ?_, fun k cs t fr _ hk => ?_⟩
 ·exact (hg.block k (Array.getElem?_eq_some_iff.1 hk).1 (fun e => by cases e; omega)).trans hk
 ·refine (hg.block k (Array.getElem?_eq_some_iff.1 hk).1 (fun e => ?_)).trans hk
  cases e
  rw [hk] at hl
  cases hl
  cases hc
structure KpQ (W W' : World) : Prop where
 size : W.heap.size ≤ W'.heap.size
 typ : ∀ (k : Nat) (cs : Array Value) (t : TypeId) (fr : Nat × Nat), Quiet t → W.heap[k]? = some (Obj.cells cs t fr) → W'.heap[k]? = some (Obj.cells cs t fr)
theorem KpQ.trans {A B C : World} (h : KpQ A B) (k : KpQ B C) : KpQ A C := ⟨Nat.le_trans h.size k.size, fun i cs t fr ht hi => k.typ i cs t fr ht (h.typ i cs t fr ht hi)⟩
theorem KpQ.of {W W' : World} (h : Below W.heap.size W W') : KpQ W W' := ⟨h.size, fun k cs t fr _ hk => (Kept.of h).at hk⟩
theorem KpT.q {n₁ : Nat} {M : Nat → Prop} {W W' : World} (h : KpT n₁ M W W') : KpQ W W' := ⟨h.size, h.typ⟩
theorem KpQ.putObj (W : World) (l : Nat) (o o' : Obj) (hl : W.heap[l]? = some o) (hc : o.isCells = false) : KpQ W (W.putObj l o') := by
 have hg := grownBy_putObj' W l o'
 refine ⟨hg.size, fun k cs t fr _ hk => ?_⟩
 refine (hg.block k (Array.getElem?_eq_some_iff.1 hk).1 (fun e => ?_)).trans hk
 cases e
 rw [hk] at hl
 cases hl
 cases hc
theorem ownT_size {β : Type} {B : Nat} (n : Nat) : OwnT B (fun (_ : β) W => n ≤ W.heap.size) := fun _ X Y row hs hg hr => Nat.le_trans hs hg.size
theorem ownT_pure {β : Type} (B : Nat) (p : β → Prop) : OwnT B (fun s (_ : World) => p s) := fun _ _ _ _ hs _ _ => hs
theorem ownT_old {β : Type} {B : Nat} (b : Nat) (f : β → Obj) (hb : b < B) : OwnT B (fun s W => W.heap[b]? = some (f s)) := fun _ X Y row hs hg hr => keep_old hg (fun r e => (hr r e).1) hb hs
theorem ownT_below {β : Type} {B n : Nat} {w : World} (hn : n ≤ w.heap.size) (hB : n ≤ B) : OwnT B (fun (_ : β) W => Below n w W) := fun _ X Y row hs hg hr => hs.grown hg (Nat.le_trans hn hs.size) (fun k e => Nat.le_trans hB (hr k e).1)
theorem callsIn_round {m : Nat} {P : Program} {f : FuncId} {args : Array Value} {w : World} {R : Ending → World → Prop} (l : Nat) (h : CallsIn Fence.wide m P f args w R) : CallsIn (Fence.wide.inRound l) m P f args w R := h
end Go.Proofs.Ytjhgknagmiekeaa.V
set_option linter.unusedVariables false
set_option linter.unusedSimpArgs false
namespace Go.Proofs.Ytjhgknagmiekeaa.V
open Go.RowKit Go.Lib Go.Proofs Go.Proofs.Ytjhgknagmiekeaa.T Go.Proofs.Ytjhgknagmiekeaa.VOA
open Go.Proofs.YtjhgknagmiekeaaW.PrintWords hiding blk_cell
attribute [local go_sem] Oper.semAt_some
end Go.Proofs.Ytjhgknagmiekeaa.V
set_option linter.unusedVariables false
set_option linter.unusedSimpArgs false
namespace Go.Proofs.Ytjhgknagmiekeaa.V
open Go.Proofs.Ytjhgknagmiekeaa.VOU (below_drewA)
open Go.RowKit Go.Lib Go.Proofs Go.Shelf
open Go.Proofs.Ytjhgknagmiekeaa.T Go.Proofs.Ytjhgknagmiekeaa.N Go.Proofs.Ytjhgknagmiekeaa.K
open Go.Proofs.YtjhgknagmiekeaaW.PrintWords hiding blk_cell
theorem farB_ownT {W W' : World} {row : Option Nat} {B : Nat} (hg : W.grownBy W' row) (hr : ∀ r, row = some r → B ≤ r ∧ ∃ o : Obj, W.heap[r]? = some o ∧ (o.isCells = false ∨ ∃ b : Bool, o = .cells #[.bool b] 4 (0, 0))) : FarB (fun k => row = some k) W W' := by
  refine ⟨fun k hk cs t fr h => ?_, fun k hk h1 => hg.block k h1 (fun e => hk e.symm)⟩
  obtain ⟨-, o, h1, h2⟩ := hr k hk
  rw [h] at h1
  cases h1
  rcases h2 with h2 | ⟨b, h2⟩
  · cases h2
  · injection h2 with e1 e2 e3
    subst e1
    subst e2
    unfold TreeTy
    decide
theorem ownT_tr {β : Type} {B : Nat} (tb : Nat) (root : Nd) : OwnT B (fun (_ : β) W => Tr W tb root) := fun s X Y row hs hg hr => farB_tr (farB_ownT hg hr) hs
theorem ownT_row {β : Type} {B : Nat} (base : Nat) (e : TypeId) (size : Nat) (he : e ≠ 4) (v : Value) (n : Nat) (xs : List Value) : OwnT B (fun (_ : β) W => W.ownsRow base e size v n xs) := fun s X Y row hs hg hr => by
  refine own_move hs (fun k hk => ?_)
  obtain ⟨cs, hc⟩ := own_typed hs k hk
  refine hg.block k (Array.getElem?_eq_some_iff.1 hc).1 (fun e9 => ?_)
  obtain ⟨-, o, h1, h2⟩ := hr k e9.symm
  rw [hc] at h1
  cases h1
  rcases h2 with h2 | ⟨b, h2⟩
  · cases h2
  · injection h2 with _ h3 _
    exact he h3
theorem ownT_all {β γ : Type} {B : Nat} {p : γ → β → World → Prop} (h : ∀ g, OwnT B (p g)) : OwnT B (fun s W => ∃ g, p g s W) := fun s X Y row hs hg hr => by
  obtain ⟨g, hs⟩ := hs
  exact ⟨g, h g s X Y row hs hg hr⟩
theorem appendedF {W w1 : World} {n₁ B : Nat} {t e : TypeId} {size : Nat} {v v' : Value} {k m : Nat} {xs ys : List Value} {tmp : Obj}
    (hv : Boxed W B t v) (hrow : W.ownsRow n₁ e size v k xs) (hown' : w1.ownsRow n₁ e size v' m ys) (hgrow : (W.alloc tmp).grownBy w1 v.ownBlock) :
    ∀ j, j < W.heap.size → j ≠ B → some j ≠ v.ownBlock → (w1.setCell ⟨B, 0, none⟩ v').heap[j]? = W.heap[j]? := fun j hj hB ho => by
  rw [Below.heap_setCell _ _ _ j hB]
  exact (hgrow.block j (by rw [World.size_alloc]; omega) ho).trans (Below.heap_alloc _ _ _ hj)
theorem appendedU {W w1 : World} {n₁ B B' : Nat} {t e : TypeId} {size : Nat} {v v' : Value} {k m : Nat} {xs ys : List Value} {tmp : Obj} (he : ¬ Quiet e) (hB : B < B')
    (hv : Boxed W B t v) (hrow : W.ownsRow n₁ e size v k xs) (hown' : w1.ownsRow n₁ e size v' m ys) (hgrow : (W.alloc tmp).grownBy w1 v.ownBlock) : KeepsU B' W (w1.setCell ⟨B, 0, none⟩ v') := by
  refine ⟨?_, fun j o hj h hq => ?_⟩
  · have h1 := hgrow.size
    have h2 := (grownBy_setCell' w1 B v').size
    rw [World.size_alloc] at h1
    omega
  · refine (appendedF hv hrow hown' hgrow j (Array.getElem?_eq_some_iff.1 h).1 (by omega) (fun e9 => ?_)).trans h
    obtain ⟨cs', hc⟩ := own_typed hrow j e9.symm
    rw [hc] at h
    cases h
    rcases hq with hq | ⟨_, _, _, hq, hq2⟩
    · cases hq
    · injection hq with _ h3 _
      subst h3
      exact he hq2
theorem was_parts (tb : Nat) (o : Option Value) : ∃ a b, wasV tb o = .tuple #[ptr tb, a, b] := by
  cases o with
  | none => exact ⟨_, _, rfl⟩
  | some v => exact ⟨_, _, rfl⟩
theorem all_len {root : Nd} {t : Rt} (ha : Agree root t) (hv : t.vs.length = t.ks.length) : (All root).length = t.ks.length := by
  have := congrArg List.length ha
  rw [List.length_map, List.length_map, List.length_zip] at this
  omega
theorem delP (w : World) (tb : Nat) (root : Nd) (h : Tr w tb root) (k : ByteArray) (hk : k.size < 4000000000000) (hs : (All root).length < 3999999999999) :
    Calls Try.prog 39 #[ptr tb, .string k] w fun e w' => ∃ tb' root' a b, e = .returned (.tuple #[ptr tb', a, b]) ∧ Tr w' tb' root' ∧ (∀ r, valT root' r = if r = L k then none else valT root r) ∧ (All root').length ≤ (All root).length ∧ Below w.heap.size w w' := by
  refine (delC w tb root h k hk hs).mono ?_
  rintro e w' ⟨tb', root', rfl, h1, h2, h3, h4⟩
  obtain ⟨a, b, e⟩ := was_parts tb' (valT root (L k))
  exact ⟨tb', root', a, b, by rw [e], h1, h2, h3, h4⟩
end Go.Proofs.Ytjhgknagmiekeaa.V
set_option linter.unusedVariables false
set_option linter.unusedSimpArgs false
namespace Go.Proofs.Ytjhgknagmiekeaa.VOU
open Go.RowKit Go.Lib Go.Proofs Go.Proofs.Ytjhgknagmiekeaa.T Go.Proofs.Ytjhgknagmiekeaa.V
open Go.Proofs.YtjhgknagmiekeaaW.PrintWords hiding blk_cell
theorem seq (w : World) (n NN n₁ : Nat) (M : Nat → Prop) (wB : World) (hkB : Kept wB w) (hnB : wB.heap.size ≤ n₁) (hnw : n₁ ≤ w.heap.size) (hM : ∀ k, k < wB.heap.size → ¬ M k)
    (tb : Nat) (root : Nd) (ht : Tr wB tb root) (bp : Nat) (bt bs bk : Nat) (hc : Closed w bp bt bs bk tb) (p : ByteArray) (hp : Bx w bp p) (hbp : bp < n₁) (hMp : ¬ M bp) (hNN : (ovr (fun q => skU (L p) (L q)) (fun q => kpU (L p) (L q)) ⟨#[]⟩ root).length ≤ NN) :
    SeqO Fence.wide n Try.prog 117 #[ptr bt, ptr bs, ptr bk] (fun x : ByteArray × Int => #[.string x.1, .int .i64 x.2]) (KpM n₁ M) (fun ys => ys <+: (ovr (fun q => skU (L p) (L q)) (fun q => kpU (L p) (L q)) ⟨#[]⟩ root)) (fun ys => ys = (ovr (fun q => skU (L p) (L q)) (fun q => kpU (L p) (L q)) ⟨#[]⟩ root)) (fun ys => ys <+: (ovr (fun q => skU (L p) (L q)) (fun q => kpU (L p) (L q)) ⟨#[]⟩ root)) NN w := by
  intro l J Jx W hw hl hJ hJx hY hJ0
  have hk : Kept w W := Kept.of hw
  have hc2 : Closed W bp bt bs bk tb := ⟨hk.at hc.1, hk.at hc.2.1, hk.at hc.2.2⟩
  have hbx : ∀ W1, Stnd W n₁ M W1 → Bx W1 bp p := fun W1 h => h bp _ (hk.at hp) hbp hMp
  refine callsIn_wide.2 (walked_calls bp l n₁ (fun ys => ys <+: (ovr (fun q => skU (L p) (L q)) (fun q => kpU (L p) (L q)) ⟨#[]⟩ root)) (fun a b h => (List.prefix_append a b).trans h) M J Jx (fun s W1 W2 hs hb => ownBelow hJ hs hb) (fun m pre x W1 h1 h2 => (hY m pre x W1 h1 (by have := h2.length_le; rw [List.length_append, List.length_singleton] at this; omega) h2).mono (fun e W' h => h.2)) W wB (hkB.trans hk (Nat.le_trans hnB hnw)) hnB hM (fun q => skU (L p) (L q)) (fun q => kpU (L p) (L q))
    (fun q W1 h1 => skUC q p bp W1 (hbx W1 h1)) (fun q W1 h1 => kpUC q p bp W1 (hbx W1 h1)) tb root ht bt bs bk W hc2 (Stnd.refl W n₁ M) (Nat.le_trans hnw hw.size) hJ0 (List.prefix_refl _))
end Go.Proofs.Ytjhgknagmiekeaa.VOU
set_option linter.unusedVariables false
set_option linter.unusedSimpArgs false
namespace Go.Proofs.Ytjhgknagmiekeaa.N
open Go.RowKit Go.Proofs.Ytjhgknagmiekeaa.K Go.Proofs.YtjhgknagmiekeaaW.PrintWords Go.Proofs.YtjhgknagmiekeaaW.PrintLast
def lcp : List UInt8 → List UInt8 → List UInt8
  | a :: x, b :: y => if a = b then a :: lcp x y else []
  | _, _ => []
theorem lcp_take : ∀ (x y : List UInt8) (m : Nat), m ≤ x.length → m ≤ y.length → (∀ j, j < m → x[j]? = y[j]?) → (m < x.length → m < y.length → x[m]? ≠ y[m]?) → x.take m = lcp x y
  | [], y, m, h1, h2, h3, h4 => by simp [lcp]
  | a :: x, [], m, h1, h2, h3, h4 => by simp at h2; simp [h2, lcp]
  | a :: x, b :: y, 0, h1, h2, h3, h4 => by
    have := h4 (by simp) (by simp)
    simp at this
    simp [lcp, this]
  | a :: x, b :: y, m + 1, h1, h2, h3, h4 => by
    have h0 := h3 0 (by omega)
    simp at h0
    subst h0
    rw [lcp, if_pos rfl, List.take_succ_cons, lcp_take x y m (by simpa using h1) (by simpa using h2) (fun j hj => by simpa using h3 (j + 1) (by omega)) (fun g1 g2 => by simpa using h4 (by simpa using g1) (by simpa using g2))]
theorem bt_get (s : ByteArray) (j : Nat) (h : j < s.size) : ∃ b, (T.L s)[j]? = some b ∧ bt s j = (b.toNat : Int) := by
  obtain ⟨b, h1, h2⟩ := bt_drop s j h
  refine ⟨b, ?_, h2⟩
  have e : (s.data.toList.drop j)[0]? = some b := by rw [h1]; rfl
  rw [List.getElem?_drop, Nat.add_zero] at e
  exact e
theorem common_lcp {a b : ByteArray} {m : Nat} (h1 : m ≤ a.size) (h2 : m ≤ b.size) (h3 : ∀ j : Nat, j < m → bt a j = bt b j) (h4 : m < a.size → m < b.size → bt a m ≠ bt b m) : T.L (a.extract 0 m) = lcp (T.L a) (T.L b) := by
  rw [T.L_head]
  refine lcp_take _ _ m (by rw [T.L_len]; exact h1) (by rw [T.L_len]; exact h2) (fun j hj => ?_) (fun g1 g2 => ?_)
  · obtain ⟨x, e1, e2⟩ := bt_get a j (by omega)
    obtain ⟨y, e3, e4⟩ := bt_get b j (by omega)
    have := h3 j hj
    rw [e2, e4] at this
    rw [e1, e3]
    congr 1
    exact UInt8.toNat_inj.1 (by omega)
  · rw [T.L_len] at g1 g2
    obtain ⟨x, e1, e2⟩ := bt_get a m g1
    obtain ⟨y, e3, e4⟩ := bt_get b m g2
    have := h4 g1 g2
    rw [e2, e4] at this
    rw [e1, e3]
    intro e
    injection e with e
    rw [e] at this
    exact this rfl
theorem rise_putIn {l : List ByteArray} {n : Nat} {b : Bool} {a : ByteArray} (hr : Rise l) (hc : Cut l a n n) (hb : b = true ↔ a ∈ l) (hb1 : b = true → n < l.length ∧ gd l n = a) : Rise (putIn l n b a) := by
  cases b with
  | true => exact hr
  | false => exact rise_put (b := false) hr hc hb1 hb
theorem with_ex2 (l : List ByteArray) (a : ByteArray) (hlen : l.length < 8796093022208) (hs : Sml l) (hr : Rise l) : ∃ r : List ByteArray, Ev (fun k => musterref03_with.f k l a) r ∧ r.length ≤ l.length + 1 ∧ Rise r ∧ ∀ x, x ∈ r ↔ x ∈ l ∨ x = a := by
  obtain ⟨n, b, h1, h2, h3, h4⟩ := find_ex l a (by omega) hs
  obtain ⟨n', b', w1, w2, w3, w4⟩ := with_ex l a hlen hs
  obtain ⟨c1, c2⟩ := w4 hr
  refine ⟨putIn l n' b' a, w2, putIn_len l n' b' a w1, ?_, mem_putIn w1 w3⟩
  refine rise_putIn hr c1 c2 (fun e => ?_)
  have hm := c2.1 e
  obtain ⟨j, hj, ej⟩ := List.getElem_of_mem hm
  have hjn : j = n' := by
    rw [← gd_get hj] at ej
    rcases Nat.lt_trichotomy j n' with h | h | h
    · have := c1.1 j h
      rw [ej] at this
      exact absurd this (T.blt_irrefl _)
    · exact h
    · have h6 := hr.lt h hj
      rw [ej] at h6
      exact absurd h6 (c1.2 n' (Nat.le_refl _) (by omega))
  subst hjn
  exact ⟨hj, by rw [gd_get hj, ej]⟩
def PathOf (keys : List ByteArray) (i : Nat) (q : List UInt8) : Prop := q = [] ∨ (∃ j, j < i ∧ q = T.L (gd keys j)) ∨ ∃ j, j + 1 < i ∧ q = lcp (T.L (gd keys j)) (T.L (gd keys (j + 1)))
theorem paths_ex2 (keys : List ByteArray) (hlen : keys.length < 1000000000000) (hs : Sml keys) : ∃ r, Ev (fun k => musterref03_Paths.f k keys) r ∧ r.length ≤ 1 + 2 * keys.length ∧ Sml r ∧ 1 ≤ r.length ∧ Rise r ∧ ∀ x, x ∈ r ↔ PathOf keys keys.length (T.L x) := by
  have key : ∀ d i : Nat, keys.length - i = d → i ≤ keys.length → ∀ p : List ByteArray, p.length ≤ 1 + 2 * i → 1 ≤ p.length → Sml p → Rise p → (∀ x, x ∈ p ↔ PathOf keys i (T.L x)) → ∃ r, Ev (fun k => musterref03_Paths.l0 k keys p (i : Int)) r ∧ r.length ≤ 1 + 2 * keys.length ∧ Sml r ∧ 1 ≤ r.length ∧ Rise r ∧ ∀ x, x ∈ r ↔ PathOf keys keys.length (T.L x) := by
    intro d
    induction d with
    | zero =>
      intro i hd hi p hp h1 hsp hr hm
      have e : i = keys.length := by omega
      subst e
      refine ⟨p, Ev.step (f := fun k => some p) (fun k => ?_) (Ev.now _), by omega, hsp, h1, hr, hm⟩
      simp only [musterref03_Paths.l0]
      rw [if_neg (by omega)]
    | succ d ih =>
      intro i hd hi p hp h1 hsp hr hm
      have hlt : i < keys.length := by omega
      have hki := hs _ (gd_mem hlt)
      by_cases h0 : 0 < i
      · have hkp := hs _ (gd_mem (show i - 1 < keys.length by omega))
        obtain ⟨m, c1, c2, c3, c4, c5⟩ := common_ex (gd keys (i - 1)) (gd keys i) hkp
        have hlcp := common_lcp c1 c2 c4 c5
        obtain ⟨r1, w2, l1, w3, w4⟩ := with_ex2 p ((gd keys (i - 1)).extract 0 m) (by omega) hsp hr
        have s1 : Sml r1 := fun x hx => by
          rcases (w4 x).1 hx with h | h
          · exact hsp x h
          · rw [h, ext_size _ _ c1]; omega
        obtain ⟨r2, v2, l2, v3, v4⟩ := with_ex2 r1 (gd keys i) (by omega) s1 w3
        have s2 : Sml r2 := fun x hx => by
          rcases (v4 x).1 hx with h | h
          · exact s1 x h
          · rw [h]; exact hki
        have g2 : 1 ≤ r2.length := by
          have : gd keys i ∈ r2 := (v4 _).2 (.inr rfl)
          exact List.length_pos_of_mem this
        obtain ⟨r, q1, q2, q3, q4, q5, q6⟩ := ih (i + 1) (by omega) (by omega) r2 (by omega) g2 s2 v3 (fun x => by
          rw [v4, w4, hm]
          unfold PathOf
          constructor
          · rintro (((h | ⟨j, h, e⟩ | ⟨j, h, e⟩) | h) | h)
            · exact .inl h
            · exact .inr (.inl ⟨j, by omega, e⟩)
            · exact .inr (.inr ⟨j, by omega, e⟩)
            · refine .inr (.inr ⟨i - 1, by omega, ?_⟩)
              rw [h, hlcp, show i - 1 + 1 = i by omega]
            · exact .inr (.inl ⟨i, by omega, by rw [h]⟩)
          · rintro (h | ⟨j, h, e⟩ | ⟨j, h, e⟩)
            · exact .inl (.inl (.inl h))
            · rcases Nat.lt_or_ge j i with h9 | h9
              · exact .inl (.inl (.inr (.inl ⟨j, h9, e⟩)))
              · have : j = i := by omega
                subst this
                exact .inr (T.L_inj e)
            · rcases Nat.lt_or_ge (j + 1) i with h9 | h9
              · exact .inl (.inl (.inr (.inr ⟨j, h9, e⟩)))
              · have : j = i - 1 := by omega
                subst this
                refine .inl (.inr (T.L_inj ?_))
                rw [e, hlcp, show i - 1 + 1 = i by omega])
        refine ⟨r, ?_, q2, q3, q4, q5, q6⟩
        refine Ev.step (f := fun k => (musterref03_Common.f k (gd keys (i - 1)) (gd keys i)).bind fun c => (musterref03_with.f k p c).bind fun t => (musterref03_with.f k t (gd keys i)).bind fun t2 => musterref03_Paths.l0 k keys t2 ((i + 1 : Nat) : Int)) (fun k => ?_) (Ev.bind c3 (Ev.bind w2 (Ev.bind v2 q1)))
        simp only [musterref03_Paths.l0]
        rw [if_pos (by omega), if_pos (by omega), wsub i h0 (by omega), if_pos (by omega), if_pos (by omega), if_pos (by omega), rdOf_gd, rdOf_gd, wadd i (by omega)]
      · have h00 : i = 0 := by omega
        obtain ⟨r2, v2, l2, v3, v4⟩ := with_ex2 p (gd keys i) (by omega) hsp hr
        have s2 : Sml r2 := fun x hx => by
          rcases (v4 x).1 hx with h | h
          · exact hsp x h
          · rw [h]; exact hki
        have g2 : 1 ≤ r2.length := by
          have : gd keys i ∈ r2 := (v4 _).2 (.inr rfl)
          exact List.length_pos_of_mem this
        obtain ⟨r, q1, q2, q3, q4, q5, q6⟩ := ih (i + 1) (by omega) (by omega) r2 (by omega) g2 s2 v3 (fun x => by
          rw [v4, hm]
          unfold PathOf
          constructor
          · rintro ((h | ⟨j, h, e⟩ | ⟨j, h, e⟩) | h)
            · exact .inl h
            · omega
            · omega
            · exact .inr (.inl ⟨i, by omega, by rw [h]⟩)
          · rintro (h | ⟨j, h, e⟩ | ⟨j, h, e⟩)
            · exact .inl (.inl h)
            · have : j = i := by omega
              subst this
              exact .inr (T.L_inj e)
            · omega)
        refine ⟨r, ?_, q2, q3, q4, q5, q6⟩
        refine Ev.step (f := fun k => (musterref03_with.f k p (gd keys i)).bind fun t2 => musterref03_Paths.l0 k keys t2 ((i + 1 : Nat) : Int)) (fun k => ?_) (Ev.bind v2 q1)
        simp only [musterref03_Paths.l0]
        rw [if_pos (by omega), if_neg (by omega), if_pos (by omega), rdOf_gd, wadd i (by omega)]
  exact key keys.length 0 (by omega) (by omega) [⟨#[]⟩] (by simp) (by simp) (fun x hx => by
    rw [List.mem_singleton] at hx; subst hx; decide) (by unfold Rise; simp) (fun x => by
    rw [List.mem_singleton]
    unfold PathOf
    constructor
    · intro h; exact .inl (by rw [h])
    · rintro (h | ⟨j, h, e⟩ | ⟨j, h, e⟩)
      · exact T.L_inj h
      · omega
      · omega)
end Go.Proofs.Ytjhgknagmiekeaa.N
set_option linter.unusedVariables false
namespace Go.Proofs.Ytjhgknagmiekeaa.N
open Go.RowKit Go.Proofs.Ytjhgknagmiekeaa.K Go.Proofs.YtjhgknagmiekeaaW.PrintWords Go.Proofs.YtjhgknagmiekeaaW.PrintLast
open Go.Proofs.Ytjhgknagmiekeaa.T (Nd Lf Ent All valT findT IntVals mem_all all_rise Fine Tr)
open Go.Proofs.Ytjhgknagmiekeaa.V (valI ovr)
def cutAt {α : Type} (l : List α) (n : Nat) : List α := l.take n ++ l.drop (n + 1)
theorem cutAt_len {α : Type} (l : List α) (n : Nat) (h : n < l.length) : (cutAt l n).length = l.length - 1 := by
  unfold cutAt
  rw [List.length_append, List.length_take, List.length_drop]
  omega
theorem zip_cutAt {α β : Type} (l : List α) (m : List β) (n : Nat) (h : l.length = m.length) : (cutAt l n).zip (cutAt m n) = cutAt (l.zip m) n := by
  unfold cutAt
  rw [List.zip_append (by rw [List.length_take, List.length_take, h])]
  simp only [List.zip, List.take_zipWith, List.drop_zipWith]
theorem cutAt_sub {α : Type} (l : List α) (n : Nat) : (cutAt l n).Sublist l := by
  unfold cutAt
  have h : (l.drop (n + 1)).Sublist (l.drop n) := by
    rw [← List.drop_drop]
    exact List.drop_sublist _ _
  have h2 := (List.Sublist.refl (l.take n)).append h
  rwa [List.take_append_drop] at h2
theorem rise_cut {keys : List ByteArray} (hr : Rise keys) (n : Nat) : Rise (cutAt keys n) := List.Pairwise.sublist ((cutAt_sub keys n).map T.L) hr
theorem mem_cut {z : List (ByteArray × Int)} {n : Nat} {x0 : ByteArray × Int} (hr : z.Pairwise (fun a b => T.L a.1 < T.L b.1)) (hn : z[n]? = some x0) (x : ByteArray × Int) : x ∈ cutAt z n ↔ x ∈ z ∧ x.1 ≠ x0.1 := by
  obtain ⟨hlt, he⟩ := List.getElem?_eq_some_iff.1 hn
  have hz : z = z.take n ++ x0 :: z.drop (n + 1) := by
    rw [← he, ← List.drop_eq_getElem_cons hlt, List.take_append_drop]
  have hr2 := hr
  rw [hz, List.pairwise_append] at hr2
  obtain ⟨-, h2, h3⟩ := hr2
  obtain ⟨h4, -⟩ := List.pairwise_cons.1 h2
  unfold cutAt
  rw [List.mem_append]
  constructor
  · rintro (h | h)
    · refine ⟨List.mem_of_mem_take h, fun e => ?_⟩
      have := h3 x h x0 (by simp)
      rw [e] at this
      exact T.blt_irrefl _ this
    · refine ⟨List.mem_of_mem_drop h, fun e => ?_⟩
      have := h4 x h
      rw [e] at this
      exact T.blt_irrefl _ this
  · rintro ⟨h, hne⟩
    rw [hz, List.mem_append, List.mem_cons] at h
    rcases h with h | rfl | h
    · exact .inl h
    · exact absurd rfl hne
    · exact .inr h
end Go.Proofs.Ytjhgknagmiekeaa.N
set_option linter.unusedVariables false
set_option linter.unusedSimpArgs false
namespace Go.Proofs.Ytjhgknagmiekeaa.N
open Go.RowKit Go.Proofs.Ytjhgknagmiekeaa.K Go.Proofs.YtjhgknagmiekeaaW.PrintWords Go.Proofs.YtjhgknagmiekeaaW.PrintLast
open Go.Proofs.Ytjhgknagmiekeaa.T (Nd Lf Ent All valT findT nodeT Parts IntVals mem_all all_rise Fine Tr)
open Go.Proofs.Ytjhgknagmiekeaa.V (valI ovr pre)
structure RokP (t : Rt) : Prop extends Rok t where
  prise : Rise t.ps
  pmem : ∀ x, x ∈ t.ps ↔ PathOf t.ks t.ks.length (T.L x)
inductive MkR (op : List ByteArray) (om : List Int) (a : ByteArray) : List ByteArray → Int → List Int → Int → Prop
  | nil (x : Int) : MkR op om a [] x [] x
  | keep (q : ByteArray) (P : List ByteArray) (x : Int) (n : Nat) (Mk : List Int) (y : Int) : n < op.length → gd op n = q → ¬ T.L q <+: T.L a → MkR op om a P x Mk y → MkR op om a (q :: P) x (rd om n :: Mk) y
  | fresh (q : ByteArray) (P : List ByteArray) (x : Int) (Mk : List Int) (y : Int) : (q ∈ op → T.L q <+: T.L a) → MkR op om a P (wrap64 (x + 1)) Mk y → MkR op om a (q :: P) x (x :: Mk) y
theorem MkR.len {op : List ByteArray} {om : List Int} {a : ByteArray} {P : List ByteArray} {x y : Int} {Mk : List Int} (h : MkR op om a P x Mk y) : P.length = Mk.length := by
  induction h with
  | nil => rfl
  | keep _ _ _ _ _ _ _ _ _ _ ih => simp [ih]
  | fresh _ _ _ _ _ _ _ ih => simp [ih]
theorem remade_ex2 (op : List ByteArray) (om : List Int) (K : List ByteArray) (V L : List Int) (P0 : List ByteArray) (M0 : List Int) (k0 : List ByteArray) (v0 l0 : List Int) (a : ByteArray) (nx : Int)
    (hop : op.length = om.length) (hopl : op.length < 8796093022208) (hops : Sml op) (hopr : Rise op) (hK : K.length < 1000000000000) (hKs : Sml K) :
    ∃ (P : List ByteArray) (Mk : List Int) (nx' : Int), Ev (fun k => musterref03_remade.f k k0 v0 l0 op om K V L P0 M0 a nx) (K, V, L, P, Mk, nx') ∧ MkR op om a P nx Mk nx' ∧ P.length ≤ 1 + 2 * K.length ∧ Sml P ∧ Rise P ∧ ∀ x, x ∈ P ↔ PathOf K K.length (T.L x) := by
  obtain ⟨P, p1, p2, p3, -, p5, p6⟩ := paths_ex2 K hK hKs
  have key : ∀ d i : Nat, P.length - i = d → i ≤ P.length → ∀ (mk : List Int) (x : Int), mk.length = i → ∃ (Mk : List Int) (nx' : Int), Ev (fun k => musterref03_remade.l0 k a x P (P.length : Int) (i : Int) k0 v0 l0 op om K V L P mk) (K, V, L, P, mk ++ Mk, nx') ∧ MkR op om a (P.drop i) x Mk nx' := by
    intro d
    induction d with
    | zero =>
      intro i hd hi mk x hm
      refine ⟨[], x, Ev.step (f := fun k => some (K, V, L, P, mk ++ [], x)) (fun k => ?_) (Ev.now _), ?_⟩
      · simp only [musterref03_remade.l0]
        rw [if_neg (by omega), List.append_nil]
      · rw [List.drop_eq_nil_of_le (by omega)]
        exact .nil x
    | succ d ih =>
      intro i hd hi mk x hm
      have hlt : i < P.length := by omega
      have hdr : P.drop i = gd P i :: P.drop (i + 1) := by rw [List.drop_eq_getElem_cons hlt, gd_get hlt]
      obtain ⟨n, b, f1, f2, f3, f4⟩ := find_ex op (gd P i) (by omega) hops
      have f5 := (f4 hopr).2
      cases b with
      | true =>
        have hn : n < op.length := (f3 rfl).1
        have ht := starts_pre a (gd P i)
        cases t : pre (T.L a) (T.L (gd P i)) with
        | true =>
          rw [t] at ht
          obtain ⟨Mk, nx', r1, r2⟩ := ih (i + 1) (by omega) (by omega) (mk ++ [x]) (wrap64 (x + 1)) (by simp; omega)
          rw [List.append_assoc, List.singleton_append] at r1
          refine ⟨x :: Mk, nx', Ev.step (f := fun k => (musterref03_Find.f k op (gd P i)).bind fun bt => if bt.2 = true then musterref03_remade.l0 k a (wrap64 (x + 1)) P (P.length : Int) ((i + 1 : Nat) : Int) k0 v0 l0 op om K V L P (mk ++ [x]) else none) (fun k => ?_) (Ev.bind f2 (by simpa using r1)), by rw [hdr]; exact .fresh _ _ _ _ _ (fun _ => (pre_iff _ _).1 t) r2⟩
          simp only [musterref03_remade.l0]
          rw [if_pos (by omega), if_pos (by omega), if_pos (by omega), rdOf_gd, wadd i (by omega), ht]
          cases hq : musterref03_Find.f k op (gd P i) with
          | none => rfl
          | some y =>
            have hy := ev_uniq (fun m => musterref03_Find.mono op (gd P i) m) f2 hq
            subst hy
            simp [hm, show i < 17592186044416 by omega]
        | false =>
          rw [t] at ht
          obtain ⟨Mk, nx', r1, r2⟩ := ih (i + 1) (by omega) (by omega) (mk ++ [rd om n]) x (by simp; omega)
          rw [List.append_assoc, List.singleton_append] at r1
          refine ⟨rd om n :: Mk, nx', Ev.step (f := fun k => (musterref03_Find.f k op (gd P i)).bind fun bt => if bt = ((n : Int), true) then musterref03_remade.l0 k a x P (P.length : Int) ((i + 1 : Nat) : Int) k0 v0 l0 op om K V L P (mk ++ [rd om n]) else none) (fun k => ?_) (Ev.bind f2 (by simpa using r1)), by rw [hdr]; exact .keep _ _ _ n _ _ hn (f3 rfl).2 ((pre_false _ _).1 t) r2⟩
          simp only [musterref03_remade.l0]
          rw [if_pos (by omega), if_pos (by omega), if_pos (by omega), rdOf_gd, wadd i (by omega), ht]
          cases hq : musterref03_Find.f k op (gd P i) with
          | none => rfl
          | some y =>
            have hy := ev_uniq (fun m => musterref03_Find.mono op (gd P i) m) f2 hq
            subst hy
            simp [hm, show i < 17592186044416 by omega, show n < om.length by omega]
      | false =>
        obtain ⟨Mk, nx', r1, r2⟩ := ih (i + 1) (by omega) (by omega) (mk ++ [x]) (wrap64 (x + 1)) (by simp; omega)
        rw [List.append_assoc, List.singleton_append] at r1
        refine ⟨x :: Mk, nx', Ev.step (f := fun k => (musterref03_Find.f k op (gd P i)).bind fun bt => if bt = ((n : Int), false) then musterref03_remade.l0 k a (wrap64 (x + 1)) P (P.length : Int) ((i + 1 : Nat) : Int) k0 v0 l0 op om K V L P (mk ++ [x]) else none) (fun k => ?_) (Ev.bind f2 (by simpa using r1)), by rw [hdr]; exact .fresh _ _ _ _ _ (fun h => absurd (f5.2 h) (by simp)) r2⟩
        simp only [musterref03_remade.l0]
        rw [if_pos (by omega), if_pos (by omega), if_pos (by omega), rdOf_gd, wadd i (by omega)]
        cases hq : musterref03_Find.f k op (gd P i) with
        | none => rfl
        | some y =>
          have hy := ev_uniq (fun m => musterref03_Find.mono op (gd P i) m) f2 hq
          subst hy
          simp [hm, show i < 17592186044416 by omega]
  obtain ⟨Mk, nx', q1, q2⟩ := key P.length 0 (by omega) (by omega) [] nx rfl
  exact ⟨P, Mk, nx', Ev.congr (fun k => rfl) (Ev.bind p1 q1), q2, p2, p3, p5, p6⟩
theorem delete_ex2 (t : Rt) (h : RokP t) (n : Nat) (hn : n < t.ks.length) (a : ByteArray) (nx : Int) (hl : t.ks.length < 100000000000) :
    ∃ (P : List ByteArray) (M : List Int) (nx' : Int), Ev (fun k => musterref03_remade.f k t.ks t.vs t.ls t.ps t.ms (cutAt t.ks n) (cutAt t.vs n) (cutAt t.ls n) [] [] a nx) (cutAt t.ks n, cutAt t.vs n, cutAt t.ls n, P, M, nx') ∧ RokP ⟨cutAt t.ks n, cutAt t.vs n, cutAt t.ls n, P, M⟩ ∧ MkR t.ps t.ms a P nx M nx' := by
  have e1 := cutAt_len t.ks n hn
  have e2 := cutAt_len t.vs n (by rw [h.v]; exact hn)
  have e3 := cutAt_len t.ls n (by rw [h.l]; exact hn)
  have hKs : Sml (cutAt t.ks n) := fun x hx => h.sk x ((cutAt_sub t.ks n).subset hx)
  have hp := h.p
  obtain ⟨P, M, nx', r1, r2, r3, r4, r5, r6⟩ := remade_ex2 t.ps t.ms (cutAt t.ks n) (cutAt t.vs n) (cutAt t.ls n) [] [] t.ks t.vs t.ls a nx h.m (by omega) h.sp h.prise (by omega) hKs
  exact ⟨P, M, nx', r1, ⟨⟨by show (cutAt t.vs n).length = (cutAt t.ks n).length; rw [e1, e2, h.v], by show (cutAt t.ls n).length = (cutAt t.ks n).length; rw [e1, e3, h.l], r2.len, r3, hKs, r4, rise_cut h.rise n⟩, r5, r6⟩, r2⟩
end Go.Proofs.Ytjhgknagmiekeaa.N
set_option linter.unusedVariables false
set_option linter.unusedSimpArgs false
namespace Go.Proofs.Ytjhgknagmiekeaa.N
open Go.RowKit Go.Lib Go.Proofs
open Go.Proofs.Ytjhgknagmiekeaa.K Go.Proofs.YtjhgknagmiekeaaW.PrintWords Go.Proofs.YtjhgknagmiekeaaW.PrintLast
def RtOff (M : Nat → Prop) (w : World) (t : Rt) (v0 v1 v2 v3 v4 : Value) : Prop := ∀ w2 : World, w.heap.size ≤ w2.heap.size → (∀ k, k < w.heap.size → ¬ M k → w2.heap[k]? = w.heap[k]?) → RtAt w2 t v0 v1 v2 v3 v4
theorem RtOff.here {M : Nat → Prop} {w : World} {t : Rt} {v0 v1 v2 v3 v4 : Value} (h : RtOff M w t v0 v1 v2 v3 v4) : RtAt w t v0 v1 v2 v3 v4 := h w (Nat.le_refl _) (fun _ _ _ => rfl)
theorem RtOff.below {M : Nat → Prop} {w w' : World} {t : Rt} {v0 v1 v2 v3 v4 : Value} (h : RtOff M w t v0 v1 v2 v3 v4) (hb : Below w.heap.size w w') : RtOff (fun k => M k ∨ w.heap.size ≤ k) w' t v0 v1 v2 v3 v4 := fun w2 hs hk => h w2 (Nat.le_trans hb.size hs) (fun k h1 h2 => (hk k (Nat.lt_of_lt_of_le h1 hb.size) (fun h3 => h3.elim h2 (fun h4 => by omega))).trans (hb.block k h1))
theorem RtOff.imp {M M' : Nat → Prop} {w : World} {t : Rt} {v0 v1 v2 v3 v4 : Value} (h : RtOff M w t v0 v1 v2 v3 v4) (hm : ∀ k, k < w.heap.size → M' k → M k) : RtOff M' w t v0 v1 v2 v3 v4 := fun w2 hs hk => h w2 hs (fun k h1 h2 => hk k h1 (fun h3 => h2 (hm k h1 h3)))
theorem SlS.c {w : World} {A : Option Addr} {n c : Nat} {xs : List ByteArray} (h : SlS w (.slice A n c) xs) : Kd.C Kd.string w A xs.length xs := by
 obtain ⟨A', c', e, h1, h2⟩ := h
 injection e with e1 e2 e3
 rw [e1]
 exact h2
theorem SlI.c {w : World} {A : Option Addr} {n c : Nat} {xs : List Int} (h : SlI w (.slice A n c) xs) : Kd.C (Kd.int .i64) w A xs.length xs := by
 obtain ⟨A', c', e, h1, h2⟩ := h
 injection e with e1 e2 e3
 rw [e1]
 exact h2
theorem add_block (ad : Addr) (n : Nat) : (ad.add n).block = ad.block := by unfold Addr.add; split <;> rfl
theorem set5_cell {W : World} {b : Nat} {v0 v1 v2 v3 v4 : Value} {a : Addr} {x : Value} (h : W.cell? a = some x) (hne : a.block ≠ b) : (((((W.setCell { block := b, off := 0 } v0).setCell { block := b, off := 1 } v1).setCell { block := b, off := 2 } v2).setCell { block := b, off := 3 } v3).setCell { block := b, off := 4 } v4).cell? a = some x :=
 (World.cell?_of_block (w := W) (V.set5_far W b v0 v1 v2 v3 v4 a.block hne)).trans h
theorem int_at {w : World} {A : Option Addr} {N : Nat} {xs : List Int} (h : Kd.C (Kd.int .i64) w A N xs) (n : Nat) (hn : n < xs.length) : ∃ ad, A = some ad ∧ ad.block < w.heap.size ∧ ∀ W : World, W.heap[ad.block]? = w.heap[ad.block]? → W.cell? (ad.add n) = some (.int .i64 (rd xs n)) := by
 have hl := Kd.C_len h
 obtain ⟨ad, cc, h1, h2, h3, h4⟩ := Kd.C_get h 0 (n : Int) (by omega) (by omega)
 have h5 : cc = [.int .i64 (rd xs n)] := h3
 have h6 := h4 0 (.int .i64 (rd xs n)) (by rw [h5]; rfl)
 have e : (n : Int).toNat * (Kd.int .i64).sz + 0 = n := by rw [show (Kd.int .i64).sz = 1 from rfl]; omega
 rw [e] at h6
 exact ⟨ad, h1, by have := World.block_lt_of_cell? w _ h6; rwa [add_block] at this, fun W hW => (World.cell?_of_block (a := ad.add n) (by rw [add_block]; exact hW)).trans h6⟩
theorem R_far28 {α : Type} {d : Kd α} {e base : Nat} {ok : Nat → Prop} {w w2 : World} {v : Value} {xs : List α} (h : d.R e w base ok v xs) (he : ∀ q, q ∈ e :: d.E → q ≠ 28) (hk : ∀ k, base ≤ k → k < w.heap.size → (∀ cells, w.heap[k]? ≠ some (.cells cells 28 (0, 0))) → w2.heap[k]? = w.heap[k]?) : ∃ A c, v = .slice A xs.length c ∧ xs.length ≤ c ∧ d.C w2 A xs.length xs := by
 refine Kd.R_reads (Kd.R_step (Kd.R_bound h) (fun k h1 h2 => hk k h1.2.1 h1.2.2.1 (fun cells hc => ?_)))
 obtain ⟨q, hq, cells', hc'⟩ := h1.2.2.2
 rw [hc] at hc'
 injection hc' with h3
 injection h3 with _ h4 _
 exact he q hq h4.symm
def DelRt (t t' : Rt) (a : ByteArray) (nx nx' : Int) (old : Int) (b : Bool) : Prop :=
 (b = false ∧ a ∉ t.ks ∧ t' = t ∧ old = 0 ∧ nx' = nx) ∨ ∃ n P M, b = true ∧ n < t.ks.length ∧ gd t.ks n = a ∧ old = rd t.vs n ∧ t' = ⟨cutAt t.ks n, cutAt t.vs n, cutAt t.ls n, P, M⟩ ∧ MkR t.ps t.ms a P nx M nx'
def del_T : Bool × List (List Nat × List Nat) := (true, [([], []), ([0], [0]), ([], []), ([2], [2]), ([], []), ([3, 4], [3, 4]), ([1, 5], [1, 5]), ([], []), ([7], [7]), ([], []), ([9], [9]), ([8, 10], [8, 10]), ([6, 11, 6], [6, 11]), ([0, 1, 2, 3, 4, 5, 6, 7, 8, 9, 10, 11, 12], []), ([13, 12, 12, 0, 1, 2, 3, 4, 5, 6, 7, 8, 9, 10, 11, 12], [12, 13])])
def del_B : List Nat := [0, 1, 0, 4, 0, 28, 63, 0, 128, 0, 512, 1920, 4095, 8191, 16383]
theorem del_bits5 : waitsOk del_T.2 del_B = true := by kernel_rfl
theorem del_bits6 : waitsOk del_T.2 del_B = true := del_bits5
theorem del_bits7 : waitsOk del_T.2 del_B = true := del_bits5
theorem del_tab5 : rtab .any (opsOf Try.f40 5) = del_T := by kernel_rfl
theorem del_tab6 : rtab .any (opsOf Try.f40 6) = del_T := by kernel_rfl
theorem del_tab7 : rtab .any (opsOf Try.f40 7) = del_T := by kernel_rfl
attribute [local go_sem] Oper.semAt_some
set_option maxRecDepth 100000 in
set_option maxHeartbeats 1500000 in
theorem delRtC (Mo : Nat → Prop) (w : World) (t : Rt) (h : RokP t) (v0 v1 v2 v3 v4 : Value) (hm : RtOff Mo w t v0 v1 v2 v3 v4) (a : ByteArray) (nx : Int) (ha : a.size < 4611686018427387904) (hl : t.ks.length < 100000000000) :
  Calls Try.prog 40 #[.agg #[v0, v1, v2, v3, v4], .string a, .int .i64 nx] w fun e w' => ∃ (t' : Rt) (old : Int) (b : Bool) (nx' : Int) (u0 u1 u2 u3 u4 : Value), e = .returned (.tuple #[.agg #[u0, u1, u2, u3, u4], .int .i64 old, .bool b, .int .i64 nx']) ∧ RtOff (fun k => Mo k ∧ k < w.heap.size) w' t' u0 u1 u2 u3 u4 ∧ RokP t' ∧ DelRt t t' a nx nx' old b ∧ Below w.heap.size w w' := by
 obtain ⟨n, b, f1, f2, f3, f4⟩ := find_ex t.ks a (by omega) h.sk
 obtain ⟨hc, hb⟩ := f4 h.rise
 obtain ⟨k, hk⟩ := f2.rounds
 have HM := Aside0.mk hm
 obtain ⟨⟨A0, c0, rfl, p0, q0⟩, ⟨A1, c1, rfl, p1, q1⟩, ⟨A2, c2, rfl, p2, q2⟩, ⟨A3, c3, rfl, p3, q3⟩, ⟨A4, c4, rfl, p4, q4⟩⟩ := hm.here
 have qf := Aside0.mk (fun w1 (hB : Below w.heap.size w w1) => musterref03_Find.calls k A0 c0 t.ks a n b w1 (Kd.C_below q0 hB) p0 hk)
 have ev := h.v
 have el := h.l
 obtain ⟨N, eN⟩ : ∃ N, t.ks.length = N := ⟨_, rfl⟩
 obtain ⟨M3, e3⟩ : ∃ N, t.ps.length = N := ⟨_, rfl⟩
 obtain ⟨M4, e4⟩ : ∃ N, t.ms.length = N := ⟨_, rfl⟩
 rw [eN] at ev el hl f1 p0
 rw [ev] at p1
 rw [el] at p2
 rw [e3] at p3
 rw [e4] at p4
 have HQ := Aside0.mk (And.intro q0 (And.intro q1 (And.intro q2 (And.intro q3 q4))))
 have HP := Aside0.mk (And.intro p0 (And.intro p1 (And.intro p2 (And.intro p3 p4))))
 have HE := Aside0.mk (And.intro eN (And.intro ev (And.intro el (And.intro e3 e4))))
 rw [eN] at qf
 rw [ev, el, eN, e3, e4]
 have HB2 := Aside0.mk (((Below.refl w.heap.size w).alloc (Nat.le_refl _) (Obj.cells #[.slice A0 N c0, .slice A1 N c1, .slice A2 N c2, .slice A3 M3 c3, .slice A4 M4 c4] 28)).alloc (by simp) (Obj.cells #[.slice none 0 0, .slice none 0 0, .slice none 0 0, .slice none 0 0, .slice none 0 0] 28))
 have HW0 := Aside0.mk (show ((w.alloc (Obj.cells #[.slice A0 N c0, .slice A1 N c1, .slice A2 N c2, .slice A3 M3 c3, .slice A4 M4 c4] 28)).alloc (Obj.cells #[.slice none 0 0, .slice none 0 0, .slice none 0 0, .slice none 0 0, .slice none 0 0] 28)).heap[w.heap.size]? = some (.cells #[.slice A0 N c0, .slice A1 N c1, .slice A2 N c2, .slice A3 M3 c3, .slice A4 M4 c4] 28 (0, 0)) ∧ ((w.alloc (Obj.cells #[.slice A0 N c0, .slice A1 N c1, .slice A2 N c2, .slice A3 M3 c3, .slice A4 M4 c4] 28)).alloc (Obj.cells #[.slice none 0 0, .slice none 0 0, .slice none 0 0, .slice none 0 0, .slice none 0 0] 28)).heap[w.heap.size + 1]? = some (Obj.cells #[.slice none 0 0, .slice none 0 0, .slice none 0 0, .slice none 0 0, .slice none 0 0] 28) from
  ⟨(Below.heap_alloc _ _ _ (by simp)).trans (World.alloc_heap_new w _), by have := World.alloc_heap_new (w.alloc (Obj.cells #[.slice A0 N c0, .slice A1 N c1, .slice A2 N c2, .slice A3 M3 c3, .slice A4 M4 c4] 28)) (Obj.cells #[.slice none 0 0, .slice none 0 0, .slice none 0 0, .slice none 0 0, .slice none 0 0] 28); rwa [World.size_alloc] at this⟩)
 have HF := Aside0.mk (And.intro f1 (And.intro f3 (And.intro hc (And.intro hb h))))
 have HL := Aside0.mk (And.intro hl ha)
 clear q0 q1 q2 q3 q4 p0 p1 p2 p3 p4 hk f1 f2 f3 f4 hc hb h ev el eN e3 e4 hm hl
 go_enter Try.func40, Try.ntmps40
 cases b
 all_goals (
  go_wp2_with fail
  go_at_call 91
  refine (qf.out _ HB2.out).mono ?_
  rintro e w2 ⟨rfl, hd⟩
  have HB := Aside0.mk (HB2.out.trans (hd.below.mono HB2.out.size))
  have bb := (hd.below.block _ (Array.getElem?_eq_some_iff.1 HW0.out.1).1).trans HW0.out.1
  have br := (hd.below.block _ (Array.getElem?_eq_some_iff.1 HW0.out.2).1).trans HW0.out.2
  have HBB := Aside0.mk (And.intro bb br)
  have m0 : w2.cell? ⟨w.heap.size, 0, none⟩ = some (.slice A0 N c0) := by rw [blk_cell bb]; rfl
  have z0 : w2.cell? ⟨w.heap.size + 1, 0, none⟩ = some (.slice none 0 0) := by rw [blk_cell br]; rfl
  have g0 : w2.frozen? ⟨w.heap.size + 1, 0, none⟩ = false := by simp [World.frozen?, br]
  have m1 : w2.cell? ⟨w.heap.size, 1, none⟩ = some (.slice A1 N c1) := by rw [blk_cell bb]; rfl
  have z1 : w2.cell? ⟨w.heap.size + 1, 1, none⟩ = some (.slice none 0 0) := by rw [blk_cell br]; rfl
  have g1 : w2.frozen? ⟨w.heap.size + 1, 1, none⟩ = false := by simp [World.frozen?, br]
  have m2 : w2.cell? ⟨w.heap.size, 2, none⟩ = some (.slice A2 N c2) := by rw [blk_cell bb]; rfl
  have z2 : w2.cell? ⟨w.heap.size + 1, 2, none⟩ = some (.slice none 0 0) := by rw [blk_cell br]; rfl
  have g2 : w2.frozen? ⟨w.heap.size + 1, 2, none⟩ = false := by simp [World.frozen?, br]
  have m3 : w2.cell? ⟨w.heap.size, 3, none⟩ = some (.slice A3 M3 c3) := by rw [blk_cell bb]; rfl
  have z3 : w2.cell? ⟨w.heap.size + 1, 3, none⟩ = some (.slice none 0 0) := by rw [blk_cell br]; rfl
  have g3 : w2.frozen? ⟨w.heap.size + 1, 3, none⟩ = false := by simp [World.frozen?, br]
  have m4 : w2.cell? ⟨w.heap.size, 4, none⟩ = some (.slice A4 M4 c4) := by rw [blk_cell bb]; rfl
  have z4 : w2.cell? ⟨w.heap.size + 1, 4, none⟩ = some (.slice none 0 0) := by rw [blk_cell br]; rfl
  have g4 : w2.frozen? ⟨w.heap.size + 1, 4, none⟩ = false := by simp [World.frozen?, br]
  clear bb br hd
  go_wp2_with fail)
 all_goals first | (exfalso; rename_i hq; first | (rw [g0] at hq; cases hq; done) | (rw [g1] at hq; cases hq; done) | (rw [g2] at hq; cases hq; done) | (rw [g3] at hq; cases hq; done) | (rw [g4] at hq; cases hq; done) | (simp only [World.frozen?, World.setCell] at hq; done)) | skip
 rotate_left
 ·clear m0 m1 m2 m3 m4 z0 z1 z2 z3 z4 g0 g1 g2 g3 g4
  have hn : n < N := by have := (HF.out.2.1 (by first | trivial | rfl)).1; rw [HE.out.1] at this; exact this
  obtain ⟨B, eB⟩ : ∃ B, w2.heap.size = B := ⟨_, rfl⟩
  have hB2 : w.heap.size + 2 ≤ B := by have h1 := (Array.getElem?_eq_some_iff.1 HBB.out.2).1; omega
  rw [eB]
  have HB3 := Aside0.mk (HB.out.alloc HB.out.size (Obj.cells #[.slice none 0 0, .slice none 0 0, .slice none 0 0, .slice none 0 0, .slice none 0 0] 28))
  have HU := Aside0.mk (show (w2.alloc (Obj.cells #[.slice none 0 0, .slice none 0 0, .slice none 0 0, .slice none 0 0, .slice none 0 0] 28)).heap[w.heap.size]? = some (.cells #[.slice A0 N c0, .slice A1 N c1, .slice A2 N c2, .slice A3 M3 c3, .slice A4 M4 c4] 28 (0, 0)) ∧ (w2.alloc (Obj.cells #[.slice none 0 0, .slice none 0 0, .slice none 0 0, .slice none 0 0, .slice none 0 0] 28)).heap[w.heap.size + 1]? = some (Obj.cells #[.slice none 0 0, .slice none 0 0, .slice none 0 0, .slice none 0 0, .slice none 0 0] 28) ∧ (w2.alloc (Obj.cells #[.slice none 0 0, .slice none 0 0, .slice none 0 0, .slice none 0 0, .slice none 0 0] 28)).heap[B]? = some (Obj.cells #[.slice none 0 0, .slice none 0 0, .slice none 0 0, .slice none 0 0, .slice none 0 0] 28) from
   ⟨(Below.heap_alloc _ _ _ (by omega)).trans HBB.out.1, (Below.heap_alloc _ _ _ (by omega)).trans HBB.out.2, by rw [← eB]; exact World.alloc_heap_new w2 _⟩)
  have HZ := Aside0.mk (show B < (w2.alloc (Obj.cells #[.slice none 0 0, .slice none 0 0, .slice none 0 0, .slice none 0 0, .slice none 0 0] 28)).heap.size by rw [World.size_alloc, eB]; omega)
  generalize (w2.alloc (Obj.cells #[.slice none 0 0, .slice none 0 0, .slice none 0 0, .slice none 0 0, .slice none 0 0] 28)) = W0 at HB3 HU HZ ⊢
  clear HB HBB eB
  have hNl := HL.out.1
  obtain ⟨n1, en1⟩ : ∃ n1, n + 1 = n1 := ⟨_, rfl⟩
  have ew : IntKind.i64.wrap ((n : Int) + 1) = (n1 : Int) := by rw [IntKind.wrap_i64]; omega
  have hn1 : n1 ≤ N := by omega
  have hnN : n ≤ N := by omega
  have t0 : W0.cell? ⟨w.heap.size, 0, none⟩ = some (.slice A0 N c0) := by rw [blk_cell HU.out.1]; rfl
  have u0 : W0.cell? ⟨B, 0, none⟩ = some (.slice none 0 0) := by rw [blk_cell HU.out.2.2]; rfl
  have hpc := HP.out.1
  have QT : Aside0 (∀ W, Below w.heap.size w W → Kd.C Kd.string W A0 n (t.ks.take n)) := ⟨fun W hW => by
   have h0 := Kd.C_take (m := n) (Kd.C_below HQ.out.1 hW) (by have := HE.out.1; omega)
   have el := HE.out.1
   rwa [show (t.ks.take n).length = n by rw [List.length_take]; omega] at h0⟩
  have QD : Aside0 (∀ W, Below w.heap.size w W → Kd.C Kd.string W (if c0 = n1 then A0 else A0.map (·.add n1)) (N - n1) (t.ks.drop n1)) := ⟨fun W hW => by
   have el := HE.out.1
   have h0 := Kd.C_drop (m := n1) (c := c0) (Kd.C_below HQ.out.1 hW) (by omega) (by omega)
   rw [show n1 * (Kd.string).sz = n1 from Nat.mul_one _] at h0
   rwa [show (t.ks.drop n1).length = N - n1 by rw [List.length_drop]; omega] at h0⟩
  have hnc : n ≤ c0 := by omega
  have hn1c : n1 ≤ c0 := by omega
  obtain ⟨S5, eS5⟩ : ∃ S, W0.heap.size = S := ⟨_, rfl⟩
  have HS5 := Aside0.mk (show B < S5 from by rw [← eS5]; exact HZ.out)
  have HBd : Aside0 (Below S5 W0 W0.drew) := ⟨below_drew (Below.refl _ _)⟩
  have HES := Aside0.mk eS5
  clear eS5
  refine start_ (n := 15) (S := fun w' => w'.cell? ⟨B, 0, none⟩ = some (.slice none 0 0) ∧ w'.cell? ⟨w.heap.size, 0, none⟩ = some (.slice A0 N c0)) (ds := [14]) #[false, false, false, false, false, false, false, false, false, false, false, false, false, false, false] (by kernel_rfl) rfl rfl ⟨u0, t0⟩ (fun hHeld => ?_); refine with_tabW del_tab5 del_bits5 (fun HT_ HW_ => ?_)
  obtain ⟨Wd, eWd⟩ : ∃ Wd, W0.drew = Wd := ⟨_, rfl⟩
  rw [eWd] at HBd hHeld ⊢
  clear eWd
  refine pure_ (i := 0) (N := some 25) (v := ?_) (a' := ?_) #[true, false, false, false, false, false, false, false, false, false, false, false, false, false, false] rfl rfl (any_of HT_.out (by kernel_rfl)) (fun _ _ _ h => h) (Or.inl ⟨by rfl, ?_⟩) ?_ ?_
  rotate_left
  ·intro w'
   go_simp
   with_reducible rfl
  rotate_left
  ·simp only [Act.put, List.setIfInBounds_toArray, List.set_cons_zero, List.set_cons_succ, i64_w, i32_w]
   rfl
  refine pure_ (i := 2) (N := some 27) (v := ?_) (a' := ?_) #[true, false, true, false, false, false, false, false, false, false, false, false, false, false, false] rfl rfl (any_of HT_.out (by kernel_rfl)) (fun _ _ _ h => h) (Or.inl ⟨by rfl, ?_⟩) ?_ ?_
  rotate_left
  ·intro w'
   go_simp
   with_reducible rfl
  rotate_left
  ·simp only [Act.put, List.setIfInBounds_toArray, List.set_cons_zero, List.set_cons_succ, i64_w, i32_w]
   rfl
  refine pure_ (i := 4) (N := some 29) (v := ?_) (a' := ?_) #[true, false, true, false, true, false, false, false, false, false, false, false, false, false, false] rfl rfl (any_of HT_.out (by kernel_rfl)) (fun _ _ _ h => h) (Or.inl ⟨by rfl, ?_⟩) ?_ ?_
  rotate_left
  ·intro w'
   go_simp
   with_reducible rfl
  rotate_left
  ·simp only [Act.put, List.setIfInBounds_toArray, List.set_cons_zero, List.set_cons_succ, i64_w, i32_w]
   rfl
  refine pure_ (i := 7) (N := some 32) (v := ?_) (a' := ?_) #[true, false, true, false, true, false, false, true, false, false, false, false, false, false, false] rfl rfl (any_of HT_.out (by kernel_rfl)) (fun _ _ _ h => h) (Or.inl ⟨by rfl, ?_⟩) ?_ ?_
  rotate_left
  ·intro w'
   go_simp
   with_reducible rfl
  rotate_left
  ·simp only [Act.put, List.setIfInBounds_toArray, List.set_cons_zero, List.set_cons_succ, i64_w, i32_w]
   rfl
  refine pure_ (i := 9) (N := some 34) (v := ?_) (a' := ?_) #[true, false, true, false, true, false, false, true, false, true, false, false, false, false, false] rfl rfl (any_of HT_.out (by kernel_rfl)) (fun _ _ _ h => h) (Or.inl ⟨by rfl, ?_⟩) ?_ ?_
  rotate_left
  ·intro w'
   go_simp
   with_reducible rfl
  rotate_left
  ·simp only [Act.put, List.setIfInBounds_toArray, List.set_cons_zero, List.set_cons_succ, i64_w, i32_w]
   rfl
  refine pure_ (i := 10) (N := some 35) (v := ?_) (a' := ?_) #[true, false, true, false, true, false, false, true, false, true, true, false, false, false, false] rfl rfl (any_of HT_.out (by kernel_rfl)) (fun _ _ _ h => h) (Or.inl ⟨by rfl, ?_⟩) ?_ ?_
  rotate_left
  ·intro w'
   go_simp
   with_reducible rfl
  rotate_left
  ·simp only [Act.put, List.setIfInBounds_toArray, List.set_cons_zero, List.set_cons_succ, i64_w, i32_w]
   rfl
  refine take_ (i := 1) (N := some 26) (v := ?_) (a' := ?_) #[true, true, true, false, true, false, false, true, false, true, true, false, false, false, false] rfl rfl (take_ofW HT_.out HW_.out (by kernel_rfl)) (fun _ _ _ h => h) (Or.inl ⟨by rfl, ?_⟩) hHeld ?_ ?_
  rotate_left
  ·rintro w' ⟨s0, s1⟩
   go_simp
   with_reducible rfl
  rotate_left
  ·simp only [Act.put, List.setIfInBounds_toArray, List.set_cons_zero, List.set_cons_succ, i64_w, i32_w]
   rfl
  refine take_ (i := 3) (N := some 28) (v := ?_) (a' := ?_) #[true, true, true, true, true, false, false, true, false, true, true, false, false, false, false] rfl rfl (take_ofW HT_.out HW_.out (by kernel_rfl)) (fun _ _ _ h => h) (Or.inl ⟨by rfl, ?_⟩) hHeld ?_ ?_
  rotate_left
  ·rintro w' ⟨s0, s1⟩
   go_simp
   with_reducible rfl
  rotate_left
  ·simp only [Act.put, List.setIfInBounds_toArray, List.set_cons_zero, List.set_cons_succ, i64_w, i32_w]
   rfl
  refine pure_ (i := 5) (N := some 30) (v := ?_) (a' := ?_) #[true, true, true, true, true, true, false, true, false, true, true, false, false, false, false] rfl rfl (any_of HT_.out (by kernel_rfl)) (fun _ _ _ h => h) (Or.inl ⟨by rfl, ?_⟩) ?_ ?_
  rotate_left
  ·intro w'
   go_simp
   with_reducible rfl
  rotate_left
  ·simp only [Act.put, List.setIfInBounds_toArray, List.set_cons_zero, List.set_cons_succ, i64_w, i32_w]
   rfl
  refine take_ (i := 8) (N := some 33) (v := ?_) (a' := ?_) #[true, true, true, true, true, true, false, true, true, true, true, false, false, false, false] rfl rfl (take_ofW HT_.out HW_.out (by kernel_rfl)) (fun _ _ _ h => h) (Or.inl ⟨by rfl, ?_⟩) hHeld ?_ ?_
  rotate_left
  ·rintro w' ⟨s0, s1⟩
   go_simp
   with_reducible rfl
  rotate_left
  ·simp only [Act.put, List.setIfInBounds_toArray, List.set_cons_zero, List.set_cons_succ, i64_w, i32_w]
   rfl
  refine pure_ (i := 11) (N := some 36) (v := ?_) (a' := ?_) #[true, true, true, true, true, true, false, true, true, true, true, true, false, false, false] rfl rfl (any_of HT_.out (by kernel_rfl)) (fun _ _ _ h => h) (Or.inl ⟨by rfl, ?_⟩) ?_ ?_
  rotate_left
  ·intro w'
   go_simp
   with_reducible rfl
  rotate_left
  ·simp only [Act.put, List.setIfInBounds_toArray, List.set_cons_zero, List.set_cons_succ, i64_w, i32_w]
   rfl
  refine one_ (i := 6) (N := some 31) #[true, true, true, true, true, true, true, true, true, true, true, true, false, false, false] rfl rfl (one_of HT_.out (by kernel_rfl)) (by decide) (fun K hK => ?_)
  refine Kd.R_append_rows_step Kd.string (w0 := W0) S5 (by rfl) (.tmp 26) (.tmp 30) 25 9 (.string ⟨#[]⟩) 16 rfl Try.underlying25 info9 rfl (by decide) (by omega) (.slice none 0 0) ([] : List ByteArray) (t.ks.take n) _ _ _ (fun _ => True) (fun _ => False) rfl rfl (Kd.R_nil _ _ _ _ _) (QT.out _ (HB3.out.trans (HBd.out.mono (by rw [← HES.out]; exact HB3.out.size)))) (fun _ _ h => h) (fun _ h => h.elim) (fun _ _ => trivial) HBd.out (by have := HBd.out.size; rw [HES.out] at this; exact this) (by rw [List.length_nil]; omega) ?_
  intro v1_ wa_ ho hb hg hat
  have HO1 := Aside0.mk ho
  have HBa := Aside0.mk hb
  have t1 : wa_.cell? ⟨w.heap.size, 0, none⟩ = some (.slice A0 N c0) := (World.cell?_of_block (hb.block w.heap.size (by have := HS5.out; omega))).trans t0
  have u1 : wa_.cell? ⟨B, 0, none⟩ = some (.slice none 0 0) := (World.cell?_of_block (hb.block B HS5.out)).trans u0
  clear ho hb hg hat hHeld
  refine hK.out _ _ ⟨u1, t1⟩ (fun hHeld => ?_)
  clear hK K
  refine norm_ (a' := ?_) ?_ ?_
  rotate_left
  ·show Act.put _ (some 31) _ = _
   simp only [Act.put, List.setIfInBounds_toArray, List.set_cons_zero, List.set_cons_succ, i64_w, i32_w]
   rfl
  refine one_ (i := 12) (N := some 37) #[true, true, true, true, true, true, true, true, true, true, true, true, true, false, false] rfl rfl (one_of HT_.out (by kernel_rfl)) (by decide) (fun K hK => ?_)
  refine Kd.R_append_rows_step Kd.string (w0 := W0) S5 (by rfl) (.tmp 31) (.tmp 36) 25 9 (.string ⟨#[]⟩) 16 rfl Try.underlying25 info9 rfl (by decide) (by omega) v1_ (t.ks.take n) (t.ks.drop n1) _ _ _ (fun _ => True) (fun _ => False) rfl rfl (by first | exact HO1.out | exact Kd.R_drew HO1.out) (QD.out _ (HB3.out.trans (Below.mono (by first | exact HBa.out | exact below_drew HBa.out) (by rw [← HES.out]; exact HB3.out.size)))) (fun _ _ h => h) (fun _ h => h.elim) (fun _ _ => trivial) (by first | exact HBa.out | exact below_drew HBa.out) (by have := HBa.out.size; rw [HES.out] at this; exact this) (by rw [List.length_take]; have := HE.out.1; omega) ?_
  intro v5_ wb_ ho hb hg hat
  obtain ⟨D5, d5, rfl⟩ := Kd.R_slice ho
  have elc : (t.ks.take n ++ t.ks.drop n1).length = N - 1 := by rw [List.length_append, List.length_take, List.length_drop]; have := HE.out.1; omega
  rw [elc] at ho
  rw [elc]
  clear elc
  have HO2 := Aside0.mk ho
  have HBb := Aside0.mk hb
  have t2 : wb_.cell? ⟨w.heap.size, 0, none⟩ = some (.slice A0 N c0) := (World.cell?_of_block (hb.block w.heap.size (by have := HS5.out; omega))).trans t0
  have u2 : wb_.cell? ⟨B, 0, none⟩ = some (.slice none 0 0) := (World.cell?_of_block (hb.block B HS5.out)).trans u0
  have bu2 := (hb.block B HS5.out).trans HU.out.2.2
  have uf2 : wb_.frozen? ⟨B, 0, none⟩ = false := by simp [World.frozen?, bu2]
  clear bu2 ho hb hg hat hHeld
  refine hK.out _ _ ⟨u2, t2⟩ (fun hHeld => ?_)
  clear hK K
  refine norm_ (a' := ?_) ?_ ?_
  rotate_left
  ·show Act.put _ (some 37) _ = _
   simp only [Act.put, List.setIfInBounds_toArray, List.set_cons_zero, List.set_cons_succ, i64_w, i32_w]
   rfl
  refine pure_ (i := 13) (N := some 38) (v := ?_) (a' := ?_) #[true, true, true, true, true, true, true, true, true, true, true, true, true, true, false] rfl rfl (any_of HT_.out (by kernel_rfl)) (fun _ _ _ h => h) (Or.inl ⟨by rfl, ?_⟩) ?_ ?_
  rotate_left
  ·intro w'
   go_simp
   with_reducible rfl
  rotate_left
  ·simp only [Act.put, List.setIfInBounds_toArray, List.set_cons_zero, List.set_cons_succ, i64_w, i32_w]
   rfl
  refine last_ (i := 14) (N := none) #[true, true, true, true, true, true, true, true, true, true, true, true, true, true, true] rfl rfl (one_of HT_.out (by kernel_rfl)) (by decide) (fun K hK => ?_)
  refine skip_ (w1 := ?_) (by rfl) rfl ?_ ?_
  rotate_left
  ·go_simp
   rfl
  refine hK.out _ _ ?_
  clear hK K
  refine done_ (done_of HT_.out (by kernel_rfl)) ?_
  generalize (if c0 = n1 then A0 else Option.map (fun x => x.add n1) A0) = X5
  have KP : Aside0 (∀ k, k < S5 → k ≠ B → (wb_.setCell ⟨B, 0, none⟩ (.slice D5 (N - 1) d5)).heap[k]? = W0.heap[k]?) := ⟨fun k h1 h2 => (Below.heap_setCell _ _ _ k (by exact h2)).trans (HBb.out.block k h1)⟩
  have HSZ : Aside0 (S5 ≤ (wb_.setCell ⟨B, 0, none⟩ (.slice D5 (N - 1) d5)).heap.size) := ⟨by rw [T.size_setCell]; have := HBb.out.size; rw [HES.out] at this; exact this⟩
  have bu3 := (HBb.out.block B HS5.out).trans HU.out.2.2
  have HR5 : Aside0 (Kd.R Kd.string 9 (wb_.setCell ⟨B, 0, none⟩ (.slice D5 (N - 1) d5)) S5 (fun k => S5 ≤ k ∧ k < (wb_.setCell ⟨B, 0, none⟩ (.slice D5 (N - 1) d5)).heap.size) (.slice D5 (N - 1) d5) (cutAt t.ks n)) := ⟨by
   have e0 : t.ks.take n ++ t.ks.drop n1 = cutAt t.ks n := by rw [← en1]; rfl
   have h0 := Kd.R_set HO2.out bu3 (by decide) 0 (.slice D5 (N - 1) d5)
   rw [e0] at h0
   exact Kd.R_mono (Kd.R_bound h0) (fun k hk => ⟨hk.2.1, hk.2.2.1⟩)⟩
  have n0_ := Aside0.mk (show (wb_.setCell ⟨B, 0, none⟩ (.slice D5 (N - 1) d5)).heap[w.heap.size]? = some (.cells #[.slice A0 N c0, .slice A1 N c1, .slice A2 N c2, .slice A3 M3 c3, .slice A4 M4 c4] 28 (0, 0)) ∧ (wb_.setCell ⟨B, 0, none⟩ (.slice D5 (N - 1) d5)).heap[w.heap.size + 1]? = some (Obj.cells #[.slice none 0 0, .slice none 0 0, .slice none 0 0, .slice none 0 0, .slice none 0 0] 28) ∧ (wb_.setCell ⟨B, 0, none⟩ (.slice D5 (N - 1) d5)).heap[B]? = some (Obj.cells #[.slice D5 (N - 1) d5, .slice none 0 0, .slice none 0 0, .slice none 0 0, .slice none 0 0] 28) from
   ⟨(KP.out _ (by have := HS5.out; omega) (by omega)).trans HU.out.1, (KP.out _ (by have := HS5.out; omega) (by omega)).trans HU.out.2.1, V.set_at bu3 0 _⟩)
  have n1_ : Aside0 (Below w.heap.size w (wb_.setCell ⟨B, 0, none⟩ (.slice D5 (N - 1) d5))) := ⟨(HB3.out.trans (HBb.out.mono (by rw [← HES.out]; exact HB3.out.size))).setCell (by show w.heap.size ≤ B; omega) _⟩
  have n2_ : Aside0 (B < (wb_.setCell ⟨B, 0, none⟩ (.slice D5 (N - 1) d5)).heap.size) := ⟨by have := HSZ.out; have := HS5.out; omega⟩
  clear bu3 HU HB3 HZ t0 u0 t1 u1 t2 u2 uf2 hHeld HO1 HO2 HBa HBb HBd QT QD hpc hnc hn1c HT_ HW_ KP HES
  have HU := n0_
  have HB3 := n1_
  have HZ := n2_
  clear n0_ n1_ n2_
  generalize (wb_.setCell ⟨B, 0, none⟩ (.slice D5 (N - 1) d5)) = W1 at HU HB3 HZ HSZ HR5 ⊢
  have HSZ5 := HSZ
  clear HSZ
  (try go_wp2)
  have t0 : W1.cell? ⟨w.heap.size, 1, none⟩ = some (.slice A1 N c1) := by rw [blk_cell HU.out.1]; rfl
  have u0 : W1.cell? ⟨B, 1, none⟩ = some (.slice none 0 0) := by rw [blk_cell HU.out.2.2]; rfl
  have hpc := HP.out.2.1
  have QT : Aside0 (∀ W, Below w.heap.size w W → Kd.C (Kd.int .i64) W A1 n (t.vs.take n)) := ⟨fun W hW => by
   have h0 := Kd.C_take (m := n) (Kd.C_below HQ.out.2.1 hW) (by have := HE.out.2.1; omega)
   have el := HE.out.2.1
   rwa [show (t.vs.take n).length = n by rw [List.length_take]; omega] at h0⟩
  have QD : Aside0 (∀ W, Below w.heap.size w W → Kd.C (Kd.int .i64) W (if c1 = n1 then A1 else A1.map (·.add n1)) (N - n1) (t.vs.drop n1)) := ⟨fun W hW => by
   have el := HE.out.2.1
   have h0 := Kd.C_drop (m := n1) (c := c1) (Kd.C_below HQ.out.2.1 hW) (by omega) (by omega)
   rw [show n1 * ((Kd.int .i64)).sz = n1 from Nat.mul_one _] at h0
   rwa [show (t.vs.drop n1).length = N - n1 by rw [List.length_drop]; omega] at h0⟩
  have hnc : n ≤ c1 := by omega
  have hn1c : n1 ≤ c1 := by omega
  obtain ⟨S6, eS6⟩ : ∃ S, W1.heap.size = S := ⟨_, rfl⟩
  have HS6 := Aside0.mk (show B < S6 from by rw [← eS6]; exact HZ.out)
  have HBd : Aside0 (Below S6 W1 W1.drew) := ⟨below_drew (Below.refl _ _)⟩
  have HES := Aside0.mk eS6
  rw [eS6] at HR5 HSZ5
  clear eS6
  refine start_ (n := 15) (S := fun w' => w'.cell? ⟨B, 1, none⟩ = some (.slice none 0 0) ∧ w'.cell? ⟨w.heap.size, 1, none⟩ = some (.slice A1 N c1)) (ds := [14]) #[false, false, false, false, false, false, false, false, false, false, false, false, false, false, false] (by kernel_rfl) rfl rfl ⟨u0, t0⟩ (fun hHeld => ?_); refine with_tabW del_tab6 del_bits6 (fun HT_ HW_ => ?_)
  obtain ⟨Wd, eWd⟩ : ∃ Wd, W1.drew = Wd := ⟨_, rfl⟩
  rw [eWd] at HBd hHeld ⊢
  clear eWd
  refine pure_ (i := 0) (N := some 39) (v := ?_) (a' := ?_) #[true, false, false, false, false, false, false, false, false, false, false, false, false, false, false] rfl rfl (any_of HT_.out (by kernel_rfl)) (fun _ _ _ h => h) (Or.inl ⟨by rfl, ?_⟩) ?_ ?_
  rotate_left
  ·intro w'
   go_simp
   with_reducible rfl
  rotate_left
  ·simp only [Act.put, List.setIfInBounds_toArray, List.set_cons_zero, List.set_cons_succ, i64_w, i32_w]
   rfl
  refine pure_ (i := 2) (N := some 41) (v := ?_) (a' := ?_) #[true, false, true, false, false, false, false, false, false, false, false, false, false, false, false] rfl rfl (any_of HT_.out (by kernel_rfl)) (fun _ _ _ h => h) (Or.inl ⟨by rfl, ?_⟩) ?_ ?_
  rotate_left
  ·intro w'
   go_simp
   with_reducible rfl
  rotate_left
  ·simp only [Act.put, List.setIfInBounds_toArray, List.set_cons_zero, List.set_cons_succ, i64_w, i32_w]
   rfl
  refine pure_ (i := 4) (N := some 43) (v := ?_) (a' := ?_) #[true, false, true, false, true, false, false, false, false, false, false, false, false, false, false] rfl rfl (any_of HT_.out (by kernel_rfl)) (fun _ _ _ h => h) (Or.inl ⟨by rfl, ?_⟩) ?_ ?_
  rotate_left
  ·intro w'
   go_simp
   with_reducible rfl
  rotate_left
  ·simp only [Act.put, List.setIfInBounds_toArray, List.set_cons_zero, List.set_cons_succ, i64_w, i32_w]
   rfl
  refine pure_ (i := 7) (N := some 46) (v := ?_) (a' := ?_) #[true, false, true, false, true, false, false, true, false, false, false, false, false, false, false] rfl rfl (any_of HT_.out (by kernel_rfl)) (fun _ _ _ h => h) (Or.inl ⟨by rfl, ?_⟩) ?_ ?_
  rotate_left
  ·intro w'
   go_simp
   with_reducible rfl
  rotate_left
  ·simp only [Act.put, List.setIfInBounds_toArray, List.set_cons_zero, List.set_cons_succ, i64_w, i32_w]
   rfl
  refine pure_ (i := 9) (N := some 48) (v := ?_) (a' := ?_) #[true, false, true, false, true, false, false, true, false, true, false, false, false, false, false] rfl rfl (any_of HT_.out (by kernel_rfl)) (fun _ _ _ h => h) (Or.inl ⟨by rfl, ?_⟩) ?_ ?_
  rotate_left
  ·intro w'
   go_simp
   with_reducible rfl
  rotate_left
  ·simp only [Act.put, List.setIfInBounds_toArray, List.set_cons_zero, List.set_cons_succ, i64_w, i32_w]
   rfl
  refine pure_ (i := 10) (N := some 49) (v := ?_) (a' := ?_) #[true, false, true, false, true, false, false, true, false, true, true, false, false, false, false] rfl rfl (any_of HT_.out (by kernel_rfl)) (fun _ _ _ h => h) (Or.inl ⟨by rfl, ?_⟩) ?_ ?_
  rotate_left
  ·intro w'
   go_simp
   with_reducible rfl
  rotate_left
  ·simp only [Act.put, List.setIfInBounds_toArray, List.set_cons_zero, List.set_cons_succ, i64_w, i32_w]
   rfl
  refine take_ (i := 1) (N := some 40) (v := ?_) (a' := ?_) #[true, true, true, false, true, false, false, true, false, true, true, false, false, false, false] rfl rfl (take_ofW HT_.out HW_.out (by kernel_rfl)) (fun _ _ _ h => h) (Or.inl ⟨by rfl, ?_⟩) hHeld ?_ ?_
  rotate_left
  ·rintro w' ⟨s0, s1⟩
   go_simp
   with_reducible rfl
  rotate_left
  ·simp only [Act.put, List.setIfInBounds_toArray, List.set_cons_zero, List.set_cons_succ, i64_w, i32_w]
   rfl
  refine take_ (i := 3) (N := some 42) (v := ?_) (a' := ?_) #[true, true, true, true, true, false, false, true, false, true, true, false, false, false, false] rfl rfl (take_ofW HT_.out HW_.out (by kernel_rfl)) (fun _ _ _ h => h) (Or.inl ⟨by rfl, ?_⟩) hHeld ?_ ?_
  rotate_left
  ·rintro w' ⟨s0, s1⟩
   go_simp
   with_reducible rfl
  rotate_left
  ·simp only [Act.put, List.setIfInBounds_toArray, List.set_cons_zero, List.set_cons_succ, i64_w, i32_w]
   rfl
  refine pure_ (i := 5) (N := some 44) (v := ?_) (a' := ?_) #[true, true, true, true, true, true, false, true, false, true, true, false, false, false, false] rfl rfl (any_of HT_.out (by kernel_rfl)) (fun _ _ _ h => h) (Or.inl ⟨by rfl, ?_⟩) ?_ ?_
  rotate_left
  ·intro w'
   go_simp
   with_reducible rfl
  rotate_left
  ·simp only [Act.put, List.setIfInBounds_toArray, List.set_cons_zero, List.set_cons_succ, i64_w, i32_w]
   rfl
  refine take_ (i := 8) (N := some 47) (v := ?_) (a' := ?_) #[true, true, true, true, true, true, false, true, true, true, true, false, false, false, false] rfl rfl (take_ofW HT_.out HW_.out (by kernel_rfl)) (fun _ _ _ h => h) (Or.inl ⟨by rfl, ?_⟩) hHeld ?_ ?_
  rotate_left
  ·rintro w' ⟨s0, s1⟩
   go_simp
   with_reducible rfl
  rotate_left
  ·simp only [Act.put, List.setIfInBounds_toArray, List.set_cons_zero, List.set_cons_succ, i64_w, i32_w]
   rfl
  refine pure_ (i := 11) (N := some 50) (v := ?_) (a' := ?_) #[true, true, true, true, true, true, false, true, true, true, true, true, false, false, false] rfl rfl (any_of HT_.out (by kernel_rfl)) (fun _ _ _ h => h) (Or.inl ⟨by rfl, ?_⟩) ?_ ?_
  rotate_left
  ·intro w'
   go_simp
   with_reducible rfl
  rotate_left
  ·simp only [Act.put, List.setIfInBounds_toArray, List.set_cons_zero, List.set_cons_succ, i64_w, i32_w]
   rfl
  refine one_ (i := 6) (N := some 45) #[true, true, true, true, true, true, true, true, true, true, true, true, false, false, false] rfl rfl (one_of HT_.out (by kernel_rfl)) (by decide) (fun K hK => ?_)
  refine Kd.R_append_rows_step (Kd.int .i64) (w0 := W1) S6 (by rfl) (.tmp 40) (.tmp 44) 26 3 (.int .i64 0) 8 rfl Try.underlying26 info3 rfl (by decide) (by omega) (.slice none 0 0) ([] : List Int) (t.vs.take n) _ _ _ (fun _ => True) (fun _ => False) rfl rfl (Kd.R_nil _ _ _ _ _) (QT.out _ (HB3.out.trans (HBd.out.mono (by rw [← HES.out]; exact HB3.out.size)))) (fun _ _ h => h) (fun _ h => h.elim) (fun _ _ => trivial) HBd.out (by have := HBd.out.size; rw [HES.out] at this; exact this) (by rw [List.length_nil]; omega) ?_
  intro v1_ wa_ ho hb hg hat
  have HO1 := Aside0.mk ho
  have HBa := Aside0.mk hb
  have t1 : wa_.cell? ⟨w.heap.size, 1, none⟩ = some (.slice A1 N c1) := (World.cell?_of_block (hb.block w.heap.size (by have := HS6.out; omega))).trans t0
  have u1 : wa_.cell? ⟨B, 1, none⟩ = some (.slice none 0 0) := (World.cell?_of_block (hb.block B HS6.out)).trans u0
  clear ho hb hg hat hHeld
  refine hK.out _ _ ⟨u1, t1⟩ (fun hHeld => ?_)
  clear hK K
  refine norm_ (a' := ?_) ?_ ?_
  rotate_left
  ·show Act.put _ (some 45) _ = _
   simp only [Act.put, List.setIfInBounds_toArray, List.set_cons_zero, List.set_cons_succ, i64_w, i32_w]
   rfl
  refine one_ (i := 12) (N := some 51) #[true, true, true, true, true, true, true, true, true, true, true, true, true, false, false] rfl rfl (one_of HT_.out (by kernel_rfl)) (by decide) (fun K hK => ?_)
  refine Kd.R_append_rows_step (Kd.int .i64) (w0 := W1) S6 (by rfl) (.tmp 45) (.tmp 50) 26 3 (.int .i64 0) 8 rfl Try.underlying26 info3 rfl (by decide) (by omega) v1_ (t.vs.take n) (t.vs.drop n1) _ _ _ (fun _ => True) (fun _ => False) rfl rfl (by first | exact HO1.out | exact Kd.R_drew HO1.out) (QD.out _ (HB3.out.trans (Below.mono (by first | exact HBa.out | exact below_drew HBa.out) (by rw [← HES.out]; exact HB3.out.size)))) (fun _ _ h => h) (fun _ h => h.elim) (fun _ _ => trivial) (by first | exact HBa.out | exact below_drew HBa.out) (by have := HBa.out.size; rw [HES.out] at this; exact this) (by rw [List.length_take]; have := HE.out.2.1; omega) ?_
  intro v6_ wb_ ho hb hg hat
  obtain ⟨D6, d6, rfl⟩ := Kd.R_slice ho
  have elc : (t.vs.take n ++ t.vs.drop n1).length = N - 1 := by rw [List.length_append, List.length_take, List.length_drop]; have := HE.out.2.1; omega
  rw [elc] at ho
  rw [elc]
  clear elc
  have HO2 := Aside0.mk ho
  have HBb := Aside0.mk hb
  have t2 : wb_.cell? ⟨w.heap.size, 1, none⟩ = some (.slice A1 N c1) := (World.cell?_of_block (hb.block w.heap.size (by have := HS6.out; omega))).trans t0
  have u2 : wb_.cell? ⟨B, 1, none⟩ = some (.slice none 0 0) := (World.cell?_of_block (hb.block B HS6.out)).trans u0
  have bu2 := (hb.block B HS6.out).trans HU.out.2.2
  have uf2 : wb_.frozen? ⟨B, 1, none⟩ = false := by simp [World.frozen?, bu2]
  clear bu2 ho hb hg hat hHeld
  refine hK.out _ _ ⟨u2, t2⟩ (fun hHeld => ?_)
  clear hK K
  refine norm_ (a' := ?_) ?_ ?_
  rotate_left
  ·show Act.put _ (some 51) _ = _
   simp only [Act.put, List.setIfInBounds_toArray, List.set_cons_zero, List.set_cons_succ, i64_w, i32_w]
   rfl
  refine pure_ (i := 13) (N := some 52) (v := ?_) (a' := ?_) #[true, true, true, true, true, true, true, true, true, true, true, true, true, true, false] rfl rfl (any_of HT_.out (by kernel_rfl)) (fun _ _ _ h => h) (Or.inl ⟨by rfl, ?_⟩) ?_ ?_
  rotate_left
  ·intro w'
   go_simp
   with_reducible rfl
  rotate_left
  ·simp only [Act.put, List.setIfInBounds_toArray, List.set_cons_zero, List.set_cons_succ, i64_w, i32_w]
   rfl
  refine last_ (i := 14) (N := none) #[true, true, true, true, true, true, true, true, true, true, true, true, true, true, true] rfl rfl (one_of HT_.out (by kernel_rfl)) (by decide) (fun K hK => ?_)
  refine skip_ (w1 := ?_) (by rfl) rfl ?_ ?_
  rotate_left
  ·go_simp
   rfl
  refine hK.out _ _ ?_
  clear hK K
  refine done_ (done_of HT_.out (by kernel_rfl)) ?_
  generalize (if c1 = n1 then A1 else Option.map (fun x => x.add n1) A1) = X6
  have KP : Aside0 (∀ k, k < S6 → k ≠ B → (wb_.setCell ⟨B, 1, none⟩ (.slice D6 (N - 1) d6)).heap[k]? = W1.heap[k]?) := ⟨fun k h1 h2 => (Below.heap_setCell _ _ _ k (by exact h2)).trans (HBb.out.block k h1)⟩
  have HSZ : Aside0 (S6 ≤ (wb_.setCell ⟨B, 1, none⟩ (.slice D6 (N - 1) d6)).heap.size) := ⟨by rw [T.size_setCell]; have := HBb.out.size; rw [HES.out] at this; exact this⟩
  have bu3 := (HBb.out.block B HS6.out).trans HU.out.2.2
  have HR6 : Aside0 (Kd.R (Kd.int .i64) 3 (wb_.setCell ⟨B, 1, none⟩ (.slice D6 (N - 1) d6)) S6 (fun k => S6 ≤ k ∧ k < (wb_.setCell ⟨B, 1, none⟩ (.slice D6 (N - 1) d6)).heap.size) (.slice D6 (N - 1) d6) (cutAt t.vs n)) := ⟨by
   have e0 : t.vs.take n ++ t.vs.drop n1 = cutAt t.vs n := by rw [← en1]; rfl
   have h0 := Kd.R_set HO2.out bu3 (by decide) 1 (.slice D6 (N - 1) d6)
   rw [e0] at h0
   exact Kd.R_mono (Kd.R_bound h0) (fun k hk => ⟨hk.2.1, hk.2.2.1⟩)⟩
  have n0_ := Aside0.mk (show (wb_.setCell ⟨B, 1, none⟩ (.slice D6 (N - 1) d6)).heap[w.heap.size]? = some (.cells #[.slice A0 N c0, .slice A1 N c1, .slice A2 N c2, .slice A3 M3 c3, .slice A4 M4 c4] 28 (0, 0)) ∧ (wb_.setCell ⟨B, 1, none⟩ (.slice D6 (N - 1) d6)).heap[w.heap.size + 1]? = some (Obj.cells #[.slice none 0 0, .slice none 0 0, .slice none 0 0, .slice none 0 0, .slice none 0 0] 28) ∧ (wb_.setCell ⟨B, 1, none⟩ (.slice D6 (N - 1) d6)).heap[B]? = some (Obj.cells #[.slice D5 (N - 1) d5, .slice D6 (N - 1) d6, .slice none 0 0, .slice none 0 0, .slice none 0 0] 28) from
   ⟨(KP.out _ (by have := HS6.out; omega) (by omega)).trans HU.out.1, (KP.out _ (by have := HS6.out; omega) (by omega)).trans HU.out.2.1, V.set_at bu3 1 _⟩)
  have n1_ : Aside0 (Below w.heap.size w (wb_.setCell ⟨B, 1, none⟩ (.slice D6 (N - 1) d6))) := ⟨(HB3.out.trans (HBb.out.mono (by rw [← HES.out]; exact HB3.out.size))).setCell (by show w.heap.size ≤ B; omega) _⟩
  have m5_ := Aside0.mk (Kd.R_step HR5.out (fun k hk hlt => KP.out k (by have := hk.2; have := HSZ5.out; omega) (by have := hk.1; have := HS5.out; omega)))
  clear HR5
  have HR5 := m5_
  clear m5_
  have n2_ : Aside0 (B < (wb_.setCell ⟨B, 1, none⟩ (.slice D6 (N - 1) d6)).heap.size) := ⟨by have := HSZ.out; have := HS6.out; omega⟩
  clear bu3 HU HB3 HZ t0 u0 t1 u1 t2 u2 uf2 hHeld HO1 HO2 HBa HBb HBd QT QD hpc hnc hn1c HT_ HW_ KP HES
  have HU := n0_
  have HB3 := n1_
  have HZ := n2_
  clear n0_ n1_ n2_
  generalize (wb_.setCell ⟨B, 1, none⟩ (.slice D6 (N - 1) d6)) = W2 at HU HB3 HZ HSZ HR5 HR6 ⊢
  have HSZ6 := HSZ
  clear HSZ
  (try go_wp2)
  have t0 : W2.cell? ⟨w.heap.size, 2, none⟩ = some (.slice A2 N c2) := by rw [blk_cell HU.out.1]; rfl
  have u0 : W2.cell? ⟨B, 2, none⟩ = some (.slice none 0 0) := by rw [blk_cell HU.out.2.2]; rfl
  have hpc := HP.out.2.2.1
  have QT : Aside0 (∀ W, Below w.heap.size w W → Kd.C (Kd.int .i64) W A2 n (t.ls.take n)) := ⟨fun W hW => by
   have h0 := Kd.C_take (m := n) (Kd.C_below HQ.out.2.2.1 hW) (by have := HE.out.2.2.1; omega)
   have el := HE.out.2.2.1
   rwa [show (t.ls.take n).length = n by rw [List.length_take]; omega] at h0⟩
  have QD : Aside0 (∀ W, Below w.heap.size w W → Kd.C (Kd.int .i64) W (if c2 = n1 then A2 else A2.map (·.add n1)) (N - n1) (t.ls.drop n1)) := ⟨fun W hW => by
   have el := HE.out.2.2.1
   have h0 := Kd.C_drop (m := n1) (c := c2) (Kd.C_below HQ.out.2.2.1 hW) (by omega) (by omega)
   rw [show n1 * ((Kd.int .i64)).sz = n1 from Nat.mul_one _] at h0
   rwa [show (t.ls.drop n1).length = N - n1 by rw [List.length_drop]; omega] at h0⟩
  have hnc : n ≤ c2 := by omega
  have hn1c : n1 ≤ c2 := by omega
  obtain ⟨S7, eS7⟩ : ∃ S, W2.heap.size = S := ⟨_, rfl⟩
  have HS7 := Aside0.mk (show B < S7 from by rw [← eS7]; exact HZ.out)
  have HBd : Aside0 (Below S7 W2 W2.drew) := ⟨below_drew (Below.refl _ _)⟩
  have HES := Aside0.mk eS7
  rw [eS7] at HR6 HSZ6
  clear eS7
  refine start_ (n := 15) (S := fun w' => w'.cell? ⟨B, 2, none⟩ = some (.slice none 0 0) ∧ w'.cell? ⟨w.heap.size, 2, none⟩ = some (.slice A2 N c2)) (ds := [14]) #[false, false, false, false, false, false, false, false, false, false, false, false, false, false, false] (by kernel_rfl) rfl rfl ⟨u0, t0⟩ (fun hHeld => ?_); refine with_tabW del_tab7 del_bits7 (fun HT_ HW_ => ?_)
  obtain ⟨Wd, eWd⟩ : ∃ Wd, W2.drew = Wd := ⟨_, rfl⟩
  rw [eWd] at HBd hHeld ⊢
  clear eWd
  refine pure_ (i := 0) (N := some 53) (v := ?_) (a' := ?_) #[true, false, false, false, false, false, false, false, false, false, false, false, false, false, false] rfl rfl (any_of HT_.out (by kernel_rfl)) (fun _ _ _ h => h) (Or.inl ⟨by rfl, ?_⟩) ?_ ?_
  rotate_left
  ·intro w'
   go_simp
   with_reducible rfl
  rotate_left
  ·simp only [Act.put, List.setIfInBounds_toArray, List.set_cons_zero, List.set_cons_succ, i64_w, i32_w]
   rfl
  refine pure_ (i := 2) (N := some 55) (v := ?_) (a' := ?_) #[true, false, true, false, false, false, false, false, false, false, false, false, false, false, false] rfl rfl (any_of HT_.out (by kernel_rfl)) (fun _ _ _ h => h) (Or.inl ⟨by rfl, ?_⟩) ?_ ?_
  rotate_left
  ·intro w'
   go_simp
   with_reducible rfl
  rotate_left
  ·simp only [Act.put, List.setIfInBounds_toArray, List.set_cons_zero, List.set_cons_succ, i64_w, i32_w]
   rfl
  refine pure_ (i := 4) (N := some 57) (v := ?_) (a' := ?_) #[true, false, true, false, true, false, false, false, false, false, false, false, false, false, false] rfl rfl (any_of HT_.out (by kernel_rfl)) (fun _ _ _ h => h) (Or.inl ⟨by rfl, ?_⟩) ?_ ?_
  rotate_left
  ·intro w'
   go_simp
   with_reducible rfl
  rotate_left
  ·simp only [Act.put, List.setIfInBounds_toArray, List.set_cons_zero, List.set_cons_succ, i64_w, i32_w]
   rfl
  refine pure_ (i := 7) (N := some 60) (v := ?_) (a' := ?_) #[true, false, true, false, true, false, false, true, false, false, false, false, false, false, false] rfl rfl (any_of HT_.out (by kernel_rfl)) (fun _ _ _ h => h) (Or.inl ⟨by rfl, ?_⟩) ?_ ?_
  rotate_left
  ·intro w'
   go_simp
   with_reducible rfl
  rotate_left
  ·simp only [Act.put, List.setIfInBounds_toArray, List.set_cons_zero, List.set_cons_succ, i64_w, i32_w]
   rfl
  refine pure_ (i := 9) (N := some 62) (v := ?_) (a' := ?_) #[true, false, true, false, true, false, false, true, false, true, false, false, false, false, false] rfl rfl (any_of HT_.out (by kernel_rfl)) (fun _ _ _ h => h) (Or.inl ⟨by rfl, ?_⟩) ?_ ?_
  rotate_left
  ·intro w'
   go_simp
   with_reducible rfl
  rotate_left
  ·simp only [Act.put, List.setIfInBounds_toArray, List.set_cons_zero, List.set_cons_succ, i64_w, i32_w]
   rfl
  refine pure_ (i := 10) (N := some 63) (v := ?_) (a' := ?_) #[true, false, true, false, true, false, false, true, false, true, true, false, false, false, false] rfl rfl (any_of HT_.out (by kernel_rfl)) (fun _ _ _ h => h) (Or.inl ⟨by rfl, ?_⟩) ?_ ?_
  rotate_left
  ·intro w'
   go_simp
   with_reducible rfl
  rotate_left
  ·simp only [Act.put, List.setIfInBounds_toArray, List.set_cons_zero, List.set_cons_succ, i64_w, i32_w]
   rfl
  refine take_ (i := 1) (N := some 54) (v := ?_) (a' := ?_) #[true, true, true, false, true, false, false, true, false, true, true, false, false, false, false] rfl rfl (take_ofW HT_.out HW_.out (by kernel_rfl)) (fun _ _ _ h => h) (Or.inl ⟨by rfl, ?_⟩) hHeld ?_ ?_
  rotate_left
  ·rintro w' ⟨s0, s1⟩
   go_simp
   with_reducible rfl
  rotate_left
  ·simp only [Act.put, List.setIfInBounds_toArray, List.set_cons_zero, List.set_cons_succ, i64_w, i32_w]
   rfl
  refine take_ (i := 3) (N := some 56) (v := ?_) (a' := ?_) #[true, true, true, true, true, false, false, true, false, true, true, false, false, false, false] rfl rfl (take_ofW HT_.out HW_.out (by kernel_rfl)) (fun _ _ _ h => h) (Or.inl ⟨by rfl, ?_⟩) hHeld ?_ ?_
  rotate_left
  ·rintro w' ⟨s0, s1⟩
   go_simp
   with_reducible rfl
  rotate_left
  ·simp only [Act.put, List.setIfInBounds_toArray, List.set_cons_zero, List.set_cons_succ, i64_w, i32_w]
   rfl
  refine pure_ (i := 5) (N := some 58) (v := ?_) (a' := ?_) #[true, true, true, true, true, true, false, true, false, true, true, false, false, false, false] rfl rfl (any_of HT_.out (by kernel_rfl)) (fun _ _ _ h => h) (Or.inl ⟨by rfl, ?_⟩) ?_ ?_
  rotate_left
  ·intro w'
   go_simp
   with_reducible rfl
  rotate_left
  ·simp only [Act.put, List.setIfInBounds_toArray, List.set_cons_zero, List.set_cons_succ, i64_w, i32_w]
   rfl
  refine take_ (i := 8) (N := some 61) (v := ?_) (a' := ?_) #[true, true, true, true, true, true, false, true, true, true, true, false, false, false, false] rfl rfl (take_ofW HT_.out HW_.out (by kernel_rfl)) (fun _ _ _ h => h) (Or.inl ⟨by rfl, ?_⟩) hHeld ?_ ?_
  rotate_left
  ·rintro w' ⟨s0, s1⟩
   go_simp
   with_reducible rfl
  rotate_left
  ·simp only [Act.put, List.setIfInBounds_toArray, List.set_cons_zero, List.set_cons_succ, i64_w, i32_w]
   rfl
  refine pure_ (i := 11) (N := some 64) (v := ?_) (a' := ?_) #[true, true, true, true, true, true, false, true, true, true, true, true, false, false, false] rfl rfl (any_of HT_.out (by kernel_rfl)) (fun _ _ _ h => h) (Or.inl ⟨by rfl, ?_⟩) ?_ ?_
  rotate_left
  ·intro w'
   go_simp
   with_reducible rfl
  rotate_left
  ·simp only [Act.put, List.setIfInBounds_toArray, List.set_cons_zero, List.set_cons_succ, i64_w, i32_w]
   rfl
  refine one_ (i := 6) (N := some 59) #[true, true, true, true, true, true, true, true, true, true, true, true, false, false, false] rfl rfl (one_of HT_.out (by kernel_rfl)) (by decide) (fun K hK => ?_)
  refine Kd.R_append_rows_step (Kd.int .i64) (w0 := W2) S7 (by rfl) (.tmp 54) (.tmp 58) 26 3 (.int .i64 0) 8 rfl Try.underlying26 info3 rfl (by decide) (by omega) (.slice none 0 0) ([] : List Int) (t.ls.take n) _ _ _ (fun _ => True) (fun _ => False) rfl rfl (Kd.R_nil _ _ _ _ _) (QT.out _ (HB3.out.trans (HBd.out.mono (by rw [← HES.out]; exact HB3.out.size)))) (fun _ _ h => h) (fun _ h => h.elim) (fun _ _ => trivial) HBd.out (by have := HBd.out.size; rw [HES.out] at this; exact this) (by rw [List.length_nil]; omega) ?_
  intro v1_ wa_ ho hb hg hat
  have HO1 := Aside0.mk ho
  have HBa := Aside0.mk hb
  have t1 : wa_.cell? ⟨w.heap.size, 2, none⟩ = some (.slice A2 N c2) := (World.cell?_of_block (hb.block w.heap.size (by have := HS7.out; omega))).trans t0
  have u1 : wa_.cell? ⟨B, 2, none⟩ = some (.slice none 0 0) := (World.cell?_of_block (hb.block B HS7.out)).trans u0
  clear ho hb hg hat hHeld
  refine hK.out _ _ ⟨u1, t1⟩ (fun hHeld => ?_)
  clear hK K
  refine norm_ (a' := ?_) ?_ ?_
  rotate_left
  ·show Act.put _ (some 59) _ = _
   simp only [Act.put, List.setIfInBounds_toArray, List.set_cons_zero, List.set_cons_succ, i64_w, i32_w]
   rfl
  refine one_ (i := 12) (N := some 65) #[true, true, true, true, true, true, true, true, true, true, true, true, true, false, false] rfl rfl (one_of HT_.out (by kernel_rfl)) (by decide) (fun K hK => ?_)
  refine Kd.R_append_rows_step (Kd.int .i64) (w0 := W2) S7 (by rfl) (.tmp 59) (.tmp 64) 26 3 (.int .i64 0) 8 rfl Try.underlying26 info3 rfl (by decide) (by omega) v1_ (t.ls.take n) (t.ls.drop n1) _ _ _ (fun _ => True) (fun _ => False) rfl rfl (by first | exact HO1.out | exact Kd.R_drew HO1.out) (QD.out _ (HB3.out.trans (Below.mono (by first | exact HBa.out | exact below_drew HBa.out) (by rw [← HES.out]; exact HB3.out.size)))) (fun _ _ h => h) (fun _ h => h.elim) (fun _ _ => trivial) (by first | exact HBa.out | exact below_drew HBa.out) (by have := HBa.out.size; rw [HES.out] at this; exact this) (by rw [List.length_take]; have := HE.out.2.2.1; omega) ?_
  intro v7_ wb_ ho hb hg hat
  obtain ⟨D7, d7, rfl⟩ := Kd.R_slice ho
  have elc : (t.ls.take n ++ t.ls.drop n1).length = N - 1 := by rw [List.length_append, List.length_take, List.length_drop]; have := HE.out.2.2.1; omega
  rw [elc] at ho
  rw [elc]
  clear elc
  have HO2 := Aside0.mk ho
  have HBb := Aside0.mk hb
  have t2 : wb_.cell? ⟨w.heap.size, 2, none⟩ = some (.slice A2 N c2) := (World.cell?_of_block (hb.block w.heap.size (by have := HS7.out; omega))).trans t0
  have u2 : wb_.cell? ⟨B, 2, none⟩ = some (.slice none 0 0) := (World.cell?_of_block (hb.block B HS7.out)).trans u0
  have bu2 := (hb.block B HS7.out).trans HU.out.2.2
  have uf2 : wb_.frozen? ⟨B, 2, none⟩ = false := by simp [World.frozen?, bu2]
  clear bu2 ho hb hg hat hHeld
  refine hK.out _ _ ⟨u2, t2⟩ (fun hHeld => ?_)
  clear hK K
  refine norm_ (a' := ?_) ?_ ?_
  rotate_left
  ·show Act.put _ (some 65) _ = _
   simp only [Act.put, List.setIfInBounds_toArray, List.set_cons_zero, List.set_cons_succ, i64_w, i32_w]
   rfl
  refine pure_ (i := 13) (N := some 66) (v := ?_) (a' := ?_) #[true, true, true, true, true, true, true, true, true, true, true, true, true, true, false] rfl rfl (any_of HT_.out (by kernel_rfl)) (fun _ _ _ h => h) (Or.inl ⟨by rfl, ?_⟩) ?_ ?_
  rotate_left
  ·intro w'
   go_simp
   with_reducible rfl
  rotate_left
  ·simp only [Act.put, List.setIfInBounds_toArray, List.set_cons_zero, List.set_cons_succ, i64_w, i32_w]
   rfl
  refine last_ (i := 14) (N := none) #[true, true, true, true, true, true, true, true, true, true, true, true, true, true, true] rfl rfl (one_of HT_.out (by kernel_rfl)) (by decide) (fun K hK => ?_)
  refine skip_ (w1 := ?_) (by rfl) rfl ?_ ?_
  rotate_left
  ·go_simp
   rfl
  refine hK.out _ _ ?_
  clear hK K
  refine done_ (done_of HT_.out (by kernel_rfl)) ?_
  generalize (if c2 = n1 then A2 else Option.map (fun x => x.add n1) A2) = X7
  have KP : Aside0 (∀ k, k < S7 → k ≠ B → (wb_.setCell ⟨B, 2, none⟩ (.slice D7 (N - 1) d7)).heap[k]? = W2.heap[k]?) := ⟨fun k h1 h2 => (Below.heap_setCell _ _ _ k (by exact h2)).trans (HBb.out.block k h1)⟩
  have HSZ : Aside0 (S7 ≤ (wb_.setCell ⟨B, 2, none⟩ (.slice D7 (N - 1) d7)).heap.size) := ⟨by rw [T.size_setCell]; have := HBb.out.size; rw [HES.out] at this; exact this⟩
  have bu3 := (HBb.out.block B HS7.out).trans HU.out.2.2
  have HR7 : Aside0 (Kd.R (Kd.int .i64) 3 (wb_.setCell ⟨B, 2, none⟩ (.slice D7 (N - 1) d7)) S7 (fun k => S7 ≤ k ∧ k < (wb_.setCell ⟨B, 2, none⟩ (.slice D7 (N - 1) d7)).heap.size) (.slice D7 (N - 1) d7) (cutAt t.ls n)) := ⟨by
   have e0 : t.ls.take n ++ t.ls.drop n1 = cutAt t.ls n := by rw [← en1]; rfl
   have h0 := Kd.R_set HO2.out bu3 (by decide) 2 (.slice D7 (N - 1) d7)
   rw [e0] at h0
   exact Kd.R_mono (Kd.R_bound h0) (fun k hk => ⟨hk.2.1, hk.2.2.1⟩)⟩
  have n0_ := Aside0.mk (show (wb_.setCell ⟨B, 2, none⟩ (.slice D7 (N - 1) d7)).heap[w.heap.size]? = some (.cells #[.slice A0 N c0, .slice A1 N c1, .slice A2 N c2, .slice A3 M3 c3, .slice A4 M4 c4] 28 (0, 0)) ∧ (wb_.setCell ⟨B, 2, none⟩ (.slice D7 (N - 1) d7)).heap[w.heap.size + 1]? = some (Obj.cells #[.slice none 0 0, .slice none 0 0, .slice none 0 0, .slice none 0 0, .slice none 0 0] 28) ∧ (wb_.setCell ⟨B, 2, none⟩ (.slice D7 (N - 1) d7)).heap[B]? = some (Obj.cells #[.slice D5 (N - 1) d5, .slice D6 (N - 1) d6, .slice D7 (N - 1) d7, .slice none 0 0, .slice none 0 0] 28) from
   ⟨(KP.out _ (by have := HS7.out; omega) (by omega)).trans HU.out.1, (KP.out _ (by have := HS7.out; omega) (by omega)).trans HU.out.2.1, V.set_at bu3 2 _⟩)
  have n1_ : Aside0 (Below w.heap.size w (wb_.setCell ⟨B, 2, none⟩ (.slice D7 (N - 1) d7))) := ⟨(HB3.out.trans (HBb.out.mono (by rw [← HES.out]; exact HB3.out.size))).setCell (by show w.heap.size ≤ B; omega) _⟩
  have m5_ := Aside0.mk (Kd.R_step HR5.out (fun k hk hlt => KP.out k (by have := hk.2; have := HSZ5.out; have := HSZ6.out; omega) (by have := hk.1; have := HS5.out; omega)))
  clear HR5
  have HR5 := m5_
  clear m5_
  have m6_ := Aside0.mk (Kd.R_step HR6.out (fun k hk hlt => KP.out k (by have := hk.2; have := HSZ5.out; have := HSZ6.out; omega) (by have := hk.1; have := HS6.out; omega)))
  clear HR6
  have HR6 := m6_
  clear m6_
  have n2_ : Aside0 (B < (wb_.setCell ⟨B, 2, none⟩ (.slice D7 (N - 1) d7)).heap.size) := ⟨by have := HSZ.out; have := HS7.out; omega⟩
  clear bu3 HU HB3 HZ t0 u0 t1 u1 t2 u2 uf2 hHeld HO1 HO2 HBa HBb HBd QT QD hpc hnc hn1c HT_ HW_ KP HES
  have HU := n0_
  have HB3 := n1_
  have HZ := n2_
  clear n0_ n1_ n2_
  generalize (wb_.setCell ⟨B, 2, none⟩ (.slice D7 (N - 1) d7)) = W3 at HU HB3 HZ HSZ HR5 HR6 HR7 ⊢
  have HSZ7 := HSZ
  clear HSZ
  have hn' : n < t.ks.length := by rw [HE.out.1]; exact hn
  have hrp := HF.out.2.2.2.2
  have hn'2 : n < t.vs.length := by rw [HE.out.2.1]; exact hn
  obtain ⟨P, Mk, nx', r1, r2, r3⟩ := delete_ex2 t hrp n hn' a nx (by rw [HE.out.1]; exact hNl)
  obtain ⟨kk, hkk⟩ := r1.rounds
  have HD := Aside0.mk (And.intro r2 r3)
  have hMP : ∀ k, k < w.heap.size → ¬ ((S5 ≤ k ∧ k < S6) ∨ (S6 ≤ k ∧ k < S7) ∨ (S7 ≤ k ∧ k < W3.heap.size)) := fun k hk => by have := HS5.out; have := HS6.out; have := HS7.out; omega
  have HC : Aside0 (∀ W_, Go.Proofs.YtjhgknagmiekeaaW.PrintWords.Kept W3 W_ (fun k_ => (S5 ≤ k_ ∧ k_ < S6) ∨ (S6 ≤ k_ ∧ k_ < S7) ∨ (S7 ≤ k_ ∧ k_ < W3.heap.size)) → RtAt W_ t (.slice A0 N c0) (.slice A1 N c1) (.slice A2 N c2) (.slice A3 M3 c3) (.slice A4 M4 c4)) := ⟨fun W_ hk => by
   have h0 := HM.out W_ (Nat.le_trans HB3.out.size hk.1) (fun k h1 _ => (hk.2 k (Nat.lt_of_lt_of_le h1 HB3.out.size) (hMP k h1)).trans (HB3.out.block k h1))
   rw [HE.out.1, HE.out.2.1, HE.out.2.2.1, HE.out.2.2.2.1, HE.out.2.2.2.2] at h0
   exact h0⟩
  have q := musterref03_remade.calls kk A0 c0 t.ks A1 c1 t.vs A2 c2 t.ls A3 c3 t.ps A4 c4 t.ms (fun k => S5 ≤ k ∧ k < S6) (.slice D5 (N - 1) d5) (cutAt t.ks n) (fun k => S6 ≤ k ∧ k < S7) (.slice D6 (N - 1) d6) (cutAt t.vs n) (fun k => S7 ≤ k ∧ k < W3.heap.size) (.slice D7 (N - 1) d7) (cutAt t.ls n) none 0 [] none 0 [] a nx _ _ _ _ _ _ w W3 HB3.out
   (fun W_ hk => (HC.out W_ hk).a0.c) (by rw [HE.out.1]; exact HP.out.1) (fun W_ hk => (HC.out W_ hk).a1.c) (by rw [HE.out.2.1]; exact HP.out.2.1) (fun W_ hk => (HC.out W_ hk).a2.c) (by rw [HE.out.2.2.1]; exact HP.out.2.2.1) (fun W_ hk => (HC.out W_ hk).a3.c) (by rw [HE.out.2.2.2.1]; exact HP.out.2.2.2.1) (fun W_ hk => (HC.out W_ hk).a4.c) (by rw [HE.out.2.2.2.2]; exact HP.out.2.2.2.2)
   (Kd.R_lower HR5.out (by have := HS5.out; omega)) (Kd.R_lower HR6.out (by have := HS6.out; omega)) (fun k h1 h2 => by have := h1.2; have := h2.1; omega) (Kd.R_lower HR7.out (by have := HS7.out; omega)) (fun k h1 h2 => by have := h1.1; have := h2.2; omega)
   (fun W_ _ => Kd.C_nil _ _) (Nat.le_refl _) (fun W_ _ => Kd.C_nil _ _) (Nat.le_refl _) hkk
  rw [HE.out.1, HE.out.2.1, HE.out.2.2.1, HE.out.2.2.2.1, HE.out.2.2.2.2] at q
  have QR := Aside0.mk q
  clear q hkk r1 r2 r3 hMP
  have bt := HU.out.1
  have bu := HU.out.2.2
  have m0 : W3.cell? ⟨w.heap.size, 0, none⟩ = some (.slice A0 N c0) := by rw [blk_cell bt]; rfl
  have u0 : W3.cell? ⟨B, 0, none⟩ = some (.slice D5 (N - 1) d5) := by rw [blk_cell bu]; rfl
  have m1 : W3.cell? ⟨w.heap.size, 1, none⟩ = some (.slice A1 N c1) := by rw [blk_cell bt]; rfl
  have u1 : W3.cell? ⟨B, 1, none⟩ = some (.slice D6 (N - 1) d6) := by rw [blk_cell bu]; rfl
  have m2 : W3.cell? ⟨w.heap.size, 2, none⟩ = some (.slice A2 N c2) := by rw [blk_cell bt]; rfl
  have u2 : W3.cell? ⟨B, 2, none⟩ = some (.slice D7 (N - 1) d7) := by rw [blk_cell bu]; rfl
  have m3 : W3.cell? ⟨w.heap.size, 3, none⟩ = some (.slice A3 M3 c3) := by rw [blk_cell bt]; rfl
  have u3 : W3.cell? ⟨B, 3, none⟩ = some (.slice none 0 0) := by rw [blk_cell bu]; rfl
  have m4 : W3.cell? ⟨w.heap.size, 4, none⟩ = some (.slice A4 M4 c4) := by rw [blk_cell bt]; rfl
  have u4 : W3.cell? ⟨B, 4, none⟩ = some (.slice none 0 0) := by rw [blk_cell bu]; rfl
  clear bt bu
  go_wp2_with (go_at_call 92; refine QR.out.mono ?_)
  rintro e W4 ⟨x0, x1, x2, x3, x4, rfl, R0, R1, R2, R3, R4, hb4, hk4⟩
  obtain ⟨E0, g0, rfl⟩ := Kd.R_slice R0
  obtain ⟨E1, g1, rfl⟩ := Kd.R_slice R1
  obtain ⟨E2, g2, rfl⟩ := Kd.R_slice R2
  obtain ⟨E3, g3, rfl⟩ := Kd.R_slice R3
  obtain ⟨E4, g4, rfl⟩ := Kd.R_slice R4
  have HR := Aside0.mk (And.intro R0 (And.intro R1 (And.intro R2 (And.intro R3 R4))))
  obtain ⟨y0, ey0⟩ : ∃ y, (cutAt t.ks n).length = y := ⟨_, rfl⟩
  obtain ⟨y1, ey1⟩ : ∃ y, (cutAt t.vs n).length = y := ⟨_, rfl⟩
  obtain ⟨y2, ey2⟩ : ∃ y, (cutAt t.ls n).length = y := ⟨_, rfl⟩
  obtain ⟨y3, ey3⟩ : ∃ y, P.length = y := ⟨_, rfl⟩
  obtain ⟨y4, ey4⟩ : ∃ y, Mk.length = y := ⟨_, rfl⟩
  rw [ey0, ey1, ey2, ey3, ey4] at HR
  rw [ey0, ey1, ey2, ey3, ey4]
  clear R0 R1 R2 R3 R4
  have hnP : ∀ k, k ≤ B → ¬ ((S5 ≤ k ∧ k < S6) ∨ (S6 ≤ k ∧ k < S7) ∨ (S7 ≤ k ∧ k < W3.heap.size)) := fun k hk => by have := HS5.out; have := HS6.out; have := HS7.out; omega
  have HU4 := Aside0.mk (And.intro (blk_kept HU.out.1 hk4 (hnP _ (by omega))) (And.intro (blk_kept HU.out.2.1 hk4 (hnP _ (by omega))) (blk_kept HU.out.2.2 hk4 (hnP _ (Nat.le_refl _)))))
  have HB4 := Aside0.mk hb4
  have HV4 := Aside0.mk (HC.out W4 hk4)
  have HY := Aside0.mk (And.intro ey0 (And.intro ey1 (And.intro ey2 (And.intro ey3 ey4))))
  have HZ4 := Aside0.mk (show B < W4.heap.size from Nat.lt_of_lt_of_le HZ.out hk4.1)
  clear hnP hk4 hb4 HU HB3 HZ HR5 HR6 HR7 HSZ7 HSZ6 HSZ5 QR HC ey0 ey1 ey2 ey3 ey4 m0 u0 m1 u1 m2 u2 m3 u3 m4 u4
  have bu := HU4.out.2.2
  have f0 : W4.frozen? ⟨B, 0, none⟩ = false := by simp [World.frozen?, bu]
  have v0 : W4.cell? ⟨B, 0, none⟩ = some (.slice D5 (N - 1) d5) := by rw [blk_cell bu]; rfl
  have f1 : W4.frozen? ⟨B, 1, none⟩ = false := by simp [World.frozen?, bu]
  have v1 : W4.cell? ⟨B, 1, none⟩ = some (.slice D6 (N - 1) d6) := by rw [blk_cell bu]; rfl
  have f2 : W4.frozen? ⟨B, 2, none⟩ = false := by simp [World.frozen?, bu]
  have v2 : W4.cell? ⟨B, 2, none⟩ = some (.slice D7 (N - 1) d7) := by rw [blk_cell bu]; rfl
  have f3 : W4.frozen? ⟨B, 3, none⟩ = false := by simp [World.frozen?, bu]
  have v3 : W4.cell? ⟨B, 3, none⟩ = some (.slice none 0 0) := by rw [blk_cell bu]; rfl
  have f4 : W4.frozen? ⟨B, 4, none⟩ = false := by simp [World.frozen?, bu]
  have v4 : W4.cell? ⟨B, 4, none⟩ = some (.slice none 0 0) := by rw [blk_cell bu]; rfl
  clear bu
  go_wp2_with fail
  have hz5 := V.set5_at HU4.out.2.2 (.slice E0 y0 g0) (.slice E1 y1 g1) (.slice E2 y2 g2) (.slice E3 y3 g3) (.slice E4 y4 g4)
  obtain ⟨W5, e5⟩ : ∃ W5, V.set5 W4 B (.slice E0 y0 g0) (.slice E1 y1 g1) (.slice E2 y2 g2) (.slice E3 y3 g3) (.slice E4 y4 g4) = W5 := ⟨_, rfl⟩
  have hfar : ∀ k, k ≠ B → W5.heap[k]? = W4.heap[k]? := fun k hk => by rw [← e5]; exact V.set5_far _ _ _ _ _ _ _ k hk
  have hsz5 : W5.heap.size = W4.heap.size := by rw [← e5]; simp [V.set5, T.size_setCell]
  have hb5 : Below w.heap.size w W5 := by rw [← e5]; exact V.set5_below HB4.out (by omega) _ _ _ _ _
  rw [e5] at hz5
  have e6 : ((((W4.setCell { block := B, off := 0 } (.slice E0 y0 g0)).setCell { block := B, off := 1 } (.slice E1 y1 g1)).setCell { block := B, off := 2 } (.slice E2 y2 g2)).setCell { block := B, off := 3 } (.slice E3 y3 g3)).setCell { block := B, off := 4 } (.slice E4 y4 g4) = W5 := e5
  rw [e6]
  clear f0 v0 f1 v1 f2 v2 f3 v3 f4 v4
  have bt5 := (hfar w.heap.size (by omega)).trans HU4.out.1
  have br5 := (hfar (w.heap.size + 1) (by omega)).trans HU4.out.2.1
  have HFAR := Aside0.mk (And.intro hfar (And.intro hsz5 hb5))
  have HZ5 := Aside0.mk (And.intro hz5 (And.intro bt5 br5))
  have k0 : W5.cell? ⟨B, 0, none⟩ = some (.slice E0 y0 g0) := by rw [blk_cell hz5]; rfl
  have z0 : W5.cell? ⟨w.heap.size + 1, 0, none⟩ = some (.slice none 0 0) := by rw [blk_cell br5]; rfl
  have g0_ : W5.frozen? ⟨w.heap.size + 1, 0, none⟩ = false := by simp [World.frozen?, br5]
  have k1 : W5.cell? ⟨B, 1, none⟩ = some (.slice E1 y1 g1) := by rw [blk_cell hz5]; rfl
  have z1 : W5.cell? ⟨w.heap.size + 1, 1, none⟩ = some (.slice none 0 0) := by rw [blk_cell br5]; rfl
  have g1_ : W5.frozen? ⟨w.heap.size + 1, 1, none⟩ = false := by simp [World.frozen?, br5]
  have k2 : W5.cell? ⟨B, 2, none⟩ = some (.slice E2 y2 g2) := by rw [blk_cell hz5]; rfl
  have z2 : W5.cell? ⟨w.heap.size + 1, 2, none⟩ = some (.slice none 0 0) := by rw [blk_cell br5]; rfl
  have g2_ : W5.frozen? ⟨w.heap.size + 1, 2, none⟩ = false := by simp [World.frozen?, br5]
  have k3 : W5.cell? ⟨B, 3, none⟩ = some (.slice E3 y3 g3) := by rw [blk_cell hz5]; rfl
  have z3 : W5.cell? ⟨w.heap.size + 1, 3, none⟩ = some (.slice none 0 0) := by rw [blk_cell br5]; rfl
  have g3_ : W5.frozen? ⟨w.heap.size + 1, 3, none⟩ = false := by simp [World.frozen?, br5]
  have k4 : W5.cell? ⟨B, 4, none⟩ = some (.slice E4 y4 g4) := by rw [blk_cell hz5]; rfl
  have z4 : W5.cell? ⟨w.heap.size + 1, 4, none⟩ = some (.slice none 0 0) := by rw [blk_cell br5]; rfl
  have g4_ : W5.frozen? ⟨w.heap.size + 1, 4, none⟩ = false := by simp [World.frozen?, br5]
  have m1 : W5.cell? ⟨w.heap.size, 1, none⟩ = some (.slice A1 N c1) := by rw [blk_cell bt5]; rfl
  obtain ⟨ad, hA1, hadb, hat⟩ := int_at HQ.out.2.1 n hn'2
  have hcell := hat W5 (HFAR.out.2.2.block ad.block hadb)
  have hc6 := set5_cell (b := w.heap.size + 1) (v0 := .slice E0 y0 g0) (v1 := .slice E1 y1 g1) (v2 := .slice E2 y2 g2) (v3 := .slice E3 y3 g3) (v4 := .slice E4 y4 g4) hcell (show (ad.add n).block ≠ w.heap.size + 1 by rw [add_block]; omega)
  clear hat
  subst hA1
  clear hadb
  clear hz5 bt5 br5 hfar hsz5 hb5 e6 e5
  go_region
  go_wp2_with fail
  clear m1 hcell hc6
  have hz6 := V.set5_at HZ5.out.2.2 (.slice E0 y0 g0) (.slice E1 y1 g1) (.slice E2 y2 g2) (.slice E3 y3 g3) (.slice E4 y4 g4)
  obtain ⟨W6, e6⟩ : ∃ W6, V.set5 W5 (w.heap.size + 1) (.slice E0 y0 g0) (.slice E1 y1 g1) (.slice E2 y2 g2) (.slice E3 y3 g3) (.slice E4 y4 g4) = W6 := ⟨_, rfl⟩
  have hfar6 : ∀ k, k ≠ w.heap.size + 1 → W6.heap[k]? = W5.heap[k]? := fun k hk => by rw [← e6]; exact V.set5_far _ _ _ _ _ _ _ k hk
  have hsz6 : W6.heap.size = W5.heap.size := by rw [← e6]; simp [V.set5, T.size_setCell]
  have hb6 : Below w.heap.size w W6 := by rw [← e6]; exact V.set5_below HFAR.out.2.2 (by omega) _ _ _ _ _
  rw [e6] at hz6
  have e7 : ((((W5.setCell { block := w.heap.size + 1, off := 0 } (.slice E0 y0 g0)).setCell { block := w.heap.size + 1, off := 1 } (.slice E1 y1 g1)).setCell { block := w.heap.size + 1, off := 2 } (.slice E2 y2 g2)).setCell { block := w.heap.size + 1, off := 3 } (.slice E3 y3 g3)).setCell { block := w.heap.size + 1, off := 4 } (.slice E4 y4 g4) = W6 := e6
  rw [e7]
  have q0 : W6.drew.cell? ⟨w.heap.size + 1, 0, none⟩ = some (.slice E0 y0 g0) := by show W6.cell? _ = _; rw [blk_cell hz6]; rfl
  have q1 : W6.drew.cell? ⟨w.heap.size + 1, 1, none⟩ = some (.slice E1 y1 g1) := by show W6.cell? _ = _; rw [blk_cell hz6]; rfl
  have q2 : W6.drew.cell? ⟨w.heap.size + 1, 2, none⟩ = some (.slice E2 y2 g2) := by show W6.cell? _ = _; rw [blk_cell hz6]; rfl
  have q3 : W6.drew.cell? ⟨w.heap.size + 1, 3, none⟩ = some (.slice E3 y3 g3) := by show W6.cell? _ = _; rw [blk_cell hz6]; rfl
  have q4 : W6.drew.cell? ⟨w.heap.size + 1, 4, none⟩ = some (.slice E4 y4 g4) := by show W6.cell? _ = _; rw [blk_cell hz6]; rfl
  refine bodyPost_ret (v := .tuple #[.agg #[.slice E0 y0 g0, .slice E1 y1 g1, .slice E2 y2 g2, .slice E3 y3 g3, .slice E4 y4 g4], .int .i64 (rd t.vs n), .bool true, .int .i64 nx']) (by simp [results, Try.results40, go_sem, q0, q1, q2, q3, q4]) rfl ?_
  have hbd : Below W6.heap.size W6 W6.drew := below_drew (Below.refl _ _)
  have hgo : ∀ w2 : World, (∀ k, k < W6.drew.heap.size → ¬ (Mo k ∧ k < w.heap.size) → w2.heap[k]? = W6.drew.heap[k]?) → ∀ k, w.heap.size ≤ k → k < W4.heap.size → (∀ cells, W4.heap[k]? ≠ some (.cells cells 28 (0, 0))) → w2.heap[k]? = W4.heap[k]? := fun w2 h2 k h3 h4 h5 => by
   have hkB : k ≠ B := fun e => h5 _ (by rw [e]; exact HU4.out.2.2)
   have hkR : k ≠ w.heap.size + 1 := fun e => h5 _ (by rw [e]; exact HU4.out.2.1)
   have e1 : W6.drew.heap[k]? = W6.heap[k]? := rfl
   rw [h2 k (by show k < W6.heap.size; rw [hsz6, HFAR.out.2.1]; exact h4) (fun h => by omega), e1, hfar6 k hkR, HFAR.out.1 k hkB]
  refine ⟨⟨cutAt t.ks n, cutAt t.vs n, cutAt t.ls n, P, Mk⟩, rd t.vs n, true, nx', _, _, _, _, _, rfl, fun w2 hs h2 => ?_, HD.out.1, .inr ⟨n, P, Mk, rfl, hn', (HF.out.2.1 (by first | trivial | rfl)).2, rfl, rfl, HD.out.2⟩, T.belowAt hb6 hbd⟩
  obtain ⟨R0, R1, R2, R3, R4⟩ := HR.out
  rw [← HY.out.1] at R0
  rw [← HY.out.2.1] at R1
  rw [← HY.out.2.2.1] at R2
  rw [← HY.out.2.2.2.1] at R3
  rw [← HY.out.2.2.2.2] at R4
  rw [← HY.out.1, ← HY.out.2.1, ← HY.out.2.2.1, ← HY.out.2.2.2.1, ← HY.out.2.2.2.2]
  exact ⟨R_far28 R0 (by decide) (hgo w2 h2), R_far28 R1 (by decide) (hgo w2 h2), R_far28 R2 (by decide) (hgo w2 h2), R_far28 R3 (by decide) (hgo w2 h2), R_far28 R4 (by decide) (hgo w2 h2)⟩
 ·have hz6 := V.set5_at HBB.out.2 (.slice A0 N c0) (.slice A1 N c1) (.slice A2 N c2) (.slice A3 M3 c3) (.slice A4 M4 c4)
  obtain ⟨W6, e6⟩ : ∃ W6, V.set5 w2 (w.heap.size + 1) (.slice A0 N c0) (.slice A1 N c1) (.slice A2 N c2) (.slice A3 M3 c3) (.slice A4 M4 c4) = W6 := ⟨_, rfl⟩
  have hfar6 : ∀ k, k ≠ w.heap.size + 1 → W6.heap[k]? = w2.heap[k]? := fun k hk => by rw [← e6]; exact V.set5_far _ _ _ _ _ _ _ k hk
  have hsz6 : W6.heap.size = w2.heap.size := by rw [← e6]; simp [V.set5, T.size_setCell]
  have hb6 : Below w.heap.size w W6 := by rw [← e6]; exact V.set5_below HB.out (by omega) _ _ _ _ _
  rw [e6] at hz6
  have e7 : ((((w2.setCell { block := w.heap.size + 1, off := 0 } (.slice A0 N c0)).setCell { block := w.heap.size + 1, off := 1 } (.slice A1 N c1)).setCell { block := w.heap.size + 1, off := 2 } (.slice A2 N c2)).setCell { block := w.heap.size + 1, off := 3 } (.slice A3 M3 c3)).setCell { block := w.heap.size + 1, off := 4 } (.slice A4 M4 c4) = W6 := e6
  rw [e7]
  clear m0 m1 m2 m3 m4 z0 z1 z2 z3 z4 g0 g1 g2 g3 g4
  have q0 : W6.cell? ⟨w.heap.size + 1, 0, none⟩ = some (.slice A0 N c0) := by rw [blk_cell hz6]; rfl
  have q1 : W6.cell? ⟨w.heap.size + 1, 1, none⟩ = some (.slice A1 N c1) := by rw [blk_cell hz6]; rfl
  have q2 : W6.cell? ⟨w.heap.size + 1, 2, none⟩ = some (.slice A2 N c2) := by rw [blk_cell hz6]; rfl
  have q3 : W6.cell? ⟨w.heap.size + 1, 3, none⟩ = some (.slice A3 M3 c3) := by rw [blk_cell hz6]; rfl
  have q4 : W6.cell? ⟨w.heap.size + 1, 4, none⟩ = some (.slice A4 M4 c4) := by rw [blk_cell hz6]; rfl
  refine bodyPost_ret (v := .tuple #[.agg #[.slice A0 N c0, .slice A1 N c1, .slice A2 N c2, .slice A3 M3 c3, .slice A4 M4 c4], .int .i64 0, .bool false, .int .i64 nx]) (by simp [results, Try.results40, go_sem, q0, q1, q2, q3, q4]) rfl ?_
  have hna : a ∉ t.ks := fun h => by have := HF.out.2.2.2.1.2 h; simp at this
  refine ⟨t, 0, false, nx, _, _, _, _, _, rfl, fun w2' hs h2 => ?_, HF.out.2.2.2.2, .inl ⟨rfl, hna, rfl, rfl, rfl⟩, hb6⟩
  have h0 := HM.out w2' (Nat.le_trans hb6.size hs) (fun k h1 h3 => (h2 k (Nat.lt_of_lt_of_le h1 hb6.size) (fun h4 => h3 h4.1)).trans (hb6.block k h1))
  rw [HE.out.1, HE.out.2.1, HE.out.2.2.1, HE.out.2.2.2.1, HE.out.2.2.2.2] at h0
  exact h0
end Go.Proofs.Ytjhgknagmiekeaa.N
set_option linter.unusedVariables false
set_option linter.unusedSimpArgs false
namespace Go.Proofs.Ytjhgknagmiekeaa.N
open Go.RowKit Go.Proofs.Ytjhgknagmiekeaa.K Go.Proofs.YtjhgknagmiekeaaW.PrintWords Go.Proofs.YtjhgknagmiekeaaW.PrintLast
open Go.Proofs.Ytjhgknagmiekeaa.V (kpF kpU)
def PlAt (w : World) (v : Value) (idx : List Nat) : Prop := SlI w v (ints idx)
theorem PlAt.below {w w' : World} {v : Value} {idx : List Nat} (h : PlAt w v idx) (hb : Below w.heap.size w w') : PlAt w' v idx := SlI.below h hb
def GoAt (w : World) (v : Value) (l : List S35) : Prop := ∃ A c, v = .slice A l.length c ∧ l.length ≤ c ∧ Kd.C k35 w A l.length l
theorem GoAt.below {w w' : World} {v : Value} {l : List S35} (h : GoAt w v l) (hb : Below w.heap.size w w') : GoAt w' v l := by
  obtain ⟨A, c, h1, h2, h3⟩ := h
  exact ⟨A, c, h1, h2, Kd.C_below h3 hb⟩
theorem plc_len (xs : List ByteArray) (p : ByteArray → Bool) : (plc xs p).length ≤ xs.length := upto_le xs p xs.length
end Go.Proofs.Ytjhgknagmiekeaa.N
set_option linter.unusedVariables false
set_option linter.unusedSimpArgs false
namespace Go.Proofs.Ytjhgknagmiekeaa.N
open Go.RowKit Go.Lib Go.Proofs
open Go.Proofs.Ytjhgknagmiekeaa.K Go.Proofs.YtjhgknagmiekeaaW.PrintWords Go.Proofs.YtjhgknagmiekeaaW.PrintLast
open Go.Proofs.Ytjhgknagmiekeaa.T (Nd Lf Ent All valT findT IntVals Fine Tr)
open Go.Proofs.Ytjhgknagmiekeaa.V (kpU pre)
def AgreeF (f : List UInt8 → Option Value) (t : Rt) : Prop := ∀ q x, (q, x) ∈ (t.ks.zip t.vs).map ex ↔ f q = some (.int .i64 x)
theorem agreeF_of {root : Nd} {t : Rt} (hg : T.Good root) (hv : IntVals root) (h : Agree root t) : AgreeF (valT root) t := fun q x => by
  rw [← mem_ey hg hv, show (All root).map ey = _ from h]
theorem agree_of {root : Nd} {t : Rt} (hg : T.Good root) (hv : IntVals root) (ht : Rok t) (h : AgreeF (valT root) t) : Agree root t := by
  unfold Agree
  have h1 : ((All root).map ey).Pairwise (fun a b => a.1 < b.1) := by
    rw [List.pairwise_map]
    exact T.all_rise hg
  have h2 := rise_zip ht.rise ht.v.symm
  refine T.sorted_ext (lt := fun a b : Kv => a.1 < b.1) (fun x => T.blt_irrefl _) (fun x y z => T.blt_trans) _ _ h1 h2 (fun x => ?_)
  obtain ⟨q, x⟩ := x
  rw [mem_ey hg hv, h q x]
theorem AgreeF.imp {f g : List UInt8 → Option Value} {t : Rt} (h : AgreeF f t) (e : ∀ q, g q = f q) : AgreeF g t := fun q x => by rw [h q x, e q]
theorem agreeF_none {f : List UInt8 → Option Value} {t : Rt} (h : AgreeF f t) (ht : Rok t) {a : ByteArray} (ha : a ∉ t.ks) (x : Int) : f (T.L a) ≠ some (.int .i64 x) := fun e => by
  have := (h (T.L a) x).2 e
  obtain ⟨y, hy, e2⟩ := List.mem_map.1 this
  unfold ex at e2
  have e3 := T.L_inj (Prod.mk.inj e2).1
  rw [← e3] at ha
  exact ha (List.of_mem_zip hy).1
theorem agreeF_del {f : List UInt8 → Option Value} {t t' : Rt} (ht : Rok t) (h : AgreeF f t) {a : ByteArray} {nx nx' old : Int} {b : Bool} (hd : DelRt t t' a nx nx' old b) (hf : ∀ q v, f q = some v → ∃ x, v = .int .i64 x) : AgreeF (fun q => if q = T.L a then none else f q) t' := by
  rcases hd with ⟨-, ha, rfl, -, -⟩ | ⟨n, P, M, -, hn, hga, -, rfl, -⟩
  · refine h.imp (fun q => ?_)
    split
    · rename_i e
      rw [e]
      cases he : f (T.L a) with
      | none => rfl
      | some v =>
        exfalso
        obtain ⟨x, rfl⟩ := hf _ _ he
        exact agreeF_none h ht ha x he
    · rfl
  · intro q x
    have hzn : (t.ks.zip t.vs)[n]? = some (a, t.vs[n]'(by rw [ht.v]; exact hn)) := by
      rw [List.getElem?_eq_getElem (by rw [List.length_zip, ht.v]; omega), List.getElem_zip, ← hga, gd_get hn]
    have hr : (t.ks.zip t.vs).Pairwise (fun a b => T.L a.1 < T.L b.1) := by
      have h2 := rise_zip ht.rise ht.v.symm
      rw [List.pairwise_map] at h2
      exact h2
    show (q, x) ∈ ((cutAt t.ks n).zip (cutAt t.vs n)).map ex ↔ _
    rw [zip_cutAt _ _ _ ht.v.symm]
    have hz : (q, x) ∈ (cutAt (t.ks.zip t.vs) n).map ex ↔ q ≠ T.L a ∧ (q, x) ∈ (t.ks.zip t.vs).map ex := by
      rw [List.mem_map]
      constructor
      · rintro ⟨y, hy, e⟩
        obtain ⟨h3, h4⟩ := (mem_cut hr hzn y).1 hy
        refine ⟨fun h5 => h4 ?_, ?_⟩
        · unfold ex at e
          exact T.L_inj ((Prod.mk.inj e).1.trans h5)
        · rw [← e]
          exact List.mem_map_of_mem h3
      · rintro ⟨h3, h4⟩
        obtain ⟨y, hy, e⟩ := List.mem_map.1 h4
        refine ⟨y, (mem_cut hr hzn y).2 ⟨hy, fun h5 => h3 ?_⟩, e⟩
        unfold ex at e
        rw [← (Prod.mk.inj e).1, h5]
    rw [hz, h q x]
    dsimp only
    by_cases hq : q = T.L a
    · rw [if_pos hq]
      constructor
      · rintro ⟨h3, -⟩; exact absurd hq h3
      · intro e; cases e
    · rw [if_neg hq]
      exact ⟨fun e => e.2, fun e => ⟨hq, e⟩⟩
def lessF (f : List UInt8 → Option Value) (ks : List ByteArray) (pl : List Nat) (j : Nat) (q : List UInt8) : Option Value := if q ∈ (pl.take j).map (fun i => T.L (gd ks i)) then none else f q
theorem lessF_step (f : List UInt8 → Option Value) (ks : List ByteArray) (pl : List Nat) (j : Nat) (hj : j < pl.length) (q : List UInt8) : lessF f ks pl (j + 1) q = if q = T.L (gd ks pl[j]) then none else lessF f ks pl j q := by
  unfold lessF
  rw [List.take_add_one, List.getElem?_eq_getElem hj, List.map_append]
  simp only [Option.toList_some, List.map_cons, List.map_nil, List.mem_append, List.mem_singleton]
  by_cases h1 : q ∈ (pl.take j).map (fun i => T.L (gd ks i))
  · rw [if_pos (.inl h1), if_pos h1]
    split <;> rfl
  · by_cases h2 : q = T.L (gd ks pl[j])
    · rw [if_pos (.inr h2), if_pos h2]
    · rw [if_neg (fun h => h.elim h1 h2), if_neg h2, if_neg h1]
theorem lessF_end {f : List UInt8 → Option Value} {t : Rt} (h : AgreeF f t) (p : ByteArray) (hf : ∀ q v, f q = some v → ∃ x, v = .int .i64 x) (q : List UInt8) : lessF f t.ks (plc t.ks (fun k => kpU (T.L p) (T.L k))) (plc t.ks (fun k => kpU (T.L p) (T.L k))).length q = if T.L p <+: q then none else f q := by
  unfold lessF
  rw [List.take_length]
  have hm : q ∈ (plc t.ks (fun k => kpU (T.L p) (T.L k))).map (fun i => T.L (gd t.ks i)) ↔ T.L p <+: q ∧ ∃ k ∈ t.ks, T.L k = q := by
    rw [List.mem_map]
    unfold plc
    constructor
    · rintro ⟨i, hi, e⟩
      rw [List.mem_filter, List.mem_range] at hi
      refine ⟨?_, gd t.ks i, gd_mem hi.1, e⟩
      rw [← e]
      have := hi.2
      unfold kpU at this
      exact (pre_iff _ _).1 this
    · rintro ⟨h1, k, hk, rfl⟩
      obtain ⟨i, hi, e⟩ := List.getElem_of_mem hk
      refine ⟨i, ?_, by rw [gd_get hi, e]⟩
      rw [List.mem_filter, List.mem_range]
      refine ⟨hi, ?_⟩
      rw [gd_get hi, e]
      unfold kpU
      exact (pre_iff _ _).2 h1
  by_cases h1 : T.L p <+: q
  · rw [if_pos h1]
    split
    · rfl
    · rename_i h2
      cases he : f q with
      | none => rfl
      | some v =>
        exfalso
        obtain ⟨x, rfl⟩ := hf _ _ he
        obtain ⟨y, hy, e⟩ := List.mem_map.1 ((h q x).2 he)
        refine h2 (hm.2 ⟨h1, y.1, (List.of_mem_zip hy).1, ?_⟩)
        unfold ex at e
        exact (Prod.mk.inj e).1
  · rw [if_neg h1, if_neg (fun h => h1 (hm.1 h).1)]
end Go.Proofs.Ytjhgknagmiekeaa.N
