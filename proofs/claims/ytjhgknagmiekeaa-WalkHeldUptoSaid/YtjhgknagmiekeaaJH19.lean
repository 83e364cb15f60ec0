/- joined: V10g V15 V20 V21 V22 V14h V16h V23h V6OA N8 V16 V11 -/
import Derived.Test.YtjhgknagmiekeaaJH16
import Derived.Test.YtjhgknagmiekeaaJH18
import Derived.Stop.RegionWithIn
import Derived.RangeFuncBox
import Derived.Test.YtjhgknagmiekeaaJH15
import Derived.Test.YtjhgknagmiekeaaJH13
import Derived.Deep.RegionHeld3
import Derived.Laws.AppendOwnNone
import Derived.Laws.EntriesVeiled
import Derived.Test.YtjhgknagmiekeaaJH2
import Derived.Test.YtjhgknagmiekeaaRows
import Derived.Test.YtjhgknagmiekeaaJH4
import Derived.Deep.Slices
import Derived.Deep.Fields
import Derived.ChangeSame
import Derived.SizedLaws
import Derived.ProofKit
set_option linter.unusedVariables false
set_option linter.unusedSimpArgs false
namespace Go.Proofs.Ytjhgknagmiekeaa.V
open Go.Proofs.Ytjhgknagmiekeaa.VOU (below_drewA)
open Go.RowKit Go.Lib Go.Proofs Go.Shelf
open Go.Proofs.Ytjhgknagmiekeaa.T Go.Proofs.Ytjhgknagmiekeaa.N Go.Proofs.Ytjhgknagmiekeaa.K
open Go.Proofs.YtjhgknagmiekeaaW.PrintWords hiding blk_cell
theorem own_weak {w : World} {b b' : Nat} {e : TypeId} {size : Nat} {v : Value} {n : Nat} {xs : List Value} (h : w.ownsRow b e size v n xs) (hb : b' ≤ b) : w.ownsRow b' e size v n xs := by
  refine ⟨h.1, ?_⟩
  rcases h.2 with h2 | ⟨g, cap, cur, h1, h2, h3⟩
  · exact .inl h2
  · exact .inr ⟨g, cap, cur, h1, Nat.le_trans hb h2, h3⟩
theorem appended2 {W w1 : World} {n₁ n₀ B : Nat} {t e : TypeId} {size : Nat} {v v' : Value} {k m : Nat} {xs ys : List Value} {tmp : Obj} {M : Nat → Prop}
    (hv : Boxed W B t v) (hte : t ≠ e) (ht : t ≠ 60) (he : e ≠ 60) (hrow : W.ownsRow n₁ e size v k xs) (hn₁ : n₁ ≤ W.heap.size) (hn₀ : n₀ ≤ n₁) (hB : n₀ ≤ B) (hM : M B)
    (hown' : w1.ownsRow n₁ e size v' m ys) (hgrow : (W.alloc tmp).grownBy w1 v.ownBlock) :
    Boxed w1 B t v ∧ Boxed (w1.setCell ⟨B, 0, none⟩ v') B t v' ∧ (w1.setCell ⟨B, 0, none⟩ v').ownsRow n₁ e size v' m ys ∧ KeepsOthers W (w1.setCell ⟨B, 0, none⟩ v') ∧ Below n₀ W (w1.setCell ⟨B, 0, none⟩ v') ∧ KpM n₁ M W (w1.setCell ⟨B, 0, none⟩ v') ∧ (∀ k, k < n₁ → k ≠ B → (w1.setCell ⟨B, 0, none⟩ v').heap[k]? = W.heap[k]?) := by
  obtain ⟨a1, a2, a3, a4, a5⟩ := hv.appended hte (own_weak hrow hn₀) (Nat.le_trans hn₀ hn₁) hB (own_weak hown' hn₀) hgrow
  have hne : ∀ k, k < n₁ → some k ≠ v.ownBlock := fun k hk e9 => by
    rcases hrow.2 with ⟨rfl, _⟩ | ⟨g, cap, cur, rfl, hb, _, _⟩
    · simp [Value.ownBlock] at e9
    · obtain rfl : k = g := by simpa [Value.ownBlock] using e9
      omega
  have hlow : ∀ k, k < n₁ → k ≠ B → (w1.setCell ⟨B, 0, none⟩ v').heap[k]? = W.heap[k]? := fun k hk hkB => by
    rw [Below.heap_setCell _ _ _ k hkB]
    exact (hgrow.block k (by rw [World.size_alloc]; omega) (hne k hk)).trans (Below.heap_alloc _ _ _ (by omega))
  refine ⟨a1, a2, hown'.kept (grownBy_setCell' w1 B v') (.inr (a1.not_row hte hown').symm), a4, a5, ⟨a5.size, fun k o hk h1 h2 => ?_, fun k cs fr hk => ?_⟩, hlow⟩
  · exact (hlow k h1 (fun e9 => h2 (by rw [e9]; exact hM))).trans hk
  · have hkB : k ≠ B := fun e9 => by
      subst e9
      rw [show W.heap[k]? = _ from hv] at hk
      injection hk with h1
      injection h1 with _ h2 _
      exact ht h2
    have hlt := (Array.getElem?_eq_some_iff.1 hk).1
    rw [Below.heap_setCell _ _ _ k hkB]
    refine (hgrow.block k (by rw [World.size_alloc]; omega) (fun e9 => ?_)).trans ((Below.heap_alloc _ _ _ (by omega)).trans hk)
    rcases hrow.2 with ⟨rfl, _⟩ | ⟨g, cap, cur, rfl, hb, hgb, _⟩
    · simp [Value.ownBlock] at e9
    · obtain rfl : k = g := by simpa [Value.ownBlock] using e9
      rw [hk] at hgb
      injection hgb with h1
      injection h1 with _ h2 _
      exact he h2.symm
def rowv (l : List (ByteArray × Int)) : List Value := l.flatMap (fun x => [.string x.1, .int .i64 x.2])
theorem rowv_snoc (l : List (ByteArray × Int)) (x : ByteArray × Int) : rowv (l ++ [x]) = rowv l ++ [.string x.1, .int .i64 x.2] := by simp [rowv]
abbrev mkE (x : ByteArray × Int) : S35 := ⟨x.1, x.2⟩
theorem cell_two_new (w : World) (x y : Value) (t : TypeId) : ∀ j u, [x, y][j]? = some u → (w.alloc (.cells #[x, y] t)).cell? ((⟨w.heap.size, 0, none⟩ : Addr).add j) = some u := by
  intro j u hj
  have h := World.alloc_heap_new w (.cells #[x, y] t)
  match j, hj with
  | 0, hj => cases hj; show World.cell? _ ⟨_, 0, none⟩ = _; rw [blk_cell h]; rfl
  | 1, hj => cases hj; show World.cell? _ ⟨_, 1, none⟩ = _; rw [blk_cell h]; rfl
  | j + 2, hj => cases hj
theorem rowv_drop : ∀ (l : List (ByteArray × Int)) (j : Nat) (x : ByteArray × Int), l[j]? = some x → ((rowv l).drop (j * 2)).take 2 = [.string x.1, .int .i64 x.2]
  | [], j, x, h => by cases h
  | y :: l, 0, x, h => by cases h; rfl
  | y :: l, j + 1, x, h => by
    rw [show (j + 1) * 2 = j * 2 + 2 from by omega]
    exact rowv_drop l j x (by simpa using h)
theorem rowv_len (l : List (ByteArray × Int)) : (rowv l).length = l.length * 2 := by
  induction l with
  | nil => rfl
  | cons x l ih => rw [show rowv (x :: l) = .string x.1 :: .int .i64 x.2 :: rowv l from rfl, List.length_cons, List.length_cons, ih, List.length_cons]; omega
theorem rowv_reps (l : List (ByteArray × Int)) (w : World) : Reps (k35.K w) 2 (l.map mkE) (rowv l) := by
  refine ⟨by rw [rowv_len, List.length_map], fun j p hp => ?_⟩
  rw [List.getElem?_map] at hp
  obtain ⟨x, hx, rfl⟩ := Option.map_eq_some_iff.1 hp
  rw [rowv_drop l j x hx]
  exact k35_mk w (mkE x)
theorem own_got {w : World} {base : Nat} {v : Value} {l : List (ByteArray × Int)} (h : w.ownsRow base 35 2 v l.length (rowv l)) : ∃ A c, v = .slice A (l.map mkE).length c ∧ (l.map mkE).length ≤ c ∧ EntAt w A (l.map mkE) := by
  obtain ⟨A, c, e, hr⟩ := own_reads_row h (rowv_reps l w) (by rw [List.length_map])
  refine ⟨A, c, by rw [List.length_map]; exact e, ?_, by show ReadsRow _ _ _ _ _ _; rw [List.length_map]; exact hr⟩
  rw [List.length_map]
  rcases h.2 with ⟨h1, h2⟩ | ⟨g, cap, cur, h1, h2, h3, h4, h5⟩
  · omega
  · rw [e] at h1
    injection h1 with _ _ h9
    omega
theorem info35 : (Try.prog.info? 35).map (fun i => (i.zero, i.size, i.bytes)) = some (some (.agg #[.string ⟨#[]⟩, .int .i64 0]), 2, 24) := by kernel_rfl
end Go.Proofs.Ytjhgknagmiekeaa.V
set_option linter.unusedVariables false
set_option linter.unusedSimpArgs false
namespace Go.Proofs.Ytjhgknagmiekeaa.V
open Go.RowKit Go.Lib Go.Proofs Go.Shelf
open Go.Proofs.Ytjhgknagmiekeaa.T
open Go.Proofs.YtjhgknagmiekeaaW.PrintWords hiding blk_cell
def TreeTy (t : TypeId) : Prop := t = 58 ∨ t = 117 ∨ t = 124 ∨ t = 127
structure FarB (X : Nat → Prop) (W W' : World) : Prop where
  off : ∀ k, X k → ∀ cs t fr, W.heap[k]? = some (.cells cs t fr) → ¬ TreeTy t
  same : ∀ k, ¬ X k → k < W.heap.size → W'.heap[k]? = W.heap[k]?
theorem FarB.at {X : Nat → Prop} {W W' : World} (h : FarB X W W') {b : Nat} {cs : Array Value} {t : TypeId} {fr : Nat × Nat} (hv : W.heap[b]? = some (.cells cs t fr)) (ht : TreeTy t) : W'.heap[b]? = some (.cells cs t fr) :=
  (h.same b (fun e => h.off b e _ _ _ hv ht) (Array.getElem?_eq_some_iff.1 hv).1).trans hv
theorem FarB.trans {X : Nat → Prop} {A B C : World} (h : FarB X A B) (k : FarB (fun _ => False) B C) : FarB X A C := ⟨h.off, fun j h1 h2 => by
  have e := h.same j h1 h2
  have h3 : j < B.heap.size := by
    have h4 : A.heap[j]? = some A.heap[j] := Array.getElem?_eq_getElem h2
    rw [h4] at e
    exact (Array.getElem?_eq_some_iff.1 e).1
  exact (k.same j (fun x => x) h3).trans e⟩
theorem farB_row {X : Nat → Prop} {W W' : World} (h : FarB X W W') {v : Value} {ks : List Nd} (hr : Row W v (ptrs ks)) : Row W' v (ptrs ks) := by
  rcases hr with hr | ⟨ad, c, hv, hr⟩
  · exact .inl hr
  · refine .inr ⟨ad, c, hv, fun i hi => ?_⟩
    obtain ⟨h1, cs, fr, h2⟩ := hr i hi
    have h3 := h.at h2 (.inl rfl)
    have eb : (ad.add i).block = ad.block := by unfold Addr.add; split <;> rfl
    exact ⟨(World.cell?_of_block (by rw [eb]; exact h3.trans h2.symm) : W'.cell? (ad.add i) = W.cell? (ad.add i)).trans h1, cs, fr, h3⟩
theorem farB_leaf {X : Nat → Prop} {W W' : World} (h : FarB X W W') {o : Option Lf} (hl : LfAt W o) : LfAt W' o := fun l e => h.at (hl l e) (.inr (.inr (.inr rfl)))
mutual
theorem farB_nd {X : Nat → Prop} {W W' : World} (h : FarB X W W') : ∀ t : Nd, NdAt W t → NdAt W' t
  | .mk b label leaf kids mark, hn => by
    unfold NdAt at hn ⊢
    obtain ⟨⟨kv, h1, h2⟩, h3, h4, h5⟩ := hn
    exact ⟨⟨kv, h.at h1 (.inr (.inl rfl)), farB_row h h2⟩, farB_leaf h h3, farB_nds h kids h4, h5⟩
theorem farB_nds {X : Nat → Prop} {W W' : World} (h : FarB X W W') : ∀ ks : List Nd, NdsAt W ks → NdsAt W' ks
  | [], _ => by unfold NdsAt; trivial
  | n :: r, hn => by
    unfold NdsAt at hn ⊢
    exact ⟨farB_nd h n hn.1, farB_nds h r hn.2⟩
end
theorem farB_tr {X : Nat → Prop} {W W' : World} (h : FarB X W W') {tb : Nat} {root : Nd} (ht : Tr W tb root) : Tr W' tb root := ⟨⟨h.at ht.at_.blk (.inr (.inr (.inl rfl))), farB_nd h root ht.at_.root⟩, ht.fine, ht.vals⟩
theorem farB_box {W : World} {B : Nat} {t : TypeId} {v : Value} (hv : Boxed W B t v) (ht : ¬ TreeTy t) (v' : Value) : FarB (fun k => k = B) W (W.setCell ⟨B, 0, none⟩ v') := by
  refine ⟨fun k hk cs t' fr h => ?_, fun k hk h1 => Below.heap_setCell _ _ _ k hk⟩
  subst hk
  rw [show W.heap[k]? = _ from hv] at h
  cases h
  exact ht
end Go.Proofs.Ytjhgknagmiekeaa.V
set_option linter.unusedVariables false
set_option linter.unusedSimpArgs false
namespace Go.Proofs.Ytjhgknagmiekeaa.V
open Go.RowKit Go.Lib Go.Proofs Go.Proofs.Ytjhgknagmiekeaa.T
variable {F : Fence} {n : Nat} {P : Program}
def Quiet (t : TypeId) : Prop := t = 4 ∨ t = 9 ∨ t = 24 ∨ t = 60 ∨ t = 110 ∨ t = 111 ∨ t = 132
def qObj (o : Obj) : Prop := o.isCells = false ∨ ∃ cs t fr, o = .cells cs t fr ∧ Quiet t
structure KeepsU (B : Nat) (W W' : World) : Prop where
  size : W.heap.size ≤ W'.heap.size
  same : ∀ (k : Nat) (o : Obj), B ≤ k → W.heap[k]? = some o → qObj o → W'.heap[k]? = some o
theorem KeepsU.trans {B : Nat} {X Y Z : World} (h : KeepsU B X Y) (k : KeepsU B Y Z) : KeepsU B X Z := ⟨Nat.le_trans h.size k.size, fun i o hB hi ho => k.same i o hB (h.same i o hB hi ho) ho⟩
theorem KeepsU.of {B : Nat} {W W' : World} (h : Below W.heap.size W W') : KeepsU B W W' := ⟨h.size, fun k o _ hk _ => (Kept.of h).at hk⟩
theorem KeepsU.refl (B : Nat) (W : World) : KeepsU B W W := KeepsU.of (Below.refl _ _)
theorem KeepsU.up {B B' : Nat} {W W' : World} (h : KeepsU B W W') (hB : B ≤ B') : KeepsU B' W W' := ⟨h.size, fun k o hk h1 h2 => h.same k o (Nat.le_trans hB hk) h1 h2⟩
theorem KeepsU.put {B l : Nat} (W : World) (o : Obj) (h : l < B) : KeepsU B W (W.putObj l o) := by
  have hg := grownBy_putObj' W l o
  exact ⟨hg.size, fun k x hk h1 _ => (hg.block k (Array.getElem?_eq_some_iff.1 h1).1 (fun e => by cases e; omega)).trans h1⟩
theorem KeepsU.set {B b : Nat} (W : World) (v : Value) (h : b < B) : KeepsU B W (W.setCell ⟨b, 0, none⟩ v) := by
  have hg := grownBy_setCell' W b v
  exact ⟨hg.size, fun k x hk h1 _ => (hg.block k (Array.getElem?_eq_some_iff.1 h1).1 (fun e => by cases e; omega)).trans h1⟩
def ownPostU {α : Type} (B : Nat) (Kp : World → World → Prop) (I : List α → World → Prop) (Ix : Code → List α → World → Prop) (xs : List α) (W : World) : Exit → Act → World → Prop
  | .normal, _, W' => KeepsU B W W' ∧ Kp W W' ∧ I xs W'
  | .ret, _, W' => KeepsU B W W' ∧ Ix .ret xs W'
  | .exit id, _, W' => KeepsU B W W' ∧ Ix (.exit id) xs W'
  | .goto t, _, W' => KeepsU B W W' ∧ Ix (.goto t) xs W'
  | .panic _, _, _ => False
  | .outgrown, _, _ => False
def OwnT {β : Type} (B : Nat) (I : β → World → Prop) : Prop :=
  ∀ s W W' row, I s W → W.grownBy W' row → (∀ r, row = some r → B ≤ r ∧ ∃ o : Obj, W.heap[r]? = some o ∧ (o.isCells = false ∨ ∃ b : Bool, o = .cells #[.bool b] 4 (0, 0))) → I s W'
theorem OwnT.putObj {β : Type} {B : Nat} {I : β → World → Prop} (h : OwnT B I) {s : β} {W : World} {l : Nat} {o : Obj} (o' : Obj) (hs : I s W) (hB : B ≤ l) (hl : W.heap[l]? = some o) (ho : o.isCells = false) : I s (W.putObj l o') :=
  h s W _ (some l) hs (grownBy_putObj' W l o') (fun r e => by cases e; exact ⟨hB, o, hl, .inl ho⟩)
theorem OwnT.alloc {β : Type} {B : Nat} {I : β → World → Prop} (h : OwnT B I) {s : β} {W : World} (o : Obj) (hs : I s W) : I s (W.alloc o) :=
  h s W _ none hs (World.grownBy_alloc W o none) (fun r e => by cases e)
theorem OwnT.and {β : Type} {B : Nat} {I I' : β → World → Prop} (h : OwnT B I) (h' : OwnT B I') : OwnT B (fun s W => I s W ∧ I' s W) := fun s W W' row hs hg hr => ⟨h s W W' row hs.1 hg hr, h' s W W' row hs.2 hg hr⟩
theorem OwnT.bool {β : Type} {B : Nat} {I : β → World → Prop} (h : OwnT B I) {s : β} {W : World} {l : Nat} {b : Bool} (v' : Value) (hs : I s W) (hB : B ≤ l) (hl : Boxed W l 4 (.bool b)) : I s (W.setCell ⟨l, 0, none⟩ v') :=
  h s W _ (some l) hs (grownBy_setCell' W l v') (fun r e => by cases e; exact ⟨hB, _, hl, .inr ⟨b, rfl⟩⟩)
def SeqO {α : Type} (F : Fence) (n : Nat) (P : Program) (g : Nat) (lb : Array Value) (encs : α → Array Value) (Kp : World → World → Prop) (Ok S Sp : List α → Prop) (N : Nat) (w : World) : Prop :=
  ∀ (l : Nat) (J Jx : List α → World → Prop) (W : World), Below w.heap.size w W → l < W.heap.size → OwnT W.heap.size J → OwnT W.heap.size Jx →
    (∀ m pre x W1, J pre W1 → pre.length < N → Ok (pre ++ [x]) → YieldAt F m P l (encs x) W1 fun e W' => KeepsU W.heap.size W1 W' ∧ ((e = .returned (.bool true) ∧ J (pre ++ [x]) W' ∧ Kp W1 W') ∨ (e = .returned (.bool false) ∧ Jx (pre ++ [x]) W'))) →
    J [] W → CallsIn F n P g (#[.func (.yield l) #[] #[]] ++ lb) W fun e W' => (∃ v, e = .returned v) ∧ ((∃ xs, S xs ∧ J xs W') ∨ (∃ pre, Sp pre ∧ Jx pre W'))
theorem ownBelow {β : Type} {B : Nat} {J : β → World → Prop} (h : OwnT B J) {s : β} {W W' : World} (hs : J s W) (hb : Below W.heap.size W W') : J s W' :=
  h s W W' none hs ⟨hb.os, hb.tape, hb.output, hb.size, fun k hk _ => hb.block k hk⟩ (fun r e => by cases e)
theorem keep_old {A B : World} {row : Option Nat} {n0 k : Nat} {o : Obj} (hg : A.grownBy B row) (hr : ∀ r, row = some r → n0 ≤ r) (hk : k < n0) (h : A.heap[k]? = some o) : B.heap[k]? = some o :=
  (hg.block k (Array.getElem?_eq_some_iff.1 h).1 (fun e => by have := hr k e.symm; omega)).trans h
theorem wpIn_rangeFuncO {α : Type} {g : Operand} {ps : Array Tmp} {assign body : Code} {Q : Exit → Act → World → Prop} {a : Act} {w : World}
    (hro : F.round = none) (h1 : 1 ≤ n) {gf : Nat} {lb : Array Value} (hg : a.eval g = .func (.func gf) #[] lb) (hFg : F.fn gf) (eg : ∀ args w, (callFunc gf args).run P w = .ok (.enter gf args) w)
    {encs : α → Array Value} {Kp : World → World → Prop} {Ok S Sp : List α → Prop} {N : Nat} {w0 : World} (hseq : SeqO F (n - 1) P gf lb encs Kp Ok S Sp N w0)
    (hKt : ∀ {A B C : World}, Kp A B → Kp B C → Kp A C) (hKb : ∀ (W : World) (o o' : Obj), W.heap[w.heap.size + 1]? = some o → o.isCells = false → Kp W (W.putObj (w.heap.size + 1) o')) (hb0 : Below w0.heap.size w0 w) (hps : ∀ x, (encs x).size = ps.size)
    (I : List α → World → Prop) (Ix : Code → List α → World → Prop) (hI : OwnT w.heap.size I) (hIx : ∀ c, OwnT w.heap.size (Ix c)) (h0 : I [] w) (Ax : α → Act → World → Prop) (hAx : ∀ x a', OwnT w.heap.size (fun (_ : Unit) W => Ax x a' W))
    (hassign : ∀ (l m : Nat) (pre : List α) (x : α) (W : World) (K : Act → World → Prop), I pre W → Ok (pre ++ [x]) → (∀ a' W', KeepsU w.heap.size W W' → Kp W W' → I pre W' → Ax x a' W' → K a' W') →
      assign.wpIn (F.inRound l) m P (Exit.then K (fun _ _ _ => False)) { tmps := (ps.zip (encs x)).foldl (fun t (p, v) => t.setIfInBounds p v) a.tmps, defers := [] } W)
    (hbody : ∀ (l m : Nat) (pre : List α) (x : α) (a' : Act) (W : World), w.heap.size ≤ l → (∃ r, W.heap[l]? = some (.loop r)) → w.heap.size + 2 ≤ W.heap.size → I pre W → Ax x a' W → pre.length < N → Ok (pre ++ [x]) → body.wpIn (F.inRound l) m P (ownPostU w.heap.size Kp I Ix (pre ++ [x]) W) a' W)
    (hdone : ∀ (D : Nat) (xs : List α) (W : World), w.heap.size ≤ D → S xs → I xs W → W.heap[D]? = some (.deferred (some [])) → Q .normal { a with defers := { target := .collected D, args := #[] } :: a.defers } W)
    (hstop : ∀ (D : Nat) (c : Code) (pre : List α) (W : World), w.heap.size ≤ D → Sp pre → Ix c pre W → W.heap[D]? = some (.deferred (some [])) → c.wpIn F n P Q { a with defers := { target := .collected D, args := #[] } :: a.defers } W) :
    (Code.rangeFunc g ps assign body).wpIn F n P Q a w := by
  refine wpIn_rangeFunc ?_
  intro fn hfn
  rw [hro]
  obtain ⟨rec, hrec⟩ : ∃ rec : LoopState → Option Code → Loop, rec = fun st pe => { state := st, pending := pe, fn, tmps := a.tmps, params := ps, assign, body, defers := w.heap.size } := ⟨_, rfl⟩
  obtain ⟨W1, hW1⟩ : ∃ W1, (w.alloc (.deferred (some []))).alloc (.loop (rec .ready none)) = W1 := ⟨_, rfl⟩
  have hs1 : W1.heap.size = w.heap.size + 2 := by rw [← hW1]; simp
  have hL1 : W1.heap[w.heap.size + 1]? = some (.loop (rec .ready none)) := by
    rw [← hW1]; have := World.alloc_heap_new (w.alloc (.deferred (some []))) (.loop (rec .ready none)); rwa [World.size_alloc] at this
  have hK1 : W1.heap[w.heap.size]? = some (.deferred (some [])) := by
    rw [← hW1]; exact (Below.heap_alloc _ _ _ (by simp)).trans (World.alloc_heap_new w _)
  have hI1 : I [] W1 := by rw [← hW1]; exact hI.alloc _ (hI.alloc _ h0)
  have hb1 : Below w0.heap.size w0 W1 := by
    rw [← hW1]; exact hb0.trans ((((Below.refl _ w).alloc (Nat.le_refl _) _).alloc (by simp) _).mono hb0.size)
  refine ⟨w.heap.size + 1, [{ target := .collected w.heap.size, args := #[] }], W1, { target := .fn (.func gf) lb, args := #[.func (.yield (w.heap.size + 1)) #[] #[]] }, W1, gf,
    #[.func (.yield (w.heap.size + 1)) #[] #[]] ++ lb, W1, ?_, ?_, ?_, ?_, fun _ => h1, ?_⟩
  · rw [← hW1, hrec]; exact run_enterLoop_outer _ _ _ _ _
  · simp only [resolve, hg]
    simp [go_sem]
  · intro f' hf'; simp [Target.leads] at hf'; subst hf'; exact hFg
  · simp [invoke, go_sem, eg]
  · refine (hseq (w.heap.size + 1)
      (fun pre W => (I pre W ∧ w.heap.size + 2 ≤ W.heap.size) ∧ W.heap[w.heap.size + 1]? = some (.loop (rec .ready none)) ∧ W.heap[w.heap.size]? = some (.deferred (some [])))
      (fun pre W => ∃ c, Ix c pre W ∧ W.heap[w.heap.size + 1]? = some (.loop (rec .done (some c))) ∧ W.heap[w.heap.size]? = some (.deferred (some [])))
      W1 hb1 (by omega)
      (fun s A B row hs hg' hr => ⟨⟨hI s A B row hs.1.1 hg' (fun r e => ⟨by have := (hr r e).1; omega, (hr r e).2⟩), Nat.le_trans hs.1.2 hg'.size⟩, keep_old hg' (fun r e => (hr r e).1) (by omega) hs.2.1, keep_old hg' (fun r e => (hr r e).1) (by omega) hs.2.2⟩)
      (fun s A B row hs hg' hr => by
        obtain ⟨c, hc, hl, hk⟩ := hs
        exact ⟨c, hIx c s A B row hc hg' (fun r e => ⟨by have := (hr r e).1; omega, (hr r e).2⟩), keep_old hg' (fun r e => (hr r e).1) (by omega) hl, keep_old hg' (fun r e => (hr r e).1) (by omega) hk⟩)
      ?_ ⟨⟨hI1, by omega⟩, hL1, hK1⟩).mono ?_
    · rintro m pre x W ⟨⟨hi, hsz⟩, hl, hk⟩ hlen hok
      have hlt : w.heap.size + 1 < W.heap.size := (Array.getElem?_eq_some_iff.1 hl).1
      have hy := run_yield (P := P) (args := encs x) hl (by rw [hrec]; exact hps x)
      rw [hrec] at hy
      refine ⟨fn, _, assign, body, hy, roundIn_of_wpIn hfn (hassign _ _ pre x W _ hi hok ?_)⟩
      clear hy
      intro a' Wa hkfa hkpa hia hax
      replace hl := hkfa.same _ _ (by omega) hl (.inl rfl)
      replace hk := hkfa.same _ _ (Nat.le_refl _) hk (.inl rfl)
      replace hsz : w.heap.size + 2 ≤ Wa.heap.size := Nat.le_trans hsz hkfa.size
      replace hlt : w.heap.size + 1 < Wa.heap.size := (Array.getElem?_eq_some_iff.1 hl).1
      refine ⟨_, run_beginRound hl (by rw [hrec]), ?_⟩
      have hl2 : (Wa.putObj (w.heap.size + 1) (.loop { rec .ready none with state := .busy })).heap[w.heap.size + 1]? = some (.loop { rec .ready none with state := .busy }) := World.putObj_heap_same hlt
      have hk2 : (Wa.putObj (w.heap.size + 1) (.loop { rec .ready none with state := .busy })).heap[w.heap.size]? = some (.deferred (some [])) := (World.putObj_heap_other (by omega)).trans hk
      have hw2 : Kp Wa (Wa.putObj (w.heap.size + 1) (.loop { rec .ready none with state := .busy })) := hKb _ _ _ hl rfl
      have hg2 := (grownBy_putObj' Wa (w.heap.size + 1) (.loop { rec .ready none with state := .busy })).size
      refine wpIn_mono (hbody _ _ pre x a' _ (by omega) ⟨_, hl2⟩ (Nat.le_trans hsz hg2) (hI.putObj _ hia (by omega) hl rfl) ((hAx x a').putObj (s := ()) _ hax (by omega) hl rfl) hlen hok) ?_
      have fin : ∀ (jump : Option Code) (W3 : World), KeepsU w.heap.size (Wa.putObj (w.heap.size + 1) (.loop { rec .ready none with state := .busy })) W3 →
          (Instr.endRound (w.heap.size + 1) jump).run P W3 = .ok (.bool jump.isNone) (W3.putObj (w.heap.size + 1) (.loop (rec (if jump.isNone then .ready else .done) jump))) ∧
          W3.heap[w.heap.size + 1]? = some (.loop { rec .ready none with state := .busy }) ∧
          (W3.putObj (w.heap.size + 1) (.loop (rec (if jump.isNone then .ready else .done) jump))).heap[w.heap.size + 1]? = some (.loop (rec (if jump.isNone then .ready else .done) jump)) ∧
          (W3.putObj (w.heap.size + 1) (.loop (rec (if jump.isNone then .ready else .done) jump))).heap[w.heap.size]? = some (.deferred (some [])) ∧
          w.heap.size + 2 ≤ (W3.putObj (w.heap.size + 1) (.loop (rec (if jump.isNone then .ready else .done) jump))).heap.size := fun jump W3 hk3 => by
        have hl3 := hk3.same _ _ (by omega) hl2 (.inl rfl)
        have := run_endRound (P := P) jump hl3
        have h9 := (Array.getElem?_eq_some_iff.1 hl3).1
        have h8 := (grownBy_putObj' W3 (w.heap.size + 1) (.loop (rec (if jump.isNone then .ready else .done) jump))).size
        rw [hrec] at this ⊢
        rw [hrec] at h8
        exact ⟨this, by rw [hrec] at hl3; exact hl3, World.putObj_heap_same h9, (World.putObj_heap_other (by omega)).trans (hk3.same _ _ (Nat.le_refl _) hk2 (.inl rfl)), by omega⟩
      have kf : ∀ (W3 : World) (o : Obj), KeepsU w.heap.size (Wa.putObj (w.heap.size + 1) (.loop { rec .ready none with state := .busy })) W3 → KeepsU W1.heap.size W (W3.putObj (w.heap.size + 1) o) := fun W3 o hk3 =>
        (((hkfa.up (by omega)).trans (KeepsU.put Wa _ (by omega))).trans (hk3.up (by omega))).trans (KeepsU.put W3 o (by omega))
      rintro e a3 W3 hp
      cases e with
      | normal =>
        obtain ⟨hk3, hkp3, hi3⟩ := hp
        obtain ⟨hr, hl3, hl4, hk4, hs4⟩ := fin none W3 hk3
        exact ⟨_, _, hr, kf _ _ hk3, .inl ⟨rfl, ⟨⟨hI.putObj _ hi3 (by omega) hl3 rfl, hs4⟩, hl4, hk4⟩, hKt hkpa (hKt (hKt hw2 hkp3) (hKb _ _ _ hl3 rfl))⟩⟩
      | ret =>
        obtain ⟨hk3, hi3⟩ := hp
        obtain ⟨hr, hl3, hl4, hk4, hs4⟩ := fin (some .ret) W3 hk3
        exact ⟨_, _, hr, kf _ _ hk3, .inr ⟨rfl, .ret, (hIx _).putObj _ hi3 (by omega) hl3 rfl, hl4, hk4⟩⟩
      | exit id =>
        obtain ⟨hk3, hi3⟩ := hp
        obtain ⟨hr, hl3, hl4, hk4, hs4⟩ := fin (some (.exit id)) W3 hk3
        exact ⟨_, _, hr, kf _ _ hk3, .inr ⟨rfl, .exit id, (hIx _).putObj _ hi3 (by omega) hl3 rfl, hl4, hk4⟩⟩
      | goto t =>
        obtain ⟨hk3, hi3⟩ := hp
        obtain ⟨hr, hl3, hl4, hk4, hs4⟩ := fin (some (.goto t)) W3 hk3
        exact ⟨_, _, hr, kf _ _ hk3, .inr ⟨rfl, .goto t, (hIx _).putObj _ hi3 (by omega) hl3 rfl, hl4, hk4⟩⟩
      | panic ch => exact hp.elim
      | outgrown => exact hp.elim
    · rintro e W2 ⟨⟨v, rfl⟩, (⟨xs, hS, ⟨hi, -⟩, hl, hk⟩ | ⟨pre, hSp, c, hi, hl, hk⟩)⟩
      · exact ⟨none, _, by have := run_endLoop (P := P) hl (by rw [hrec]; simp); rw [hrec] at this; exact this, hdone _ xs _ (Nat.le_refl _) hS (hI.putObj _ hi (by omega) hl rfl) ((World.putObj_heap_other (by omega)).trans hk)⟩
      · exact ⟨some c, _, by have := run_endLoop (P := P) hl (by rw [hrec]; simp); rw [hrec] at this; exact this, hstop _ c pre _ (Nat.le_refl _) hSp ((hIx c).putObj _ hi (by omega) hl rfl) ((World.putObj_heap_other (by omega)).trans hk)⟩
end Go.Proofs.Ytjhgknagmiekeaa.V
set_option linter.unusedVariables false
set_option linter.unusedSimpArgs false
namespace Go.Proofs.Ytjhgknagmiekeaa.V
open Go.RowKit Go.Lib Go.Proofs Go.Proofs.Ytjhgknagmiekeaa.T Go.Proofs.Ytjhgknagmiekeaa.VOA
open Go.Proofs.YtjhgknagmiekeaaW.PrintWords hiding blk_cell
attribute [local go_sem] Oper.semAt_some
structure KpT (n₁ : Nat) (M : Nat → Prop) (W W' : World) : Prop where
  size : W.heap.size ≤ W'.heap.size
  low : ∀ (k : Nat) (o : Obj), W.heap[k]? = some o → k < n₁ → ¬ M k → W'.heap[k]? = some o
  typ : ∀ (k : Nat) (cs : Array Value) (t : TypeId) (fr : Nat × Nat), Quiet t → W.heap[k]? = some (Obj.cells cs t fr) → W'.heap[k]? = some (Obj.cells cs t fr)
theorem KpT.trans {n₁ : Nat} {M : Nat → Prop} {A B C : World} (h : KpT n₁ M A B) (k : KpT n₁ M B C) : KpT n₁ M A C :=
  ⟨Nat.le_trans h.size k.size, fun i o hi h1 h2 => k.low i o (h.low i o hi h1 h2) h1 h2, fun i cs t fr ht hi => k.typ i cs t fr ht (h.typ i cs t fr ht hi)⟩
theorem KpT.of {n₁ : Nat} {M : Nat → Prop} {W W' : World} (h : Below W.heap.size W W') : KpT n₁ M W W' :=
  ⟨h.size, fun k o hk _ _ => (Kept.of h).at hk, fun k cs t fr _ hk => (Kept.of h).at hk⟩
theorem KpT.putObj {n₁ : Nat} {M : Nat → Prop} (W : World) (l : Nat) (o o' : Obj) (hn : n₁ ≤ l) (hl : W.heap[l]? = some o) (hc : o.isCells = false) : KpT n₁ M W (W.putObj l o') := by
  have hg := grownBy_putObj' W l o'
  refine ⟨hg.size, fun k x hk h1 h2 => ?_, fun k cs t fr _ hk => ?_⟩
  · exact (hg.block k (Array.getElem?_eq_some_iff.1 hk).1 (fun e => by cases e; omega)).trans hk
  · refine (hg.block k (Array.getElem?_eq_some_iff.1 hk).1 (fun e => ?_)).trans hk
    cases e
    rw [hk] at hl
    cases hl
    cases hc
structure KpQ (W W' : World) : Prop where
  size : W.heap.size ≤ W'.heap.size
  typ : ∀ (k : Nat) (cs : Array Value) (t : TypeId) (fr : Nat × Nat), Quiet t → W.heap[k]? = some (Obj.cells cs t fr) → W'.heap[k]? = some (Obj.cells cs t fr)
theorem KpQ.trans {A B C : World} (h : KpQ A B) (k : KpQ B C) : KpQ A C := ⟨Nat.le_trans h.size k.size, fun i cs t fr ht hi => k.typ i cs t fr ht (h.typ i cs t fr ht hi)⟩
theorem KpQ.of {W W' : World} (h : Below W.heap.size W W') : KpQ W W' := ⟨h.size, fun k cs t fr _ hk => (Kept.of h).at hk⟩
theorem KpT.q {n₁ : Nat} {M : Nat → Prop} {W W' : World} (h : KpT n₁ M W W') : KpQ W W' := ⟨h.size, h.typ⟩
theorem KpQ.putObj (W : World) (l : Nat) (o o' : Obj) (hl : W.heap[l]? = some o) (hc : o.isCells = false) : KpQ W (W.putObj l o') := by
  have hg := grownBy_putObj' W l o'
  refine ⟨hg.size, fun k cs t fr _ hk => ?_⟩
  refine (hg.block k (Array.getElem?_eq_some_iff.1 hk).1 (fun e => ?_)).trans hk
  cases e
  rw [hk] at hl
  cases hl
  cases hc
theorem ownT_size {β : Type} {B : Nat} (n : Nat) : OwnT B (fun (_ : β) W => n ≤ W.heap.size) := fun _ X Y row hs hg hr => Nat.le_trans hs hg.size
theorem ownT_pure {β : Type} (B : Nat) (p : β → Prop) : OwnT B (fun s (_ : World) => p s) := fun _ _ _ _ hs _ _ => hs
theorem ownT_old {β : Type} {B : Nat} (b : Nat) (f : β → Obj) (hb : b < B) : OwnT B (fun s W => W.heap[b]? = some (f s)) := fun _ X Y row hs hg hr => keep_old hg (fun r e => (hr r e).1) hb hs
theorem ownT_below {β : Type} {B n : Nat} {w : World} (hn : n ≤ w.heap.size) (hB : n ≤ B) : OwnT B (fun (_ : β) W => Below n w W) := fun _ X Y row hs hg hr => hs.grown hg (Nat.le_trans hn hs.size) (fun k e => Nat.le_trans hB (hr k e).1)
theorem callsIn_round {m : Nat} {P : Program} {f : FuncId} {args : Array Value} {w : World} {R : Ending → World → Prop} (l : Nat) (h : CallsIn Fence.wide m P f args w R) : CallsIn (Fence.wide.inRound l) m P f args w R := h
end Go.Proofs.Ytjhgknagmiekeaa.V
set_option linter.unusedVariables false
set_option linter.unusedSimpArgs false
namespace Go.Proofs.Ytjhgknagmiekeaa.V
open Go.RowKit Go.Lib Go.Proofs Go.Proofs.Ytjhgknagmiekeaa.T Go.Proofs.Ytjhgknagmiekeaa.VOA
open Go.Proofs.YtjhgknagmiekeaaW.PrintWords hiding blk_cell
attribute [local go_sem] Oper.semAt_some
theorem results_box {fn : Func} {p : Tmp} (h : fn.results = #[.cell p 4]) (tmps : Array Value) (w : World) (g : Nat) (b : Bool) (hp : tmps.getD p undef = .pointer (some ⟨g, 0, none⟩)) (hg : Boxed w g 4 (.bool b)) :
    (results fn tmps).run Try.prog w = .ok (.bool b) w := by
  have hp' : tmps[p]?.getD undef = .pointer (some ⟨g, 0, none⟩) := by simpa using hp
  have hc := hg.cell
  simp [results, h, hp', asAddr, go_sem, hc]
end Go.Proofs.Ytjhgknagmiekeaa.V
set_option linter.unusedVariables false
set_option linter.unusedSimpArgs false
namespace Go.Proofs.Ytjhgknagmiekeaa.V
open Go.RowKit Go.Lib Go.Proofs Go.Shelf
open Go.Proofs.Ytjhgknagmiekeaa.T Go.Proofs.Ytjhgknagmiekeaa.N Go.Proofs.Ytjhgknagmiekeaa.K
open Go.Proofs.YtjhgknagmiekeaaW.PrintWords hiding blk_cell
theorem all_eq {root : Nd} {t : Rt} (hg : T.Good root) (h : Agree root t) : ovr (fun _ => false) (fun _ => true) ⟨#[]⟩ root = t.ks.zip t.vs := by
  have e := ovr_eqs hg h (fun _ => false) (fun _ => true) hskA
  rw [e]
  exact List.filter_eq_self.2 (fun _ _ => rfl)
end Go.Proofs.Ytjhgknagmiekeaa.V
set_option linter.unusedVariables false
set_option linter.unusedSimpArgs false
namespace Go.Proofs.Ytjhgknagmiekeaa.V
open Go.Proofs.Ytjhgknagmiekeaa.VOU (below_drewA)
open Go.RowKit Go.Lib Go.Proofs Go.Shelf
open Go.Proofs.Ytjhgknagmiekeaa.T Go.Proofs.Ytjhgknagmiekeaa.N Go.Proofs.Ytjhgknagmiekeaa.K
open Go.Proofs.YtjhgknagmiekeaaW.PrintWords hiding blk_cell
theorem farB_ownT {W W' : World} {row : Option Nat} {B : Nat} (hg : W.grownBy W' row) (hr : ∀ r, row = some r → B ≤ r ∧ ∃ o : Obj, W.heap[r]? = some o ∧ (o.isCells = false ∨ ∃ b : Bool, o = .cells #[.bool b] 4 (0, 0))) : FarB (fun k => row = some k) W W' := by
  refine ⟨fun k hk cs t fr h => ?_, fun k hk h1 => hg.block k h1 (fun e => hk e.symm)⟩
  obtain ⟨-, o, h1, h2⟩ := hr k hk
  rw [h] at h1
  cases h1
  rcases h2 with h2 | ⟨b, h2⟩
  · cases h2
  · injection h2 with e1 e2 e3
    subst e1
    subst e2
    unfold TreeTy
    decide
theorem ownT_tr {β : Type} {B : Nat} (tb : Nat) (root : Nd) : OwnT B (fun (_ : β) W => Tr W tb root) := fun s X Y row hs hg hr => farB_tr (farB_ownT hg hr) hs
theorem ownT_row {β : Type} {B : Nat} (base : Nat) (e : TypeId) (size : Nat) (he : e ≠ 4) (v : Value) (n : Nat) (xs : List Value) : OwnT B (fun (_ : β) W => W.ownsRow base e size v n xs) := fun s X Y row hs hg hr => by
  refine own_move hs (fun k hk => ?_)
  obtain ⟨cs, hc⟩ := own_typed hs k hk
  refine hg.block k (Array.getElem?_eq_some_iff.1 hc).1 (fun e9 => ?_)
  obtain ⟨-, o, h1, h2⟩ := hr k e9.symm
  rw [hc] at h1
  cases h1
  rcases h2 with h2 | ⟨b, h2⟩
  · cases h2
  · injection h2 with _ h3 _
    exact he h3
theorem ownT_all {β γ : Type} {B : Nat} {p : γ → β → World → Prop} (h : ∀ g, OwnT B (p g)) : OwnT B (fun s W => ∃ g, p g s W) := fun s X Y row hs hg hr => by
  obtain ⟨g, hs⟩ := hs
  exact ⟨g, h g s X Y row hs hg hr⟩
theorem appendedF {W w1 : World} {n₁ B : Nat} {t e : TypeId} {size : Nat} {v v' : Value} {k m : Nat} {xs ys : List Value} {tmp : Obj}
    (hv : Boxed W B t v) (hrow : W.ownsRow n₁ e size v k xs) (hown' : w1.ownsRow n₁ e size v' m ys) (hgrow : (W.alloc tmp).grownBy w1 v.ownBlock) :
    ∀ j, j < W.heap.size → j ≠ B → some j ≠ v.ownBlock → (w1.setCell ⟨B, 0, none⟩ v').heap[j]? = W.heap[j]? := fun j hj hB ho => by
  rw [Below.heap_setCell _ _ _ j hB]
  exact (hgrow.block j (by rw [World.size_alloc]; omega) ho).trans (Below.heap_alloc _ _ _ hj)
theorem appendedFar {W w1 : World} {n₁ B : Nat} {t e : TypeId} {size : Nat} {v v' : Value} {k m : Nat} {xs ys : List Value} {tmp : Obj} (ht : ¬ TreeTy t) (he : ¬ TreeTy e)
    (hv : Boxed W B t v) (hrow : W.ownsRow n₁ e size v k xs) (hown' : w1.ownsRow n₁ e size v' m ys) (hgrow : (W.alloc tmp).grownBy w1 v.ownBlock) : FarB (fun j => j = B ∨ some j = v.ownBlock) W (w1.setCell ⟨B, 0, none⟩ v') := by
  refine ⟨fun j hj cs t' fr h => ?_, fun j hj hl => appendedF hv hrow hown' hgrow j hl (fun e9 => hj (.inl e9)) (fun e9 => hj (.inr e9))⟩
  rcases hj with rfl | hj
  · rw [show W.heap[j]? = _ from hv] at h
    cases h
    exact ht
  · obtain ⟨cs', hc⟩ := own_typed hrow j hj.symm
    rw [hc] at h
    cases h
    exact he
theorem appendedU {W w1 : World} {n₁ B B' : Nat} {t e : TypeId} {size : Nat} {v v' : Value} {k m : Nat} {xs ys : List Value} {tmp : Obj} (he : ¬ Quiet e) (hB : B < B')
    (hv : Boxed W B t v) (hrow : W.ownsRow n₁ e size v k xs) (hown' : w1.ownsRow n₁ e size v' m ys) (hgrow : (W.alloc tmp).grownBy w1 v.ownBlock) : KeepsU B' W (w1.setCell ⟨B, 0, none⟩ v') := by
  refine ⟨?_, fun j o hj h hq => ?_⟩
  · have h1 := hgrow.size
    have h2 := (grownBy_setCell' w1 B v').size
    rw [World.size_alloc] at h1
    omega
  · refine (appendedF hv hrow hown' hgrow j (Array.getElem?_eq_some_iff.1 h).1 (by omega) (fun e9 => ?_)).trans h
    obtain ⟨cs', hc⟩ := own_typed hrow j e9.symm
    rw [hc] at h
    cases h
    rcases hq with hq | ⟨_, _, _, hq, hq2⟩
    · cases hq
    · injection hq with _ h3 _
      subst h3
      exact he hq2
theorem lastE_mem (l : List S35) (r : List UInt8) (v : Value) (h : lastE l r = some v) : ∃ e ∈ l, r = L e.f0 := by
  have key : ∀ (l : List S35) (o : Option Value) (v : Value), l.foldl (fun o e => if r = L e.f0 then some (.int .i64 e.f1) else o) o = some v → o = some v ∨ ∃ e ∈ l, r = L e.f0 := by
    intro l
    induction l with
    | nil => intro o v h; exact .inl h
    | cons x l ih =>
      intro o v h
      rw [List.foldl_cons] at h
      rcases ih _ v h with h1 | ⟨e, he, h2⟩
      · by_cases hr : r = L x.f0
        · exact .inr ⟨x, by simp, hr⟩
        · rw [if_neg hr] at h1
          exact .inl h1
      · exact .inr ⟨e, by simp [he], h2⟩
  rcases key l none v h with h1 | h1
  · cases h1
  · exact h1
theorem key_small {root : Nd} {t : Rt} {l : List S35} (hf : Fine root) (hv : IntVals root) (ha : Agree root t) (hl : ∀ r, valT root r = lastE l r) {K : Nat} (hs : ∀ e ∈ l, e.f0.size < K) {x : ByteArray × Int} (hx : x ∈ t.ks.zip t.vs) : x.1.size < K := by
  have h1 : ex x ∈ (All root).map ey := by rw [ha]; exact List.mem_map_of_mem hx
  have h2 := (mem_ey hf.toGood hv _ _).1 (show (L x.1, x.2) ∈ (All root).map ey from h1)
  rw [hl] at h2
  obtain ⟨e, he, h3⟩ := lastE_mem l _ _ h2
  have h4 := hs e he
  have h5 := L_len x.1
  have h6 := L_len e.f0
  rw [h3] at h5
  omega
theorem was_parts (tb : Nat) (o : Option Value) : ∃ a b, wasV tb o = .tuple #[ptr tb, a, b] := by
  cases o with
  | none => exact ⟨_, _, rfl⟩
  | some v => exact ⟨_, _, rfl⟩
theorem all_len {root : Nd} {t : Rt} (ha : Agree root t) (hv : t.vs.length = t.ks.length) : (All root).length = t.ks.length := by
  have := congrArg List.length ha
  rw [List.length_map, List.length_map, List.length_zip] at this
  omega
theorem insP (w : World) (tb : Nat) (root : Nd) (h : Tr w tb root) (k : ByteArray) (v : Int) (hk : k.size < 4000000000000) (hs : (All root).length < 3999999999999) :
    Calls Try.prog 43 #[ptr tb, .string k, .int .i64 v] w fun e w' => ∃ tb' root' a b, e = .returned (.tuple #[ptr tb', a, b]) ∧ Tr w' tb' root' ∧ (All root').length ≤ (All root).length + 1 ∧ Below w.heap.size w w' := by
  refine (insC w tb root h k v hk hs).mono ?_
  rintro e w' ⟨tb', root', rfl, h1, h2, h3, h4⟩
  obtain ⟨a, b, e⟩ := was_parts tb' (valT root (L k))
  exact ⟨tb', root', a, b, by rw [e], h1, h3, h4⟩
theorem delP (w : World) (tb : Nat) (root : Nd) (h : Tr w tb root) (k : ByteArray) (hk : k.size < 4000000000000) (hs : (All root).length < 3999999999999) :
    Calls Try.prog 39 #[ptr tb, .string k] w fun e w' => ∃ tb' root' a b, e = .returned (.tuple #[ptr tb', a, b]) ∧ Tr w' tb' root' ∧ (∀ r, valT root' r = if r = L k then none else valT root r) ∧ (All root').length ≤ (All root).length ∧ Below w.heap.size w w' := by
  refine (delC w tb root h k hk hs).mono ?_
  rintro e w' ⟨tb', root', rfl, h1, h2, h3, h4⟩
  obtain ⟨a, b, e⟩ := was_parts tb' (valT root (L k))
  exact ⟨tb', root', a, b, by rw [e], h1, h2, h3, h4⟩
theorem row_keep {w w' : World} {base : Nat} {e : TypeId} {size n : Nat} {v : Value} {xs : List Value} (h : w.ownsRow base e size v n xs) (hk : ∀ k, base ≤ k → k < w.heap.size → w'.heap[k]? = w.heap[k]?) : w'.ownsRow base e size v n xs :=
  own_move h (fun k e9 => hk k (own_base h k e9) (own_lt h k e9))
end Go.Proofs.Ytjhgknagmiekeaa.V
set_option linter.unusedVariables false
set_option linter.unusedSimpArgs false
namespace Go.Proofs.Ytjhgknagmiekeaa.V
open Go.RowKit Go.Lib Go.Proofs Go.Shelf
open Go.Proofs.Ytjhgknagmiekeaa.T Go.Proofs.Ytjhgknagmiekeaa.N Go.Proofs.Ytjhgknagmiekeaa.K
open Go.Proofs.YtjhgknagmiekeaaW.PrintWords hiding blk_cell
theorem kpF_nil : ∀ q : List UInt8, kpF [] q = true := fun q => by
  unfold kpF
  have : ¬ q < [] := by intro h; cases h
  simp [this]
theorem cell_far {W : World} {b : Nat} {v : Value} {a : Addr} {u : Value} (hne : a.block ≠ b) (h : W.cell? a = some u) : (W.setCell ⟨b, 0, none⟩ v).cell? a = some u := (World.cell?_of_block (Below.heap_setCell _ _ _ _ hne)).trans h
end Go.Proofs.Ytjhgknagmiekeaa.V
set_option linter.unusedVariables false
set_option linter.unusedSimpArgs false
namespace Go.Proofs.Ytjhgknagmiekeaa.VOA
open Go.RowKit Go.Lib Go.Proofs Go.Proofs.Ytjhgknagmiekeaa.T Go.Proofs.Ytjhgknagmiekeaa.V
open Go.Proofs.YtjhgknagmiekeaaW.PrintWords hiding blk_cell
theorem seq (w : World) (n NN n₁ : Nat) (M : Nat → Prop) (wB : World) (hkB : Kept wB w) (hnB : wB.heap.size ≤ n₁) (hnw : n₁ ≤ w.heap.size) (hM : ∀ k, k < wB.heap.size → ¬ M k)
    (tb : Nat) (root : Nd) (ht : Tr wB tb root) (bt bs bk : Nat) (hc : Closed w bt bs bk tb) (hNN : (ovr (fun _ => false) (fun _ => true) ⟨#[]⟩ root).length ≤ NN) :
    SeqO Fence.wide n Try.prog 117 #[ptr bt, ptr bs, ptr bk] (fun x : ByteArray × Int => #[.string x.1, .int .i64 x.2]) (KpM n₁ M) (fun ys => ys <+: (ovr (fun _ => false) (fun _ => true) ⟨#[]⟩ root)) (fun ys => ys = (ovr (fun _ => false) (fun _ => true) ⟨#[]⟩ root)) (fun ys => ys <+: (ovr (fun _ => false) (fun _ => true) ⟨#[]⟩ root)) NN w := by
  intro l J Jx W hw hl hJ hJx hY hJ0
  have hk : Kept w W := Kept.of hw
  have hc2 : Closed W bt bs bk tb := ⟨hk.at hc.1, hk.at hc.2.1, hk.at hc.2.2⟩
  refine callsIn_wide.2 (walked_calls l n₁ (fun ys => ys <+: (ovr (fun _ => false) (fun _ => true) ⟨#[]⟩ root)) (fun a b h => (List.prefix_append a b).trans h) M J Jx (fun s W1 W2 hs hb => ownBelow hJ hs hb) (fun m pre x W1 h1 h2 => (hY m pre x W1 h1 (by have := h2.length_le; rw [List.length_append, List.length_singleton] at this; omega) h2).mono (fun e W' h => h.2)) W wB (hkB.trans hk (Nat.le_trans hnB hnw)) hnB hM (fun _ => false) (fun _ => true)
    (fun q W1 h1 => neverC q W1) (fun q W1 h1 => alwaysC q W1) tb root ht bt bs bk W hc2 (Stnd.refl W n₁ M) (Nat.le_trans hnw hw.size) hJ0 (List.prefix_refl _))
end Go.Proofs.Ytjhgknagmiekeaa.VOA
set_option linter.unusedVariables false
set_option linter.unusedSimpArgs false
namespace Go.Proofs.Ytjhgknagmiekeaa.N
open Go.RowKit Go.Proofs.Ytjhgknagmiekeaa.K Go.Proofs.YtjhgknagmiekeaaW.PrintWords Go.Proofs.YtjhgknagmiekeaaW.PrintLast
open Go.Proofs.Ytjhgknagmiekeaa.V (kpF kpU)
def PlAt (w : World) (v : Value) (idx : List Nat) : Prop := SlI w v (ints idx)
theorem PlAt.below {w w' : World} {v : Value} {idx : List Nat} (h : PlAt w v idx) (hb : Below w.heap.size w w') : PlAt w' v idx := SlI.below h hb
theorem fromRtC (w : World) (t : Rt) (h : Rok t) (hl : t.ks.length < 100000000000) (v0 v1 v2 v3 v4 : Value) (hm : RtAt w t v0 v1 v2 v3 v4) (lo : ByteArray) :
    Calls Try.prog 28 #[.agg #[v0, v1, v2, v3, v4], .string lo] w fun e w' => ∃ A n c, e = .returned (.slice A n c) ∧ PlAt w' (.slice A n c) (plc t.ks (fun k => kpF (T.L lo) (T.L k))) ∧ Below w.heap.size w w' := by
  obtain ⟨k, hk⟩ := (from_ev t h hl lo).rounds
  obtain ⟨⟨A0, c0, rfl, p0, q0⟩, ⟨A1, c1, rfl, p1, q1⟩, ⟨A2, c2, rfl, p2, q2⟩, ⟨A3, c3, rfl, p3, q3⟩, ⟨A4, c4, rfl, p4, q4⟩⟩ := hm
  refine (musterref04_From.calls k A0 c0 t.ks A1 c1 t.vs A2 c2 t.ls A3 c3 t.ps A4 c4 t.ms lo _ w q0 p0 q1 p1 q2 p2 q3 p3 q4 p4 hk).mono ?_
  rintro e w' ⟨v, rfl, hr, hb⟩
  obtain ⟨A, c, rfl, h1, h2⟩ := Kd.R_reads hr
  exact ⟨A, _, c, rfl, ⟨A, c, rfl, h1, h2⟩, hb⟩
def GoAt (w : World) (v : Value) (l : List S35) : Prop := ∃ A c, v = .slice A l.length c ∧ l.length ≤ c ∧ Kd.C k35 w A l.length l
theorem GoAt.below {w w' : World} {v : Value} {l : List S35} (h : GoAt w v l) (hb : Below w.heap.size w w') : GoAt w' v l := by
  obtain ⟨A, c, h1, h2, h3⟩ := h
  exact ⟨A, c, h1, h2, Kd.C_below h3 hb⟩
theorem theseC (w : World) (t : Rt) (h : Rok t) (v0 v1 v2 v3 v4 : Value) (hm : RtAt w t v0 v1 v2 v3 v4) (idx : List Nat) (hi : ∀ i ∈ idx, i < t.ks.length) (hl : idx.length < 100000000000) (g : Value) (hg : GoAt w g (atPl t idx)) (pv : Value) (hp : PlAt w pv idx) :
    Calls Try.prog 23 #[g, .agg #[v0, v1, v2, v3, v4], pv] w fun e w' => e = .returned (.bool true) ∧ Below w.heap.size w w' := by
  obtain ⟨k, hk⟩ := (these_ev t h idx hi hl).rounds
  obtain ⟨⟨A0, c0, rfl, p0, q0⟩, ⟨A1, c1, rfl, p1, q1⟩, ⟨A2, c2, rfl, p2, q2⟩, ⟨A3, c3, rfl, p3, q3⟩, ⟨A4, c4, rfl, p4, q4⟩⟩ := hm
  obtain ⟨A, c, rfl, h1, h2⟩ := hg
  obtain ⟨B, d, rfl, h3, h4⟩ := hp
  exact musterlaw04_these.calls k A c (atPl t idx) A0 c0 t.ks A1 c1 t.vs A2 c2 t.ls A3 c3 t.ps A4 c4 t.ms B d (ints idx) true w h2 h1 q0 p0 q1 p1 q2 p2 q3 p3 q4 p4 h4 h3 hk
theorem plc_len (xs : List ByteArray) (p : ByteArray → Bool) : (plc xs p).length ≤ xs.length := upto_le xs p xs.length
end Go.Proofs.Ytjhgknagmiekeaa.N
set_option linter.unusedVariables false
set_option linter.unusedSimpArgs false
namespace Go.Proofs.Ytjhgknagmiekeaa.V
open Go.Proofs.Ytjhgknagmiekeaa.VOU (below_drewA)
open Go.RowKit Go.Lib Go.Proofs Go.Shelf
open Go.Proofs.Ytjhgknagmiekeaa.T Go.Proofs.Ytjhgknagmiekeaa.N Go.Proofs.Ytjhgknagmiekeaa.K
open Go.Proofs.YtjhgknagmiekeaaW.PrintWords hiding blk_cell
attribute [local go_sem] Oper.semAt_some
set_option maxRecDepth 100000 in
set_option maxHeartbeats 8000000 in
theorem heldLaw (A : Option Addr) (c : Nat) (l : List S35) (w : World) (hl : EntAt w A l) (hc : l.length ≤ c) (hlen : l.length < 10000000000) (hs : ∀ e ∈ l, e.f0.size < 4000000000000 - 1) :
    Calls Try.prog 11 #[.slice A l.length c] w fun e w' => e = .returned (.bool true) ∧ Below w.heap.size w w' := by
  refine callsIn_wide.1 (show CallsIn Fence.wide 9 Try.prog 11 _ w _ from ?_)
  have qa := Aside0.mk (fun w1 => show CallsIn Fence.wide 8 Try.prog 20 _ w1 _ from callsIn_wide.2 (aliveC w1))
  have qb := Aside0.mk (fun w1 (h : Below w.heap.size w w1) => show CallsIn Fence.wide 8 Try.prog 21 _ w1 _ from callsIn_wide.2 (builtC A c l w1 (Kd.C_below hl h) hc hlen (fun e he => by have := hs e he; omega)))
  have qf := Aside0.mk (fun w1 tb => show CallsIn Fence.wide 8 Try.prog 26 _ w1 _ from callsIn_wide.2 (allC tb w1))
  have HN := Aside0.mk (And.intro hlen hs)
  have HB := Aside0.mk ((Below.refl w.heap.size w).alloc (Nat.le_refl _) (.cells #[.bool false] 4))
  have HNR := Aside0.mk (World.alloc_heap_new w (.cells #[.bool false] 4))
  clear hl hc hlen hs
  unfold ptr at qb qf
  have hnf := funcNil
  refine callsIn_of_wp_marks Try.func11 rfl trivial ?_ rfl
  simp only [Try.ntmps11, List.size_toArray, List.length_cons, List.length_nil, Nat.reduceAdd, Nat.reduceSub, Array.replicate_succ, Array.replicate_zero, List.push_toArray, List.append_toArray, List.nil_append, List.cons_append]
  gi_wp2_with (first
    | (refine ⟨trivial, ?_⟩; gi_at_call 20; refine (qa.out _).mono ?_; rintro e w0 ⟨rfl, hb0⟩; have HB0 := Aside0.mk (HB.out.trans (hb0.mono (by simp))); have HN0 := Aside0.mk ((Kept.of hb0).at HNR.out); clear hb0 HNR)
    | (refine ⟨trivial, ?_⟩; gi_at_call 21; refine (qb.out _ HB0.out).mono ?_; rintro e w1 ⟨tb, root, t, v0, v1, v2, v3, v4, rfl, ht, hk, ha, hr, hl, hv, hb⟩; obtain ⟨⟨A0, n0, c0, rfl⟩, ⟨A1, n1, c1, rfl⟩, ⟨A2, n2, c2, rfl⟩, ⟨A3, n3, c3, rfl⟩, ⟨A4, n4, c4, rfl⟩⟩ := hr.forms; have HN1 := Aside0.mk ((Kept.of hb).at HN0.out); have H1 := Aside0.mk (And.intro ht (And.intro hk (And.intro ha (And.intro hr (And.intro hl (And.intro hv (belowAt HB0.out hb))))))); clear ht hk ha hr hl hv hb HN0)
    | (refine ⟨trivial, ?_⟩; gi_at_call 26; refine (qf.out _ _).mono ?_; rintro e w2 ⟨bt, bs, bk, rfl, h1, h2, h3, h4⟩; have H2 := Aside0.mk (And.intro h1 (And.intro h2 (And.intro h3 h4))); clear h1 h2 h3 h4))
  clear qa qb qf hnf
  obtain ⟨h1, h2, h3, h4⟩ := H2.out
  simp only [World.size_alloc] at h4
  have hsz2 : w1.heap.size + 1 + 1 + 1 ≤ w2.heap.size := by have := h4.size; simp only [World.size_alloc] at this; exact this
  have bG : Boxed w2 (w1.heap.size + 1 + 1) 22 (.slice none 0 0) := (h4.block _ (by omega)).trans (by have := World.alloc_heap_new ((w1.alloc (Obj.cells #[Value.slice A0 n0 c0, Value.slice A1 n1 c1, Value.slice A2 n2 c2, Value.slice A3 n3 c3, Value.slice A4 n4 c4] 28)).alloc (Obj.cells #[ptr tb] 24)) (Obj.cells #[.slice none 0 0] 22); rwa [World.size_alloc, World.size_alloc] at this)
  have bU : Boxed w2 (w1.heap.size + 1) 24 (ptr tb) := (h4.block _ (by omega)).trans ((Below.heap_alloc _ _ _ (by simp)).trans (by have := World.alloc_heap_new (w1.alloc (Obj.cells #[Value.slice A0 n0 c0, Value.slice A1 n1 c1, Value.slice A2 n2 c2, Value.slice A3 n3 c3, Value.slice A4 n4 c4] 28)) (Obj.cells #[ptr tb] 24); rwa [World.size_alloc] at this))
  have bM : w2.heap[w1.heap.size]? = some (.cells #[.slice A0 n0 c0, .slice A1 n1 c1, .slice A2 n2 c2, .slice A3 n3 c3, .slice A4 n4 c4] 28 (0, 0)) := (h4.block _ (by omega)).trans ((Below.heap_alloc _ _ _ (by simp; omega)).trans ((Below.heap_alloc _ _ _ (by simp)).trans (World.alloc_heap_new w1 _)))
  have hB0 : Below w1.heap.size w1 w2 := ((((Below.refl _ w1).alloc (Nat.le_refl _) _).alloc (by simp) _).alloc (by simp; omega) _).trans (h4.mono (by omega))
  have hR2 : Boxed w2 w.heap.size 4 (.bool false) := (Kept.of hB0).at HN1.out
  have hlow : w.heap.size < w1.heap.size := (Array.getElem?_eq_some_iff.1 HN1.out).1
  obtain ⟨ht, hk, ha, hr, hl, hvv, hbw⟩ := H1.out
  have hall := all_eq ht.fine.toGood ha
  have hvl : t.vs.length = t.ks.length := hk.v
  have hzl : (t.ks.zip t.vs).length = t.ks.length := by rw [List.length_zip]; omega
  obtain ⟨NN, hNN⟩ : ∃ NN, t.ks.length = NN := ⟨_, rfl⟩
  have hNs : NN < 10000000000 := by have := HN.out.1; omega
  have hal : (All root).length = NN := by rw [all_len ha hvl, hNN]
  obtain ⟨i0, hi0, hz0, hz1, hz2⟩ := info_parts info35
  have hml : 10000000000 ≤ maxLen := by decide
  refine wpIn_rangeFuncO rfl (by decide) (gf := 117) (lb := #[ptr bt, ptr bs, ptr bk]) rfl trivial (enters_of Try.func117 (by kernel_rfl) rfl)
    (VOA.seq w2 8 NN w2.heap.size (fun k => k = w1.heap.size + 1 ∨ k = w1.heap.size + 1 + 1) w1 (Kept.of hB0) (by omega) (Nat.le_refl _) (fun k hk e => by omega) tb root ht bt bs bk ⟨h1, h2, h3⟩ (by rw [hall, hzl]; omega))
    (fun h k => kpT h k) (fun W o o' h hc => KpM.putObj W _ o o' (by omega) h hc) (Below.refl _ _) (fun _ => rfl)
    (fun pre W => (∃ v, Boxed W (w1.heap.size + 1 + 1) 22 v ∧ W.ownsRow w2.heap.size 35 2 v pre.length (rowv pre)) ∧ (∃ ub ur, Boxed W (w1.heap.size + 1) 24 (ptr ub) ∧ Tr W ub ur ∧ (All ur).length ≤ NN + pre.length) ∧ W.heap[w1.heap.size]? = some (.cells #[.slice A0 n0 c0, .slice A1 n1 c1, .slice A2 n2 c2, .slice A3 n3 c3, .slice A4 n4 c4] 28 (0, 0)) ∧ Below w1.heap.size w1 W ∧ w2.heap.size ≤ W.heap.size)
    (fun _ _ _ => False) ?hI (fun _ _ _ _ _ hs _ _ => hs) ⟨⟨_, bG, World.ownsRow_nil _ _ _ _⟩, ⟨tb, root, bU, ht.keep (Kept.of hB0), by omega⟩, bM, hB0, Nat.le_refl _⟩ (fun (x : ByteArray × Int) a' (Z : World) => a' = { tmps := #[.slice A l.length c, undef, .pointer (some ⟨w.heap.size, 0, none⟩), .pointer (some ⟨tb, 0, none⟩), .pointer (some ⟨w1.heap.size, 0, none⟩), .pointer (some ⟨w1.heap.size + 1, 0, none⟩), .pointer (some ⟨w1.heap.size + 1 + 1, 0, none⟩), .func (.func 117) #[] #[.pointer (some ⟨bt, 0, none⟩), .pointer (some ⟨bs, 0, none⟩), .pointer (some ⟨bk, 0, none⟩)], .string x.1, .int .i64 x.2, .bool true, .bool false, .tuple #[.pointer (some ⟨tb, 0, none⟩), .agg #[.slice A0 n0 c0, .slice A1 n1 c1, .slice A2 n2 c2, .slice A3 n3 c3, .slice A4 n4 c4]], .slice A l.length c, .tuple #[.pointer (some ⟨tb, 0, none⟩), .agg #[.slice A0 n0 c0, .slice A1 n1 c1, .slice A2 n2 c2, .slice A3 n3 c3, .slice A4 n4 c4]], .pointer (some ⟨tb, 0, none⟩), .agg #[.slice A0 n0 c0, .slice A1 n1 c1, .slice A2 n2 c2, .slice A3 n3 c3, .slice A4 n4 c4], .pointer (some ⟨tb, 0, none⟩), .bool false, .pointer (some ⟨tb, 0, none⟩), .pointer (some ⟨tb, 0, none⟩), .func (.func 117) #[] #[.pointer (some ⟨bt, 0, none⟩), .pointer (some ⟨bs, 0, none⟩), .pointer (some ⟨bk, 0, none⟩)], .func (.func 117) #[] #[.pointer (some ⟨bt, 0, none⟩), .pointer (some ⟨bs, 0, none⟩), .pointer (some ⟨bk, 0, none⟩)], .bool false, .func (.func 117) #[] #[.pointer (some ⟨bt, 0, none⟩), .pointer (some ⟨bs, 0, none⟩), .pointer (some ⟨bk, 0, none⟩)], .string x.1, .int .i64 x.2, undef, undef, undef, undef, undef, undef, undef, undef, undef, undef, undef, undef, undef, undef, undef, undef, undef, undef, undef, undef, undef, undef, undef, undef, undef, undef, undef, undef, undef, undef, undef, undef, undef, undef, undef, undef, undef, undef], defers := [] }) (fun x a' => ownT_pure _ (fun _ => a' = _)) ?assign ?body ?done ?stop
  case hI =>
    refine OwnT.and (fun s X Y row hs hg hr => (ownT_all (β := Unit) (B := w2.heap.size) (fun v => OwnT.and (ownT_old (w1.heap.size + 1 + 1) (fun _ => .cells #[v] 22 (0, 0)) (by omega)) (ownT_row w2.heap.size 35 2 (by decide) v s.length (rowv s)))) () X Y row hs hg hr) (OwnT.and (fun s X Y row hs hg hr => ?_) (OwnT.and (ownT_old _ _ (by omega)) (OwnT.and (ownT_below (Nat.le_refl _) (by omega)) (ownT_size _))))
    obtain ⟨ub, ur, k1, k2, k3⟩ := hs
    exact ⟨ub, ur, ownT_old (β := Unit) (B := w2.heap.size) (w1.heap.size + 1) (fun _ => .cells #[ptr ub] 24 (0, 0)) (by omega) () X Y row k1 hg hr, ownT_tr (β := Unit) (B := w2.heap.size) ub ur () X Y row k2 hg hr, k3⟩
  case assign =>
    intro l' m' pre x Wa K hI hok hK
    gi_wp2
    exact hK _ _ (KeepsU.refl _ _) (KpM.of (Below.refl _ _)) hI rfl
  case body =>
    rintro l' m' pre x a' W hl' hr0 hszW ⟨⟨v, hv, hrow⟩, ⟨ub, ur, hu, hut, hul⟩, hbm, hB, hW⟩ rfl hlt hok
    have hx : x ∈ t.ks.zip t.vs := by rw [hall] at hok; exact hok.subset (by simp)
    have hxs := key_small ht.fine ht.vals ha hvv HN.out.2 hx
    have hcat : (x.1 ++ ({ data := #[0] } : ByteArray)).size < 4000000000000 := by rw [ByteArray.size_append]; show x.1.size + 1 < _; omega
    have hdd : ∀ k : Nat, (Fence.wide.depth.isSome = true → 1 ≤ k) := fun k h => by cases h
    have q43 := Aside0.mk (fun W1 ub ur (h : Tr W1 ub ur) (hl : (All ur).length < 3999999999999) m => callsIn_round l' (callsIn_wide.2 (insP W1 ub ur h _ (-1) hcat hl) : CallsIn Fence.wide m _ _ _ _ _))
    have q39 := Aside0.mk (fun W1 ub ur (h : Tr W1 ub ur) (hl : (All ur).length < 3999999999999) m => callsIn_round l' (callsIn_wide.2 (delP W1 ub ur h x.1 (by omega) hl) : CallsIn Fence.wide m _ _ _ _ _))
    have hc := hv.cell
    have HU := Aside0.mk (And.intro hu (And.intro hut hul))
    have HR := Aside0.mk (And.intro hbm (And.intro hB hW))
    have hxl : x.1.size + 1 ≤ maxLen := by unfold maxLen; omega
    clear hu hut hul hbm hB hr0 hok hx hcat H2 h1 h2 h3 h4 bG bU bM hB0 hR2 ht hk ha hr hl hvv hbw hall hvl hzl hNN hal
    unfold ptr at q43 q39
    gi_wp2_with (first
      | (gi_at_builtin; refine wpListIn_append_own _ rfl _ _ 22 rfl w2.heap.size 35 i0 (.agg #[.string ⟨#[]⟩, .int .i64 0]) 2 24 Try.underlying22 hi0 hz0 hz1 hz2 rfl (by decide) _ _ _ rfl (hrow.alloc _) ⟨W.heap.size, 0, none⟩ 1 1 [.string x.1, .int .i64 x.2] rfl rfl (cell_two_new _ _ _ _) (by simp [Value.oneCell']) (by omega) (by omega) (by simp; omega) ?_; intro v' w1' hown' hgrow _; obtain ⟨g', cap', rfl⟩ := ownsRow_succ hown'; obtain ⟨hv1, hv2, hr2, hk2, hb2, hkp, hlow2⟩ := appended2 (n₀ := w1.heap.size) (M := fun k => k = w1.heap.size + 1 ∨ k = w1.heap.size + 1 + 1) hv (by decide) (by decide) (by decide) hrow hW (by omega) (by omega) (.inr rfl) hown' hgrow; have HG := Aside0.mk (And.intro hv2 (And.intro hr2 (And.intro hb2 (And.intro hkp (And.intro (appendedU (B' := w2.heap.size) (by unfold Quiet; decide) (by omega) hv hrow hown' hgrow) (farB_tr (appendedFar (by unfold TreeTy; decide) (by unfold TreeTy; decide) hv hrow hown' hgrow) HU.out.2.1)))))); have bUg : Boxed _ (w1.heap.size + 1) 24 (ptr ub) := (hlow2 _ (by omega) (by omega)).trans HU.out.1; have cU := bUg.cell; have hc1 := hv1.cell; have hf1 := hv1.frozen; have HUg := Aside0.mk bUg; clear bUg hlow2 hr2 hk2 hb2 hkp hgrow hown' hv1 hv2)
      | (refine ⟨trivial, hdd _, ?_⟩; gi_at_call 43; refine (q43.out _ ub ur HG.out.2.2.2.2.2 (by have := HU.out.2.2; omega) _).mono ?_; rintro e W4 ⟨ub1, ur1, a1, b1, rfl, t1, l1, B1⟩; have bU4 : Boxed W4 (w1.heap.size + 1) 24 (ptr ub) := (Kept.of B1).at HUg.out; have cU4 := bU4.cell; have fU4 := bU4.frozen; have H4 := Aside0.mk (And.intro bU4 (And.intro (farB_tr (farB_box bU4 (by unfold TreeTy; decide) (ptr ub1)) t1) (And.intro l1 (And.intro B1 (bU4.set (ptr ub1)))))); clear bU4 t1 l1 B1 cU)
      | (refine ⟨trivial, hdd _, ?_⟩; gi_at_call 39; refine (q39.out _ ub1 ur1 H4.out.2.1 (by have := HU.out.2.2; have := H4.out.2.2.1; omega) _).mono ?_; rintro e W6 ⟨ub2, ur2, a2, b2, rfl, t2, -, l2, B2⟩; have bU6 : Boxed W6 (w1.heap.size + 1) 24 (ptr ub1) := (Kept.of B2).at H4.out.2.2.2.2; have cU6 := bU6.cell; have fU6 := bU6.frozen; have H6 := Aside0.mk (And.intro bU6 (And.intro (farB_tr (farB_box bU6 (by unfold TreeTy; decide) (ptr ub2)) t2) (And.intro l2 (And.intro B2 (bU6.set (ptr ub2)))))); clear bU6 t2 l2 B2))
    obtain ⟨gv2, gr2, gb2, gkp, gku, gt⟩ := HG.out
    obtain ⟨x1, x2, x3, x4, x5⟩ := H4.out
    obtain ⟨y1, y2, y3, y4, y5⟩ := H6.out
    have hs4 : (W4.setCell ⟨w1.heap.size + 1, 0, none⟩ (ptr ub1)).heap.size = W4.heap.size := by simp [World.setCell]
    have hfin : ∀ k, k < _ → k ≠ w1.heap.size + 1 → (W6.setCell ⟨w1.heap.size + 1, 0, none⟩ (ptr ub2)).heap[k]? = (w1'.setCell ⟨w1.heap.size + 1 + 1, 0, none⟩ (.slice (some ⟨g', 0, none⟩) (pre.length + 1) cap')).heap[k]? := fun k hk hne => by
      have e1 := x4.block k hk
      have e2 := Below.heap_setCell W4 ⟨w1.heap.size + 1, 0, none⟩ (ptr ub1) k hne
      have e3 := y4.block k (by rw [hs4]; exact Nat.lt_of_lt_of_le hk x4.size)
      have e4 := Below.heap_setCell W6 ⟨w1.heap.size + 1, 0, none⟩ (ptr ub2) k hne
      exact e4.trans (e3.trans (e2.trans e1))
    have gs := gb2.size
    refine ⟨(((gku.trans (KeepsU.of x4)).trans (KeepsU.set _ _ (by omega))).trans (KeepsU.of y4)).trans (KeepsU.set _ _ (by omega)), (((gkp.trans (KpM.of x4)).trans (KpM.setBox (M := fun k => k = w1.heap.size + 1 ∨ k = w1.heap.size + 1 + 1) x1 (by decide) (.inl rfl) _)).trans (KpM.of y4)).trans (KpM.setBox (M := fun k => k = w1.heap.size + 1 ∨ k = w1.heap.size + 1 + 1) y1 (by decide) (.inl rfl) _), ⟨_, (hfin _ (Array.getElem?_eq_some_iff.1 gv2).1 (by omega)).trans gv2, ?_⟩, ⟨ub2, ur2, y5, y2, ?_⟩, ?_, ?_, ?_⟩
    · rw [List.length_append, rowv_snoc]
      exact row_keep gr2 (fun k hk hlt => hfin k hlt (by omega))
    · rw [List.length_append, List.length_singleton]
      have := HU.out.2.2
      omega
    · have hm := gkp.low _ _ HR.out.1 (by omega) (by omega)
      exact (hfin _ (Array.getElem?_eq_some_iff.1 hm).1 (by omega)).trans hm
    · exact ((((HR.out.2.1.trans gb2).trans (x4.mono (by have := HR.out.2.2; omega))).setCell (p := ⟨w1.heap.size + 1, 0, none⟩) (by show w1.heap.size ≤ w1.heap.size + 1; omega) _).trans (y4.mono (by rw [hs4]; have := x4.size; have := HR.out.2.2; omega))).setCell (p := ⟨w1.heap.size + 1, 0, none⟩) (by show w1.heap.size ≤ w1.heap.size + 1; omega) _
    · have h1 := x4.size
      have h2 := y4.size
      rw [hs4] at h2
      have h3 : (W6.setCell ⟨w1.heap.size + 1, 0, none⟩ (ptr ub2)).heap.size = W6.heap.size := by simp [World.setCell]
      have h4 := HR.out.2.2
      show w2.heap.size ≤ (W6.setCell ⟨w1.heap.size + 1, 0, none⟩ (ptr ub2)).heap.size
      rw [h3]
      omega
  case done =>
    rintro D ys W hD e9 ⟨⟨v, hv, hrow⟩, -, hbm, hB, hW⟩ hK
    obtain ⟨Ag, cg, rfl, hg1, hg2⟩ := own_got hrow
    have hfz : (t.ks.zip t.vs).filter (fun x => kpF (L ⟨#[]⟩) (L x.1)) = t.ks.zip t.vs := List.filter_eq_self.2 (fun _ _ => kpF_nil _)
    have hgot : GoAt W (.slice Ag (ys.map mkE).length cg) (atPl t (plc t.ks (fun k => kpF (L ⟨#[]⟩) (L k)))) := by
      rw [← got_eq t hk, hfz, ← hall, ← e9]
      exact ⟨Ag, cg, rfl, hg1, hg2⟩
    have eng : (ys.map mkE).length = NN := by rw [List.length_map, e9, hall, hzl, hNN]
    obtain ⟨Aq, cq, eq1, -, -⟩ := hr.a0
    have en0 : n0 = NN := by rw [← hNN]; injection eq1
    subst en0
    rw [eng] at hgot hv
    have hl8 : t.ks.length < 100000000000 := by omega
    have hrt := hr.below hB
    have q1 := Aside0.mk (fun W1 (h : Below W.heap.size W W1) => fromRtC W1 t hk hl8 _ _ _ _ _ (hrt.below h) ⟨#[]⟩)
    have q2 := Aside0.mk (fun W1 (h : Below W.heap.size W W1) pv (hp : PlAt W1 pv (plc t.ks (fun k => kpF (L ⟨#[]⟩) (L k)))) => theseC W1 t hk _ _ _ _ _ (hrt.below h) (plc t.ks (fun k => kpF (L ⟨#[]⟩) (L k))) (fun i hi => plc_mem hi) (by have := plc_len t.ks (fun k => kpF (L ⟨#[]⟩) (L k)); omega) _ (hgot.below h) pv hp)
    have g0 := hv.cell
    have m0 : W.cell? ⟨w1.heap.size, 0, none⟩ = some (.slice A0 n0 c0) := by rw [blk_cell hbm]; rfl
    have m1 : W.cell? ⟨w1.heap.size, 1, none⟩ = some (.slice A1 n1 c1) := by rw [blk_cell hbm]; rfl
    have m2 : W.cell? ⟨w1.heap.size, 2, none⟩ = some (.slice A2 n2 c2) := by rw [blk_cell hbm]; rfl
    have m3 : W.cell? ⟨w1.heap.size, 3, none⟩ = some (.slice A3 n3 c3) := by rw [blk_cell hbm]; rfl
    have m4 : W.cell? ⟨w1.heap.size, 4, none⟩ = some (.slice A4 n4 c4) := by rw [blk_cell hbm]; rfl
    have hbR : Boxed W w.heap.size 4 (.bool false) := (Kept.of hB).at HN1.out
    have rc := hbR.cell
    have rf := hbR.frozen
    have HBn := Aside0.mk (below_drewA (Below.refl W.heap.size W))
    have HEND := Aside0.mk (And.intro hD (And.intro hK (And.intro hB (And.intro hW (And.intro hbR (And.intro hlow (And.intro hbw hsz2)))))))
    have HC0 := Aside0.mk (And.intro g0 (And.intro m0 (And.intro m1 (And.intro m2 (And.intro m3 m4)))))
    clear hD hK hB hW hrt hgot hl8 hv hbm hg1 hg2 hrow eng hB0 bM bG bU h4 h3 h2 h1 hz2 hz1 hz0 hi0 hR2 ht hk ha hr hl hvv hbw hall hvl hzl hNN hal e9 hfz hbR eq1 hlow hsz2 H2
    gi_wp2_with fail
    refine wpIn_wide.2 ?_
    refine Code.wp_mono NoPanic.imp ?_
    go_region_held3 (fun Z => Z.cell? ⟨w1.heap.size + 1 + 1, 0, none⟩ = some (.slice Ag n0 cg) ∧ Z.cell? ⟨w1.heap.size, 0, none⟩ = some (.slice A0 n0 c0) ∧ Z.cell? ⟨w1.heap.size, 1, none⟩ = some (.slice A1 n1 c1) ∧ Z.cell? ⟨w1.heap.size, 2, none⟩ = some (.slice A2 n2 c2) ∧ Z.cell? ⟨w1.heap.size, 3, none⟩ = some (.slice A3 n3 c3) ∧ Z.cell? ⟨w1.heap.size, 4, none⟩ = some (.slice A4 n4 c4))
      (first | exact ⟨g0, m0, m1, m2, m3, m4⟩ | exact ⟨(Kept.of HBn.out).cell HC0.out.1, (Kept.of HBn.out).cell HC0.out.2.1, (Kept.of HBn.out).cell HC0.out.2.2.1, (Kept.of HBn.out).cell HC0.out.2.2.2.1, (Kept.of HBn.out).cell HC0.out.2.2.2.2.1, (Kept.of HBn.out).cell HC0.out.2.2.2.2.2⟩ | exact ⟨cell_far (by have := HEND.out.2.2.2.2.2.1; show w1.heap.size + 1 + 1 ≠ w.heap.size; omega) ((Kept.of HBn.out).cell HC0.out.1), cell_far (by have := HEND.out.2.2.2.2.2.1; show w1.heap.size ≠ w.heap.size; omega) ((Kept.of HBn.out).cell HC0.out.2.1), cell_far (by have := HEND.out.2.2.2.2.2.1; show w1.heap.size ≠ w.heap.size; omega) ((Kept.of HBn.out).cell HC0.out.2.2.1), cell_far (by have := HEND.out.2.2.2.2.2.1; show w1.heap.size ≠ w.heap.size; omega) ((Kept.of HBn.out).cell HC0.out.2.2.2.1), cell_far (by have := HEND.out.2.2.2.2.2.1; show w1.heap.size ≠ w.heap.size; omega) ((Kept.of HBn.out).cell HC0.out.2.2.2.2.1), cell_far (by have := HEND.out.2.2.2.2.2.1; show w1.heap.size ≠ w.heap.size; omega) ((Kept.of HBn.out).cell HC0.out.2.2.2.2.2)⟩)
      (first
        | (go_at_call 28; refine (q1.out _ HBn.out).mono ?_; rintro e W1 ⟨Ap, np, cp, rfl, hp, B1⟩; have HP := Aside0.mk hp; have n0_ := Aside0.mk (belowAt HBn.out B1); clear hp HBn; have HBn := n0_; clear n0_ B1)
        | (go_at_call 23; refine (q2.out _ HBn.out _ HP.out).mono ?_; rintro e W2 ⟨rfl, B2⟩; have n0_ := Aside0.mk (belowAt HBn.out B2); have rc2 := (Kept.of n0_.out).cell rc; have rf2 := (show Boxed W2 _ _ _ from (Kept.of n0_.out).at HEND.out.2.2.2.2.1).frozen; clear HBn; have HBn := n0_; clear n0_ B2))
    refine NoPanic.normal ?_
    gi_wp2_with fail
    have hR5 : Boxed W2 w.heap.size 4 (.bool false) := (Kept.of HBn.out).at HEND.out.2.2.2.2.1
    have hD5 : W2.heap[D]? = some (.deferred (some [])) := (Kept.of HBn.out).at HEND.out.2.1
    have hDR : D ≠ w.heap.size := by have := HEND.out.1; have := HEND.out.2.2.2.2.2.1; have := HEND.out.2.2.2.2.2.2.2; omega
    have hD6 : (W2.setCell ⟨w.heap.size, 0, none⟩ (.bool true)).heap[D]? = some (.deferred (some [])) := (Below.heap_setCell _ _ _ _ (by exact hDR)).trans hD5
    refine ⟨by simp, .inl ⟨_, _, rfl, run_takeDeferred hD6, ?_⟩⟩
    refine ⟨_, results_box rfl _ _ _ _ rfl (show Boxed _ _ _ _ from (World.putObj_heap_other hDR.symm).trans (hR5.set _)), rfl, ?_⟩
    have hb1 : Below w.heap.size w W2 := (HEND.out.2.2.2.2.2.2.1.trans (HEND.out.2.2.1.mono (by have := HEND.out.2.2.2.2.2.1; omega))).trans (HBn.out.mono (by have := HEND.out.2.2.2.1; have := HEND.out.2.2.2.2.2.1; have := HEND.out.2.2.2.2.2.2.2; omega))
    exact (hb1.setCell (p := ⟨w.heap.size, 0, none⟩) (Nat.le_refl _) _).trans (belowK_b (w := w2) (by have := HEND.out.2.2.2.2.2.1; have := HEND.out.2.2.2.2.2.2.2; omega) _ D _ _ HEND.out.1 hD6 rfl rfl)
  case stop =>
    rintro D cd pre W _ _ h _
    exact h.elim
end Go.Proofs.Ytjhgknagmiekeaa.V
set_option linter.unusedVariables false
set_option linter.unusedSimpArgs false
namespace Go.Proofs.Ytjhgknagmiekeaa.R
open Go.ChangeShapes Go.WideShapes Go.Deep Go.RowKit
open Go.Proofs.YtjhgknagmiekeaaW.PrintWords Go.Proofs.Ytjhgknagmiekeaa.K
section
variable {H : Type} {enc : TypeId × Value → H} {P : Program} {w : World} {base : Nat} {spare : Nat → Bool} {held : Bool}
theorem open_slice_fields {t e : TypeId} {fs : Array Field} {fuel : Nat} {cs : List Value} {x : DataW H × List MemPlace} (ht : P.underlying t = some (.slice e)) (he : P.underlying e = some (.struct fs))
    (hone : oneCellFields P fs = true) (hC : P.cellsOf e = fs.size) (h : DataW.trod enc P w base spare held fuel t cs = some x) :
    (cs = [.slice none 0 0] ∧ x = (.nil, [])) ∨
    ∃ (a : Addr) (len cap m : Nat) (D : Nat → DataW H) (Pl : Nat → List MemPlace), cs = [.slice (some a) len cap] ∧ base ≤ a.block ∧ len ≤ cap ∧ cap ≤ maxLen ∧ m = (if spare a.block then cap else len) ∧
      x = (.slice ((List.range len).map D) ((List.range (m - len)).map fun j => D (len + j)), MemPlace.row a (m * fs.size) ++ (List.range m).flatMap Pl) ∧
      ∀ i, i < m → ∃ (ys : List (DataW H × List MemPlace)) (n : Nat), D i = .agg (ys.map (·.1)) ∧ Pl i = ys.flatMap (·.2) ∧ ys.length = fs.size ∧
        ∀ (j : Nat) (f : Field), fs[j]? = some f → ∃ (v : Value) (y : DataW H × List MemPlace), w.cell? (a.add (i * fs.size + j)) = some v ∧ ys[j]? = some y ∧ DataW.trod enc P w base spare held n f.type [v] = some y := by
  rcases open_slice ht h with h0 | ⟨a, len, cap, m, n, D, Pl, hcs, hb, hl, hm, hmm, hx, hi⟩
  · exact .inl h0
  · refine .inr ⟨a, len, cap, m, D, Pl, hcs, hb, hl, hm, hmm, by rw [hC] at hx; exact hx, fun i him => ?_⟩
    obtain ⟨cs', hc, ht'⟩ := hi i him
    rw [hC] at hc
    obtain ⟨ys, n', hn', hy, hlen, hyl, hf⟩ := DataW.trod_struct he ht'
    obtain ⟨_, hcl, hat⟩ := World.cells?_some hc
    simp only [Prod.mk.injEq] at hy
    refine ⟨ys, n', hy.1, hy.2, hyl, fun j f hj => ?_⟩
    obtain ⟨ho, hk⟩ := hone_of hone j f hj
    have hjl : j < fs.size := (Array.getElem?_eq_some_iff.1 hj).1
    have hcell := hat j hjl
    have hv : cs'[j]? = some (cs'[j]'(by omega)) := List.getElem?_eq_getElem (by omega)
    have h1 := hf j f hj
    rw [ho, hk] at h1
    have hone' : (cs'.drop j).take 1 = [cs'[j]'(by omega)] := by
      rw [List.drop_eq_getElem_cons (by omega)]
      rfl
    rw [hone'] at h1
    have hys : ys[j]? = some (ys[j]'(by omega)) := List.getElem?_eq_getElem (by omega)
    refine ⟨_, _, ?_, hys, h1.trans hys⟩
    rw [← Go.Deep.add_add, hcell, hv]
end
def dE {H : Type} (p : S35) : DataW H := .agg [.lit (.string p.f0.data.toList), .lit (.int .i64 p.f1)]
theorem open_entries {H : Type} {enc : TypeId × Value → H} {W : World} {base : Nat} {spare : Nat → Bool} {held : Bool} {a : Option Addr} {len cap : Nat} {d : DataW H} {ps : List MemPlace}
    (h : DataW.Trod enc Try.prog W base spare held 22 (.slice a len cap) d ps) :
    ∃ l : List S35, len = l.length ∧ l.length ≤ cap ∧ Kd.C k35 W a l.length l ∧ ((d = .nil ∧ l = []) ∨ ∃ sp, d = .slice (l.map dE) sp) := by
  obtain ⟨fuel, hf⟩ := h
  rcases open_slice_fields (fs := #[_, _]) Try.underlying22 Try.underlying35 (by kernel_rfl) (by kernel_rfl) hf with ⟨hcs, hx⟩ | ⟨ad, len', cap', m, D, Pl, hcs, _, hl, hm, hmm, hx, hi⟩
  · simp [Value.cells] at hcs
    obtain ⟨rfl, rfl, rfl⟩ := hcs
    obtain ⟨rfl, _⟩ := Prod.mk.inj hx
    exact ⟨[], rfl, by simp, Kd.C_nil k35 W, .inl ⟨rfl, rfl⟩⟩
  · simp [Value.cells] at hcs
    obtain ⟨rfl, rfl, rfl⟩ := hcs
    obtain ⟨hx, _⟩ := Prod.mk.inj hx
    subst hx
    have hlm : len ≤ m := by rw [hmm]; split; exact hl; exact Nat.le_refl _
    have each : ∀ i : Nat, ∃ p : S35, i < len → D i = dE p ∧ W.cell? (ad.add (i * 2)) = some (.string p.f0) ∧ W.cell? (ad.add (i * 2 + 1)) = some (.int .i64 p.f1) := by
      intro i
      by_cases hil : i < len
      · obtain ⟨ys, n, hD, _, hyl, hj⟩ := hi i (by omega)
        obtain ⟨v0, y0, c0, e0, t0⟩ := hj 0 _ rfl
        obtain ⟨v1, y1, c1, e1, t1⟩ := hj 1 _ rfl
        obtain ⟨s0, q0, r0, w0⟩ := DataW.trod_string Try.underlying9 t0
        obtain ⟨n1, q1, r1, w1⟩ := DataW.trod_int Try.underlying3 t1
        simp only [List.cons.injEq, and_true] at q0 q1
        subst q0 q1 r0 r1
        refine ⟨⟨s0, n1⟩, fun _ => ⟨?_, c0, c1⟩⟩
        have hys : ys = [(.lit (.string s0.data.toList), []), (.lit (.int .i64 n1), [])] := by
          match ys, hyl, e0, e1 with
          | [a, b], _, e0, e1 => simp at e0 e1; rw [e0, e1]
        rw [hD, hys]
        rfl
      · exact ⟨⟨⟨#[]⟩, 0⟩, fun h => absurd h hil⟩
    obtain ⟨g, hg⟩ := Classical.axiomOfChoice each
    refine ⟨(List.range len).map g, by simp, by simpa using hl, ?_, .inr ⟨(List.range (m - len)).map fun j => D (len + j), ?_⟩⟩
    · have hlen : ((List.range len).map g).length = len := by simp
      rw [hlen]
      refine ⟨hlen, by unfold maxLen at hm; omega, fun _ => ⟨ad, rfl, fun j p hp => ?_⟩⟩
      have hj : j < len := by have := (List.getElem?_eq_some_iff.1 hp).1; rw [hlen] at this; exact this
      have hpe : p = g j := by
        rw [List.getElem?_map, List.getElem?_range hj] at hp
        simpa using hp.symm
      subst hpe
      obtain ⟨_, c0, c1⟩ := hg j hj
      refine ⟨_, rfl, k35_mk W (g j), fun i u hu => ?_⟩
      match i, hu with
      | 0, hu => simp at hu; subst hu; exact c0
      | 1, hu => simp at hu; subst hu; exact c1
    · congr 1
      rw [List.map_map]
      apply List.map_congr_left
      intro j hj
      exact (hg j (List.mem_range.1 hj)).1
def wt : List S35 → Nat
  | [] => 0
  | p :: ps => p.f0.size + 1 + wt ps
theorem wt_bulk {H : Type} (l : List S35) : wt l ≤ Rows.uptoBulkAll (l.map (dE (H := H))) := by
  induction l with
  | nil => exact Nat.zero_le _
  | cons p ps ih =>
    have e : p.f0.data.toList.length = p.f0.size := T.L_len _
    simp only [List.map_cons, Rows.uptoBulkAll, wt, dE, Rows.uptoBulk, e]
    omega
theorem wt_of {H : Type} {d : DataW H} {l : List S35} (h : (d = .nil ∧ l = []) ∨ ∃ sp, d = .slice (l.map dE) sp) : wt l ≤ Rows.uptoBulk d := by
  rcases h with ⟨rfl, rfl⟩ | ⟨sp, rfl⟩
  · exact Nat.zero_le _
  · have := wt_bulk (H := H) l
    simp only [Rows.uptoBulk]
    omega
theorem wt_len : ∀ (l : List S35), l.length ≤ wt l
  | [] => Nat.zero_le _
  | p :: ps => by have := wt_len ps; simp only [List.length_cons, wt]; omega
theorem wt_mem : ∀ (l : List S35) (p : S35), p ∈ l → p.f0.size ≤ wt l
  | q :: l, p, h => by
    simp only [wt]
    rcases List.mem_cons.1 h with e | e
    · rw [e]; omega
    · have := wt_mem l p e; omega
end Go.Proofs.Ytjhgknagmiekeaa.R
