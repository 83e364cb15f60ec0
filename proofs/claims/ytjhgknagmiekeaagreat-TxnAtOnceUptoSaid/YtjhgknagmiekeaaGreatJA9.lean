/- joined: K13 V5 V7 V20 V6OA V21 D3 H5 H6 -/
import Derived.Test.YtjhgknagmiekeaaGreatJA2
import Derived.Test.YtjhgknagmiekeaaGreatJA8
import Derived.Laws.Cover1
import Derived.Maps.AppendAt
import Derived.Stop.RegionWithIn
import Derived.Laws.EntriesVeiled
import Derived.Deep.RegionHeld3
import Derived.Test.YtjhgknagmiekeaaGreatJA7
import Derived.Test.YtjhgknagmiekeaaGreatJA6
import Derived.Test.YtjhgknagmiekeaaGreatRows
import Derived.Deep.Slices
import Derived.Deep.Fields
import Derived.ChangeSame
import Derived.SizedLaws
import Derived.ProofKit
-- Written by a program of this session (wip/tools/printfam.py) out of the translation; hand-proved contracts set in. Lean checks it.
namespace Go.Proofs.YtjhgknagmiekeaaGreat.K
open Go.RowKit Go.Proofs.YtjhgknagmiekeaaGreatW.PrintWords Go.Proofs.YtjhgknagmiekeaaGreatW.PrintLast Go.Proofs.YtjhgknagmiekeaaGreatW.PrintMore
attribute [local go_sem] max2_int min2_int max_two min_two max_three min_three max_four min_four   -- for this text's walks alone
set_option linter.unusedVariables false
set_option linter.unusedSimpArgs false
def strings_HasPrefix.f (a0 : ByteArray) (a1 : ByteArray) : Option (Bool) := (stringslite_HasPrefix.f a0 a1).bind fun t101 => (some t101)
set_option maxHeartbeats 8000000 in
set_option maxRecDepth 100000 in
theorem strings_HasPrefix.calls (a0 : ByteArray) (a1 : ByteArray) (r : Bool) (w : World) (h : strings_HasPrefix.f a0 a1 = some r) :
    Calls Tryz.prog 113 #[.string a0, .string a1] w fun e w' => e = .returned (.bool r) ∧ Drawn0 w w' := by
  have H : ((stringslite_HasPrefix.f a0 a1).bind fun t101 => (some t101)) = some r := h
  clear h
  replace H := Option.bind_eq_some_iff.mp H
  obtain ⟨t101, A30, H⟩ := H
  replace H : (some t101) = some r := H
  have A3 := Aside0.mk A30
  clear A30
  obtain rfl := Option.some.inj H
  go_enter Tryz.func113, Tryz.ntmps113
  go_wp2_with (first | ((with_reducible refine gate_callee (f := 141) rfl ?_); refine goesL_ (some 7) rfl rfl Tryz.func141 (by kernel_rfl) rfl #[.string a0, .string a1] rfl (by (try simp only [List.map_toArray, List.map_cons, List.map_nil]); first | done | rfl | (simp only [List.length_drop, List.length_take]; rfl)) ?_; (with_reducible refine (stringslite_HasPrefix.calls a0 a1 t101 _ A3.out).mono ?_); rintro e w' ⟨rfl, ⟨nd, rfl⟩⟩; refine ⟨_, rfl, ?_⟩))
  go_ret
  exact ⟨by first | rfl | (simp; done) | (simp [*]; done), by repeat (first | exact Drawn0.refl _ | apply Drawn0.step)⟩
end Go.Proofs.YtjhgknagmiekeaaGreat.K
set_option linter.unusedVariables false
set_option linter.unusedSimpArgs false
namespace Go.Proofs.YtjhgknagmiekeaaGreat.V
open Go.RowKit Go.Lib Go.Proofs Go.Proofs.YtjhgknagmiekeaaGreat.T Go.Proofs.YtjhgknagmiekeaaGreat.K
open Go.Proofs.YtjhgknagmiekeaaGreatW.PrintWords hiding blk_cell
def pre (a b : List UInt8) : Bool := b.isPrefixOf a
set_option maxHeartbeats 1600000 in
set_option maxRecDepth 100000 in
theorem neverC (q : ByteArray) (W : World) : Calls Tryz.prog 38 #[.string q] W fun e W' => e = .returned (.bool false) ∧ Below W.heap.size W W' := by
  go_enter Tryz.func38, Tryz.ntmps38
  go_wp2_with fail
  go_ret
  exact ⟨rfl, Below.refl _ _⟩
set_option maxHeartbeats 1600000 in
set_option maxRecDepth 100000 in
theorem alwaysC (q : ByteArray) (W : World) : Calls Tryz.prog 39 #[.string q] W fun e W' => e = .returned (.bool true) ∧ Below W.heap.size W W' := by
  go_enter Tryz.func39, Tryz.ntmps39
  go_wp2_with fail
  go_ret
  exact ⟨rfl, Below.refl _ _⟩
set_option maxHeartbeats 4000000 in
set_option maxRecDepth 100000 in
theorem walkedC (tb : Nat) (s k : Fn) (sa ka : Array Value) (w : World) : Calls Tryz.prog 37 #[ptr tb, .func s #[] sa, .func k #[] ka] w fun e w' => ∃ bt bs bk, e = .returned (.func (.func 72) #[] #[ptr bt, ptr bs, ptr bk]) ∧ w'.heap[bt]? = some (.cells #[ptr tb] 36 (0, 0)) ∧ w'.heap[bs]? = some (.cells #[.func s #[] sa] 105 (0, 0)) ∧ w'.heap[bk]? = some (.cells #[.func k #[] ka] 105 (0, 0)) ∧ Below w.heap.size w w' := by
  unfold ptr
  go_enter Tryz.func37, Tryz.ntmps37
  go_wp2_with fail
  go_ret
  refine ⟨w.heap.size, w.heap.size + 1, w.heap.size + 1 + 1, rfl, ?_, ?_, ?_, ?_⟩
  · rw [(Below.heap_alloc _ _ _ (by simp; omega)), (Below.heap_alloc _ _ _ (by simp))]
    exact World.alloc_heap_new w _
  · rw [(Below.heap_alloc _ _ _ (by simp))]
    have := World.alloc_heap_new (w.alloc (Obj.cells #[Value.pointer (some { block := tb, off := 0 })] 36)) (Obj.cells #[Value.func s #[] sa] 105)
    rwa [World.size_alloc] at this
  · have := World.alloc_heap_new ((w.alloc (Obj.cells #[Value.pointer (some { block := tb, off := 0 })] 36)).alloc (Obj.cells #[Value.func s #[] sa] 105)) (Obj.cells #[Value.func k #[] ka] 105)
    rwa [World.size_alloc, World.size_alloc] at this
  · exact (((Below.refl _ w).alloc (Nat.le_refl _) _).alloc (by simp) _).alloc (by simp; omega) _
set_option maxHeartbeats 4000000 in
set_option maxRecDepth 100000 in
theorem allC (tb : Nat) (w : World) : Calls Tryz.prog 13 #[ptr tb] w fun e w' => ∃ bt bs bk, e = .returned (.func (.func 72) #[] #[ptr bt, ptr bs, ptr bk]) ∧ w'.heap[bt]? = some (.cells #[ptr tb] 36 (0, 0)) ∧ w'.heap[bs]? = some (.cells #[.func (.func 38) #[] #[]] 105 (0, 0)) ∧ w'.heap[bk]? = some (.cells #[.func (.func 39) #[] #[]] 105 (0, 0)) ∧ Below w.heap.size w w' := by
  have q := Aside0.mk (fun w1 => walkedC tb (.func 38) (.func 39) #[] #[] w1)
  unfold ptr at q ⊢
  go_enter Tryz.func13, Tryz.ntmps13
  go_wp2_with (go_at_call 37; refine (q.out _).mono ?_)
  rintro e w' ⟨bt, bs, bk, rfl, h1, h2, h3, h4⟩
  have H := Aside0.mk (And.intro h1 (And.intro h2 (And.intro h3 h4)))
  clear h1 h2 h3 h4 q
  go_wp2_with fail
  go_ret
  exact ⟨bt, bs, bk, rfl, H.out.1, H.out.2.1, H.out.2.2.1, H.out.2.2.2⟩
end Go.Proofs.YtjhgknagmiekeaaGreat.V
set_option linter.unusedVariables false
set_option linter.unusedSimpArgs false
namespace Go.Proofs.YtjhgknagmiekeaaGreat.V
open Go.RowKit Go.Lib Go.Proofs Go.Shelf Go.Proofs.YtjhgknagmiekeaaGreat.T
open Go.Proofs.YtjhgknagmiekeaaGreatW.PrintWords hiding blk_cell
attribute [local go_sem] Oper.semAt_some
theorem kpT {n₁ : Nat} {M : Nat → Prop} {A B C : World} (h : KpM n₁ M A B) (k : KpM n₁ M B C) : KpM n₁ M A C := h.trans k
end Go.Proofs.YtjhgknagmiekeaaGreat.V
set_option linter.unusedVariables false
set_option linter.unusedSimpArgs false
namespace Go.Proofs.YtjhgknagmiekeaaGreat.V
open Go.RowKit Go.Lib Go.Proofs Go.Proofs.YtjhgknagmiekeaaGreat.T
variable {F : Fence} {n : Nat} {P : Program}
def Quiet (t : TypeId) : Prop := t = 4 ∨ t = 9 ∨ t = 36 ∨ t = 161 ∨ t = 105 ∨ t = 158 ∨ t = 190
def qObj (o : Obj) : Prop := o.isCells = false ∨ ∃ cs t fr, o = .cells cs t fr ∧ Quiet t
structure KeepsU (B : Nat) (W W' : World) : Prop where
  size : W.heap.size ≤ W'.heap.size
  same : ∀ (k : Nat) (o : Obj), B ≤ k → W.heap[k]? = some o → qObj o → W'.heap[k]? = some o
theorem KeepsU.trans {B : Nat} {X Y Z : World} (h : KeepsU B X Y) (k : KeepsU B Y Z) : KeepsU B X Z := ⟨Nat.le_trans h.size k.size, fun i o hB hi ho => k.same i o hB (h.same i o hB hi ho) ho⟩
theorem KeepsU.of {B : Nat} {W W' : World} (h : Below W.heap.size W W') : KeepsU B W W' := ⟨h.size, fun k o _ hk _ => (Kept.of h).at hk⟩
theorem KeepsU.refl (B : Nat) (W : World) : KeepsU B W W := KeepsU.of (Below.refl _ _)
theorem KeepsU.up {B B' : Nat} {W W' : World} (h : KeepsU B W W') (hB : B ≤ B') : KeepsU B' W W' := ⟨h.size, fun k o hk h1 h2 => h.same k o (Nat.le_trans hB hk) h1 h2⟩
theorem KeepsU.put {B l : Nat} (W : World) (o : Obj) (h : l < B) : KeepsU B W (W.putObj l o) := by
  have hg := grownBy_putObj' W l o
  exact ⟨hg.size, fun k x hk h1 _ => (hg.block k (Array.getElem?_eq_some_iff.1 h1).1 (fun e => by cases e; omega)).trans h1⟩
theorem KeepsU.set {B b : Nat} (W : World) (v : Value) (h : b < B) : KeepsU B W (W.setCell ⟨b, 0, none⟩ v) := by
  have hg := grownBy_setCell' W b v
  exact ⟨hg.size, fun k x hk h1 _ => (hg.block k (Array.getElem?_eq_some_iff.1 h1).1 (fun e => by cases e; omega)).trans h1⟩
def ownPostU {α : Type} (B : Nat) (Kp : World → World → Prop) (I : List α → World → Prop) (Ix : Code → List α → World → Prop) (xs : List α) (W : World) : Exit → Act → World → Prop
  | .normal, _, W' => KeepsU B W W' ∧ Kp W W' ∧ I xs W'
  | .ret, _, W' => KeepsU B W W' ∧ Ix .ret xs W'
  | .exit id, _, W' => KeepsU B W W' ∧ Ix (.exit id) xs W'
  | .goto t, _, W' => KeepsU B W W' ∧ Ix (.goto t) xs W'
  | .panic _, _, _ => False
  | .outgrown, _, _ => False
def OwnT {β : Type} (B : Nat) (I : β → World → Prop) : Prop :=
  ∀ s W W' row, I s W → W.grownBy W' row → (∀ r, row = some r → B ≤ r ∧ ∃ o : Obj, W.heap[r]? = some o ∧ (o.isCells = false ∨ ∃ b : Bool, o = .cells #[.bool b] 4 (0, 0))) → I s W'
theorem OwnT.putObj {β : Type} {B : Nat} {I : β → World → Prop} (h : OwnT B I) {s : β} {W : World} {l : Nat} {o : Obj} (o' : Obj) (hs : I s W) (hB : B ≤ l) (hl : W.heap[l]? = some o) (ho : o.isCells = false) : I s (W.putObj l o') :=
  h s W _ (some l) hs (grownBy_putObj' W l o') (fun r e => by cases e; exact ⟨hB, o, hl, .inl ho⟩)
theorem OwnT.alloc {β : Type} {B : Nat} {I : β → World → Prop} (h : OwnT B I) {s : β} {W : World} (o : Obj) (hs : I s W) : I s (W.alloc o) :=
  h s W _ none hs (World.grownBy_alloc W o none) (fun r e => by cases e)
theorem OwnT.and {β : Type} {B : Nat} {I I' : β → World → Prop} (h : OwnT B I) (h' : OwnT B I') : OwnT B (fun s W => I s W ∧ I' s W) := fun s W W' row hs hg hr => ⟨h s W W' row hs.1 hg hr, h' s W W' row hs.2 hg hr⟩
theorem OwnT.bool {β : Type} {B : Nat} {I : β → World → Prop} (h : OwnT B I) {s : β} {W : World} {l : Nat} {b : Bool} (v' : Value) (hs : I s W) (hB : B ≤ l) (hl : Boxed W l 4 (.bool b)) : I s (W.setCell ⟨l, 0, none⟩ v') :=
  h s W _ (some l) hs (grownBy_setCell' W l v') (fun r e => by cases e; exact ⟨hB, _, hl, .inr ⟨b, rfl⟩⟩)
def SeqO {α : Type} (F : Fence) (n : Nat) (P : Program) (g : Nat) (lb : Array Value) (encs : α → Array Value) (Kp : World → World → Prop) (Ok S Sp : List α → Prop) (N : Nat) (w : World) : Prop :=
  ∀ (l : Nat) (J Jx : List α → World → Prop) (W : World), Below w.heap.size w W → l < W.heap.size → OwnT W.heap.size J → OwnT W.heap.size Jx →
    (∀ m pre x W1, J pre W1 → pre.length < N → Ok (pre ++ [x]) → YieldAt F m P l (encs x) W1 fun e W' => KeepsU W.heap.size W1 W' ∧ ((e = .returned (.bool true) ∧ J (pre ++ [x]) W' ∧ Kp W1 W') ∨ (e = .returned (.bool false) ∧ Jx (pre ++ [x]) W'))) →
    J [] W → CallsIn F n P g (#[.func (.yield l) #[] #[]] ++ lb) W fun e W' => (∃ v, e = .returned v) ∧ ((∃ xs, S xs ∧ J xs W') ∨ (∃ pre, Sp pre ∧ Jx pre W'))
theorem ownBelow {β : Type} {B : Nat} {J : β → World → Prop} (h : OwnT B J) {s : β} {W W' : World} (hs : J s W) (hb : Below W.heap.size W W') : J s W' :=
  h s W W' none hs ⟨hb.os, hb.tape, hb.output, hb.size, fun k hk _ => hb.block k hk⟩ (fun r e => by cases e)
theorem keep_old {A B : World} {row : Option Nat} {n0 k : Nat} {o : Obj} (hg : A.grownBy B row) (hr : ∀ r, row = some r → n0 ≤ r) (hk : k < n0) (h : A.heap[k]? = some o) : B.heap[k]? = some o :=
  (hg.block k (Array.getElem?_eq_some_iff.1 h).1 (fun e => by have := hr k e.symm; omega)).trans h
theorem wpIn_rangeFuncO {α : Type} {g : Operand} {ps : Array Tmp} {assign body : Code} {Q : Exit → Act → World → Prop} {a : Act} {w : World}
    (hro : F.round = none) (h1 : 1 ≤ n) {gf : Nat} {lb : Array Value} (hg : a.eval g = .func (.func gf) #[] lb) (hFg : F.fn gf) (eg : ∀ args w, (callFunc gf args).run P w = .ok (.enter gf args) w)
    {encs : α → Array Value} {Kp : World → World → Prop} {Ok S Sp : List α → Prop} {N : Nat} {w0 : World} (hseq : SeqO F (n - 1) P gf lb encs Kp Ok S Sp N w0)
    (hKt : ∀ {A B C : World}, Kp A B → Kp B C → Kp A C) (hKb : ∀ (W : World) (o o' : Obj), W.heap[w.heap.size + 1]? = some o → o.isCells = false → Kp W (W.putObj (w.heap.size + 1) o')) (hb0 : Below w0.heap.size w0 w) (hps : ∀ x, (encs x).size = ps.size)
    (I : List α → World → Prop) (Ix : Code → List α → World → Prop) (hI : OwnT w.heap.size I) (hIx : ∀ c, OwnT w.heap.size (Ix c)) (h0 : I [] w) (Ax : α → Act → World → Prop) (hAx : ∀ x a', OwnT w.heap.size (fun (_ : Unit) W => Ax x a' W))
    (hassign : ∀ (l m : Nat) (pre : List α) (x : α) (W : World) (K : Act → World → Prop), I pre W → Ok (pre ++ [x]) → (∀ a' W', KeepsU w.heap.size W W' → Kp W W' → I pre W' → Ax x a' W' → K a' W') →
      assign.wpIn (F.inRound l) m P (Exit.then K (fun _ _ _ => False)) { tmps := (ps.zip (encs x)).foldl (fun t (p, v) => t.setIfInBounds p v) a.tmps, defers := [] } W)
    (hbody : ∀ (l m : Nat) (pre : List α) (x : α) (a' : Act) (W : World), w.heap.size ≤ l → (∃ r, W.heap[l]? = some (.loop r)) → w.heap.size + 2 ≤ W.heap.size → I pre W → Ax x a' W → pre.length < N → Ok (pre ++ [x]) → body.wpIn (F.inRound l) m P (ownPostU w.heap.size Kp I Ix (pre ++ [x]) W) a' W)
    (hdone : ∀ (D : Nat) (xs : List α) (W : World), w.heap.size ≤ D → S xs → I xs W → W.heap[D]? = some (.deferred (some [])) → Q .normal { a with defers := { target := .collected D, args := #[] } :: a.defers } W)
    (hstop : ∀ (D : Nat) (c : Code) (pre : List α) (W : World), w.heap.size ≤ D → Sp pre → Ix c pre W → W.heap[D]? = some (.deferred (some [])) → c.wpIn F n P Q { a with defers := { target := .collected D, args := #[] } :: a.defers } W) :
    (Code.rangeFunc g ps assign body).wpIn F n P Q a w := by
  refine wpIn_rangeFunc ?_
  intro fn hfn
  rw [hro]
  obtain ⟨rec, hrec⟩ : ∃ rec : LoopState → Option Code → Loop, rec = fun st pe => { state := st, pending := pe, fn, tmps := a.tmps, params := ps, assign, body, defers := w.heap.size } := ⟨_, rfl⟩
  obtain ⟨W1, hW1⟩ : ∃ W1, (w.alloc (.deferred (some []))).alloc (.loop (rec .ready none)) = W1 := ⟨_, rfl⟩
  have hs1 : W1.heap.size = w.heap.size + 2 := by rw [← hW1]; simp
  have hL1 : W1.heap[w.heap.size + 1]? = some (.loop (rec .ready none)) := by
    rw [← hW1]; have := World.alloc_heap_new (w.alloc (.deferred (some []))) (.loop (rec .ready none)); rwa [World.size_alloc] at this
  have hK1 : W1.heap[w.heap.size]? = some (.deferred (some [])) := by
    rw [← hW1]; exact (Below.heap_alloc _ _ _ (by simp)).trans (World.alloc_heap_new w _)
  have hI1 : I [] W1 := by rw [← hW1]; exact hI.alloc _ (hI.alloc _ h0)
  have hb1 : Below w0.heap.size w0 W1 := by
    rw [← hW1]; exact hb0.trans ((((Below.refl _ w).alloc (Nat.le_refl _) _).alloc (by simp) _).mono hb0.size)
  refine ⟨w.heap.size + 1, [{ target := .collected w.heap.size, args := #[] }], W1, { target := .fn (.func gf) lb, args := #[.func (.yield (w.heap.size + 1)) #[] #[]] }, W1, gf,
    #[.func (.yield (w.heap.size + 1)) #[] #[]] ++ lb, W1, ?_, ?_, ?_, ?_, fun _ => h1, ?_⟩
  · rw [← hW1, hrec]; exact run_enterLoop_outer _ _ _ _ _
  · simp only [resolve, hg]
    simp [go_sem]
  · intro f' hf'; simp [Target.leads] at hf'; subst hf'; exact hFg
  · simp [invoke, go_sem, eg]
  · refine (hseq (w.heap.size + 1)
      (fun pre W => (I pre W ∧ w.heap.size + 2 ≤ W.heap.size) ∧ W.heap[w.heap.size + 1]? = some (.loop (rec .ready none)) ∧ W.heap[w.heap.size]? = some (.deferred (some [])))
      (fun pre W => ∃ c, Ix c pre W ∧ W.heap[w.heap.size + 1]? = some (.loop (rec .done (some c))) ∧ W.heap[w.heap.size]? = some (.deferred (some [])))
      W1 hb1 (by omega)
      (fun s A B row hs hg' hr => ⟨⟨hI s A B row hs.1.1 hg' (fun r e => ⟨by have := (hr r e).1; omega, (hr r e).2⟩), Nat.le_trans hs.1.2 hg'.size⟩, keep_old hg' (fun r e => (hr r e).1) (by omega) hs.2.1, keep_old hg' (fun r e => (hr r e).1) (by omega) hs.2.2⟩)
      (fun s A B row hs hg' hr => by
        obtain ⟨c, hc, hl, hk⟩ := hs
        exact ⟨c, hIx c s A B row hc hg' (fun r e => ⟨by have := (hr r e).1; omega, (hr r e).2⟩), keep_old hg' (fun r e => (hr r e).1) (by omega) hl, keep_old hg' (fun r e => (hr r e).1) (by omega) hk⟩)
      ?_ ⟨⟨hI1, by omega⟩, hL1, hK1⟩).mono ?_
    · rintro m pre x W ⟨⟨hi, hsz⟩, hl, hk⟩ hlen hok
      have hlt : w.heap.size + 1 < W.heap.size := (Array.getElem?_eq_some_iff.1 hl).1
      have hy := run_yield (P := P) (args := encs x) hl (by rw [hrec]; exact hps x)
      rw [hrec] at hy
      refine ⟨fn, _, assign, body, hy, roundIn_of_wpIn hfn (hassign _ _ pre x W _ hi hok ?_)⟩
      clear hy
      intro a' Wa hkfa hkpa hia hax
      replace hl := hkfa.same _ _ (by omega) hl (.inl rfl)
      replace hk := hkfa.same _ _ (Nat.le_refl _) hk (.inl rfl)
      replace hsz : w.heap.size + 2 ≤ Wa.heap.size := Nat.le_trans hsz hkfa.size
      replace hlt : w.heap.size + 1 < Wa.heap.size := (Array.getElem?_eq_some_iff.1 hl).1
      refine ⟨_, run_beginRound hl (by rw [hrec]), ?_⟩
      have hl2 : (Wa.putObj (w.heap.size + 1) (.loop { rec .ready none with state := .busy })).heap[w.heap.size + 1]? = some (.loop { rec .ready none with state := .busy }) := World.putObj_heap_same hlt
      have hk2 : (Wa.putObj (w.heap.size + 1) (.loop { rec .ready none with state := .busy })).heap[w.heap.size]? = some (.deferred (some [])) := (World.putObj_heap_other (by omega)).trans hk
      have hw2 : Kp Wa (Wa.putObj (w.heap.size + 1) (.loop { rec .ready none with state := .busy })) := hKb _ _ _ hl rfl
      have hg2 := (grownBy_putObj' Wa (w.heap.size + 1) (.loop { rec .ready none with state := .busy })).size
      refine wpIn_mono (hbody _ _ pre x a' _ (by omega) ⟨_, hl2⟩ (Nat.le_trans hsz hg2) (hI.putObj _ hia (by omega) hl rfl) ((hAx x a').putObj (s := ()) _ hax (by omega) hl rfl) hlen hok) ?_
      have fin : ∀ (jump : Option Code) (W3 : World), KeepsU w.heap.size (Wa.putObj (w.heap.size + 1) (.loop { rec .ready none with state := .busy })) W3 →
          (Instr.endRound (w.heap.size + 1) jump).run P W3 = .ok (.bool jump.isNone) (W3.putObj (w.heap.size + 1) (.loop (rec (if jump.isNone then .ready else .done) jump))) ∧
          W3.heap[w.heap.size + 1]? = some (.loop { rec .ready none with state := .busy }) ∧
          (W3.putObj (w.heap.size + 1) (.loop (rec (if jump.isNone then .ready else .done) jump))).heap[w.heap.size + 1]? = some (.loop (rec (if jump.isNone then .ready else .done) jump)) ∧
          (W3.putObj (w.heap.size + 1) (.loop (rec (if jump.isNone then .ready else .done) jump))).heap[w.heap.size]? = some (.deferred (some [])) ∧
          w.heap.size + 2 ≤ (W3.putObj (w.heap.size + 1) (.loop (rec (if jump.isNone then .ready else .done) jump))).heap.size := fun jump W3 hk3 => by
        have hl3 := hk3.same _ _ (by omega) hl2 (.inl rfl)
        have := run_endRound (P := P) jump hl3
        have h9 := (Array.getElem?_eq_some_iff.1 hl3).1
        have h8 := (grownBy_putObj' W3 (w.heap.size + 1) (.loop (rec (if jump.isNone then .ready else .done) jump))).size
        rw [hrec] at this ⊢
        rw [hrec] at h8
        exact ⟨this, by rw [hrec] at hl3; exact hl3, World.putObj_heap_same h9, (World.putObj_heap_other (by omega)).trans (hk3.same _ _ (Nat.le_refl _) hk2 (.inl rfl)), by omega⟩
      have kf : ∀ (W3 : World) (o : Obj), KeepsU w.heap.size (Wa.putObj (w.heap.size + 1) (.loop { rec .ready none with state := .busy })) W3 → KeepsU W1.heap.size W (W3.putObj (w.heap.size + 1) o) := fun W3 o hk3 =>
        (((hkfa.up (by omega)).trans (KeepsU.put Wa _ (by omega))).trans (hk3.up (by omega))).trans (KeepsU.put W3 o (by omega))
      rintro e a3 W3 hp
      cases e with
      | normal =>
        obtain ⟨hk3, hkp3, hi3⟩ := hp
        obtain ⟨hr, hl3, hl4, hk4, hs4⟩ := fin none W3 hk3
        exact ⟨_, _, hr, kf _ _ hk3, .inl ⟨rfl, ⟨⟨hI.putObj _ hi3 (by omega) hl3 rfl, hs4⟩, hl4, hk4⟩, hKt hkpa (hKt (hKt hw2 hkp3) (hKb _ _ _ hl3 rfl))⟩⟩
      | ret =>
        obtain ⟨hk3, hi3⟩ := hp
        obtain ⟨hr, hl3, hl4, hk4, hs4⟩ := fin (some .ret) W3 hk3
        exact ⟨_, _, hr, kf _ _ hk3, .inr ⟨rfl, .ret, (hIx _).putObj _ hi3 (by omega) hl3 rfl, hl4, hk4⟩⟩
      | exit id =>
        obtain ⟨hk3, hi3⟩ := hp
        obtain ⟨hr, hl3, hl4, hk4, hs4⟩ := fin (some (.exit id)) W3 hk3
        exact ⟨_, _, hr, kf _ _ hk3, .inr ⟨rfl, .exit id, (hIx _).putObj _ hi3 (by omega) hl3 rfl, hl4, hk4⟩⟩
      | goto t =>
        obtain ⟨hk3, hi3⟩ := hp
        obtain ⟨hr, hl3, hl4, hk4, hs4⟩ := fin (some (.goto t)) W3 hk3
        exact ⟨_, _, hr, kf _ _ hk3, .inr ⟨rfl, .goto t, (hIx _).putObj _ hi3 (by omega) hl3 rfl, hl4, hk4⟩⟩
      | panic ch => exact hp.elim
      | outgrown => exact hp.elim
    · rintro e W2 ⟨⟨v, rfl⟩, (⟨xs, hS, ⟨hi, -⟩, hl, hk⟩ | ⟨pre, hSp, c, hi, hl, hk⟩)⟩
      · exact ⟨none, _, by have := run_endLoop (P := P) hl (by rw [hrec]; simp); rw [hrec] at this; exact this, hdone _ xs _ (Nat.le_refl _) hS (hI.putObj _ hi (by omega) hl rfl) ((World.putObj_heap_other (by omega)).trans hk)⟩
      · exact ⟨some c, _, by have := run_endLoop (P := P) hl (by rw [hrec]; simp); rw [hrec] at this; exact this, hstop _ c pre _ (Nat.le_refl _) hSp ((hIx c).putObj _ hi (by omega) hl rfl) ((World.putObj_heap_other (by omega)).trans hk)⟩
end Go.Proofs.YtjhgknagmiekeaaGreat.V
set_option linter.unusedVariables false
set_option linter.unusedSimpArgs false
namespace Go.Proofs.YtjhgknagmiekeaaGreat.VOA
open Go.RowKit Go.Lib Go.Proofs Go.Proofs.YtjhgknagmiekeaaGreat.T Go.Proofs.YtjhgknagmiekeaaGreat.V
open Go.Proofs.YtjhgknagmiekeaaGreatW.PrintWords hiding blk_cell
theorem seq (w : World) (n NN n₁ : Nat) (M : Nat → Prop) (wB : World) (hkB : Kept wB w) (hnB : wB.heap.size ≤ n₁) (hnw : n₁ ≤ w.heap.size) (hM : ∀ k, k < wB.heap.size → ¬ M k)
    (tb : Nat) (root : Nd) (ht : Tr wB tb root) (bt bs bk : Nat) (hc : Closed w bt bs bk tb) (hNN : (ovr (fun _ => false) (fun _ => true) ⟨#[]⟩ root).length ≤ NN) :
    SeqO Fence.wide n Tryz.prog 72 #[ptr bt, ptr bs, ptr bk] (fun x : ByteArray × Int => #[.string x.1, .int .i64 x.2]) (KpM n₁ M) (fun ys => ys <+: (ovr (fun _ => false) (fun _ => true) ⟨#[]⟩ root)) (fun ys => ys = (ovr (fun _ => false) (fun _ => true) ⟨#[]⟩ root)) (fun ys => ys <+: (ovr (fun _ => false) (fun _ => true) ⟨#[]⟩ root)) NN w := by
  intro l J Jx W hw hl hJ hJx hY hJ0
  have hk : Kept w W := Kept.of hw
  have hc2 : Closed W bt bs bk tb := ⟨hk.at hc.1, hk.at hc.2.1, hk.at hc.2.2⟩
  refine callsIn_wide.2 (walked_calls l n₁ (fun ys => ys <+: (ovr (fun _ => false) (fun _ => true) ⟨#[]⟩ root)) (fun a b h => (List.prefix_append a b).trans h) M J Jx (fun s W1 W2 hs hb => ownBelow hJ hs hb) (fun m pre x W1 h1 h2 => (hY m pre x W1 h1 (by have := h2.length_le; rw [List.length_append, List.length_singleton] at this; omega) h2).mono (fun e W' h => h.2)) W wB (hkB.trans hk (Nat.le_trans hnB hnw)) hnB hM (fun _ => false) (fun _ => true)
    (fun q W1 h1 => neverC q W1) (fun q W1 h1 => alwaysC q W1) tb root ht bt bs bk W hc2 (Stnd.refl W n₁ M) (Nat.le_trans hnw hw.size) hJ0 (List.prefix_refl _))
end Go.Proofs.YtjhgknagmiekeaaGreat.VOA
set_option linter.unusedVariables false
set_option linter.unusedSimpArgs false
namespace Go.Proofs.YtjhgknagmiekeaaGreat.V
open Go.RowKit Go.Lib Go.Proofs Go.Proofs.YtjhgknagmiekeaaGreat.T Go.Proofs.YtjhgknagmiekeaaGreat.VOA
open Go.Proofs.YtjhgknagmiekeaaGreatW.PrintWords hiding blk_cell
attribute [local go_sem] Oper.semAt_some
structure KpT (n₁ : Nat) (M : Nat → Prop) (W W' : World) : Prop where
  size : W.heap.size ≤ W'.heap.size
  low : ∀ (k : Nat) (o : Obj), W.heap[k]? = some o → k < n₁ → ¬ M k → W'.heap[k]? = some o
  typ : ∀ (k : Nat) (cs : Array Value) (t : TypeId) (fr : Nat × Nat), Quiet t → W.heap[k]? = some (Obj.cells cs t fr) → W'.heap[k]? = some (Obj.cells cs t fr)
theorem KpT.trans {n₁ : Nat} {M : Nat → Prop} {A B C : World} (h : KpT n₁ M A B) (k : KpT n₁ M B C) : KpT n₁ M A C :=
  ⟨Nat.le_trans h.size k.size, fun i o hi h1 h2 => k.low i o (h.low i o hi h1 h2) h1 h2, fun i cs t fr ht hi => k.typ i cs t fr ht (h.typ i cs t fr ht hi)⟩
theorem KpT.of {n₁ : Nat} {M : Nat → Prop} {W W' : World} (h : Below W.heap.size W W') : KpT n₁ M W W' :=
  ⟨h.size, fun k o hk _ _ => (Kept.of h).at hk, fun k cs t fr _ hk => (Kept.of h).at hk⟩
theorem KpT.putObj {n₁ : Nat} {M : Nat → Prop} (W : World) (l : Nat) (o o' : Obj) (hn : n₁ ≤ l) (hl : W.heap[l]? = some o) (hc : o.isCells = false) : KpT n₁ M W (W.putObj l o') := by
  have hg := grownBy_putObj' W l o'
  refine ⟨hg.size, fun k x hk h1 h2 => ?_, fun k cs t fr _ hk => ?_⟩
  · exact (hg.block k (Array.getElem?_eq_some_iff.1 hk).1 (fun e => by cases e; omega)).trans hk
  · refine (hg.block k (Array.getElem?_eq_some_iff.1 hk).1 (fun e => ?_)).trans hk
    cases e
    rw [hk] at hl
    cases hl
    cases hc
structure KpQ (W W' : World) : Prop where
  size : W.heap.size ≤ W'.heap.size
  typ : ∀ (k : Nat) (cs : Array Value) (t : TypeId) (fr : Nat × Nat), Quiet t → W.heap[k]? = some (Obj.cells cs t fr) → W'.heap[k]? = some (Obj.cells cs t fr)
theorem KpQ.trans {A B C : World} (h : KpQ A B) (k : KpQ B C) : KpQ A C := ⟨Nat.le_trans h.size k.size, fun i cs t fr ht hi => k.typ i cs t fr ht (h.typ i cs t fr ht hi)⟩
theorem KpQ.of {W W' : World} (h : Below W.heap.size W W') : KpQ W W' := ⟨h.size, fun k cs t fr _ hk => (Kept.of h).at hk⟩
theorem KpT.q {n₁ : Nat} {M : Nat → Prop} {W W' : World} (h : KpT n₁ M W W') : KpQ W W' := ⟨h.size, h.typ⟩
theorem KpQ.putObj (W : World) (l : Nat) (o o' : Obj) (hl : W.heap[l]? = some o) (hc : o.isCells = false) : KpQ W (W.putObj l o') := by
  have hg := grownBy_putObj' W l o'
  refine ⟨hg.size, fun k cs t fr _ hk => ?_⟩
  refine (hg.block k (Array.getElem?_eq_some_iff.1 hk).1 (fun e => ?_)).trans hk
  cases e
  rw [hk] at hl
  cases hl
  cases hc
theorem ownT_size {β : Type} {B : Nat} (n : Nat) : OwnT B (fun (_ : β) W => n ≤ W.heap.size) := fun _ X Y row hs hg hr => Nat.le_trans hs hg.size
theorem ownT_old {β : Type} {B : Nat} (b : Nat) (f : β → Obj) (hb : b < B) : OwnT B (fun s W => W.heap[b]? = some (f s)) := fun _ X Y row hs hg hr => keep_old hg (fun r e => (hr r e).1) hb hs
theorem ownT_below {β : Type} {B n : Nat} {w : World} (hn : n ≤ w.heap.size) (hB : n ≤ B) : OwnT B (fun (_ : β) W => Below n w W) := fun _ X Y row hs hg hr => hs.grown hg (Nat.le_trans hn hs.size) (fun k e => Nat.le_trans hB (hr k e).1)
end Go.Proofs.YtjhgknagmiekeaaGreat.V
set_option linter.unusedVariables false
set_option linter.unusedSimpArgs false
namespace Go.Proofs.YtjhgknagmiekeaaGreat.D
open Go.RowKit Go.Lib Go.Proofs Go.Shelf
open Go.Proofs.YtjhgknagmiekeaaGreat.T Go.Proofs.YtjhgknagmiekeaaGreat.V Go.Proofs.YtjhgknagmiekeaaGreat.N
open Go.Proofs.YtjhgknagmiekeaaGreatW.PrintWords hiding blk_cell Kept
attribute [local go_sem] Oper.semAt_some
set_option maxRecDepth 100000 in
set_option maxHeartbeats 4000000 in
theorem diffNone (ta tb : Nat) (ra rb : Nd) (w : World) (ht : Tr w ta ra) (hu : Tr w tb rb) (hv : ∀ r, valT ra r = valT rb r) (hsm : ∀ r, valT ra r ≠ none → r.length < 4000000000000) :
    Calls Tryz.prog 28 #[ptr ta, ptr tb] w fun e w' => e = .returned (.slice none 0 0) ∧ Below w.heap.size w w' := by
  refine callsIn_wide.1 (show CallsIn Fence.wide 9 Tryz.prog 28 _ w _ from ?_)
  have qf := Aside0.mk (fun t w1 => show CallsIn Fence.wide 8 Tryz.prog 13 _ w1 _ from callsIn_wide.2 (allC t w1))
  have H1 := Aside0.mk (And.intro ht (And.intro hu hv))
  have HS := Aside0.mk hsm
  clear ht hu hv hsm
  unfold ptr at qf ⊢
  refine callsIn_of_wp_marks Tryz.func28 rfl trivial ?_ rfl
  simp only [Tryz.ntmps28, List.size_toArray, List.length_cons, List.length_nil, Nat.reduceAdd, Nat.reduceSub, Array.replicate_succ, Array.replicate_zero, List.push_toArray, List.append_toArray, List.nil_append, List.cons_append]
  gi_wp2_with (refine ⟨trivial, ?_⟩; gi_at_call 13; refine (qf.out _ _).mono ?_; rintro e w2 ⟨bt, bs, bk, rfl, h1, h2, h3, h4⟩; have H2 := Aside0.mk (And.intro h1 (And.intro h2 (And.intro h3 h4))); clear h1 h2 h3 h4)
  obtain ⟨h1, h2, h3, h4⟩ := H2.out
  have hsz : (((w.alloc (.cells #[.pointer (some ⟨ta, 0, none⟩)] 36)).alloc (.cells #[.pointer (some ⟨tb, 0, none⟩)] 36)).alloc (.cells #[.slice none 0 0] 74)).heap.size = w.heap.size + 3 := by simp
  rw [hsz] at h4
  have hsz2 := h4.size
  rw [hsz] at hsz2
  have bB : w2.heap[w.heap.size + 1]? = some (.cells #[.pointer (some ⟨tb, 0, none⟩)] 36 (0, 0)) := by
    refine (h4.block _ (by omega)).trans ((Below.heap_alloc _ _ _ (by simp)).trans ?_)
    have := World.alloc_heap_new (w.alloc (.cells #[.pointer (some ⟨ta, 0, none⟩)] 36)) (.cells #[.pointer (some ⟨tb, 0, none⟩)] 36)
    rwa [World.size_alloc] at this
  have bA : w2.heap[w.heap.size]? = some (.cells #[.pointer (some ⟨ta, 0, none⟩)] 36 (0, 0)) := by
    refine (h4.block _ (by omega)).trans ((Below.heap_alloc _ _ _ (by simp; omega)).trans ((Below.heap_alloc _ _ _ (by simp)).trans ?_))
    exact World.alloc_heap_new w _
  have bO : w2.heap[w.heap.size + 2]? = some (.cells #[.slice none 0 0] 74 (0, 0)) := by
    refine (h4.block _ (by omega)).trans ?_
    have := World.alloc_heap_new ((w.alloc (.cells #[.pointer (some ⟨ta, 0, none⟩)] 36)).alloc (.cells #[.pointer (some ⟨tb, 0, none⟩)] 36)) (.cells #[.slice none 0 0] 74)
    rwa [World.size_alloc, World.size_alloc] at this
  have hw2 : Below w.heap.size w w2 := (((Below.refl _ w).alloc (Nat.le_refl _) _).alloc (by simp) _).alloc (by simp; omega) _ |>.trans (h4.mono (by omega))
  clear hsz h4
  refine wpIn_rangeFuncO rfl (by decide) (gf := 72) (lb := #[ptr bt, ptr bs, ptr bk]) rfl trivial (enters_of Tryz.func72 (by kernel_rfl) rfl)
    (VOA.seq w2 8 (ovr (fun _ => false) (fun _ => true) ⟨#[]⟩ ra).length w2.heap.size (fun _ => False) w (Kept.of hw2) (by omega) (Nat.le_refl _) (fun k hk e => e) ta ra H1.out.1 bt bs bk ⟨h1, h2, h3⟩ (Nat.le_refl _))
    (fun h k => kpT h k) (fun W o o' h hc => KpM.putObj W _ o o' (by omega) h hc) (Below.refl _ _) (fun _ => rfl)
    (fun (pre : List (ByteArray × Int)) W => W.heap[w.heap.size]? = some (.cells #[.pointer (some ⟨ta, 0, none⟩)] 36 (0, 0)) ∧ W.heap[w.heap.size + 1]? = some (.cells #[.pointer (some ⟨tb, 0, none⟩)] 36 (0, 0)) ∧ W.heap[w.heap.size + 2]? = some (.cells #[.slice none 0 0] 74 (0, 0)) ∧ Below w.heap.size w W ∧ w2.heap.size ≤ W.heap.size)
    (fun _ _ _ => False) ?hI (fun _ _ _ _ _ hs _ _ => hs) ⟨bA, bB, bO, hw2, Nat.le_refl _⟩ (fun (x : ByteArray × Int) a' (Z : World) => a' = { tmps := #[.pointer (some ⟨ta, 0, none⟩), .pointer (some ⟨tb, 0, none⟩), .pointer (some ⟨w.heap.size, 0, none⟩), .pointer (some ⟨w.heap.size + 1, 0, none⟩), .slice none 0 0, .pointer (some ⟨w.heap.size + 1 + 1, 0, none⟩), .string x.1, .int .i64 x.2, undef, undef, undef, undef, undef, .pointer (some ⟨ta, 0, none⟩), .func (.func 72) #[] #[.pointer (some ⟨bt, 0, none⟩), .pointer (some ⟨bs, 0, none⟩), .pointer (some ⟨bk, 0, none⟩)], .string x.1, .int .i64 x.2, undef, undef, undef, undef, undef, undef, undef, undef, undef, undef, undef, undef, undef, undef, undef, undef, undef, undef, undef, undef, undef, undef, undef, undef, undef, undef, undef, undef, undef, undef, undef, undef, undef, undef, undef, undef, undef, undef, undef, undef, undef], defers := [] }) (fun x a' => ?hAx) ?assign ?body ?done ?stop
  case hI =>
    exact OwnT.and (ownT_old w.heap.size (fun _ => _) (by omega)) (OwnT.and (ownT_old (w.heap.size + 1) (fun _ => _) (by omega)) (OwnT.and (ownT_old (w.heap.size + 2) (fun _ => _) (by omega)) (OwnT.and (ownT_below (Nat.le_refl _) (by omega)) (ownT_size _))))
  case hAx => exact fun _ _ _ _ hs _ _ => hs
  case assign =>
    intro l' m' pre x Wa' K hI hok hK
    gi_wp2
    exact hK _ _ (KeepsU.refl _ _) (KpM.of (Below.refl _ _)) hI rfl
  case body =>
    rintro l' m' pre x a' W hl' hr0 hszW ⟨cA, cB, cO, hB, hW⟩ rfl hlt hok
    have hx := ovr_val H1.out.1.fine.toGood H1.out.1.vals (hok.subset (List.mem_append_right _ (List.mem_singleton.2 rfl)))
    have hks : x.1.size < 4000000000000 := by have := HS.out (L x.1) (by rw [hx]; simp); rwa [L_len] at this
    have q := getC W tb rb (H1.out.2.1.keep (Kept.of hB)) x.1 hks
    rw [← H1.out.2.2, hx] at q
    have Q := Aside0.mk (show Calls Tryz.prog 15 #[.pointer (some ⟨tb, 0, none⟩), .string x.1] W fun e w' => e = .returned (.tuple #[.int .i64 x.2, .bool true]) ∧ Below W.heap.size W w' from q)
    have y0 : W.cell? ⟨w.heap.size + 1, 0, none⟩ = some (.pointer (some ⟨tb, 0, none⟩)) := by rw [blk_cell cB]; rfl
    have HE := Aside0.mk (And.intro cA (And.intro cB (And.intro cO (And.intro hB hW))))
    clear q hx hks cA cB cO hB hW
    gi_wp2_with (refine ⟨trivial, (fun h => by cases h), ?_⟩; gi_at_call 15; refine (CallsIn.inRound l' (callsIn_wide.2 Q.out)).mono ?_; rintro e W3 ⟨rfl, hb3⟩; have HB3 := Aside0.mk hb3; clear hb3)

    have hb3 := HB3.out
    exact ⟨KeepsU.of hb3, KpM.of hb3, (hb3.block _ (Array.getElem?_eq_some_iff.1 HE.out.1).1).trans HE.out.1, (hb3.block _ (Array.getElem?_eq_some_iff.1 HE.out.2.1).1).trans HE.out.2.1, (hb3.block _ (Array.getElem?_eq_some_iff.1 HE.out.2.2.1).1).trans HE.out.2.2.1, belowAt HE.out.2.2.2.1 hb3, Nat.le_trans HE.out.2.2.2.2 hb3.size⟩
  case stop =>
    rintro D cd pre W _ _ h _
    exact h.elim
  case done =>
    rintro D1 ys W1 hD1 e9 ⟨cA, cB, cO, hB1, hW1⟩ hK1
    have y1 : W1.cell? ⟨w.heap.size + 1, 0, none⟩ = some (.pointer (some ⟨tb, 0, none⟩)) := by rw [blk_cell cB]; rfl
    have HE := Aside0.mk (And.intro cA (And.intro cB (And.intro cO (And.intro hB1 (And.intro hW1 (And.intro hK1 hD1))))))
    clear cA cB cO hB1 hW1 hK1 e9 bA bB bO h1 h2 h3
    gi_wp2_with (refine ⟨trivial, ?_⟩; gi_at_call 13; refine (qf.out tb W1).mono ?_; rintro e w3 ⟨bt2, bs2, bk2, rfl, h1, h2, h3, h4⟩; have H3 := Aside0.mk (And.intro h1 (And.intro h2 (And.intro h3 h4))); clear h1 h2 h3 h4)
    obtain ⟨h1, h2, h3, h4⟩ := H3.out
    have hsz3 := h4.size
    have cA : w3.heap[w.heap.size]? = some (.cells #[.pointer (some ⟨ta, 0, none⟩)] 36 (0, 0)) := (h4.block _ (Array.getElem?_eq_some_iff.1 HE.out.1).1).trans HE.out.1
    have cB : w3.heap[w.heap.size + 1]? = some (.cells #[.pointer (some ⟨tb, 0, none⟩)] 36 (0, 0)) := (h4.block _ (Array.getElem?_eq_some_iff.1 HE.out.2.1).1).trans HE.out.2.1
    have cO : w3.heap[w.heap.size + 2]? = some (.cells #[.slice none 0 0] 74 (0, 0)) := (h4.block _ (Array.getElem?_eq_some_iff.1 HE.out.2.2.1).1).trans HE.out.2.2.1
    have cD : w3.heap[D1]? = some (.deferred (some [])) := (h4.block _ (Array.getElem?_eq_some_iff.1 HE.out.2.2.2.2.2.1).1).trans HE.out.2.2.2.2.2.1
    have hw3 : Below w.heap.size w w3 := belowAt HE.out.2.2.2.1 h4
    have hlA := (Array.getElem?_eq_some_iff.1 cA).1
    have hlB := (Array.getElem?_eq_some_iff.1 cB).1
    have hlO := (Array.getElem?_eq_some_iff.1 cO).1
    have hlD := (Array.getElem?_eq_some_iff.1 cD).1
    clear h4
    refine wpIn_rangeFuncO rfl (by decide) (gf := 72) (lb := #[ptr bt2, ptr bs2, ptr bk2]) rfl trivial (enters_of Tryz.func72 (by kernel_rfl) rfl)
      (VOA.seq w3 8 (ovr (fun _ => false) (fun _ => true) ⟨#[]⟩ rb).length w3.heap.size (fun _ => False) w (Kept.of hw3) hw3.size (Nat.le_refl _) (fun k hk e => e) tb rb H1.out.2.1 bt2 bs2 bk2 ⟨h1, h2, h3⟩ (Nat.le_refl _))
      (fun h k => kpT h k) (fun W o o' h hc => KpM.putObj W _ o o' (by omega) h hc) (Below.refl _ _) (fun _ => rfl)
      (fun (pre : List (ByteArray × Int)) W => W.heap[w.heap.size]? = some (.cells #[.pointer (some ⟨ta, 0, none⟩)] 36 (0, 0)) ∧ W.heap[w.heap.size + 1]? = some (.cells #[.pointer (some ⟨tb, 0, none⟩)] 36 (0, 0)) ∧ W.heap[w.heap.size + 2]? = some (.cells #[.slice none 0 0] 74 (0, 0)) ∧ W.heap[D1]? = some (.deferred (some [])) ∧ Below w.heap.size w W ∧ w3.heap.size ≤ W.heap.size)
      (fun _ _ _ => False) ?hI2 (fun _ _ _ _ _ hs _ _ => hs) ⟨cA, cB, cO, cD, hw3, Nat.le_refl _⟩ (fun (x : ByteArray × Int) a' (Z : World) => a' = { tmps := #[.pointer (some ⟨ta, 0, none⟩), .pointer (some ⟨tb, 0, none⟩), .pointer (some ⟨w.heap.size, 0, none⟩), .pointer (some ⟨w.heap.size + 1, 0, none⟩), .slice none 0 0, .pointer (some ⟨w.heap.size + 1 + 1, 0, none⟩), undef, undef, undef, undef, .string x.1, undef, undef, .pointer (some ⟨ta, 0, none⟩), .func (.func 72) #[] #[.pointer (some ⟨bt, 0, none⟩), .pointer (some ⟨bs, 0, none⟩), .pointer (some ⟨bk, 0, none⟩)], undef, undef, undef, undef, undef, undef, undef, undef, undef, undef, undef, undef, undef, undef, undef, undef, undef, undef, undef, undef, undef, undef, undef, .pointer (some ⟨tb, 0, none⟩), .func (.func 72) #[] #[.pointer (some ⟨bt2, 0, none⟩), .pointer (some ⟨bs2, 0, none⟩), .pointer (some ⟨bk2, 0, none⟩)], .string x.1, .int .i64 x.2, undef, undef, undef, undef, undef, undef, undef, undef, undef, undef, undef, undef, undef, undef, undef, undef], defers := [] }) (fun x a' => ?hAx2) ?assign2 ?body2 ?done2 ?stop2
    case hI2 =>
      exact OwnT.and (ownT_old w.heap.size (fun _ => _) hlA) (OwnT.and (ownT_old (w.heap.size + 1) (fun _ => _) hlB) (OwnT.and (ownT_old (w.heap.size + 2) (fun _ => _) hlO) (OwnT.and (ownT_old D1 (fun _ => _) hlD) (OwnT.and (ownT_below (Nat.le_refl _) hw3.size) (ownT_size _)))))
    case hAx2 => exact fun _ _ _ _ hs _ _ => hs
    case assign2 =>
      intro l' m' pre x Wa' K hI hok hK
      gi_wp2
      exact hK _ _ (KeepsU.refl _ _) (KpM.of (Below.refl _ _)) hI rfl
    case body2 =>
      rintro l' m' pre x a' W hl' hr0 hszW ⟨cA, cB, cO, cD, hB, hW⟩ rfl hlt hok
      have hx := ovr_val H1.out.2.1.fine.toGood H1.out.2.1.vals (hok.subset (List.mem_append_right _ (List.mem_singleton.2 rfl)))
      rw [← H1.out.2.2] at hx
      have hks : x.1.size < 4000000000000 := by have := HS.out (L x.1) (by rw [hx]; simp); rwa [L_len] at this
      have q := getC W ta ra (H1.out.1.keep (Kept.of hB)) x.1 hks
      rw [hx] at q
      have Q := Aside0.mk (show Calls Tryz.prog 15 #[.pointer (some ⟨ta, 0, none⟩), .string x.1] W fun e w' => e = .returned (.tuple #[.int .i64 x.2, .bool true]) ∧ Below W.heap.size W w' from q)
      have y0 : W.cell? ⟨w.heap.size, 0, none⟩ = some (.pointer (some ⟨ta, 0, none⟩)) := by rw [blk_cell cA]; rfl
      have HE := Aside0.mk (And.intro cA (And.intro cB (And.intro cO (And.intro hB (And.intro hW cD)))))
      clear q hx hks cA cB cO hB hW cD
      gi_wp2_with (refine ⟨trivial, (fun h => by cases h), ?_⟩; gi_at_call 15; refine (CallsIn.inRound l' (callsIn_wide.2 Q.out)).mono ?_; rintro e W3 ⟨rfl, hb3⟩; have HB3 := Aside0.mk hb3; clear hb3)
      have hb3 := HB3.out
      exact ⟨KeepsU.of hb3, KpM.of hb3, (hb3.block _ (Array.getElem?_eq_some_iff.1 HE.out.1).1).trans HE.out.1, (hb3.block _ (Array.getElem?_eq_some_iff.1 HE.out.2.1).1).trans HE.out.2.1, (hb3.block _ (Array.getElem?_eq_some_iff.1 HE.out.2.2.1).1).trans HE.out.2.2.1, (hb3.block _ (Array.getElem?_eq_some_iff.1 HE.out.2.2.2.2.2).1).trans HE.out.2.2.2.2.2, belowAt HE.out.2.2.2.1 hb3, Nat.le_trans HE.out.2.2.2.2.1 hb3.size⟩
    case stop2 =>
      rintro D cd pre W _ _ h _
      exact h.elim
    case done2 =>
      rintro D2 ys2 W2 hD2 e9 ⟨cA, cB, cO, cD, hB2, hW2⟩ hK2
      have z0 : W2.cell? ⟨w.heap.size + 1 + 1, 0, none⟩ = some (.slice none 0 0) := by rw [show w.heap.size + 1 + 1 = w.heap.size + 2 from rfl, blk_cell cO]; rfl
      have qs := Aside0.mk (sortNone (.func (.func 64) #[] #[]) W2)
      have HF := Aside0.mk (And.intro cD (And.intro hB2 (And.intro hK2 hD2)))
      clear cA cB cO cD hB2 hW2 hK2 e9 h1 h2 h3
      gi_wp2_with (refine ⟨trivial, ?_⟩; gi_at_call 63; refine (callsIn_wide.2 qs.out).mono ?_; rintro e W3 ⟨rfl, rfl⟩)
      refine leaves_marks (b := w.heap.size) [D2, D1] _ HF.out.2.1.size ?_ ?_ ?_ (fun W' hW' => ?_)
      · intro D hD
        rcases List.mem_cons.1 hD with rfl | hD
        · exact HF.out.2.2.1
        · rw [List.mem_singleton.1 hD]; exact HF.out.1
      · simp only [List.nodup_cons, List.mem_cons, List.not_mem_nil, or_false, not_false_eq_true, List.nodup_nil, and_true]
        have := HF.out.2.2.2
        omega
      · intro D hD
        have := hw3.size
        have := HE.out.2.2.2.2.2.2
        have := HF.out.2.2.2
        rcases List.mem_cons.1 hD with rfl | hD
        · omega
        · rw [List.mem_singleton.1 hD]; omega
      · refine ⟨_, results_tmp rfl _ _ _, rfl, HF.out.2.1.trans hW'⟩
end Go.Proofs.YtjhgknagmiekeaaGreat.D
set_option linter.unusedVariables false
set_option linter.unusedSimpArgs false
namespace Go.Proofs.YtjhgknagmiekeaaGreat.T
mutual
theorem ents_len : ∀ (n : Nd) (p : List UInt8) (B : Nat) (x : Ent), Fits n B → x ∈ ents p n → x.1.length ≤ p.length + B
  | .mk b label leaf kids mark, p, B, x, hf, hx => by
    obtain ⟨h1, h2⟩ := hf.parts
    have h1' : label.size ≤ B := h1
    have h2' : Fitss kids (B - label.size) := h2
    rw [ents, List.mem_append] at hx
    rcases hx with hx | hx
    · have e : x.1 = p ++ L label := by
        cases leaf with
        | none => cases hx
        | some l => rw [List.mem_singleton.1 hx]
      rw [e, List.length_append, L_len]; omega
    · have := entss_len kids (p ++ L label) (B - label.size) x h2' hx
      rw [List.length_append, L_len] at this
      omega
theorem entss_len : ∀ (ks : List Nd) (p : List UInt8) (B : Nat) (x : Ent), Fitss ks B → x ∈ entss p ks → x.1.length ≤ p.length + B
  | [], p, B, x, hf, hx => by rw [entss] at hx; cases hx
  | k :: r, p, B, x, hf, hx => by
    rw [entss, List.mem_append] at hx
    have h : Fits k B ∧ Fitss r B := by unfold Fitss at hf; exact hf
    rcases hx with hx | hx
    · exact ents_len k p B x h.1 hx
    · exact entss_len r p B x h.2 hx
end
theorem key_len {root : Nd} (h : Fine root) (r : List UInt8) (hr : valT root r ≠ none) : r.length < 4000000000000 := by
  unfold valT at hr
  cases e : findT root r with
  | none => rw [e] at hr; exact absurd rfl hr
  | some l =>
    have := (mem_all h.toGood r l).2 e
    have h2 := ents_len root [] 3999999999999 (r, l) h.fits this
    simp at h2
    omega
end Go.Proofs.YtjhgknagmiekeaaGreat.T
namespace Go.Proofs.YtjhgknagmiekeaaGreat.G
open Go.RowKit Go.Lib Go.Proofs Go.Conc Go.Maps
open Go.Proofs.YtjhgknagmiekeaaGreatW.PrintWords hiding Kept
open Go.Proofs.YtjhgknagmiekeaaGreatW.PrintLast
open Go.Proofs.YtjhgknagmiekeaaGreat.T (Nd NdAt ptr Tr L All valT wasV Lf Strs delN)
attribute [local go_sem] Oper.semAt_some
theorem was_some {root : Nd} (hv : T.IntVals root) (tb : Nat) (r : List UInt8) : ∃ (x : Int) (h : Bool), wasV tb (valT root r) = .tuple #[.pointer (some ⟨tb, 0, none⟩), .int .i64 x, .bool h] := was_form hv tb r
theorem base_tree (w : World) (b v tb : Nat) (n : Int) (held : Bool) (h : BaseAt w b v tb n held) : Calls Tryz.prog 12 #[.pointer (some ⟨b, 0, none⟩)] w fun e w' => e = .returned (.pointer (some ⟨tb, 0, none⟩)) ∧ w' = w := baseTree w b v tb n held h
theorem base_ver (w : World) (b v tb : Nat) (n : Int) (held : Bool) (h : BaseAt w b v tb n held) : Calls Tryz.prog 11 #[.pointer (some ⟨b, 0, none⟩)] w fun e w' => e = .returned (.int .u64 n) ∧ w' = w := baseVersion w b v tb n held h
set_option maxRecDepth 100000 in
set_option maxHeartbeats 16000000 in
theorem atOnceLaw (A1 : Option Addr) (c1 : Nat) (fs : List Chg) (A : Option Addr) (c : Nat) (cs : List Chg) (com : Bool) (w : World) (hA1 : ChAt w A1 fs) (hA : ChAt w A cs) (hl1 : fs.length < 100000000) (hl2 : cs.length < 100000000) (hk1 : ∀ c ∈ fs, c.key.size < 4000000000000) (hk2 : ∀ c ∈ cs, c.key.size < 4000000000000) :
    Calls Tryz.prog 6 #[.slice A1 fs.length c1, .slice A cs.length c, .bool com] w fun e w' => e = .returned (.bool true) ∧ Below w.heap.size w w' := by
  have q1 := Aside0.mk (txnAlive w)
  have HA := Aside0.mk (And.intro hA1 hA)
  have HK := Aside0.mk (And.intro hk1 hk2)
  obtain ⟨M, eM⟩ : ∃ M, fs.length = M := ⟨_, rfl⟩
  obtain ⟨N, eN⟩ : ∃ N, cs.length = N := ⟨_, rfl⟩
  have HN := Aside0.mk (And.intro eM eN)
  have hN : N < 100000000 := by omega
  have hM : M < 100000000 := by omega
  rw [eN, eM]
  clear hA1 hA hk1 hk2 hl1 hl2 eN eM
  go_enter Tryz.func6, Tryz.ntmps6
  go_wp2_with fail
  go_at_call 8
  refine q1.out.mono ?_
  rintro e w1 ⟨rfl, hb1⟩
  have q2 := Aside0.mk (newOwn w1)
  have HB1 := Aside0.mk hb1
  clear hb1 q1
  go_wp2_with fail
  go_at_call 9
  refine q2.out.mono ?_
  rintro e w2 ⟨b, root0, rfl, ho2, hl2, hb2, -⟩
  have HB2 := Aside0.mk (T.belowAt HB1.out hb2)
  have HO2 : Aside0 (Own w.heap.size w2 b root0 0 ∧ (All root0).length = 0) := ⟨⟨ho2.base, ho2.mkd, Nat.le_trans HB1.out.size ho2.low.1, fun m hm => Nat.le_trans HB1.out.size (ho2.low.2 m hm)⟩, hl2⟩
  have q3 := Aside0.mk (doneOwn w.heap.size w2 HB2.out.size b 0 root0 HO2.out.1 A1 c1 fs (fun W _ hB => HA.out.1.keep (T.Kept.of (HB2.out.trans hB))) HK.out.1 (by have := HN.out.1; omega) (by have := HO2.out.2; have := HN.out.1; omega) (by omega) (by omega) true)
  rw [HN.out.1] at q3
  clear ho2 hl2 hb2 q2
  unfold ptr at q3 ⊢
  go_wp2_with fail
  go_at_call 10
  refine q3.out.mono ?_
  rintro e w3 ⟨rfl, root, ho3, -, hl3, -, hb3⟩
  obtain ⟨n, en⟩ : ∃ n, nOf true (valT root0) fs 0 = n := ⟨_, rfl⟩
  have hn : 0 ≤ n ∧ n ≤ 1 := by rw [← en]; unfold nOf; split <;> omega
  rw [en] at ho3
  obtain ⟨v, tb, hbA, htA⟩ := ho3.base
  have HB3 := Aside0.mk (HB2.out.trans hb3)
  have HL3 : Aside0 ((All root).length ≤ M) := ⟨by have := HO2.out.2; have := HN.out.1; omega⟩
  have hbl : b < w3.heap.size := (Array.getElem?_eq_some_iff.1 hbA.base).1
  have H3 := Aside0.mk (And.intro hbA (And.intro htA (And.intro ho3.mkd (And.intro ho3.low (And.intro hn hbl)))))
  have q4 := Aside0.mk (baseTree w3 b v tb n false hbA)
  have q5 := Aside0.mk (baseVersion w3 b v tb n false hbA)
  have q6 := Aside0.mk (beginFree w3 b v tb n hbA)
  clear ho3 hl3 hb3 hbA htA hbl q3 en
  unfold ptr at q4 q5 q6
  go_wp2_with fail
  go_at_call 12
  refine q4.out.mono ?_
  rintro e w' ⟨rfl, hw⟩
  subst hw
  go_wp2_with fail
  go_at_call 11
  refine q5.out.mono ?_
  rintro e w'' ⟨rfl, hw⟩
  subst hw
  go_wp2_with fail
  go_at_call 18
  refine q6.out.mono ?_
  rintro e w4 ⟨x, mb, rfl, hb4, hx4, hm4, hxs, hms, hmx, ho4⟩
  have hcb : Aside0 (CellsOf w'' tXB (fun k => k = b)) := ⟨fun k e => by rw [e]; exact ⟨_, _, _, H3.out.1.base, rfl⟩⟩
  have hf4 := ho4.farP hcb.out
  have ht4 : Tr w4 tb root := hf4.tr rfl rfl rfl rfl H3.out.2.1
  have hM4 : Mks w4 root := fun m hm => (H3.out.2.2.1 m hm).imp (fun c d h9 => ⟨d, ho4.watch hcb.out rfl h9⟩)
  have HO4 : Aside0 (Opened w4 b v tb x tb mb 0 n root root (.map [])) := ⟨⟨hb4, hx4, hm4, ht4, ht4, hM4, hM4⟩⟩
  have HX := Aside0.mk (And.intro hxs hms)
  have HB4 := Aside0.mk ho4
  have HP4 := Aside0.mk ht4
  clear hb4 hx4 hm4 hxs hms hmx ho4 hf4 ht4 hM4 q4 q5 q6
  go_wp2_with fail
  go_loopg [12, 50] (N + 1) (fun kq v12 v50 W => ∃ (i tx tp : Nat) (cur pl : Nd) (D : DataW Unit), v12 = .pointer (some ⟨tp, 0, none⟩) ∧ v50 = .int .i64 (i : Int) ∧ Aside0 (i + kq = N + 1 ∧ i ≤ N) ∧ Aside0 (Opened W b v tb x tx mb i n root cur D) ∧ Aside0 ((∀ r, valT cur r = runV (valT root) (cs.take i) r) ∧ (All cur).length ≤ (All root).length + i ∧ (∀ s ∈ strKeys D, ∃ c ∈ cs, s = L c.key) ∧ (strKeys D = [] ↔ tchd (valT root) (cs.take i) = false) ∧ (∀ m ∈ mks cur, m ∈ mks root ∨ w''.heap.size ≤ chOf m)) ∧ Aside0 (Only (fun k => k = b) w'' W) ∧ Aside0 (Tr W tp pl ∧ (∀ r, valT pl r = valT cur r) ∧ (All pl).length ≤ (All root).length + i))
  case atStart => exact ⟨0, tb, tb, root, root, _, rfl, rfl, ⟨by omega⟩, HO4, ⟨fun r => rfl, Nat.le_refl _, fun s hs => (by cases hs), ⟨fun _ => rfl, fun _ => rfl⟩, fun m hm => .inl hm⟩, HB4, ⟨HP4.out, fun r => rfl, Nat.le_refl _⟩⟩
  case round =>
    obtain ⟨i, tx, tp, cur, pl, D, rfl, rfl, HI, HO, HV, HW, HP⟩ := hrel
    by_cases hi : i < N
    · have hi' : i < cs.length := by rw [HN.out.2]; exact hi
      have hbw : Below w.heap.size w wr := HB3.out.trans (HW.out.below w.heap.size HB3.out.size (fun k _ e => by rw [e]; exact H3.out.2.2.2.1.1))
      obtain ⟨ad, ea, k0, k1, k2⟩ := HA.out.2.keep (T.Kept.of hbw) i hi'
      obtain ⟨o, eo⟩ : ∃ o, cs[i] = o := ⟨_, rfl⟩
      have hmem : o ∈ cs := by rw [← eo]; exact List.getElem_mem _
      have hks : Aside0 (o.key.size < 4000000000000) := ⟨HK.out.2 o hmem⟩
      have htk : cs.take (i + 1) = cs.take i ++ [o] := by rw [List.take_add_one, List.getElem?_eq_getElem hi', eo]; rfl
      have HT := Aside0.mk (And.intro htk hmem)
      rw [eo] at k0 k1 k2
      clear eo hi' hbw htk hmem
      obtain ⟨dr, key, val⟩ := o
      dsimp only at k0 k1 k2 hks
      have k1' : wr.cell? ⟨(ad.add (i * 3)).block, (ad.add (i * 3)).off + 1, none⟩ = some (.string key) := by rw [← add_field _ _ 1 (by omega)]; exact k1
      have k2' : wr.cell? ⟨(ad.add (i * 3)).block, (ad.add (i * 3)).off + 2, none⟩ = some (.int .i64 val) := by rw [← add_field _ _ 2 (by omega)]; exact k2
      subst ea
      clear k1 k2
      have hin : (i : Int) < (N : Int) := by omega
      go_upto_region 14 with fail
      obtain ⟨G, eG⟩ : ∃ G, wr.heap.size = G := ⟨_, rfl⟩
      obtain ⟨W4, eW4⟩ : ∃ W4, wr.alloc (Obj.cells #[.bool dr, .string key, .int .i64 val] 30) = W4 := ⟨_, rfl⟩
      have HW4 : Aside0 (W4.heap[G]? = some (.cells #[.bool dr, .string key, .int .i64 val] 30 (0, 0)) ∧ Below wr.heap.size wr W4) := ⟨by rw [← eW4, ← eG]; exact World.alloc_heap_new wr _, by rw [← eW4]; exact (Below.refl _ wr).alloc (Nat.le_refl _) _⟩
      rw [eW4, eG]
      have hb4 := HW4.out.1
      have b0 : W4.cell? ⟨G, 0, none⟩ = some (.bool dr) := by rw [blk_cell hb4]; rfl
      have b1 : W4.cell? ⟨G, 1, none⟩ = some (.string key) := by rw [blk_cell hb4]; rfl
      have b2 : W4.cell? ⟨G, 2, none⟩ = some (.int .i64 val) := by rw [blk_cell hb4]; rfl
      have HO4 := Aside0.mk (HO.out.below HW4.out.2)
      have HP4 := Aside0.mk (HP.out.1.keep (T.Kept.of HW4.out.2))
      have HW5 : Aside0 (Only (fun k => k = b) w'' W4) := ⟨(HW.out.trans (Only.of (p := fun _ => False) HW4.out.2)).imp (fun k _ h => h.elim id (fun e => e.elim))⟩
      have hrt : (All root).length < 100000000 := by have := HL3.out; omega
      have hsz : (All cur).length < 3999999999999 := by have := HV.out.2.1; omega
      have hszp : (All pl).length < 3999999999999 := by have := HP.out.2.2; omega
      have hnd : i < 1000000000000 := by omega
      have q2 := Aside0.mk (fun h : dr = true => txnDrop W4 x b tx mb i D cur HO4.out.txn HO4.out.tch hnd HO4.out.own key hks.out hsz)
      have q3 := Aside0.mk (fun h : dr = false => txnSet W4 x b tx mb i D cur HO4.out.txn HO4.out.tch hnd HO4.out.own key val hks.out hsz)
      have HSP := Aside0.mk hszp
      clear hb4 eW4 eG k0 k1' k2' hin hsz hnd hszp hrt
      unfold ptr at q2 q3
      have hmx : Aside0 (w''.heap.size ≤ mb ∧ w''.heap.size ≤ x) := ⟨HX.out.2, HX.out.1⟩
      cases dr with
      | true =>
        go_wp2_with fail
        go_at_call 24
        refine (q2.out (by first | rfl | trivial)).mono ?_
        rintro e w5 ⟨old, tx', cur', D', rfl, hx5, hm5, hD5, ht5, hv5, hl5, hk5, ho5⟩
        have HO5 := Aside0.mk (HO4.out.step ho5 hx5 hm5 ht5 hk5)
        have HW6 : Aside0 (Only (fun k => k = b) w'' w5) := ⟨(HW5.out.trans ho5).imp (fun k hk h => by have := hmx.out; rcases h with h | h | h; exact h; exact absurd hk (by omega); exact absurd hk (by omega))⟩
        have hf5 := txn_far HO4.out.txn HO4.out.tch ho5
        have hg5 : w5.heap[G]? = some (.cells #[.bool true, .string key, .int .i64 val] 30 (0, 0)) := hf5 _ _ _ _ HW4.out.1 rfl
        have o1 : w5.cell? ⟨G, 1, none⟩ = some (.string key) := by rw [blk_cell hg5]; rfl
        have o2 : w5.cell? ⟨G, 2, none⟩ = some (.int .i64 val) := by rw [blk_cell hg5]; rfl
        have HP5 : Aside0 (Tr w5 tp pl ∧ (∀ r, valT pl r = valT cur r) ∧ (∀ r, valT cur' r = if r = L key then none else valT cur r)) := ⟨hf5.tr rfl rfl rfl rfl HP4.out, HP.out.2.1, hv5⟩
        clear hg5 hf5
        have HV5 : Aside0 ((∀ r, valT cur' r = runV (valT root) (cs.take (i + 1)) r) ∧ (All cur').length ≤ (All root).length + (i + 1) ∧ (∀ s ∈ strKeys D', ∃ c ∈ cs, s = L c.key) ∧ (strKeys D' = [] ↔ tchd (valT root) (cs.take (i + 1)) = false) ∧ (∀ m ∈ mks cur', m ∈ mks root ∨ w''.heap.size ≤ chOf m)) := by
          have hf : valT cur = runV (valT root) (cs.take i) := funext HV.out.1
          have ht1 : tchd (valT root) (cs.take (i + 1)) = (tchd (valT root) (cs.take i) || (valT cur (L key)).isSome) := by rw [HT.out.1, tchd_snoc, ← hf]; rfl
          refine ⟨fun r => ?_, by have := HV.out.2.1; omega, fun s hs => ?_, ?_, fun m hm => ?_⟩
          · rw [HT.out.1, runV_snoc, ← hf, hv5]; rfl
          · rcases hD5 with ⟨e, -⟩ | ⟨-, cc, e⟩
            · rw [e] at hs; exact HV.out.2.2.1 s hs
            · rw [e] at hs
              rcases (HO4.out.tch.keys _ _ _).1 hs with h | h
              · exact ⟨_, HT.out.2, h⟩
              · exact HV.out.2.2.1 s h
          · rw [ht1]
            rcases hD5 with ⟨e, hno⟩ | ⟨hyes, cc, e⟩
            · rw [e, hno]; simpa using HV.out.2.2.2.1
            · have h1 : (valT cur (L key)).isSome = true := by cases h : valT cur (L key) with | none => exact absurd h hyes | some _ => rfl
              rw [h1, Bool.or_true]
              refine ⟨fun h => ?_, fun h => by cases h⟩
              have h2 := (HO4.out.tch.keys key.data.toList key.data.toList (.lit (.int .i64 cc))).2 (.inl rfl)
              rw [← e, h] at h2
              cases h2
          · rcases hk5 m hm with h | ⟨c, h1, h2, h3⟩
            · exact HV.out.2.2.2.2 m h
            · right; rw [h1]; exact Nat.le_trans HW5.out.size h2
        have q7 := Aside0.mk (delM w5 tp pl HP5.out.1 key hks.out HSP.out)
        have HWF := Aside0.mk (fun t => was_some HP5.out.1.vals t (L key))
        obtain ⟨oo, eoo⟩ : ∃ oo, valT pl (L key) = oo := ⟨_, rfl⟩
        rw [eoo] at q7 HWF
        clear hx5 hm5 hD5 ht5 hv5 hl5 hk5 ho5 b0 b1 b2 q2 q3 eoo
        unfold ptr at q7
        go_wp2_with fail
        go_at_call 25
        refine q7.out.mono ?_
        rintro e w6 ⟨tp', pl', rfl, ht6, hv6, hl6, -, hb6⟩
        obtain ⟨oa, ob, eab⟩ := HWF.out tp'
        rw [eab]
        have HP6 : Aside0 (Tr w6 tp' pl' ∧ (∀ r, valT pl' r = valT cur' r) ∧ (All pl').length ≤ (All root).length + (i + 1)) := ⟨ht6, fun r => by rw [hv6, HP5.out.2.2 r, HP5.out.2.1 r], by have := HP.out.2.2; omega⟩
        have HO6 := Aside0.mk (HO5.out.below hb6)
        have HW7 : Aside0 (Only (fun k => k = b) w'' w6) := ⟨(HW6.out.trans (Only.of (p := fun _ => False) hb6)).imp (fun k _ h => h.elim id (fun e => e.elim))⟩
        have q8 := Aside0.mk (base_tree w6 b v tb n true HO6.out.base)
        have q9 := Aside0.mk (base_ver w6 b v tb n true HO6.out.base)
        have q10 := Aside0.mk (Go.Proofs.YtjhgknagmiekeaaGreat.D.diffNone tb tb root root w6 HO6.out.tr HO6.out.tr (fun _ => rfl) (T.key_len HO6.out.tr.fine))
        clear ht6 hv6 hl6 hb6 eab q7 HWF o1 o2
        unfold ptr at q10
        go_wp2_with fail
        go_at_call 12
        refine q8.out.mono ?_
        rintro e w7 ⟨rfl, hw⟩
        subst hw
        go_wp2_with fail
        go_at_call 11
        refine q9.out.mono ?_
        rintro e w8 ⟨rfl, hw⟩
        subst hw
        go_wp2_with fail
        go_at_call 28
        refine q10.out.mono ?_
        rintro e w9 ⟨rfl, hb9⟩
        have HO9 := Aside0.mk (HO6.out.below hb9)
        have HW9 : Aside0 (Only (fun k => k = b) w'' w9) := ⟨(HW7.out.trans (Only.of (p := fun _ => False) hb9)).imp (fun k _ h => h.elim id (fun e => e.elim))⟩
        have HP9 : Aside0 (Tr w9 tp' pl' ∧ (∀ r, valT pl' r = valT cur' r) ∧ (All pl').length ≤ (All root).length + (i + 1)) := ⟨HP6.out.1.keep (T.Kept.of hb9), HP6.out.2⟩
        clear hb9 q8 q9 q10
        go_wp2_with fail
        go_roundg (N - i)
        case measure => have := HI.out; omega
        case rel => exact ⟨i + 1, tx', tp', cur', pl', _, rfl, by simp, ⟨by have := HI.out; omega⟩, HO9, HV5, HW9, HP9⟩
      | false =>
        go_wp2_with fail
        go_at_call 26
        refine (q3.out (by first | rfl | trivial)).mono ?_
        rintro e w5 ⟨old, had, tx', cur', cc, rfl, hx5, hm5, ht5, hv5, hl5, hk5, ho5⟩
        have HO5 := Aside0.mk (HO4.out.step ho5 hx5 hm5 ht5 hk5)
        have HW6 : Aside0 (Only (fun k => k = b) w'' w5) := ⟨(HW5.out.trans ho5).imp (fun k hk h => by have := hmx.out; rcases h with h | h | h; exact h; exact absurd hk (by omega); exact absurd hk (by omega))⟩
        have hf5 := txn_far HO4.out.txn HO4.out.tch ho5
        have hg5 : w5.heap[G]? = some (.cells #[.bool false, .string key, .int .i64 val] 30 (0, 0)) := hf5 _ _ _ _ HW4.out.1 rfl
        have o1 : w5.cell? ⟨G, 1, none⟩ = some (.string key) := by rw [blk_cell hg5]; rfl
        have o2 : w5.cell? ⟨G, 2, none⟩ = some (.int .i64 val) := by rw [blk_cell hg5]; rfl
        have HP5 : Aside0 (Tr w5 tp pl ∧ (∀ r, valT pl r = valT cur r) ∧ (∀ r, valT cur' r = if r = L key then some (.int .i64 val) else valT cur r)) := ⟨hf5.tr rfl rfl rfl rfl HP4.out, HP.out.2.1, hv5⟩
        clear hg5 hf5
        have HV5 : Aside0 ((∀ r, valT cur' r = runV (valT root) (cs.take (i + 1)) r) ∧ (All cur').length ≤ (All root).length + (i + 1) ∧ (∀ s ∈ strKeys (D.put (.string key.data.toList) (.lit (.int .i64 cc))), ∃ c ∈ cs, s = L c.key) ∧ (strKeys (D.put (.string key.data.toList) (.lit (.int .i64 cc))) = [] ↔ tchd (valT root) (cs.take (i + 1)) = false) ∧ (∀ m ∈ mks cur', m ∈ mks root ∨ w''.heap.size ≤ chOf m)) := by
          have hf : valT cur = runV (valT root) (cs.take i) := funext HV.out.1
          have ht1 : tchd (valT root) (cs.take (i + 1)) = true := by rw [HT.out.1, tchd_snoc]; show (_ || (true || _)) = true; rw [Bool.true_or, Bool.or_true]
          refine ⟨fun r => ?_, by have := HV.out.2.1; omega, fun s hs => ?_, ?_, fun m hm => ?_⟩
          · rw [HT.out.1, runV_snoc, ← hf, hv5]; rfl
          · rcases (HO4.out.tch.keys _ _ _).1 hs with h | h
            · exact ⟨_, HT.out.2, h⟩
            · exact HV.out.2.2.1 s h
          · rw [ht1]
            refine ⟨fun h => ?_, fun h => by cases h⟩
            have h2 := (HO4.out.tch.keys key.data.toList key.data.toList (.lit (.int .i64 cc))).2 (.inl rfl)
            rw [h] at h2
            cases h2
          · rcases hk5 m hm with h | ⟨c, h1, h2, h3⟩
            · exact HV.out.2.2.2.2 m h
            · right; rw [h1]; exact Nat.le_trans HW5.out.size h2
        have q7 := Aside0.mk (insM w5 tp pl HP5.out.1 key val hks.out HSP.out)
        have HWF := Aside0.mk (fun t => was_some HP5.out.1.vals t (L key))
        obtain ⟨oo, eoo⟩ : ∃ oo, valT pl (L key) = oo := ⟨_, rfl⟩
        rw [eoo] at q7 HWF
        clear hx5 hm5 ht5 hv5 hl5 hk5 ho5 b0 b1 b2 q2 q3 eoo
        unfold ptr at q7
        go_wp2_with fail
        go_at_call 27
        refine q7.out.mono ?_
        rintro e w6 ⟨tp', pl', rfl, ht6, hv6, hl6, -, hb6⟩
        obtain ⟨oa, ob, eab⟩ := HWF.out tp'
        rw [eab]
        have HP6 : Aside0 (Tr w6 tp' pl' ∧ (∀ r, valT pl' r = valT cur' r) ∧ (All pl').length ≤ (All root).length + (i + 1)) := ⟨ht6, fun r => by rw [hv6, HP5.out.2.2 r, HP5.out.2.1 r], by have := HP.out.2.2; omega⟩
        have HO6 := Aside0.mk (HO5.out.below hb6)
        have HW7 : Aside0 (Only (fun k => k = b) w'' w6) := ⟨(HW6.out.trans (Only.of (p := fun _ => False) hb6)).imp (fun k _ h => h.elim id (fun e => e.elim))⟩
        have q8 := Aside0.mk (base_tree w6 b v tb n true HO6.out.base)
        have q9 := Aside0.mk (base_ver w6 b v tb n true HO6.out.base)
        have q10 := Aside0.mk (Go.Proofs.YtjhgknagmiekeaaGreat.D.diffNone tb tb root root w6 HO6.out.tr HO6.out.tr (fun _ => rfl) (T.key_len HO6.out.tr.fine))
        clear ht6 hv6 hl6 hb6 eab q7 HWF o1 o2
        unfold ptr at q10
        go_wp2_with fail
        go_at_call 12
        refine q8.out.mono ?_
        rintro e w7 ⟨rfl, hw⟩
        subst hw
        go_wp2_with fail
        go_at_call 11
        refine q9.out.mono ?_
        rintro e w8 ⟨rfl, hw⟩
        subst hw
        go_wp2_with fail
        go_at_call 28
        refine q10.out.mono ?_
        rintro e w9 ⟨rfl, hb9⟩
        have HO9 := Aside0.mk (HO6.out.below hb9)
        have HW9 : Aside0 (Only (fun k => k = b) w'' w9) := ⟨(HW7.out.trans (Only.of (p := fun _ => False) hb9)).imp (fun k _ h => h.elim id (fun e => e.elim))⟩
        have HP9 : Aside0 (Tr w9 tp' pl' ∧ (∀ r, valT pl' r = valT cur' r) ∧ (All pl').length ≤ (All root).length + (i + 1)) := ⟨HP6.out.1.keep (T.Kept.of hb9), HP6.out.2⟩
        clear hb9 q8 q9 q10
        go_wp2_with fail
        go_roundg (N - i)
        case measure => have := HI.out; omega
        case rel => exact ⟨i + 1, tx', tp', cur', pl', _, rfl, by simp, ⟨by have := HI.out; omega⟩, HO9, HV5, HW9, HP9⟩
    · have hin : i = N := by have := HI.out; omega
      subst hin
      have htake : cs.take i = cs := by rw [← HN.out.2]; exact List.take_length
      have HT := Aside0.mk htake
      clear htake
      have hbw : Below w.heap.size w wr := HB3.out.trans (HW.out.below w.heap.size HB3.out.size (fun k _ e => by rw [e]; exact H3.out.2.2.2.1.1))
      have HBW := Aside0.mk hbw
      have hnd : i < 1000000000000 := by omega
      have hwb : w.heap.size ≤ wr.heap.size := hbw.size
      have hx9 : w.heap.size ≤ x := Nat.le_trans HB3.out.size HX.out.1
      have HXB := Aside0.mk (And.intro hx9 (And.intro H3.out.2.2.2.1.1 hwb))
      clear hbw hx9 hwb
      cases com with
      | false =>
        have q4 := Aside0.mk (txnAbort wr x b v tb tx mb n HO.out.base HO.out.txn)
        unfold ptr at q4
        go_wp2_with fail
        go_at_call 29
        refine q4.out.mono ?_
        rintro e w5 ⟨rfl, hb5, ho5⟩
        have hcx : CellsOf wr tXB (fun k => k = x ∨ k = b) := fun k e => by
          rcases e with e | e
          · rw [e]; exact ⟨_, _, _, HO.out.txn, rfl⟩
          · rw [e]; exact ⟨_, _, _, HO.out.base.base, rfl⟩
        have hf5 := ho5.farP hcx
        have hu5 : Tr w5 tb root := hf5.tr rfl rfl rfl rfl HO.out.tr
        have hB5 : Below w.heap.size w w5 := HBW.out.trans (ho5.below w.heap.size HXB.out.2.2 (fun k _ e => by rcases e with e | e <;> (rw [e]; first | exact HXB.out.1 | exact HXB.out.2.1)))
        have q5 := Aside0.mk (base_ver w5 b v tb n false hb5)
        have q6 := Aside0.mk (base_tree w5 b v tb n false hb5)
        have q7 := Aside0.mk (Go.Proofs.YtjhgknagmiekeaaGreat.D.diffNone tb tb root root w5 hu5 hu5 (fun _ => rfl) (T.key_len hu5.fine))
        have HB5 := Aside0.mk hB5
        clear hb5 ho5 hcx hf5 hu5 hB5 q4
        unfold ptr at q7
        go_wp2_with fail
        go_at_call 11
        refine q5.out.mono ?_
        rintro e w6 ⟨rfl, hw⟩
        subst hw
        go_wp2_with fail
        go_at_call 12
        refine q6.out.mono ?_
        rintro e w7 ⟨rfl, hw⟩
        subst hw
        go_wp2_with fail
        go_at_call 12
        refine q6.out.mono ?_
        rintro e w8 ⟨rfl, hw⟩
        subst hw
        go_wp2_with fail
        go_at_call 28
        refine q7.out.mono ?_
        rintro e w9 ⟨rfl, hb9⟩
        have HB9 := Aside0.mk (HB5.out.trans (hb9.mono HB5.out.size))
        clear hb9 q5 q6 q7
        go_wp2_with fail
        go_ret
        exact ⟨rfl, HB9.out⟩
      | true =>
        have hkey : ∃ (tn : Nat) (rn : Nd) (n' : Int), (n' = n ∨ n' = n + 1) ∧ Calls Tryz.prog 30 #[.pointer (some ⟨x, 0, none⟩)] wr fun e w5 => ∃ cnt : Int, e = .returned (.tuple #[.int .i64 cnt, .int .i64 0]) ∧ (∃ v5, BaseAt w5 b v5 tn n' false) ∧ Tr w5 tn rn ∧ Tr w5 tp pl ∧ (∀ r, valT pl r = valT rn r) ∧ Below w.heap.size w w5 := by
          obtain ⟨tt, ett⟩ : ∃ tt, tchd (valT root) cs = tt := ⟨_, rfl⟩
          cases tt with
          | false =>
            have hke : strKeys D = [] := HV.out.2.2.2.1.2 (by rw [HT.out]; exact ett)
            refine ⟨tb, root, n, .inl rfl, (txnCommit0 wr x b v tb tx mb i n D HO.out.base HO.out.txn HO.out.tch hnd hke).mono ?_⟩
            rintro e w5 ⟨rfl, hb5, ho5⟩
            have hcx : CellsOf wr tXB (fun k => k = x ∨ k = b) := fun k e => by
              rcases e with e | e
              · rw [e]; exact ⟨_, _, _, HO.out.txn, rfl⟩
              · rw [e]; exact ⟨_, _, _, HO.out.base.base, rfl⟩
            have hf5 := ho5.farP hcx
            refine ⟨0, rfl, ⟨v, hb5⟩, hf5.tr rfl rfl rfl rfl HO.out.tr, hf5.tr rfl rfl rfl rfl HP.out.1, fun r => ?_, HBW.out.trans (ho5.below w.heap.size HXB.out.2.2 (fun k _ e => by rcases e with e | e <;> (rw [e]; first | exact HXB.out.1 | exact HXB.out.2.1)))⟩
            rw [HP.out.2.1 r, HV.out.1 r, HT.out, run_idle _ _ ett]
          | true =>
            have hkne : strKeys D ≠ [] := fun h => by
              have h9 := HV.out.2.2.2.1.1 h
              rw [HT.out, ett] at h9
              cases h9
            have hkd : ∀ s ∈ strKeys D, s.length < 4000000000000 := fun s hs => by
              obtain ⟨c, hc, e⟩ := HV.out.2.2.1 s hs
              rw [e, T.L_len]
              exact HK.out.2 c hc
            refine ⟨tx, cur, n + 1, .inr rfl, (txnCommit wr x b v tb tx mb i n D root HO.out.base HO.out.txn HO.out.tch hnd HO.out.tr HO.out.mkd hkd hkne H3.out.2.2.2.2.1.1 (by have := H3.out.2.2.2.2.1.2; omega)).mono ?_⟩
            rintro e w5 ⟨cnt, rfl, hD⟩
            exact ⟨cnt, rfl, hD.base, hD.far.tr rfl rfl rfl rfl HO.out.own, hD.far.tr rfl rfl rfl rfl HP.out.1, HP.out.2.1, HBW.out.trans (hD.below w.heap.size HXB.out.2.2 HXB.out.1 HXB.out.2.1 H3.out.2.2.2.1.2)⟩
        obtain ⟨tn, rn, n', hn', hcall⟩ := hkey
        have q4 := Aside0.mk hcall
        have hsub : IntKind.u64.wrap (n' - n) ≤ 1 := by
          rw [IntKind.wrap_u64]
          rcases hn' with e | e <;> rw [e] <;> omega
        clear hcall hn'
        go_wp2_with fail
        go_at_call 30
        refine q4.out.mono ?_
        rintro e w5 ⟨cnt, rfl, ⟨v5, hb5⟩, hu5, hp5, hv5, hB5⟩
        have q5 := Aside0.mk (base_tree w5 b v5 tn n' false hb5)
        have q6 := Aside0.mk (base_ver w5 b v5 tn n' false hb5)
        have q7 := Aside0.mk (Go.Proofs.YtjhgknagmiekeaaGreat.D.diffNone tp tn pl rn w5 hp5 hu5 hv5 (T.key_len hp5.fine))
        have HBA := Aside0.mk (And.intro hb5 hB5)
        clear hb5 hB5 hu5 hp5 hv5 q4
        unfold ptr at q7
        go_wp2_with fail
        go_at_call 12
        refine q5.out.mono ?_
        rintro e w6 ⟨rfl, hw⟩
        subst hw
        go_wp2_with fail
        go_at_call 28
        refine q7.out.mono ?_
        rintro e w9 ⟨rfl, hb9⟩
        have hb99 := HBA.out.1.move (hb9.block _ (Array.getElem?_eq_some_iff.1 HBA.out.1.base).1) (hb9.block _ (Array.getElem?_eq_some_iff.1 HBA.out.1.ver).1)
        have q8 := Aside0.mk (base_ver w9 b v5 tn n' false hb99)
        have HB9 := Aside0.mk (HBA.out.2.trans (hb9.mono HBA.out.2.size))
        clear hb9 hb99 q5 q6 q7
        go_wp2_with fail
        go_at_call 11
        refine q8.out.mono ?_
        rintro e w10 ⟨rfl, hw⟩
        subst hw
        clear q8
        go_wp2_with fail
        go_ret
        exact ⟨rfl, HB9.out⟩
end Go.Proofs.YtjhgknagmiekeaaGreat.G
set_option linter.unusedVariables false
set_option linter.unusedSimpArgs false
namespace Go.Proofs.YtjhgknagmiekeaaGreat.R
open Go.ChangeShapes Go.WideShapes Go.Deep Go.RowKit
open Go.Proofs.YtjhgknagmiekeaaGreatW.PrintWords Go.Proofs.YtjhgknagmiekeaaGreat.G
section
variable {H : Type} {enc : TypeId × Value → H} {P : Program} {w : World} {base : Nat} {spare : Nat → Bool} {held : Bool}
theorem open_slice_fields {t e : TypeId} {fs : Array Field} {fuel : Nat} {cs : List Value} {x : DataW H × List MemPlace} (ht : P.underlying t = some (.slice e)) (he : P.underlying e = some (.struct fs))
    (hone : oneCellFields P fs = true) (hC : P.cellsOf e = fs.size) (h : DataW.trod enc P w base spare held fuel t cs = some x) :
    (cs = [.slice none 0 0] ∧ x = (.nil, [])) ∨
    ∃ (a : Addr) (len cap m : Nat) (D : Nat → DataW H) (Pl : Nat → List MemPlace), cs = [.slice (some a) len cap] ∧ base ≤ a.block ∧ len ≤ cap ∧ cap ≤ maxLen ∧ m = (if spare a.block then cap else len) ∧
      x = (.slice ((List.range len).map D) ((List.range (m - len)).map fun j => D (len + j)), MemPlace.row a (m * fs.size) ++ (List.range m).flatMap Pl) ∧
      ∀ i, i < m → ∃ (ys : List (DataW H × List MemPlace)) (n : Nat), D i = .agg (ys.map (·.1)) ∧ Pl i = ys.flatMap (·.2) ∧ ys.length = fs.size ∧
        ∀ (j : Nat) (f : Field), fs[j]? = some f → ∃ (v : Value) (y : DataW H × List MemPlace), w.cell? (a.add (i * fs.size + j)) = some v ∧ ys[j]? = some y ∧ DataW.trod enc P w base spare held n f.type [v] = some y := by
  rcases open_slice ht h with h0 | ⟨a, len, cap, m, n, D, Pl, hcs, hb, hl, hm, hmm, hx, hi⟩
  · exact .inl h0
  · refine .inr ⟨a, len, cap, m, D, Pl, hcs, hb, hl, hm, hmm, by rw [hC] at hx; exact hx, fun i him => ?_⟩
    obtain ⟨cs', hc, ht'⟩ := hi i him
    rw [hC] at hc
    obtain ⟨ys, n', hn', hy, hlen, hyl, hf⟩ := DataW.trod_struct he ht'
    obtain ⟨_, hcl, hat⟩ := World.cells?_some hc
    simp only [Prod.mk.injEq] at hy
    refine ⟨ys, n', hy.1, hy.2, hyl, fun j f hj => ?_⟩
    obtain ⟨ho, hk⟩ := hone_of hone j f hj
    have hjl : j < fs.size := (Array.getElem?_eq_some_iff.1 hj).1
    have hcell := hat j hjl
    have hv : cs'[j]? = some (cs'[j]'(by omega)) := List.getElem?_eq_getElem (by omega)
    have h1 := hf j f hj
    rw [ho, hk] at h1
    have hone' : (cs'.drop j).take 1 = [cs'[j]'(by omega)] := by
      rw [List.drop_eq_getElem_cons (by omega)]
      rfl
    rw [hone'] at h1
    have hys : ys[j]? = some (ys[j]'(by omega)) := List.getElem?_eq_getElem (by omega)
    refine ⟨_, _, ?_, hys, h1.trans hys⟩
    rw [← Go.Deep.add_add, hcell, hv]
end
def dO {H : Type} (p : Chg) : DataW H := .agg [.lit (.bool p.drop), .lit (.string p.key.data.toList), .lit (.int .i64 p.val)]
theorem open_opns {H : Type} {enc : TypeId × Value → H} {W : World} {base : Nat} {spare : Nat → Bool} {held : Bool} {a : Option Addr} {len cap : Nat} {d : DataW H} {ps : List MemPlace}
    (h : DataW.Trod enc Tryz.prog W base spare held 31 (.slice a len cap) d ps) :
    ∃ l : List Chg, len = l.length ∧ ChAt W a l ∧ ((d = .nil ∧ l = []) ∨ ∃ sp, d = .slice (l.map dO) sp) := by
  obtain ⟨fuel, hf⟩ := h
  rcases open_slice_fields (fs := #[_, _, _]) Tryz.underlying31 Tryz.underlying30 (by kernel_rfl) (by kernel_rfl) hf with ⟨hcs, hx⟩ | ⟨ad, len', cap', m, D, Pl, hcs, _, hl, hm, hmm, hx, hi⟩
  · simp [Value.cells] at hcs
    obtain ⟨rfl, rfl, rfl⟩ := hcs
    obtain ⟨rfl, _⟩ := Prod.mk.inj hx
    exact ⟨[], rfl, fun i hi => by simp at hi, .inl ⟨rfl, rfl⟩⟩
  · simp [Value.cells] at hcs
    obtain ⟨rfl, rfl, rfl⟩ := hcs
    obtain ⟨hx, _⟩ := Prod.mk.inj hx
    subst hx
    have hlm : len ≤ m := by rw [hmm]; split; exact hl; exact Nat.le_refl _
    have each : ∀ i : Nat, ∃ p : Chg, i < len → D i = dO p ∧ W.cell? (ad.add (i * 3)) = some (.bool p.drop) ∧ W.cell? (ad.add (i * 3 + 1)) = some (.string p.key) ∧ W.cell? (ad.add (i * 3 + 2)) = some (.int .i64 p.val) := by
      intro i
      by_cases hil : i < len
      · obtain ⟨ys, n, hD, _, hyl, hj⟩ := hi i (by omega)
        obtain ⟨v0, y0, c0, e0, t0⟩ := hj 0 _ rfl
        obtain ⟨v1, y1, c1, e1, t1⟩ := hj 1 _ rfl
        obtain ⟨v2, y2, c2, e2, t2⟩ := hj 2 _ rfl
        obtain ⟨n0, q0, r0⟩ := DataW.trod_bool Tryz.underlying4 t0
        obtain ⟨s1, q1, r1, w1⟩ := DataW.trod_string Tryz.underlying9 t1
        obtain ⟨n2, q2, r2, w2⟩ := DataW.trod_int Tryz.underlying3 t2
        simp only [List.cons.injEq, and_true] at q0 q1 q2
        subst q0 q1 q2 r0 r1 r2
        refine ⟨⟨n0, s1, n2⟩, fun _ => ⟨?_, c0, c1, c2⟩⟩
        have hys : ys = [(.lit (.bool n0), []), (.lit (.string s1.data.toList), []), (.lit (.int .i64 n2), [])] := by
          match ys, hyl, e0, e1, e2 with
          | [a, b, c], _, e0, e1, e2 => simp at e0 e1 e2; rw [e0, e1, e2]
        rw [hD, hys]
        rfl
      · exact ⟨⟨false, ⟨#[]⟩, 0⟩, fun h => absurd h hil⟩
    obtain ⟨g, hg⟩ := Classical.axiomOfChoice each
    refine ⟨(List.range len).map g, by simp, fun i hil => ?_, .inr ⟨(List.range (m - len)).map fun j => D (len + j), ?_⟩⟩
    · have hi2 : i < len := by simpa using hil
      have he : ((List.range len).map g)[i] = g i := by simp
      rw [he]
      exact ⟨ad, rfl, (hg i hi2).2⟩
    · congr 1
      rw [List.map_map]
      apply List.map_congr_left
      intro j hj
      exact (hg j (List.mem_range.1 hj)).1
def wtO : List Chg → Nat
  | [] => 0
  | p :: ps => p.key.size + 1 + wtO ps
theorem wtO_bulk {H : Type} (l : List Chg) : wtO l ≤ Rows.uptoBulkAll (l.map (dO (H := H))) := by
  induction l with
  | nil => exact Nat.zero_le _
  | cons p ps ih =>
    have e : p.key.data.toList.length = p.key.size := T.L_len _
    simp only [List.map_cons, Rows.uptoBulkAll, wtO, dO, Rows.uptoBulk, e]
    omega
theorem wtO_of {H : Type} {d : DataW H} {l : List Chg} (h : (d = .nil ∧ l = []) ∨ ∃ sp, d = .slice (l.map dO) sp) : wtO l ≤ Rows.uptoBulk d := by
  rcases h with ⟨rfl, rfl⟩ | ⟨sp, rfl⟩
  · exact Nat.zero_le _
  · have := wtO_bulk (H := H) l
    simp only [Rows.uptoBulk]
    omega
theorem wtO_len : ∀ (l : List Chg), l.length ≤ wtO l
  | [] => Nat.zero_le _
  | p :: ps => by have := wtO_len ps; simp only [List.length_cons, wtO]; omega
theorem wtO_mem : ∀ (l : List Chg) (p : Chg), p ∈ l → p.key.size ≤ wtO l
  | q :: l, p, h => by
    simp only [wtO]
    rcases List.mem_cons.1 h with e | e
    · rw [e]; omega
    · have := wtO_mem l p e; omega
end Go.Proofs.YtjhgknagmiekeaaGreat.R
