/- joined: K13 V5 V7 V20 V6OA V21 D3 G1 G2 G3 G4 G5 G6 G7 G8 G9 G11 G12 -/
import Derived.Test.YtjhgknagmiekeaaGreatJH2
import Derived.Test.YtjhgknagmiekeaaGreatJH6
import Derived.Laws.Cover1
import Derived.Maps.AppendAt
import Derived.Test.YtjhgknagmiekeaaGreatShelf
import Derived.Test.YtjhgknagmiekeaaGreatJH1
import Derived.Stop.RegionWithIn
import Derived.Laws.EntriesVeiled
import Derived.Deep.RegionHeld3
import Derived.Test.YtjhgknagmiekeaaGreatJH3
import Derived.Tactics
import Derived.Tactics2
import Derived.Defers
import Derived.Laws.Pointers
import Derived.Laws.LoneSync
import Derived.Laws.NewBlocks
import Derived.RegionTactic
import Derived.RegionCalls
import Derived.ChangeAlike
import Derived.Test.YtjhgknagmiekeaaGreatJH4
import Derived.Conc.LoneCalls
import Derived.Conc.EventLaws
import Derived.Conc.LoneSelect
import Derived.Test.YtjhgknagmiekeaaGreatJH5
import Derived.Maps.Own
import Derived.Lib.SmallJoins
import Derived.Maps.OwnSet
-- Written by a program of this session (wip/tools/printfam.py) out of the translation; hand-proved contracts set in. Lean checks it.
namespace Go.Proofs.YtjhgknagmiekeaaGreat.K
open Go.RowKit Go.Proofs.YtjhgknagmiekeaaGreatW.PrintWords Go.Proofs.YtjhgknagmiekeaaGreatW.PrintLast Go.Proofs.YtjhgknagmiekeaaGreatW.PrintMore
attribute [local go_sem] max2_int min2_int max_two min_two max_three min_three max_four min_four   -- for this text's walks alone
set_option linter.unusedVariables false
set_option linter.unusedSimpArgs false
def strings_HasPrefix.f (a0 : ByteArray) (a1 : ByteArray) : Option (Bool) := (stringslite_HasPrefix.f a0 a1).bind fun t101 => (some t101)
set_option maxHeartbeats 8000000 in
set_option maxRecDepth 100000 in
theorem strings_HasPrefix.calls (a0 : ByteArray) (a1 : ByteArray) (r : Bool) (w : World) (h : strings_HasPrefix.f a0 a1 = some r) :
    Calls Tryz.prog 113 #[.string a0, .string a1] w fun e w' => e = .returned (.bool r) ∧ Drawn0 w w' := by
  have H : ((stringslite_HasPrefix.f a0 a1).bind fun t101 => (some t101)) = some r := h
  clear h
  replace H := Option.bind_eq_some_iff.mp H
  obtain ⟨t101, A30, H⟩ := H
  replace H : (some t101) = some r := H
  have A3 := Aside0.mk A30
  clear A30
  obtain rfl := Option.some.inj H
  go_enter Tryz.func113, Tryz.ntmps113
  go_wp2_with (first | ((with_reducible refine gate_callee (f := 141) rfl ?_); refine goesL_ (some 7) rfl rfl Tryz.func141 (by kernel_rfl) rfl #[.string a0, .string a1] rfl (by (try simp only [List.map_toArray, List.map_cons, List.map_nil]); first | done | rfl | (simp only [List.length_drop, List.length_take]; rfl)) ?_; (with_reducible refine (stringslite_HasPrefix.calls a0 a1 t101 _ A3.out).mono ?_); rintro e w' ⟨rfl, ⟨nd, rfl⟩⟩; refine ⟨_, rfl, ?_⟩))
  go_ret
  exact ⟨by first | rfl | (simp; done) | (simp [*]; done), by repeat (first | exact Drawn0.refl _ | apply Drawn0.step)⟩
end Go.Proofs.YtjhgknagmiekeaaGreat.K
set_option linter.unusedVariables false
set_option linter.unusedSimpArgs false
namespace Go.Proofs.YtjhgknagmiekeaaGreat.V
open Go.RowKit Go.Lib Go.Proofs Go.Proofs.YtjhgknagmiekeaaGreat.T Go.Proofs.YtjhgknagmiekeaaGreat.K
open Go.Proofs.YtjhgknagmiekeaaGreatW.PrintWords hiding blk_cell
def pre (a b : List UInt8) : Bool := b.isPrefixOf a
set_option maxHeartbeats 1600000 in
set_option maxRecDepth 100000 in
theorem neverC (q : ByteArray) (W : World) : Calls Tryz.prog 38 #[.string q] W fun e W' => e = .returned (.bool false) ∧ Below W.heap.size W W' := by
  go_enter Tryz.func38, Tryz.ntmps38
  go_wp2_with fail
  go_ret
  exact ⟨rfl, Below.refl _ _⟩
set_option maxHeartbeats 1600000 in
set_option maxRecDepth 100000 in
theorem alwaysC (q : ByteArray) (W : World) : Calls Tryz.prog 39 #[.string q] W fun e W' => e = .returned (.bool true) ∧ Below W.heap.size W W' := by
  go_enter Tryz.func39, Tryz.ntmps39
  go_wp2_with fail
  go_ret
  exact ⟨rfl, Below.refl _ _⟩
set_option maxHeartbeats 4000000 in
set_option maxRecDepth 100000 in
theorem walkedC (tb : Nat) (s k : Fn) (sa ka : Array Value) (w : World) : Calls Tryz.prog 37 #[ptr tb, .func s #[] sa, .func k #[] ka] w fun e w' => ∃ bt bs bk, e = .returned (.func (.func 72) #[] #[ptr bt, ptr bs, ptr bk]) ∧ w'.heap[bt]? = some (.cells #[ptr tb] 36 (0, 0)) ∧ w'.heap[bs]? = some (.cells #[.func s #[] sa] 105 (0, 0)) ∧ w'.heap[bk]? = some (.cells #[.func k #[] ka] 105 (0, 0)) ∧ Below w.heap.size w w' := by
  unfold ptr
  go_enter Tryz.func37, Tryz.ntmps37
  go_wp2_with fail
  go_ret
  refine ⟨w.heap.size, w.heap.size + 1, w.heap.size + 1 + 1, rfl, ?_, ?_, ?_, ?_⟩
  · rw [(Below.heap_alloc _ _ _ (by simp; omega)), (Below.heap_alloc _ _ _ (by simp))]
    exact World.alloc_heap_new w _
  · rw [(Below.heap_alloc _ _ _ (by simp))]
    have := World.alloc_heap_new (w.alloc (Obj.cells #[Value.pointer (some { block := tb, off := 0 })] 36)) (Obj.cells #[Value.func s #[] sa] 105)
    rwa [World.size_alloc] at this
  · have := World.alloc_heap_new ((w.alloc (Obj.cells #[Value.pointer (some { block := tb, off := 0 })] 36)).alloc (Obj.cells #[Value.func s #[] sa] 105)) (Obj.cells #[Value.func k #[] ka] 105)
    rwa [World.size_alloc, World.size_alloc] at this
  · exact (((Below.refl _ w).alloc (Nat.le_refl _) _).alloc (by simp) _).alloc (by simp; omega) _
set_option maxHeartbeats 4000000 in
set_option maxRecDepth 100000 in
theorem allC (tb : Nat) (w : World) : Calls Tryz.prog 13 #[ptr tb] w fun e w' => ∃ bt bs bk, e = .returned (.func (.func 72) #[] #[ptr bt, ptr bs, ptr bk]) ∧ w'.heap[bt]? = some (.cells #[ptr tb] 36 (0, 0)) ∧ w'.heap[bs]? = some (.cells #[.func (.func 38) #[] #[]] 105 (0, 0)) ∧ w'.heap[bk]? = some (.cells #[.func (.func 39) #[] #[]] 105 (0, 0)) ∧ Below w.heap.size w w' := by
  have q := Aside0.mk (fun w1 => walkedC tb (.func 38) (.func 39) #[] #[] w1)
  unfold ptr at q ⊢
  go_enter Tryz.func13, Tryz.ntmps13
  go_wp2_with (go_at_call 37; refine (q.out _).mono ?_)
  rintro e w' ⟨bt, bs, bk, rfl, h1, h2, h3, h4⟩
  have H := Aside0.mk (And.intro h1 (And.intro h2 (And.intro h3 h4)))
  clear h1 h2 h3 h4 q
  go_wp2_with fail
  go_ret
  exact ⟨bt, bs, bk, rfl, H.out.1, H.out.2.1, H.out.2.2.1, H.out.2.2.2⟩
end Go.Proofs.YtjhgknagmiekeaaGreat.V
set_option linter.unusedVariables false
set_option linter.unusedSimpArgs false
namespace Go.Proofs.YtjhgknagmiekeaaGreat.V
open Go.RowKit Go.Lib Go.Proofs Go.Shelf Go.Proofs.YtjhgknagmiekeaaGreat.T
open Go.Proofs.YtjhgknagmiekeaaGreatW.PrintWords hiding blk_cell
attribute [local go_sem] Oper.semAt_some
theorem kpT {n₁ : Nat} {M : Nat → Prop} {A B C : World} (h : KpM n₁ M A B) (k : KpM n₁ M B C) : KpM n₁ M A C := h.trans k
end Go.Proofs.YtjhgknagmiekeaaGreat.V
set_option linter.unusedVariables false
set_option linter.unusedSimpArgs false
namespace Go.Proofs.YtjhgknagmiekeaaGreat.V
open Go.RowKit Go.Lib Go.Proofs Go.Proofs.YtjhgknagmiekeaaGreat.T
variable {F : Fence} {n : Nat} {P : Program}
def Quiet (t : TypeId) : Prop := t = 4 ∨ t = 9 ∨ t = 36 ∨ t = 161 ∨ t = 105 ∨ t = 158 ∨ t = 190
def qObj (o : Obj) : Prop := o.isCells = false ∨ ∃ cs t fr, o = .cells cs t fr ∧ Quiet t
structure KeepsU (B : Nat) (W W' : World) : Prop where
  size : W.heap.size ≤ W'.heap.size
  same : ∀ (k : Nat) (o : Obj), B ≤ k → W.heap[k]? = some o → qObj o → W'.heap[k]? = some o
theorem KeepsU.trans {B : Nat} {X Y Z : World} (h : KeepsU B X Y) (k : KeepsU B Y Z) : KeepsU B X Z := ⟨Nat.le_trans h.size k.size, fun i o hB hi ho => k.same i o hB (h.same i o hB hi ho) ho⟩
theorem KeepsU.of {B : Nat} {W W' : World} (h : Below W.heap.size W W') : KeepsU B W W' := ⟨h.size, fun k o _ hk _ => (Kept.of h).at hk⟩
theorem KeepsU.refl (B : Nat) (W : World) : KeepsU B W W := KeepsU.of (Below.refl _ _)
theorem KeepsU.up {B B' : Nat} {W W' : World} (h : KeepsU B W W') (hB : B ≤ B') : KeepsU B' W W' := ⟨h.size, fun k o hk h1 h2 => h.same k o (Nat.le_trans hB hk) h1 h2⟩
theorem KeepsU.put {B l : Nat} (W : World) (o : Obj) (h : l < B) : KeepsU B W (W.putObj l o) := by
  have hg := grownBy_putObj' W l o
  exact ⟨hg.size, fun k x hk h1 _ => (hg.block k (Array.getElem?_eq_some_iff.1 h1).1 (fun e => by cases e; omega)).trans h1⟩
theorem KeepsU.set {B b : Nat} (W : World) (v : Value) (h : b < B) : KeepsU B W (W.setCell ⟨b, 0, none⟩ v) := by
  have hg := grownBy_setCell' W b v
  exact ⟨hg.size, fun k x hk h1 _ => (hg.block k (Array.getElem?_eq_some_iff.1 h1).1 (fun e => by cases e; omega)).trans h1⟩
def ownPostU {α : Type} (B : Nat) (Kp : World → World → Prop) (I : List α → World → Prop) (Ix : Code → List α → World → Prop) (xs : List α) (W : World) : Exit → Act → World → Prop
  | .normal, _, W' => KeepsU B W W' ∧ Kp W W' ∧ I xs W'
  | .ret, _, W' => KeepsU B W W' ∧ Ix .ret xs W'
  | .exit id, _, W' => KeepsU B W W' ∧ Ix (.exit id) xs W'
  | .goto t, _, W' => KeepsU B W W' ∧ Ix (.goto t) xs W'
  | .panic _, _, _ => False
  | .outgrown, _, _ => False
def OwnT {β : Type} (B : Nat) (I : β → World → Prop) : Prop :=
  ∀ s W W' row, I s W → W.grownBy W' row → (∀ r, row = some r → B ≤ r ∧ ∃ o : Obj, W.heap[r]? = some o ∧ (o.isCells = false ∨ ∃ b : Bool, o = .cells #[.bool b] 4 (0, 0))) → I s W'
theorem OwnT.putObj {β : Type} {B : Nat} {I : β → World → Prop} (h : OwnT B I) {s : β} {W : World} {l : Nat} {o : Obj} (o' : Obj) (hs : I s W) (hB : B ≤ l) (hl : W.heap[l]? = some o) (ho : o.isCells = false) : I s (W.putObj l o') :=
  h s W _ (some l) hs (grownBy_putObj' W l o') (fun r e => by cases e; exact ⟨hB, o, hl, .inl ho⟩)
theorem OwnT.alloc {β : Type} {B : Nat} {I : β → World → Prop} (h : OwnT B I) {s : β} {W : World} (o : Obj) (hs : I s W) : I s (W.alloc o) :=
  h s W _ none hs (World.grownBy_alloc W o none) (fun r e => by cases e)
theorem OwnT.and {β : Type} {B : Nat} {I I' : β → World → Prop} (h : OwnT B I) (h' : OwnT B I') : OwnT B (fun s W => I s W ∧ I' s W) := fun s W W' row hs hg hr => ⟨h s W W' row hs.1 hg hr, h' s W W' row hs.2 hg hr⟩
theorem OwnT.bool {β : Type} {B : Nat} {I : β → World → Prop} (h : OwnT B I) {s : β} {W : World} {l : Nat} {b : Bool} (v' : Value) (hs : I s W) (hB : B ≤ l) (hl : Boxed W l 4 (.bool b)) : I s (W.setCell ⟨l, 0, none⟩ v') :=
  h s W _ (some l) hs (grownBy_setCell' W l v') (fun r e => by cases e; exact ⟨hB, _, hl, .inr ⟨b, rfl⟩⟩)
def SeqO {α : Type} (F : Fence) (n : Nat) (P : Program) (g : Nat) (lb : Array Value) (encs : α → Array Value) (Kp : World → World → Prop) (Ok S Sp : List α → Prop) (N : Nat) (w : World) : Prop :=
  ∀ (l : Nat) (J Jx : List α → World → Prop) (W : World), Below w.heap.size w W → l < W.heap.size → OwnT W.heap.size J → OwnT W.heap.size Jx →
    (∀ m pre x W1, J pre W1 → pre.length < N → Ok (pre ++ [x]) → YieldAt F m P l (encs x) W1 fun e W' => KeepsU W.heap.size W1 W' ∧ ((e = .returned (.bool true) ∧ J (pre ++ [x]) W' ∧ Kp W1 W') ∨ (e = .returned (.bool false) ∧ Jx (pre ++ [x]) W'))) →
    J [] W → CallsIn F n P g (#[.func (.yield l) #[] #[]] ++ lb) W fun e W' => (∃ v, e = .returned v) ∧ ((∃ xs, S xs ∧ J xs W') ∨ (∃ pre, Sp pre ∧ Jx pre W'))
theorem ownBelow {β : Type} {B : Nat} {J : β → World → Prop} (h : OwnT B J) {s : β} {W W' : World} (hs : J s W) (hb : Below W.heap.size W W') : J s W' :=
  h s W W' none hs ⟨hb.os, hb.tape, hb.output, hb.size, fun k hk _ => hb.block k hk⟩ (fun r e => by cases e)
theorem keep_old {A B : World} {row : Option Nat} {n0 k : Nat} {o : Obj} (hg : A.grownBy B row) (hr : ∀ r, row = some r → n0 ≤ r) (hk : k < n0) (h : A.heap[k]? = some o) : B.heap[k]? = some o :=
  (hg.block k (Array.getElem?_eq_some_iff.1 h).1 (fun e => by have := hr k e.symm; omega)).trans h
theorem wpIn_rangeFuncO {α : Type} {g : Operand} {ps : Array Tmp} {assign body : Code} {Q : Exit → Act → World → Prop} {a : Act} {w : World}
    (hro : F.round = none) (h1 : 1 ≤ n) {gf : Nat} {lb : Array Value} (hg : a.eval g = .func (.func gf) #[] lb) (hFg : F.fn gf) (eg : ∀ args w, (callFunc gf args).run P w = .ok (.enter gf args) w)
    {encs : α → Array Value} {Kp : World → World → Prop} {Ok S Sp : List α → Prop} {N : Nat} {w0 : World} (hseq : SeqO F (n - 1) P gf lb encs Kp Ok S Sp N w0)
    (hKt : ∀ {A B C : World}, Kp A B → Kp B C → Kp A C) (hKb : ∀ (W : World) (o o' : Obj), W.heap[w.heap.size + 1]? = some o → o.isCells = false → Kp W (W.putObj (w.heap.size + 1) o')) (hb0 : Below w0.heap.size w0 w) (hps : ∀ x, (encs x).size = ps.size)
    (I : List α → World → Prop) (Ix : Code → List α → World → Prop) (hI : OwnT w.heap.size I) (hIx : ∀ c, OwnT w.heap.size (Ix c)) (h0 : I [] w) (Ax : α → Act → World → Prop) (hAx : ∀ x a', OwnT w.heap.size (fun (_ : Unit) W => Ax x a' W))
    (hassign : ∀ (l m : Nat) (pre : List α) (x : α) (W : World) (K : Act → World → Prop), I pre W → Ok (pre ++ [x]) → (∀ a' W', KeepsU w.heap.size W W' → Kp W W' → I pre W' → Ax x a' W' → K a' W') →
      assign.wpIn (F.inRound l) m P (Exit.then K (fun _ _ _ => False)) { tmps := (ps.zip (encs x)).foldl (fun t (p, v) => t.setIfInBounds p v) a.tmps, defers := [] } W)
    (hbody : ∀ (l m : Nat) (pre : List α) (x : α) (a' : Act) (W : World), w.heap.size ≤ l → (∃ r, W.heap[l]? = some (.loop r)) → w.heap.size + 2 ≤ W.heap.size → I pre W → Ax x a' W → pre.length < N → Ok (pre ++ [x]) → body.wpIn (F.inRound l) m P (ownPostU w.heap.size Kp I Ix (pre ++ [x]) W) a' W)
    (hdone : ∀ (D : Nat) (xs : List α) (W : World), w.heap.size ≤ D → S xs → I xs W → W.heap[D]? = some (.deferred (some [])) → Q .normal { a with defers := { target := .collected D, args := #[] } :: a.defers } W)
    (hstop : ∀ (D : Nat) (c : Code) (pre : List α) (W : World), w.heap.size ≤ D → Sp pre → Ix c pre W → W.heap[D]? = some (.deferred (some [])) → c.wpIn F n P Q { a with defers := { target := .collected D, args := #[] } :: a.defers } W) :
    (Code.rangeFunc g ps assign body).wpIn F n P Q a w := by
  refine wpIn_rangeFunc ?_
  intro fn hfn
  rw [hro]
  obtain ⟨rec, hrec⟩ : ∃ rec : LoopState → Option Code → Loop, rec = fun st pe => { state := st, pending := pe, fn, tmps := a.tmps, params := ps, assign, body, defers := w.heap.size } := ⟨_, rfl⟩
  obtain ⟨W1, hW1⟩ : ∃ W1, (w.alloc (.deferred (some []))).alloc (.loop (rec .ready none)) = W1 := ⟨_, rfl⟩
  have hs1 : W1.heap.size = w.heap.size + 2 := by rw [← hW1]; simp
  have hL1 : W1.heap[w.heap.size + 1]? = some (.loop (rec .ready none)) := by
    rw [← hW1]; have := World.alloc_heap_new (w.alloc (.deferred (some []))) (.loop (rec .ready none)); rwa [World.size_alloc] at this
  have hK1 : W1.heap[w.heap.size]? = some (.deferred (some [])) := by
    rw [← hW1]; exact (Below.heap_alloc _ _ _ (by simp)).trans (World.alloc_heap_new w _)
  have hI1 : I [] W1 := by rw [← hW1]; exact hI.alloc _ (hI.alloc _ h0)
  have hb1 : Below w0.heap.size w0 W1 := by
    rw [← hW1]; exact hb0.trans ((((Below.refl _ w).alloc (Nat.le_refl _) _).alloc (by simp) _).mono hb0.size)
  refine ⟨w.heap.size + 1, [{ target := .collected w.heap.size, args := #[] }], W1, { target := .fn (.func gf) lb, args := #[.func (.yield (w.heap.size + 1)) #[] #[]] }, W1, gf,
    #[.func (.yield (w.heap.size + 1)) #[] #[]] ++ lb, W1, ?_, ?_, ?_, ?_, fun _ => h1, ?_⟩
  · rw [← hW1, hrec]; exact run_enterLoop_outer _ _ _ _ _
  · simp only [resolve, hg]
    simp [go_sem]
  · intro f' hf'; simp [Target.leads] at hf'; subst hf'; exact hFg
  · simp [invoke, go_sem, eg]
  · refine (hseq (w.heap.size + 1)
      (fun pre W => (I pre W ∧ w.heap.size + 2 ≤ W.heap.size) ∧ W.heap[w.heap.size + 1]? = some (.loop (rec .ready none)) ∧ W.heap[w.heap.size]? = some (.deferred (some [])))
      (fun pre W => ∃ c, Ix c pre W ∧ W.heap[w.heap.size + 1]? = some (.loop (rec .done (some c))) ∧ W.heap[w.heap.size]? = some (.deferred (some [])))
      W1 hb1 (by omega)
      (fun s A B row hs hg' hr => ⟨⟨hI s A B row hs.1.1 hg' (fun r e => ⟨by have := (hr r e).1; omega, (hr r e).2⟩), Nat.le_trans hs.1.2 hg'.size⟩, keep_old hg' (fun r e => (hr r e).1) (by omega) hs.2.1, keep_old hg' (fun r e => (hr r e).1) (by omega) hs.2.2⟩)
      (fun s A B row hs hg' hr => by
        obtain ⟨c, hc, hl, hk⟩ := hs
        exact ⟨c, hIx c s A B row hc hg' (fun r e => ⟨by have := (hr r e).1; omega, (hr r e).2⟩), keep_old hg' (fun r e => (hr r e).1) (by omega) hl, keep_old hg' (fun r e => (hr r e).1) (by omega) hk⟩)
      ?_ ⟨⟨hI1, by omega⟩, hL1, hK1⟩).mono ?_
    · rintro m pre x W ⟨⟨hi, hsz⟩, hl, hk⟩ hlen hok
      have hlt : w.heap.size + 1 < W.heap.size := (Array.getElem?_eq_some_iff.1 hl).1
      have hy := run_yield (P := P) (args := encs x) hl (by rw [hrec]; exact hps x)
      rw [hrec] at hy
      refine ⟨fn, _, assign, body, hy, roundIn_of_wpIn hfn (hassign _ _ pre x W _ hi hok ?_)⟩
      clear hy
      intro a' Wa hkfa hkpa hia hax
      replace hl := hkfa.same _ _ (by omega) hl (.inl rfl)
      replace hk := hkfa.same _ _ (Nat.le_refl _) hk (.inl rfl)
      replace hsz : w.heap.size + 2 ≤ Wa.heap.size := Nat.le_trans hsz hkfa.size
      replace hlt : w.heap.size + 1 < Wa.heap.size := (Array.getElem?_eq_some_iff.1 hl).1
      refine ⟨_, run_beginRound hl (by rw [hrec]), ?_⟩
      have hl2 : (Wa.putObj (w.heap.size + 1) (.loop { rec .ready none with state := .busy })).heap[w.heap.size + 1]? = some (.loop { rec .ready none with state := .busy }) := World.putObj_heap_same hlt
      have hk2 : (Wa.putObj (w.heap.size + 1) (.loop { rec .ready none with state := .busy })).heap[w.heap.size]? = some (.deferred (some [])) := (World.putObj_heap_other (by omega)).trans hk
      have hw2 : Kp Wa (Wa.putObj (w.heap.size + 1) (.loop { rec .ready none with state := .busy })) := hKb _ _ _ hl rfl
      have hg2 := (grownBy_putObj' Wa (w.heap.size + 1) (.loop { rec .ready none with state := .busy })).size
      refine wpIn_mono (hbody _ _ pre x a' _ (by omega) ⟨_, hl2⟩ (Nat.le_trans hsz hg2) (hI.putObj _ hia (by omega) hl rfl) ((hAx x a').putObj (s := ()) _ hax (by omega) hl rfl) hlen hok) ?_
      have fin : ∀ (jump : Option Code) (W3 : World), KeepsU w.heap.size (Wa.putObj (w.heap.size + 1) (.loop { rec .ready none with state := .busy })) W3 →
          (Instr.endRound (w.heap.size + 1) jump).run P W3 = .ok (.bool jump.isNone) (W3.putObj (w.heap.size + 1) (.loop (rec (if jump.isNone then .ready else .done) jump))) ∧
          W3.heap[w.heap.size + 1]? = some (.loop { rec .ready none with state := .busy }) ∧
          (W3.putObj (w.heap.size + 1) (.loop (rec (if jump.isNone then .ready else .done) jump))).heap[w.heap.size + 1]? = some (.loop (rec (if jump.isNone then .ready else .done) jump)) ∧
          (W3.putObj (w.heap.size + 1) (.loop (rec (if jump.isNone then .ready else .done) jump))).heap[w.heap.size]? = some (.deferred (some [])) ∧
          w.heap.size + 2 ≤ (W3.putObj (w.heap.size + 1) (.loop (rec (if jump.isNone then .ready else .done) jump))).heap.size := fun jump W3 hk3 => by
        have hl3 := hk3.same _ _ (by omega) hl2 (.inl rfl)
        have := run_endRound (P := P) jump hl3
        have h9 := (Array.getElem?_eq_some_iff.1 hl3).1
        have h8 := (grownBy_putObj' W3 (w.heap.size + 1) (.loop (rec (if jump.isNone then .ready else .done) jump))).size
        rw [hrec] at this ⊢
        rw [hrec] at h8
        exact ⟨this, by rw [hrec] at hl3; exact hl3, World.putObj_heap_same h9, (World.putObj_heap_other (by omega)).trans (hk3.same _ _ (Nat.le_refl _) hk2 (.inl rfl)), by omega⟩
      have kf : ∀ (W3 : World) (o : Obj), KeepsU w.heap.size (Wa.putObj (w.heap.size + 1) (.loop { rec .ready none with state := .busy })) W3 → KeepsU W1.heap.size W (W3.putObj (w.heap.size + 1) o) := fun W3 o hk3 =>
        (((hkfa.up (by omega)).trans (KeepsU.put Wa _ (by omega))).trans (hk3.up (by omega))).trans (KeepsU.put W3 o (by omega))
      rintro e a3 W3 hp
      cases e with
      | normal =>
        obtain ⟨hk3, hkp3, hi3⟩ := hp
        obtain ⟨hr, hl3, hl4, hk4, hs4⟩ := fin none W3 hk3
        exact ⟨_, _, hr, kf _ _ hk3, .inl ⟨rfl, ⟨⟨hI.putObj _ hi3 (by omega) hl3 rfl, hs4⟩, hl4, hk4⟩, hKt hkpa (hKt (hKt hw2 hkp3) (hKb _ _ _ hl3 rfl))⟩⟩
      | ret =>
        obtain ⟨hk3, hi3⟩ := hp
        obtain ⟨hr, hl3, hl4, hk4, hs4⟩ := fin (some .ret) W3 hk3
        exact ⟨_, _, hr, kf _ _ hk3, .inr ⟨rfl, .ret, (hIx _).putObj _ hi3 (by omega) hl3 rfl, hl4, hk4⟩⟩
      | exit id =>
        obtain ⟨hk3, hi3⟩ := hp
        obtain ⟨hr, hl3, hl4, hk4, hs4⟩ := fin (some (.exit id)) W3 hk3
        exact ⟨_, _, hr, kf _ _ hk3, .inr ⟨rfl, .exit id, (hIx _).putObj _ hi3 (by omega) hl3 rfl, hl4, hk4⟩⟩
      | goto t =>
        obtain ⟨hk3, hi3⟩ := hp
        obtain ⟨hr, hl3, hl4, hk4, hs4⟩ := fin (some (.goto t)) W3 hk3
        exact ⟨_, _, hr, kf _ _ hk3, .inr ⟨rfl, .goto t, (hIx _).putObj _ hi3 (by omega) hl3 rfl, hl4, hk4⟩⟩
      | panic ch => exact hp.elim
      | outgrown => exact hp.elim
    · rintro e W2 ⟨⟨v, rfl⟩, (⟨xs, hS, ⟨hi, -⟩, hl, hk⟩ | ⟨pre, hSp, c, hi, hl, hk⟩)⟩
      · exact ⟨none, _, by have := run_endLoop (P := P) hl (by rw [hrec]; simp); rw [hrec] at this; exact this, hdone _ xs _ (Nat.le_refl _) hS (hI.putObj _ hi (by omega) hl rfl) ((World.putObj_heap_other (by omega)).trans hk)⟩
      · exact ⟨some c, _, by have := run_endLoop (P := P) hl (by rw [hrec]; simp); rw [hrec] at this; exact this, hstop _ c pre _ (Nat.le_refl _) hSp ((hIx c).putObj _ hi (by omega) hl rfl) ((World.putObj_heap_other (by omega)).trans hk)⟩
end Go.Proofs.YtjhgknagmiekeaaGreat.V
set_option linter.unusedVariables false
set_option linter.unusedSimpArgs false
namespace Go.Proofs.YtjhgknagmiekeaaGreat.VOA
open Go.RowKit Go.Lib Go.Proofs Go.Proofs.YtjhgknagmiekeaaGreat.T Go.Proofs.YtjhgknagmiekeaaGreat.V
open Go.Proofs.YtjhgknagmiekeaaGreatW.PrintWords hiding blk_cell
theorem seq (w : World) (n NN n₁ : Nat) (M : Nat → Prop) (wB : World) (hkB : Kept wB w) (hnB : wB.heap.size ≤ n₁) (hnw : n₁ ≤ w.heap.size) (hM : ∀ k, k < wB.heap.size → ¬ M k)
    (tb : Nat) (root : Nd) (ht : Tr wB tb root) (bt bs bk : Nat) (hc : Closed w bt bs bk tb) (hNN : (ovr (fun _ => false) (fun _ => true) ⟨#[]⟩ root).length ≤ NN) :
    SeqO Fence.wide n Tryz.prog 72 #[ptr bt, ptr bs, ptr bk] (fun x : ByteArray × Int => #[.string x.1, .int .i64 x.2]) (KpM n₁ M) (fun ys => ys <+: (ovr (fun _ => false) (fun _ => true) ⟨#[]⟩ root)) (fun ys => ys = (ovr (fun _ => false) (fun _ => true) ⟨#[]⟩ root)) (fun ys => ys <+: (ovr (fun _ => false) (fun _ => true) ⟨#[]⟩ root)) NN w := by
  intro l J Jx W hw hl hJ hJx hY hJ0
  have hk : Kept w W := Kept.of hw
  have hc2 : Closed W bt bs bk tb := ⟨hk.at hc.1, hk.at hc.2.1, hk.at hc.2.2⟩
  refine callsIn_wide.2 (walked_calls l n₁ (fun ys => ys <+: (ovr (fun _ => false) (fun _ => true) ⟨#[]⟩ root)) (fun a b h => (List.prefix_append a b).trans h) M J Jx (fun s W1 W2 hs hb => ownBelow hJ hs hb) (fun m pre x W1 h1 h2 => (hY m pre x W1 h1 (by have := h2.length_le; rw [List.length_append, List.length_singleton] at this; omega) h2).mono (fun e W' h => h.2)) W wB (hkB.trans hk (Nat.le_trans hnB hnw)) hnB hM (fun _ => false) (fun _ => true)
    (fun q W1 h1 => neverC q W1) (fun q W1 h1 => alwaysC q W1) tb root ht bt bs bk W hc2 (Stnd.refl W n₁ M) (Nat.le_trans hnw hw.size) hJ0 (List.prefix_refl _))
end Go.Proofs.YtjhgknagmiekeaaGreat.VOA
set_option linter.unusedVariables false
set_option linter.unusedSimpArgs false
namespace Go.Proofs.YtjhgknagmiekeaaGreat.V
open Go.RowKit Go.Lib Go.Proofs Go.Proofs.YtjhgknagmiekeaaGreat.T Go.Proofs.YtjhgknagmiekeaaGreat.VOA
open Go.Proofs.YtjhgknagmiekeaaGreatW.PrintWords hiding blk_cell
attribute [local go_sem] Oper.semAt_some
structure KpT (n₁ : Nat) (M : Nat → Prop) (W W' : World) : Prop where
  size : W.heap.size ≤ W'.heap.size
  low : ∀ (k : Nat) (o : Obj), W.heap[k]? = some o → k < n₁ → ¬ M k → W'.heap[k]? = some o
  typ : ∀ (k : Nat) (cs : Array Value) (t : TypeId) (fr : Nat × Nat), Quiet t → W.heap[k]? = some (Obj.cells cs t fr) → W'.heap[k]? = some (Obj.cells cs t fr)
theorem KpT.trans {n₁ : Nat} {M : Nat → Prop} {A B C : World} (h : KpT n₁ M A B) (k : KpT n₁ M B C) : KpT n₁ M A C :=
  ⟨Nat.le_trans h.size k.size, fun i o hi h1 h2 => k.low i o (h.low i o hi h1 h2) h1 h2, fun i cs t fr ht hi => k.typ i cs t fr ht (h.typ i cs t fr ht hi)⟩
theorem KpT.of {n₁ : Nat} {M : Nat → Prop} {W W' : World} (h : Below W.heap.size W W') : KpT n₁ M W W' :=
  ⟨h.size, fun k o hk _ _ => (Kept.of h).at hk, fun k cs t fr _ hk => (Kept.of h).at hk⟩
theorem KpT.putObj {n₁ : Nat} {M : Nat → Prop} (W : World) (l : Nat) (o o' : Obj) (hn : n₁ ≤ l) (hl : W.heap[l]? = some o) (hc : o.isCells = false) : KpT n₁ M W (W.putObj l o') := by
  have hg := grownBy_putObj' W l o'
  refine ⟨hg.size, fun k x hk h1 h2 => ?_, fun k cs t fr _ hk => ?_⟩
  · exact (hg.block k (Array.getElem?_eq_some_iff.1 hk).1 (fun e => by cases e; omega)).trans hk
  · refine (hg.block k (Array.getElem?_eq_some_iff.1 hk).1 (fun e => ?_)).trans hk
    cases e
    rw [hk] at hl
    cases hl
    cases hc
structure KpQ (W W' : World) : Prop where
  size : W.heap.size ≤ W'.heap.size
  typ : ∀ (k : Nat) (cs : Array Value) (t : TypeId) (fr : Nat × Nat), Quiet t → W.heap[k]? = some (Obj.cells cs t fr) → W'.heap[k]? = some (Obj.cells cs t fr)
theorem KpQ.trans {A B C : World} (h : KpQ A B) (k : KpQ B C) : KpQ A C := ⟨Nat.le_trans h.size k.size, fun i cs t fr ht hi => k.typ i cs t fr ht (h.typ i cs t fr ht hi)⟩
theorem KpQ.of {W W' : World} (h : Below W.heap.size W W') : KpQ W W' := ⟨h.size, fun k cs t fr _ hk => (Kept.of h).at hk⟩
theorem KpT.q {n₁ : Nat} {M : Nat → Prop} {W W' : World} (h : KpT n₁ M W W') : KpQ W W' := ⟨h.size, h.typ⟩
theorem KpQ.putObj (W : World) (l : Nat) (o o' : Obj) (hl : W.heap[l]? = some o) (hc : o.isCells = false) : KpQ W (W.putObj l o') := by
  have hg := grownBy_putObj' W l o'
  refine ⟨hg.size, fun k cs t fr _ hk => ?_⟩
  refine (hg.block k (Array.getElem?_eq_some_iff.1 hk).1 (fun e => ?_)).trans hk
  cases e
  rw [hk] at hl
  cases hl
  cases hc
theorem ownT_size {β : Type} {B : Nat} (n : Nat) : OwnT B (fun (_ : β) W => n ≤ W.heap.size) := fun _ X Y row hs hg hr => Nat.le_trans hs hg.size
theorem ownT_pure {β : Type} (B : Nat) (p : β → Prop) : OwnT B (fun s (_ : World) => p s) := fun _ _ _ _ hs _ _ => hs
theorem ownT_old {β : Type} {B : Nat} (b : Nat) (f : β → Obj) (hb : b < B) : OwnT B (fun s W => W.heap[b]? = some (f s)) := fun _ X Y row hs hg hr => keep_old hg (fun r e => (hr r e).1) hb hs
theorem ownT_below {β : Type} {B n : Nat} {w : World} (hn : n ≤ w.heap.size) (hB : n ≤ B) : OwnT B (fun (_ : β) W => Below n w W) := fun _ X Y row hs hg hr => hs.grown hg (Nat.le_trans hn hs.size) (fun k e => Nat.le_trans hB (hr k e).1)
end Go.Proofs.YtjhgknagmiekeaaGreat.V
set_option linter.unusedVariables false
set_option linter.unusedSimpArgs false
namespace Go.Proofs.YtjhgknagmiekeaaGreat.D
open Go.RowKit Go.Lib Go.Proofs Go.Shelf
open Go.Proofs.YtjhgknagmiekeaaGreat.T Go.Proofs.YtjhgknagmiekeaaGreat.V Go.Proofs.YtjhgknagmiekeaaGreat.N
open Go.Proofs.YtjhgknagmiekeaaGreatW.PrintWords hiding blk_cell Kept
attribute [local go_sem] Oper.semAt_some
end Go.Proofs.YtjhgknagmiekeaaGreat.D
set_option linter.unusedVariables false
set_option linter.unusedSimpArgs false
namespace Go.Proofs.YtjhgknagmiekeaaGreat.G
open Go.RowKit Go.Lib Go.Proofs
theorem disable (w : World) : (callFunc 106 #[]).run Tryz.prog w = .ok (.value (.tuple #[])) w := run_call_mark0 Tryz.func106 (by kernel_rfl) (by kernel_rfl) (by kernel_rfl) .disable (by kernel_rfl) w
theorem enable (w : World) : (callFunc 107 #[]).run Tryz.prog w = .ok (.value (.tuple #[])) w := run_call_mark0 Tryz.func107 (by kernel_rfl) (by kernel_rfl) (by kernel_rfl) .enable (by kernel_rfl) w
theorem acquire (a : Addr) (w : World) : (callFunc 109 #[.pointer (some a)]).run Tryz.prog w = .ok (.value (.tuple #[])) w := run_call_marked Tryz.func109 (by kernel_rfl) (by kernel_rfl) (by kernel_rfl) .acquire (by kernel_rfl) a w
theorem releaseMerge (a : Addr) (w : World) : (callFunc 135 #[.pointer (some a)]).run Tryz.prog w = .ok (.value (.tuple #[])) w := run_call_marked Tryz.func135 (by kernel_rfl) (by kernel_rfl) (by kernel_rfl) .releaseMerge (by kernel_rfl) a w
set_option maxRecDepth 100000 in
set_option maxHeartbeats 1600000 in
theorem store_deferred (a : Addr) (x : Value) (u : FrameMode) (w : World) (hc : w.cell? a = some x) (hz : w.frozen? a = false) :
    CallsD Tryz.prog 169 #[.pointer (some a), .bool true] u w fun e u' w' => u' = u ∧ (e = .returned (.tuple #[]) ∧ w' = w.drew.setCell a (.int .u32 1)) := by
  have hc' : w.drew.cell? a = some x := by go_simp
  have hz' : w.drew.frozen? a = false := by go_simp
  have hst := run_call_store (P := Tryz.prog) Tryz.func175 (by kernel_rfl) (by kernel_rfl) (by kernel_rfl) (by kernel_rfl) (k := .u32) (y := 1) hc' hz'
  go_enter_d Tryz.func169, Tryz.ntmps169
  go_wp2
  go_region_calls
  all_goals (go_end0; exact ⟨rfl, rfl⟩)
set_option maxRecDepth 100000 in
set_option maxHeartbeats 1600000 in
theorem unlock_deferred (a : Addr) (u : FrameMode) (w : World) (hc : w.cell? a = some (.int .i32 1)) (hz : w.frozen? a = false) :
    CallsD Tryz.prog 66 #[.pointer (some a)] u w fun e u' w' => u' = u ∧ (e = .returned (.tuple #[]) ∧ w' = w.setCell a (.int .i32 0)) := by
  have hd := disable
  have he := enable
  have hr := releaseMerge
  have hadd := run_call_add (P := Tryz.prog) Tryz.func136 (by kernel_rfl) (by kernel_rfl) (by kernel_rfl) .i32 (by kernel_rfl) (y := -1) (s := 0) hc hz (by simp [go_sem]; rfl)
  have hcv := run_convert_to_unsafe (P := Tryz.prog) (src := 192) (dst := 89) Tryz.underlying192 Tryz.underlying89 (by kernel_rfl) hc
  go_enter_d Tryz.func66, Tryz.ntmps66
  go_wp2
  go_end0
  go_wp2
set_option maxRecDepth 100000 in
set_option maxHeartbeats 1600000 in
theorem unlock_held (a : Addr) (w : World) (hc : w.cell? a = some (.int .i32 1)) (hz : w.frozen? a = false) :
    Calls Tryz.prog 66 #[.pointer (some a)] w fun e w' => e = .returned (.tuple #[]) ∧ w' = w.setCell a (.int .i32 0) := by
  have hd := disable
  have he := enable
  have hr := releaseMerge
  have hadd := run_call_add (P := Tryz.prog) Tryz.func136 (by kernel_rfl) (by kernel_rfl) (by kernel_rfl) .i32 (by kernel_rfl) (y := -1) (s := 0) hc hz (by simp [go_sem]; rfl)
  have hcv := run_convert_to_unsafe (P := Tryz.prog) (src := 192) (dst := 89) Tryz.underlying192 Tryz.underlying89 (by kernel_rfl) hc
  go_enter Tryz.func66, Tryz.ntmps66
  go_wp2
  go_end0
  go_wp2
set_option maxRecDepth 100000 in
set_option maxHeartbeats 1600000 in
theorem lock_free (a : Addr) (w : World) (hc : w.cell? a = some (.int .i32 0)) (hz : w.frozen? a = false) :
    Calls Tryz.prog 168 #[.pointer (some a)] w fun e w' => e = .returned (.tuple #[]) ∧ w' = w.setCell a (.int .i32 1) := by
  have hd := disable
  have he := enable
  have ha := acquire
  have hcas := run_call_cas_hit (P := Tryz.prog) Tryz.func108 (by kernel_rfl) (by kernel_rfl) (by kernel_rfl) .i32 (by kernel_rfl) (y := 1) hc hz
  have hc' : (w.setCell a (.int .i32 1)).cell? a = some (.int .i32 1) := World.cell?_setCell_same w a _ hc
  have hcv := run_convert_to_unsafe (P := Tryz.prog) (src := 192) (dst := 89) Tryz.underlying192 Tryz.underlying89 (by kernel_rfl) hc'
  go_enter Tryz.func168, Tryz.ntmps168
  go_wp2
  first | go_end0 | (simp only [Exit.inBlock, Exit.then]; refine bodyPost_ret (results_none rfl _ _ _) rfl ?_) | refine bodyPost_ret (results_none rfl _ _ _) rfl ?_
  go_wp2
set_option maxRecDepth 100000 in
set_option maxHeartbeats 1600000 in
theorem try_free (a : Addr) (w : World) (hc : w.cell? a = some (.int .i32 0)) (hz : w.frozen? a = false) :
    Calls Tryz.prog 43 #[.pointer (some a)] w fun e w' => e = .returned (.bool true) ∧ w' = w.setCell a (.int .i32 1) := by
  have hd := disable
  have he := enable
  have ha := acquire
  have hcas := run_call_cas_hit (P := Tryz.prog) Tryz.func108 (by kernel_rfl) (by kernel_rfl) (by kernel_rfl) .i32 (by kernel_rfl) (y := 1) hc hz
  have hc' : (w.setCell a (.int .i32 1)).cell? a = some (.int .i32 1) := World.cell?_setCell_same w a _ hc
  have hcv := run_convert_to_unsafe (P := Tryz.prog) (src := 192) (dst := 89) Tryz.underlying192 Tryz.underlying89 (by kernel_rfl) hc'
  go_enter Tryz.func43, Tryz.ntmps43
  go_wp2
  go_ret
  go_wp2
set_option maxRecDepth 100000 in
set_option maxHeartbeats 1600000 in
theorem try_held (a : Addr) (w : World) (hc : w.cell? a = some (.int .i32 1)) :
    Calls Tryz.prog 43 #[.pointer (some a)] w fun e w' => e = .returned (.bool false) ∧ w' = w := by
  have hd := disable
  have he := enable
  go_enter Tryz.func43, Tryz.ntmps43
  go_wp2
  go_ret
  go_wp2
end Go.Proofs.YtjhgknagmiekeaaGreat.G
set_option linter.unusedVariables false
set_option linter.unusedSimpArgs false
namespace Go.Proofs.YtjhgknagmiekeaaGreat.G
open Go.RowKit Go.Lib Go.Proofs Go.Conc
open Go.Proofs.YtjhgknagmiekeaaGreatW.PrintWords hiding Kept
abbrev shut (w : World) (c : Nat) : World := w.setChan c 0 #[] true 0 0 false
theorem shut_heap (w : World) (c k : Nat) (h : k ≠ c) : (shut w c).heap[k]? = w.heap[k]? := by
  unfold shut World.setChan
  simp [Array.getElem?_setIfInBounds, Ne.symm h]
theorem shut_cell (w : World) (c : Nat) (a : Addr) (v : Value) (h : a.block ≠ c) (hv : w.cell? a = some v) : (shut w c).cell? a = some v := (World.cell?_of_block (shut_heap w c a.block h)).trans hv
theorem shut_frozen (w : World) (c : Nat) (a : Addr) (h : a.block ≠ c) : (shut w c).frozen? a = w.frozen? a := World.frozen?_of_block (shut_heap w c a.block h)
set_option maxRecDepth 100000 in
set_option maxHeartbeats 1600000 in
theorem fire1 (b c B1 B2 : Nat) (x : Value) (w : World) (h1c : B1 ≠ c) (h2c : B2 ≠ c) (hbc : b ≠ c) (h3 : w.cell? ⟨b, 3, none⟩ = some (.chan (some c))) (hp : w.cell? ⟨B1, 0, none⟩ = some (.pointer (some ⟨b, 0, none⟩))) (hf : w.cell? ⟨B2, 0, none⟩ = some x) (zf : w.frozen? ⟨B2, 0, none⟩ = false) (hc : w.heap[c]? = some (.chan 0 #[] false 0 0 false)) :
    Calls Tryz.prog 139 #[.pointer (some ⟨B1, 0, none⟩), .pointer (some ⟨B2, 0, none⟩)] w fun e w' => e = .returned (.tuple #[]) ∧ w' = (shut w c).setCell ⟨B2, 0, none⟩ (.bool true) := by
  have hcl : (Builtin.close_ #[151] 0 #[.chan (some c)]).run Tryz.prog w = .ok (.tuple #[]) (shut w c) := run_close_open #[151] 0 hc
  have hf' := shut_cell w c ⟨B2, 0, none⟩ x h2c hf
  have zf' : (shut w c).frozen? ⟨B2, 0, none⟩ = false := (shut_frozen w c ⟨B2, 0, none⟩ h2c).trans zf
  clear h1c h2c hbc hc
  obtain ⟨W, eW⟩ : ∃ W, shut w c = W := ⟨_, rfl⟩
  rw [eW] at hcl hf' zf' ⊢
  go_enter Tryz.func139, Tryz.ntmps139
  go_wp2
  go_end0
  exact ⟨rfl, rfl⟩
set_option maxRecDepth 100000 in
set_option maxHeartbeats 1600000 in
theorem load_bool (a : Addr) (d : Int) (w : World) (hc : w.cell? a = some (.int .u32 d)) : Calls Tryz.prog 152 #[.pointer (some a)] w fun e w' => e = .returned (.bool (d != 0)) ∧ w' = w := by
  have hl := run_call_load (P := Tryz.prog) Tryz.func167 (by kernel_rfl) (by kernel_rfl) (by kernel_rfl) .u32 (by kernel_rfl) hc
  go_enter Tryz.func152, Tryz.ntmps152
  go_wp2
  go_ret
  exact ⟨rfl, rfl⟩
abbrev slowW (w : World) (b c B2 : Nat) : World := (((shut (w.setCell ⟨b, 1, none⟩ (.int .i32 1)) c).setCell ⟨B2, 0, none⟩ (.bool true)).drew.setCell ⟨b, 0, none⟩ (.int .u32 1)).setCell ⟨b, 1, none⟩ (.int .i32 0)
set_option maxRecDepth 100000 in
set_option maxHeartbeats 1600000 in
theorem slow (b c B1 B2 : Nat) (x : Value) (w : World) (hb1 : b ≠ B1) (hb2 : b ≠ B2) (h1c : B1 ≠ c) (h2c : B2 ≠ c) (hbc : b ≠ c)
    (h0 : w.cell? ⟨b, 0, none⟩ = some (.int .u32 0)) (h1 : w.cell? ⟨b, 1, none⟩ = some (.int .i32 0)) (h3 : w.cell? ⟨b, 3, none⟩ = some (.chan (some c))) (hp : w.cell? ⟨B1, 0, none⟩ = some (.pointer (some ⟨b, 0, none⟩))) (hf : w.cell? ⟨B2, 0, none⟩ = some x)
    (z0 : w.frozen? ⟨b, 0, none⟩ = false) (z1 : w.frozen? ⟨b, 1, none⟩ = false) (zf : w.frozen? ⟨B2, 0, none⟩ = false) (hc : w.heap[c]? = some (.chan 0 #[] false 0 0 false)) :
    Calls Tryz.prog 153 #[.pointer (some ⟨b, 0, none⟩), .func (.func 139) #[] #[.pointer (some ⟨B1, 0, none⟩), .pointer (some ⟨B2, 0, none⟩)]] w fun e w' => e = .returned (.tuple #[]) ∧ w' = slowW w b c B2 := by
  obtain ⟨W1, eW1⟩ : ∃ W1, w.setCell ⟨b, 1, none⟩ (.int .i32 1) = W1 := ⟨_, rfl⟩
  have k0 : W1.cell? ⟨b, 0, none⟩ = some (.int .u32 0) := by rw [← eW1]; exact (World.cell?_setCell_other _ ⟨b, 1, none⟩ ⟨b, 0, none⟩ _ (by simp)).trans h0
  have k1 : W1.cell? ⟨b, 1, none⟩ = some (.int .i32 1) := by rw [← eW1]; exact World.cell?_setCell_same w _ _ h1
  have k3 : W1.cell? ⟨b, 3, none⟩ = some (.chan (some c)) := by rw [← eW1]; exact (World.cell?_setCell_other _ ⟨b, 1, none⟩ ⟨b, 3, none⟩ _ (by simp)).trans h3
  have kp : W1.cell? ⟨B1, 0, none⟩ = some (.pointer (some ⟨b, 0, none⟩)) := by rw [← eW1]; exact (World.cell?_setCell_other _ ⟨b, 1, none⟩ ⟨B1, 0, none⟩ _ (fun h => hb1 (by have := congrArg Addr.block h; simpa using this))).trans hp
  have kf : W1.cell? ⟨B2, 0, none⟩ = some x := by rw [← eW1]; exact (World.cell?_setCell_other _ ⟨b, 1, none⟩ ⟨B2, 0, none⟩ _ (fun h => hb2 (by have := congrArg Addr.block h; simpa using this))).trans hf
  have y0 : W1.frozen? ⟨b, 0, none⟩ = false := by rw [← eW1, World.frozen?_setCell]; exact z0
  have y1 : W1.frozen? ⟨b, 1, none⟩ = false := by rw [← eW1, World.frozen?_setCell]; exact z1
  have yf : W1.frozen? ⟨B2, 0, none⟩ = false := by rw [← eW1, World.frozen?_setCell]; exact zf
  have kc : W1.heap[c]? = some (.chan 0 #[] false 0 0 false) := by rw [← eW1, Below.heap_setCell _ _ _ c (Ne.symm hbc)]; exact hc
  have q3 := Aside0.mk (load_bool ⟨b, 0, none⟩ 0 W1 k0)
  have q1 := Aside0.mk (lock_free ⟨b, 1, none⟩ w h1 z1)
  rw [eW1] at q1
  have q2 := Aside0.mk (fire1 b c B1 B2 x W1 h1c h2c hbc k3 kp kf yf kc)
  have m0 : ((shut W1 c).setCell ⟨B2, 0, none⟩ (.bool true)).cell? ⟨b, 0, none⟩ = some (.int .u32 0) := (World.cell?_setCell_other _ ⟨B2, 0, none⟩ ⟨b, 0, none⟩ _ (fun h => hb2 (by have := congrArg Addr.block h; simpa using this.symm))).trans (shut_cell W1 c ⟨b, 0, none⟩ _ hbc k0)
  have m1 : ((shut W1 c).setCell ⟨B2, 0, none⟩ (.bool true)).cell? ⟨b, 1, none⟩ = some (.int .i32 1) := (World.cell?_setCell_other _ ⟨B2, 0, none⟩ ⟨b, 1, none⟩ _ (fun h => hb2 (by have := congrArg Addr.block h; simpa using this.symm))).trans (shut_cell W1 c ⟨b, 1, none⟩ _ hbc k1)
  have n0 : ((shut W1 c).setCell ⟨B2, 0, none⟩ (.bool true)).frozen? ⟨b, 0, none⟩ = false := by rw [World.frozen?_setCell, shut_frozen W1 c ⟨b, 0, none⟩ hbc]; exact y0
  have n1 : ((shut W1 c).setCell ⟨B2, 0, none⟩ (.bool true)).frozen? ⟨b, 1, none⟩ = false := by rw [World.frozen?_setCell, shut_frozen W1 c ⟨b, 1, none⟩ hbc]; exact y1
  show Calls Tryz.prog 153 _ w fun e w' => e = .returned (.tuple #[]) ∧ w' = (((shut (w.setCell ⟨b, 1, none⟩ (.int .i32 1)) c).setCell ⟨B2, 0, none⟩ (.bool true)).drew.setCell ⟨b, 0, none⟩ (.int .u32 1)).setCell ⟨b, 1, none⟩ (.int .i32 0)
  rw [eW1]
  obtain ⟨W2, eW2⟩ : ∃ W2, (shut W1 c).setCell ⟨B2, 0, none⟩ (.bool true) = W2 := ⟨_, rfl⟩
  rw [eW2] at q2 m0 m1 n0 n1 ⊢
  have hnot : ∀ (x : Bool) (w : World), (Op.unary .not (.bool x)).run Tryz.prog w = .ok (.bool (!x)) w := fun _ _ => rfl
  clear eW1 eW2 h0 h1 h3 hp hf z0 z1 zf hc k1 k3 kp kf y0 y1 yf kc hb1 hb2 h1c h2c hbc
  go_enter_defers Tryz.func153, Tryz.ntmps153
  go_wp2_with (first | (go_at_call 168; refine q1.out.mono ?_; rintro e w' ⟨rfl, hw1⟩; subst hw1) | (go_at_call 152; refine q3.out.mono ?_; rintro e w' ⟨rfl, hw2⟩; subst hw2) | (go_at_call 139; refine q2.out.mono ?_; rintro e w' ⟨rfl, hw3⟩; subst hw3))
  refine leaves_cons (f := 169) (args := #[.pointer (some ⟨b, 0, none⟩), .bool true]) (by simp) (by simp [go_sem]) ?_
  refine (store_deferred ⟨b, 0, none⟩ (.int .u32 0) .returning _ m0 n0).mono ?_
  rintro e u' w'' ⟨rfl, rfl, rfl⟩
  refine leaves_cons (f := 66) (args := #[.pointer (some ⟨b, 1, none⟩)]) (by simp [settle]) (by simp [go_sem]) ?_
  refine (unlock_deferred ⟨b, 1, none⟩ _ _ ?_ (by simp [n1])).mono ?_
  · refine (World.cell?_setCell_other _ ⟨b, 0, none⟩ ⟨b, 1, none⟩ _ (by simp)).trans ?_
    rw [World.cell?_drew]
    exact m1
  rintro e u' w'' ⟨rfl, rfl, rfl⟩
  simp [Leaves, settle, results, Tryz.results153]
set_option maxRecDepth 100000 in
set_option maxHeartbeats 1600000 in
theorem do_first (b c B1 B2 : Nat) (x : Value) (w : World) (hb1 : b ≠ B1) (hb2 : b ≠ B2) (h1c : B1 ≠ c) (h2c : B2 ≠ c) (hbc : b ≠ c)
    (h0 : w.cell? ⟨b, 0, none⟩ = some (.int .u32 0)) (h1 : w.cell? ⟨b, 1, none⟩ = some (.int .i32 0)) (h3 : w.cell? ⟨b, 3, none⟩ = some (.chan (some c))) (hp : w.cell? ⟨B1, 0, none⟩ = some (.pointer (some ⟨b, 0, none⟩))) (hf : w.cell? ⟨B2, 0, none⟩ = some x)
    (z0 : w.frozen? ⟨b, 0, none⟩ = false) (z1 : w.frozen? ⟨b, 1, none⟩ = false) (zf : w.frozen? ⟨B2, 0, none⟩ = false) (hc : w.heap[c]? = some (.chan 0 #[] false 0 0 false)) :
    Calls Tryz.prog 138 #[.pointer (some ⟨b, 0, none⟩), .func (.func 139) #[] #[.pointer (some ⟨B1, 0, none⟩), .pointer (some ⟨B2, 0, none⟩)]] w fun e w' => e = .returned (.tuple #[]) ∧ w' = slowW w b c B2 := by
  have q1 := Aside0.mk (slow b c B1 B2 x w hb1 hb2 h1c h2c hbc h0 h1 h3 hp hf z0 z1 zf hc)
  have q3 := Aside0.mk (load_bool ⟨b, 0, none⟩ 0 w h0)
  have hnot : ∀ (x : Bool) (w : World), (Op.unary .not (.bool x)).run Tryz.prog w = .ok (.bool (!x)) w := fun _ _ => rfl
  obtain ⟨W, eW⟩ : ∃ W, slowW w b c B2 = W := ⟨_, rfl⟩
  rw [eW] at q1 ⊢
  clear h0 h1 h3 hp hf z0 z1 zf hc hb1 hb2 h1c h2c hbc eW
  go_enter Tryz.func138, Tryz.ntmps138
  go_wp2_with (first | (go_at_call 152; refine q3.out.mono ?_; rintro e w' ⟨rfl, hw2⟩; subst hw2) | (go_at_call 153; refine q1.out.mono ?_; rintro e w' ⟨rfl, hw2⟩; subst hw2))
  go_end0
  exact ⟨rfl, rfl⟩
set_option maxRecDepth 100000 in
set_option maxHeartbeats 1600000 in
theorem do_done (b : Nat) (fv : Value) (w : World) (h0 : w.cell? ⟨b, 0, none⟩ = some (.int .u32 1)) :
    Calls Tryz.prog 138 #[.pointer (some ⟨b, 0, none⟩), fv] w fun e w' => e = .returned (.tuple #[]) ∧ w' = w := by
  have q3 := Aside0.mk (load_bool ⟨b, 0, none⟩ 1 w h0)
  have hnot : ∀ (x : Bool) (w : World), (Op.unary .not (.bool x)).run Tryz.prog w = .ok (.bool (!x)) w := fun _ _ => rfl
  clear h0
  go_enter Tryz.func138, Tryz.ntmps138
  go_wp2_with (first | (go_at_call 152; refine q3.out.mono ?_; rintro e w' ⟨rfl, hw2⟩; subst hw2))
  go_end0
  exact ⟨rfl, rfl⟩
end Go.Proofs.YtjhgknagmiekeaaGreat.G
set_option linter.unusedVariables false
set_option linter.unusedSimpArgs false
namespace Go.Proofs.YtjhgknagmiekeaaGreat.G
open Go.RowKit Go.Lib Go.Proofs Go.Conc
open Go.Proofs.YtjhgknagmiekeaaGreatW.PrintWords hiding Kept
def wcells (c : Nat) (d : Bool) : Array Value := #[.int .u32 (if d then 1 else 0), .int .i32 0, .int .u32 0, .chan (some c)]
structure WatchAt (w : World) (b c : Nat) (d : Bool) : Prop where
  obj : w.heap[b]? = some (.cells (wcells c d) 153 (0, 0))
  ch : w.heap[c]? = some (.chan 0 #[] d 0 0 false)
theorem WatchAt.ne {w : World} {b c : Nat} {d : Bool} (h : WatchAt w b c d) : b ≠ c := fun e => by
  have h1 := h.obj
  rw [e, h.ch] at h1
  cases h1
theorem set_atG {W : World} {b : Nat} {cs : Array Value} {t : TypeId} {fr : Nat × Nat} (h : W.heap[b]? = some (.cells cs t fr)) (j : Nat) (v : Value) : (W.setCell ⟨b, j, none⟩ v).heap[b]? = some (.cells (cs.setIfInBounds j v) t fr) := by
  obtain ⟨hlt, hk⟩ := Array.getElem?_eq_some_iff.1 h
  show (W.heap.modify b _)[b]? = _
  rw [Array.getElem?_eq_getElem (by rw [Array.size_modify]; exact hlt), Array.getElem_modify_self, hk]
  rfl
theorem slow_far (w : World) (b c B2 k : Nat) (h1 : k ≠ b) (h2 : k ≠ c) (h3 : k ≠ B2) : (slowW w b c B2).heap[k]? = w.heap[k]? := by
  unfold slowW
  rw [Below.heap_setCell _ _ _ k h1, Below.heap_setCell _ _ _ k h1]
  show ((shut (w.setCell ⟨b, 1, none⟩ (.int .i32 1)) c).setCell ⟨B2, 0, none⟩ (.bool true)).heap[k]? = _
  rw [Below.heap_setCell _ _ _ k h3, shut_heap _ _ _ h2, Below.heap_setCell _ _ _ k h1]
theorem slow_obj (w : World) (b c B2 : Nat) (hb2 : b ≠ B2) (hbc : b ≠ c) (h : w.heap[b]? = some (.cells (wcells c false) 153 (0, 0))) : (slowW w b c B2).heap[b]? = some (.cells (wcells c true) 153 (0, 0)) := by
  have a1 := set_atG h 1 (.int .i32 1)
  have a2 := (shut_heap (w.setCell ⟨b, 1, none⟩ (.int .i32 1)) c b hbc).trans a1
  have a3 : ((shut (w.setCell ⟨b, 1, none⟩ (.int .i32 1)) c).setCell ⟨B2, 0, none⟩ (.bool true)).drew.heap[b]? = _ := (Below.heap_setCell (shut (w.setCell ⟨b, 1, none⟩ (.int .i32 1)) c) ⟨B2, 0, none⟩ (.bool true) b hb2).trans a2
  exact set_atG (set_atG a3 0 (.int .u32 1)) 1 (.int .i32 0)
theorem size_setCellG (w : World) (a : Addr) (v : Value) : (w.setCell a v).heap.size = w.heap.size := by simp [World.setCell]
theorem size_shut (w : World) (c : Nat) : (shut w c).heap.size = w.heap.size := size_setChan _ _ _ _ _ _ _ _
theorem slow_size (w : World) (b c B2 : Nat) : (slowW w b c B2).heap.size = w.heap.size := by
  unfold slowW
  rw [size_setCellG, size_setCellG]
  show ((shut (w.setCell ⟨b, 1, none⟩ (.int .i32 1)) c).setCell ⟨B2, 0, none⟩ (.bool true)).heap.size = _
  rw [size_setCellG, size_shut, size_setCellG]
theorem slow_chan (w : World) (b c B2 : Nat) (hb : c ≠ b) (h2 : c ≠ B2) (hlt : c < w.heap.size) : (slowW w b c B2).heap[c]? = some (.chan 0 #[] true 0 0 false) := by
  unfold slowW
  rw [Below.heap_setCell _ _ _ c hb, Below.heap_setCell _ _ _ c hb]
  show ((shut (w.setCell ⟨b, 1, none⟩ (.int .i32 1)) c).setCell ⟨B2, 0, none⟩ (.bool true)).heap[c]? = _
  rw [Below.heap_setCell _ _ _ c h2]
  exact heap_setChan _ _ _ _ _ _ _ _ (by rw [size_setCellG]; exact hlt)
theorem slow_below {B : Nat} {w0 w : World} (b c B2 : Nat) (h : Below B w0 w) (hb : B ≤ b) (hc : B ≤ c) (h2 : B ≤ B2) : Below B w0 (slowW w b c B2) :=
  ((below_drew ((below_setChan (h.setCell (p := ⟨b, 1, none⟩) hb (.int .i32 1)) hc 0 #[] true 0 0 false).setCell (p := ⟨B2, 0, none⟩) h2 (.bool true))).setCell (p := ⟨b, 0, none⟩) hb (.int .u32 1)).setCell (p := ⟨b, 1, none⟩) hb (.int .i32 0)
structure FiredOf (w w' : World) (b c : Nat) : Prop where
  at_ : WatchAt w' b c true
  far : ∀ k, k < w.heap.size → k ≠ b → k ≠ c → w'.heap[k]? = w.heap[k]?
  size : w.heap.size ≤ w'.heap.size
  below : ∀ B, B ≤ b → B ≤ c → B ≤ w.heap.size → Below B w w'
set_option maxRecDepth 100000 in
set_option maxHeartbeats 1600000 in
theorem fireC (w : World) (b c : Nat) (d : Bool) (h : WatchAt w b c d) : Calls Tryz.prog 101 #[.pointer (some ⟨b, 0, none⟩)] w fun e w' => e = .returned (.bool (!d)) ∧ FiredOf w w' b c := by
  have hb : b < w.heap.size := (Array.getElem?_eq_some_iff.1 h.obj).1
  have hc : c < w.heap.size := (Array.getElem?_eq_some_iff.1 h.ch).1
  have hmf : ∀ (fn : Fn) (first cap : Array Value) (w : World), (Instr.makeFunc fn first cap).run Tryz.prog w = .ok (.func fn first cap) w := fun _ _ _ _ => rfl
  obtain ⟨W, eW⟩ : ∃ W, (w.alloc (.cells #[.pointer (some ⟨b, 0, none⟩)] 80)).alloc (.cells #[.bool false] 4) = W := ⟨_, rfl⟩
  have hk : ∀ k, k < w.heap.size → W.heap[k]? = w.heap[k]? := fun k hk => by rw [← eW]; exact (Below.heap_alloc _ _ _ (by rw [World.size_alloc]; omega)).trans (Below.heap_alloc _ _ _ hk)
  have hob := (hk b hb).trans h.obj
  have hch := (hk c hc).trans h.ch
  have hsz : W.heap.size = w.heap.size + 2 := by rw [← eW, World.size_alloc, World.size_alloc]
  have hB1 : W.heap[w.heap.size]? = some (.cells #[.pointer (some ⟨b, 0, none⟩)] 80 (0, 0)) := by rw [← eW]; exact (Below.heap_alloc _ _ _ (by rw [World.size_alloc]; omega)).trans (heap_alloc_new w _)
  have hB2 : W.heap[w.heap.size + 1]? = some (.cells #[.bool false] 4 (0, 0)) := by
    rw [← eW]
    have := heap_alloc_new (w.alloc (.cells #[.pointer (some ⟨b, 0, none⟩)] 80)) (.cells #[.bool false] 4)
    rwa [World.size_alloc] at this
  have hbl : ∀ B, B ≤ w.heap.size → Below B w W := fun B hB => by rw [← eW]; exact ((Below.refl B w).alloc hB _).alloc (by rw [World.size_alloc]; omega) _
  have p1 : W.cell? ⟨w.heap.size, 0, none⟩ = some (.pointer (some ⟨b, 0, none⟩)) := by rw [blk_cell hB1]; rfl
  cases d with
  | true =>
    have h0 : W.cell? ⟨b, 0, none⟩ = some (.int .u32 1) := by rw [blk_cell hob]; rfl
    have p2 : W.cell? ⟨w.heap.size + 1, 0, none⟩ = some (.bool false) := by rw [blk_cell hB2]; rfl
    have q := Aside0.mk (fun fv => do_done b fv W h0)
    have HX := Aside0.mk (show FiredOf w W b c from ⟨⟨hob, hch⟩, fun k hk1 _ _ => hk k hk1, by omega, fun B _ _ hB => hbl B hB⟩)
    clear h hk hob hch hB1 hB2 hbl h0 hb hc hsz
    have HE := Aside0.mk eW
    clear eW
    go_enter Tryz.func101, Tryz.ntmps101
    go_upto_region 2 with fail
    rw [HE.out]
    clear HE
    go_wp2_with (first | (go_at_call 138; refine (q.out _).mono ?_; rintro e w' ⟨rfl, hw2⟩; subst hw2))
    go_ret
    exact ⟨rfl, HX.out⟩
  | false =>
    have hbc : b ≠ c := h.ne
    have h0 : W.cell? ⟨b, 0, none⟩ = some (.int .u32 0) := by rw [blk_cell hob]; rfl
    have h1 : W.cell? ⟨b, 1, none⟩ = some (.int .i32 0) := by rw [blk_cell hob]; rfl
    have h3 : W.cell? ⟨b, 3, none⟩ = some (.chan (some c)) := by rw [blk_cell hob]; rfl
    have z0 : W.frozen? ⟨b, 0, none⟩ = false := blk_frozen hob 0
    have z1 : W.frozen? ⟨b, 1, none⟩ = false := blk_frozen hob 1
    have zf : W.frozen? ⟨w.heap.size + 1, 0, none⟩ = false := blk_frozen hB2 0
    have p2 : W.cell? ⟨w.heap.size + 1, 0, none⟩ = some (.bool false) := by rw [blk_cell hB2]; rfl
    have q := Aside0.mk (do_first b c w.heap.size (w.heap.size + 1) (.bool false) W (by omega) (by omega) (by omega) (by omega) hbc h0 h1 h3 p1 p2 z0 z1 zf hch)
    obtain ⟨W', eW'⟩ : ∃ W', slowW W b c (w.heap.size + 1) = W' := ⟨_, rfl⟩
    have p3 : W'.cell? ⟨w.heap.size + 1, 0, none⟩ = some (.bool true) := by
      rw [← eW']
      have a1 := (Below.heap_setCell W ⟨b, 1, none⟩ (.int .i32 1) (w.heap.size + 1) (by show w.heap.size + 1 ≠ b; omega)).trans hB2
      have a2 := (shut_heap (W.setCell ⟨b, 1, none⟩ (.int .i32 1)) c (w.heap.size + 1) (by omega)).trans a1
      have a3 := set_atG a2 0 (.bool true)
      have a4 : ((shut (W.setCell ⟨b, 1, none⟩ (.int .i32 1)) c).setCell ⟨w.heap.size + 1, 0, none⟩ (.bool true)).drew.heap[w.heap.size + 1]? = _ := a3
      have a5 := (Below.heap_setCell _ ⟨b, 0, none⟩ (.int .u32 1) (w.heap.size + 1) (by show w.heap.size + 1 ≠ b; omega)).trans a4
      have a6 := (Below.heap_setCell _ ⟨b, 1, none⟩ (.int .i32 0) (w.heap.size + 1) (by show w.heap.size + 1 ≠ b; omega)).trans a5
      rw [blk_cell a6]; rfl
    have HX := Aside0.mk (show FiredOf w W' b c from ⟨⟨by rw [← eW']; exact slow_obj W b c _ (by omega) hbc hob, by rw [← eW']; exact slow_chan W b c _ (Ne.symm hbc) (by omega) (by omega)⟩, fun k hk1 hk2 hk3 => by rw [← eW', slow_far W b c _ k hk2 hk3 (by omega)]; exact hk k hk1, by rw [← eW', slow_size]; omega, fun B h1 h2 h3 => by rw [← eW']; exact slow_below b c _ (hbl B h3) h1 h2 (by omega)⟩)
    rw [eW'] at q
    clear h hk hob hch hB1 hB2 hbl h0 h1 h3 z0 z1 zf p2 hb hc hsz eW' hbc
    have HE := Aside0.mk eW
    clear eW
    go_enter Tryz.func101, Tryz.ntmps101
    go_upto_region 2 with fail
    rw [HE.out]
    clear HE
    go_wp2_with (first | (go_at_call 138; refine q.out.mono ?_; rintro e w' ⟨rfl, hw2⟩; subst hw2))
    go_ret
    exact ⟨rfl, HX.out⟩
end Go.Proofs.YtjhgknagmiekeaaGreat.G
set_option linter.unusedVariables false
set_option linter.unusedSimpArgs false
namespace Go.Proofs.YtjhgknagmiekeaaGreat.T
open Go.RowKit Go.Lib Go.Proofs
open Go.Proofs.YtjhgknagmiekeaaGreatW.PrintWords hiding Kept
set_option maxHeartbeats 4000000 in
set_option maxRecDepth 100000 in
theorem way107 {σ : Type} (step : σ → Nd → Nat → σ) (Inv : σ → World → Prop) (R : World → Prop) (P : Nd → Prop) (fb kb : Nat) (wB w : World) (tb : Nat) (root : Nd) (size : Int) (k : ByteArray) (s0 : σ) (hk : k.size < 4000000000000) (hR0 : R w) (ht : TrAt wB tb root size) (ho : Ok root) (hsm : Sm root) (hroot : root.label.size = 0)
    (hinv : Inv s0 w) (hP0 : P root) (hP : ∀ n, P n → ∀ x ∈ n.kids, P x)
    (hRt : w.cell? ⟨tb, 0, none⟩ = some (.pointer (some ⟨root.b, 0, none⟩))) (hRn : ∀ w1, R w1 → ∀ n, NdAt wB n → NdAt w1 n)
    (hcall : ∀ s n a w1, R w1 → Inv s w1 → NdAt wB n → P n → a ≤ k.size → Calls Tryz.prog 102 #[ptr n.b, .int .i64 (a : Nat), ptr fb, ptr kb] w1 fun e w' => e = .returned (.tuple #[]) ∧ Inv (step s n a) w' ∧ R w') :
    Calls Tryz.prog 68 #[ptr tb, .string k, .func (.func 102) #[] #[ptr fb, ptr kb]] w fun e w' => e = .returned (.tuple #[]) ∧ Inv (wayF step k (k.size + 2) (some root) 0 s0) w' ∧ R w' := by
  have HS := Aside0.mk (Stand.mk ht.root ho hsm (by rw [hroot]; omega) : Stand wB k root 0)
  have HC := Aside0.mk hcall
  have HW := Aside0.mk (And.intro hR0 (And.intro hinv hroot))
  have HP := Aside0.mk (And.intro hP0 (And.intro hP hRn))
  clear hcall ht ho hsm hR0 hinv hroot hP0 hP hRn
  unfold ptr
  go_enter Tryz.func68, Tryz.ntmps68
  go_wp2_with fail
  go_loopg [6, 7] (k.size + 2) (fun kq v6 v7 w' => ∃ (a : Nat) (on : Option Nd) (s : σ) (p : Option Addr), v6 = .int .i64 (a : Int) ∧ v7 = .pointer p ∧ Aside0 (optPtr on = .pointer p ∧ (∀ n, on = some n → Stand wB k n a ∧ P n ∧ k.size + 1 < kq + a + n.label.size) ∧ a ≤ k.size) ∧
    Aside0 (wayF step k kq on a s = wayF step k (k.size + 2) (some root) 0 s0) ∧ Aside0 (Inv s w' ∧ R w'))
  case atStart =>
    refine ⟨0, some root, s0, some ⟨root.b, 0, none⟩, rfl, rfl, ⟨rfl, fun n e => by cases e; exact ⟨HS.out, HP.out.1, by have := HW.out.2.2; omega⟩, by omega⟩, ⟨rfl⟩, ⟨HW.out.2.1, HW.out.1⟩⟩
  case round =>
    obtain ⟨a, on, s, p, rfl, rfl, HO, HF, HI⟩ := hrel
    cases on with
    | none =>
      have ep : p = none := by have := HO.out.1; simpa [optPtr] using this.symm
      subst ep
      go_wp2_with fail
      refine bodyPost_end (results_none rfl _ _ _) rfl ?_
      refine ⟨rfl, ?_, HI.out.2⟩
      rw [← HF.out, wayF_none]
      exact HI.out.1
    | some n =>
      have ep : p = some ⟨n.b, 0, none⟩ := by have := HO.out.1; simpa [optPtr, ptr] using this.symm
      subst ep
      obtain ⟨hst, hpn, hq⟩ := HO.out.2.1 n rfl
      obtain ⟨kvn, hbn, _, _, _⟩ := (HP.out.2.2 wr HI.out.2 n hst.at_).parts
      have cl : wr.cell? ⟨n.b, 0, none⟩ = some (.string n.label) := by rw [blk_cell hbn]; rfl
      have hle := hst.le
      obtain ⟨a2, ea2⟩ : ∃ a2, a + n.label.size = a2 := ⟨_, rfl⟩
      have ha2 : a2 ≤ k.size := by omega
      have ha2I : (a2 : Int) ≤ (k.size : Int) := by omega
      have ew : wrap64 ((a : Int) + (n.label.size : Int)) = (a2 : Int) := by unfold wrap64; omega
      have ew2 : (a : Int) + (n.label.size : Int) = (a2 : Int) := by omega
      have q1 := Aside0.mk (HC.out s n a2 wr HI.out.2 HI.out.1 hst.at_ hpn ha2)
      have HST := Aside0.mk (And.intro hst (And.intro hq (And.intro ea2 hpn)))
      have HEW := Aside0.mk ew
      clear hst hq hbn hle ea2 ew hpn
      unfold ptr at q1
      go_wp2_with (go_at_call 102; refine q1.out.mono ?_)
      rintro e w2 ⟨rfl, hi2, hk2⟩
      obtain ⟨p2, ep2⟩ := optPtr_form (downN n (k.extract a2 k.size))
      have q2 := downC w2 n (HP.out.2.2 w2 hk2 n HST.out.1.at_) HST.out.1.ok (k.extract a2 k.size)
      rw [ep2] at q2
      have q3 := Aside0.mk q2
      have H2 := Aside0.mk (And.intro hi2 (And.intro hk2 ep2))
      clear hi2 hk2 ep2 q2 q1
      unfold ptr at q3
      go_wp2_with (go_at_call 89; refine q3.out.mono ?_)
      rintro e w3 ⟨rfl, rfl⟩
      clear q3
      go_wp2_with fail
      obtain ⟨hst, hq, ea2, hpn⟩ := HST.out
      cases hgk : gk with
      | zero => exfalso; have := hst.le; rw [hgk] at hq; omega
      | succ g1 =>
        go_roundg g1
        case measure => omega
        case rel =>
          obtain ⟨hi2, hk2, ep2⟩ := H2.out
          have hf := HF.out
          rw [hgk] at hf
          unfold wayF at hf
          rw [ea2] at hf
          refine ⟨a2, downN n (k.extract a2 k.size), step s n a2, p2, rfl, rfl, ⟨ep2, fun m em => ?_, ha2⟩, ⟨hf⟩, ⟨hi2, hk2⟩⟩
          obtain ⟨hm, hml⟩ := downN_some em
          have hse : (k.extract a2 k.size).size = k.size - a2 := by simp only [ByteArray.size_extract]; omega
          have hpos := hst.ok.parts.2.1 m hm
          obtain ⟨ii, hii, eii⟩ := List.getElem_of_mem hm
          refine ⟨⟨?_, hst.ok.parts.2.2.get m hm, hst.sm.parts.2.mem m hm, by omega⟩, HP.out.2.1 n hpn m hm, by rw [hgk] at hq; omega⟩
          rw [← eii]
          exact hst.at_.parts.choose_spec.2.2.2.get ii hii
end Go.Proofs.YtjhgknagmiekeaaGreat.T
set_option linter.unusedVariables false
set_option linter.unusedSimpArgs false
namespace Go.Proofs.YtjhgknagmiekeaaGreat.G
open Go.RowKit Go.Lib Go.Proofs Go.Conc
open Go.Proofs.YtjhgknagmiekeaaGreatW.PrintWords hiding Kept
open Go.Proofs.YtjhgknagmiekeaaGreat.T (Nd NdAt NdsAt LfAt Lf Row ptr ptrs Tr Fine)
def FarP (p : TypeId → Bool) (w w' : World) : Prop := ∀ (b : Nat) (cs : Array Value) (t : TypeId) (fr : Nat × Nat), w.heap[b]? = some (.cells cs t fr) → p t = false → w'.heap[b]? = some (.cells cs t fr)
theorem FarP.of {p : TypeId → Bool} {w w' : World} (h : Below w.heap.size w w') : FarP p w w' := fun b cs t fr hb _ => (h.block b (Array.getElem?_eq_some_iff.1 hb).1).trans hb
theorem FarP.trans {p : TypeId → Bool} {a b c : World} (h : FarP p a b) (k : FarP p b c) : FarP p a c := fun i cs t fr hi ht => k i cs t fr (h i cs t fr hi ht) ht
section
variable {p : TypeId → Bool}
theorem FarP.row (h58 : p 106 = false) {w w' : World} (h : FarP p w w') {v : Value} {ps : List Value} (hr : Row w v ps) : Row w' v ps := by
  rcases hr with hr | ⟨ad, c, hv, hr⟩
  · exact .inl hr
  · refine .inr ⟨ad, c, hv, fun i hi => ?_⟩
    obtain ⟨h1, cs, fr, h2⟩ := hr i hi
    have h3 := h _ cs 106 fr h2 h58
    exact ⟨(World.cell?_of_block (a := ad.add i) (by rw [add_block]; exact h3.trans h2.symm)).trans h1, cs, fr, h3⟩
theorem FarP.leaf (h127 : p 134 = false) {w w' : World} (h : FarP p w w') {o : Option Lf} (hl : LfAt w o) : LfAt w' o := fun l e => h _ _ _ _ (hl l e) h127
mutual
theorem FarP.nd (h58 : p 106 = false) (h127 : p 134 = false) (h117 : p 145 = false) {w w' : World} (h : FarP p w w') : ∀ t : Nd, NdAt w t → NdAt w' t
  | .mk b label leaf kids mark, hn => by
    unfold NdAt at hn ⊢
    obtain ⟨⟨kv, h1, h2⟩, h3, h4, h5⟩ := hn
    exact ⟨⟨kv, h _ _ _ _ h1 h117, FarP.row h58 h h2⟩, FarP.leaf h127 h h3, FarP.nds h58 h127 h117 h kids h4, h5⟩
theorem FarP.nds (h58 : p 106 = false) (h127 : p 134 = false) (h117 : p 145 = false) {w w' : World} (h : FarP p w w') : ∀ ks : List Nd, NdsAt w ks → NdsAt w' ks
  | [], _ => by unfold NdsAt; trivial
  | n :: r, hn => by
    unfold NdsAt at hn ⊢
    exact ⟨FarP.nd h58 h127 h117 h n hn.1, FarP.nds h58 h127 h117 h r hn.2⟩
end
theorem FarP.tr (h58 : p 106 = false) (h127 : p 134 = false) (h117 : p 145 = false) (h124 : p 108 = false) {w w' : World} (h : FarP p w w') {tb : Nat} {root : Nd} (ht : Tr w tb root) : Tr w' tb root := ⟨⟨h _ _ _ _ ht.at_.blk h124, FarP.nd h58 h127 h117 h root ht.at_.root⟩, ht.fine, ht.vals⟩
end
mutual
/-- the marks of a tree -/
def mks : Nd → List Value
  | .mk _ _ leaf kids mark => mark :: ((leaf.map (fun l => l.mark)).toList ++ mkss kids)
def mkss : List Nd → List Value
  | [] => []
  | n :: r => mks n ++ mkss r
end
theorem mks_eq (n : Nd) : mks n = n.mark :: ((n.leaf.map (fun l => l.mark)).toList ++ mkss n.kids) := by cases n; rfl
theorem mkss_mem {m : Value} : ∀ {ks : List Nd}, m ∈ mkss ks ↔ ∃ k ∈ ks, m ∈ mks k
  | [] => by simp [mkss]
  | n :: r => by
    rw [mkss, List.mem_append, mkss_mem (ks := r)]
    simp
theorem mks_mark (n : Nd) : n.mark ∈ mks n := by rw [mks_eq]; exact List.mem_cons_self
theorem mks_leaf {n : Nd} {l : Lf} (h : n.leaf = some l) : l.mark ∈ mks n := by rw [mks_eq, h]; simp
theorem mks_kid {n k : Nd} (h : k ∈ n.kids) {m : Value} (hm : m ∈ mks k) : m ∈ mks n := by
  rw [mks_eq]
  exact List.mem_cons_of_mem _ (List.mem_append_right _ (mkss_mem.2 ⟨k, h, hm⟩))
def MkAt (w : World) (m : Value) : Prop := ∃ c d, m = ptr (c + 1) ∧ WatchAt w (c + 1) c d
def Mks (w : World) (n : Nd) : Prop := ∀ m ∈ mks n, MkAt w m
theorem Mks.kid {w : World} {n : Nd} (h : Mks w n) : ∀ k ∈ n.kids, Mks w k := fun k hk m hm => h m (mks_kid hk hm)
def chOf : Value → Nat
  | .pointer (some a) => a.block - 1
  | _ => 0
def shutAt (w : World) (c : Nat) : Bool := match w.heap[c]? with
  | some (.chan _ _ d _ _ _) => d
  | _ => false
theorem shutAt_of {w : World} {b c : Nat} {d : Bool} (h : WatchAt w b c d) : shutAt w c = d := by unfold shutAt; rw [h.ch]
structure Shot (w0 w : World) (S : Nat → Bool) : Prop where
  watch : ∀ c d, WatchAt w0 (c + 1) c d → WatchAt w (c + 1) c (d || S c)
  far : ∀ k, k < w0.heap.size → (∀ c d, WatchAt w0 (c + 1) c d → S c = true → k ≠ c + 1 ∧ k ≠ c) → w.heap[k]? = w0.heap[k]?
  size : w0.heap.size ≤ w.heap.size
  below : ∀ B, B ≤ w0.heap.size → (∀ c d, WatchAt w0 (c + 1) c d → S c = true → B ≤ c) → Below B w0 w
theorem Shot.refl (w : World) : Shot w w (fun _ => false) := ⟨fun c d h => by rw [Bool.or_false]; exact h, fun k _ _ => rfl, Nat.le_refl _, fun B _ _ => Below.refl _ _⟩
theorem Shot.farP {w0 w : World} {S : Nat → Bool} (h : Shot w0 w S) : FarP (fun t => t == 153) w0 w := fun b cs t fr hb ht => by
  refine (h.far b (Array.getElem?_eq_some_iff.1 hb).1 (fun c d hw _ => ⟨fun e => ?_, fun e => ?_⟩)).trans hb
  · rw [e, hw.obj] at hb
    injection hb with e1
    injection e1 with _ e2 _
    rw [← e2] at ht
    cases ht
  · rw [e, hw.ch] at hb
    cases hb
theorem WatchAt.move {w w' : World} {c : Nat} {d : Bool} (h : WatchAt w (c + 1) c d) (h1 : w'.heap[c + 1]? = w.heap[c + 1]?) (h2 : w'.heap[c]? = w.heap[c]?) : WatchAt w' (c + 1) c d := ⟨h1.trans h.obj, h2.trans h.ch⟩
theorem WatchAt.apart {w : World} {c c' : Nat} {d d' : Bool} (h : WatchAt w (c + 1) c d) (h' : WatchAt w (c' + 1) c' d') (hne : c ≠ c') : c + 1 ≠ c' ∧ c ≠ c' + 1 := by
  refine ⟨fun e => ?_, fun e => ?_⟩
  · have h1 := h.obj
    rw [e, h'.ch] at h1
    cases h1
  · have h1 := h'.obj
    rw [← e, h.ch] at h1
    cases h1
theorem Shot.fire {w0 w w1 : World} {S : Nat → Bool} (h : Shot w0 w S) {c : Nat} {d : Bool} (hw : WatchAt w0 (c + 1) c d) (hf : FiredOf w w1 (c + 1) c) : Shot w0 w1 (fun x => S x || x == c) := by
  have hwc := h.watch c d hw
  refine ⟨fun c' d' hw' => ?_, fun k hk hs => ?_, Nat.le_trans h.size hf.size, fun B hB hs => ?_⟩
  · by_cases e : c' = c
    · subst e
      have : (d' || (S c' || c' == c')) = true := by simp
      rw [this]
      exact hf.at_
    · have hw2 := h.watch c' d' hw'
      have hap := hw2.apart hwc e
      have : (d' || (S c' || c' == c)) = (d' || S c') := by
        have : (c' == c) = false := beq_eq_false_iff_ne.mpr e
        rw [this, Bool.or_false]
      rw [this]
      exact hw2.move (hf.far _ (Array.getElem?_eq_some_iff.1 hw2.obj).1 (by omega) hap.1) (hf.far _ (Array.getElem?_eq_some_iff.1 hw2.ch).1 hap.2 e)
  · have hc := hs c d hw (by simp)
    exact (hf.far k (Nat.lt_of_lt_of_le hk h.size) hc.1 hc.2).trans (h.far k hk (fun c' d' hw' hS => hs c' d' hw' (by simp [hS])))
  · have hc := hs c d hw (by simp)
    exact (h.below B hB (fun c' d' hw' hS => hs c' d' hw' (by simp [hS]))).trans (hf.below B (by omega) hc (Nat.le_trans hB h.size))
def shootC (w0 : World) (s : (Nat → Bool) × Int) (c : Nat) : (Nat → Bool) × Int := (fun x => s.1 x || x == c, if (shutAt w0 c || s.1 c) = true then s.2 else wrap64 (s.2 + 1))
def marksOn (k : ByteArray) (n : Nd) (a : Nat) : List Nat := chOf n.mark :: (if a = k.size then (n.leaf.map (fun l => chOf l.mark)).toList else [])
def stepW (w0 : World) (k : ByteArray) (s : (Nat → Bool) × Int) (n : Nd) (a : Nat) : (Nat → Bool) × Int := (marksOn k n a).foldl (shootC w0) s
attribute [local go_sem] Oper.semAt_some
set_option maxRecDepth 100000 in
set_option maxHeartbeats 2000000 in
theorem call105 (w : World) (c cb : Nat) (n : Int) (d : Bool) (h : WatchAt w (c + 1) c d) (hb : w.heap[cb]? = some (.cells #[.int .i64 n] 3 (0, 0))) (h1 : cb ≠ c + 1) (h2 : cb ≠ c) :
    Calls Tryz.prog 100 #[ptr (c + 1), ptr cb] w fun e w' => e = .returned (.tuple #[]) ∧ ∃ w1, FiredOf w w1 (c + 1) c ∧ ((d = true ∧ w' = w1) ∨ (d = false ∧ w' = w1.setCell ⟨cb, 0, none⟩ (.int .i64 (wrap64 (n + 1))))) := by
  have q := Aside0.mk (fireC w (c + 1) c d h)
  have HB := Aside0.mk (And.intro hb (And.intro h1 h2))
  clear h hb h1 h2
  unfold ptr
  go_enter Tryz.func100, Tryz.ntmps100
  go_wp2_with fail
  go_at_call 101
  refine q.out.mono ?_
  rintro e w1 ⟨rfl, hf⟩
  have hb1 := (hf.far cb (Array.getElem?_eq_some_iff.1 HB.out.1).1 HB.out.2.1 HB.out.2.2).trans HB.out.1
  have HF := Aside0.mk hf
  clear hf q
  cases d with
  | true =>
    clear hb1
    go_wp2_with fail
    refine bodyPost_end (results_none rfl _ _ _) rfl ?_
    exact ⟨rfl, HF.out⟩
  | false =>
    have c0 : w1.cell? ⟨cb, 0, none⟩ = some (.int .i64 n) := by rw [blk_cell hb1]; rfl
    have f0 : w1.frozen? ⟨cb, 0, none⟩ = false := blk_frozen hb1 0
    clear hb1
    go_wp2_with fail
    refine bodyPost_end (results_none rfl _ _ _) rfl ?_
    exact ⟨rfl, w1, HF.out, rfl⟩
end Go.Proofs.YtjhgknagmiekeaaGreat.G
set_option linter.unusedVariables false
set_option linter.unusedSimpArgs false
namespace Go.Proofs.YtjhgknagmiekeaaGreat.G
open Go.RowKit Go.Lib Go.Proofs Go.Conc
open Go.Proofs.YtjhgknagmiekeaaGreatW.PrintWords hiding Kept
open Go.Proofs.YtjhgknagmiekeaaGreatW.PrintLast
open Go.Proofs.YtjhgknagmiekeaaGreat.T (Nd NdAt NdsAt LfAt Lf Row ptr ptrs Tr Fine leafPtr L)
structure InvF (wB : World) (k : ByteArray) (cb fb kb : Nat) (s : (Nat → Bool) × Int) (w : World) : Prop where
  shot : Shot wB w s.1
  cnt : w.heap[cb]? = some (.cells #[.int .i64 s.2] 3 (0, 0))
  fn : w.heap[fb]? = some (.cells #[.func (.func 100) #[] #[ptr cb]] 187 (0, 0))
  key : w.heap[kb]? = some (.cells #[.string k] 9 (0, 0))
theorem InvF.drew {wB : World} {k : ByteArray} {cb fb kb : Nat} {s : (Nat → Bool) × Int} {w : World} (h : InvF wB k cb fb kb s w) : InvF wB k cb fb kb s w.drew :=
  ⟨⟨fun c d hw => ⟨(h.shot.watch c d hw).obj, (h.shot.watch c d hw).ch⟩, h.shot.far, h.shot.size, fun B h1 h2 => below_drew (h.shot.below B h1 h2)⟩, h.cnt, h.fn, h.key⟩
theorem below_put {B : Nat} {w w' : World} (h : Below B w w') (b j : Nat) (hb : B ≤ b) (v : Value) : Below B w (w'.setCell ⟨b, j, none⟩ v) := h.setCell (p := ⟨b, j, none⟩) hb v
theorem InvF.fire {wB : World} {k : ByteArray} {cb fb kb : Nat} {s : (Nat → Bool) × Int} {w w1 w' : World} (hcb : wB.heap.size ≤ cb) (hfb : cb < fb) (hkb : fb < kb) (h : InvF wB k cb fb kb s w) {c : Nat} {d : Bool} (hw : WatchAt wB (c + 1) c d) (hf : FiredOf w w1 (c + 1) c)
    (hx : ((d || s.1 c) = true ∧ w' = w1) ∨ ((d || s.1 c) = false ∧ w' = w1.setCell ⟨cb, 0, none⟩ (.int .i64 (wrap64 (s.2 + 1))))) : InvF wB k cb fb kb (shootC wB s c) w' := by
  have hlt : c + 1 < wB.heap.size := (Array.getElem?_eq_some_iff.1 hw.obj).1
  have hs := h.shot.fire hw hf
  have k1 := (hf.far cb (Array.getElem?_eq_some_iff.1 h.cnt).1 (by omega) (by omega)).trans h.cnt
  have k2 := (hf.far fb (Array.getElem?_eq_some_iff.1 h.fn).1 (by omega) (by omega)).trans h.fn
  have k3 := (hf.far kb (Array.getElem?_eq_some_iff.1 h.key).1 (by omega) (by omega)).trans h.key
  rcases hx with ⟨e, rfl⟩ | ⟨e, rfl⟩
  · have e2 : (shootC wB s c).2 = s.2 := by unfold shootC; rw [shutAt_of hw, if_pos e]
    exact ⟨hs, by rw [e2]; exact k1, k2, k3⟩
  · have e2 : (shootC wB s c).2 = wrap64 (s.2 + 1) := by unfold shootC; rw [shutAt_of hw, if_neg (by rw [e]; simp)]
    have hk : ∀ j, j ≠ cb → (w1.setCell ⟨cb, 0, none⟩ (.int .i64 (wrap64 (s.2 + 1)))).heap[j]? = w1.heap[j]? := fun j hj => Below.heap_setCell _ _ _ j hj
    refine ⟨⟨fun c' d' hw' => ?_, fun j hj hs' => ?_, ?_, fun B h1 h2 => ?_⟩, by rw [e2]; exact set_atG k1 0 _, (hk fb (by omega)).trans k2, (hk kb (by omega)).trans k3⟩
    · have h9 : c' + 1 < wB.heap.size := (Array.getElem?_eq_some_iff.1 hw'.obj).1
      exact (hs.watch c' d' hw').move (hk _ (by omega)) (hk _ (by omega))
    · exact (hk j (by omega)).trans (hs.far j hj hs')
    · rw [size_setCellG]; exact hs.size
    · exact below_put (hs.below B h1 h2) cb 0 (by omega) _
theorem InvF.call {wB : World} {k : ByteArray} {cb fb kb : Nat} {s : (Nat → Bool) × Int} {w : World} (hcb : wB.heap.size ≤ cb) (hfb : cb < fb) (hkb : fb < kb) (h : InvF wB k cb fb kb s w) {m : Value} (hm : MkAt wB m) :
    ∃ c, m = ptr (c + 1) ∧ chOf m = c ∧ ∀ W, W = w.drew → Calls Tryz.prog 100 #[ptr (c + 1), ptr cb] W fun e w' => e = .returned (.tuple #[]) ∧ InvF wB k cb fb kb (shootC wB s c) w' := by
  obtain ⟨c, d, rfl, hw⟩ := hm
  refine ⟨c, rfl, rfl, fun W hW => ?_⟩
  subst hW
  have hlt : c + 1 < wB.heap.size := (Array.getElem?_eq_some_iff.1 hw.obj).1
  have hd := h.drew
  refine (call105 w.drew c cb s.2 (d || s.1 c) (hd.shot.watch c d hw) hd.cnt (by omega) (by omega)).mono ?_
  rintro e w' ⟨rfl, w1, hf, hx⟩
  exact ⟨rfl, hd.fire hcb hfb hkb hw hf hx⟩
def fr0_T : Bool × List (List Nat × List Nat) := (true, [([], []), ([], []), ([1], [1]), ([2], [2]), ([3], [3]), ([0, 4], [0, 4])])
def fr0_B : List Nat := [0, 0, 2, 6, 14, 31]
theorem fr0_bits : waitsOk fr0_T.2 fr0_B = true := by kernel_rfl
theorem fr0_tab : rtab .any (opsOf Tryz.f102 0) = fr0_T := by kernel_rfl
def fr2_T : Bool × List (List Nat × List Nat) := (true, [([], []), ([], []), ([1], [1]), ([2], [2]), ([3], [3]), ([4], [4]), ([5], [5]), ([6], [6]), ([0, 7], [0, 7])])
def fr2_B : List Nat := [0, 0, 2, 6, 14, 30, 62, 126, 255]
theorem fr2_bits : waitsOk fr2_T.2 fr2_B = true := by kernel_rfl
theorem fr2_tab : rtab .any (opsOf Tryz.f102 2) = fr2_T := by kernel_rfl
attribute [local go_sem] Oper.semAt_some
set_option maxRecDepth 100000 in
set_option maxHeartbeats 4000000 in
theorem call107 (wB : World) (k : ByteArray) (cb fb kb : Nat) (hcb : wB.heap.size ≤ cb) (hfb : cb < fb) (hkb : fb < kb) (s : (Nat → Bool) × Int) (n : Nd) (a : Nat) (w : World) (h : InvF wB k cb fb kb s w) (hn : NdAt wB n) (hm : Mks wB n) (ha : a ≤ k.size) (hk : k.size < 4000000000000) :
    Calls Tryz.prog 102 #[ptr n.b, .int .i64 (a : Nat), ptr fb, ptr kb] w fun e w' => e = .returned (.tuple #[]) ∧ InvF wB k cb fb kb (stepW wB k s n a) w' := by
  obtain ⟨c, em, ec, q1⟩ := h.call hcb hfb hkb (hm _ (mks_mark n))
  have hnw := FarP.nd rfl rfl rfl h.shot.farP n hn
  obtain ⟨kv, hb, -, -, -⟩ := hnw.parts
  have Q1 := Aside0.mk q1
  have m3 : w.cell? ⟨n.b, 3, none⟩ = some (.pointer (some ⟨c + 1, 0, none⟩)) := by rw [blk_cell hb, em]; rfl
  have cf : w.cell? ⟨fb, 0, none⟩ = some (.func (.func 100) #[] #[.pointer (some ⟨cb, 0, none⟩)]) := by rw [blk_cell h.fn]; rfl
  have HH := Aside0.mk (And.intro h (And.intro hn (And.intro hm ec)))
  clear q1 h hn hm em ec hnw hb
  unfold ptr at Q1 ⊢
  obtain ⟨nb, enb⟩ : ∃ nb, n.b = nb := ⟨_, rfl⟩
  have HNB := Aside0.mk enb
  rw [enb] at m3 ⊢
  clear enb
  go_enter Tryz.func102, Tryz.ntmps102
  go_wp2_with fail
  refine start_ (n := 6) (S := (fun Z => Z.cell? ⟨fb, 0, none⟩ = some (.func (.func 100) #[] #[.pointer (some ⟨cb, 0, none⟩)]) ∧ Z.cell? ⟨nb, 3, none⟩ = some (.pointer (some ⟨c + 1, 0, none⟩)))) (ds := [5]) #[false, false, false, false, false, false] (by kernel_rfl) rfl rfl ⟨cf, m3⟩ (fun hHeld => ?_); refine with_tabW fr0_tab fr0_bits (fun HT_ HW_ => ?_)
  refine take_ (i := 0) (N := some 6) (v := ?_) (a' := ?_) #[true, false, false, false, false, false] rfl rfl (take_ofW HT_.out HW_.out (by kernel_rfl)) (fun _ _ _ h => h) (Or.inl ⟨by rfl, ?_⟩) hHeld ?_ ?_
  rotate_left
  · rintro w' ⟨s0, s1⟩
    go_simp
    with_reducible rfl
  rotate_left
  · simp only [Act.put, List.setIfInBounds_toArray, List.set_cons_zero, List.set_cons_succ, i64_w, i32_w]
    rfl
  refine pure_ (i := 1) (N := some 7) (v := ?_) (a' := ?_) #[true, true, false, false, false, false] rfl rfl (any_of HT_.out (by kernel_rfl)) (fun _ _ _ h => h) (Or.inl ⟨by rfl, ?_⟩) ?_ ?_
  rotate_left
  · intro w'
    go_simp
    with_reducible rfl
  rotate_left
  · simp only [Act.put, List.setIfInBounds_toArray, List.set_cons_zero, List.set_cons_succ, i64_w, i32_w]
    rfl
  refine pure_ (i := 2) (N := some 8) (v := ?_) (a' := ?_) #[true, true, true, false, false, false] rfl rfl (any_of HT_.out (by kernel_rfl)) (fun _ _ _ h => h) (Or.inl ⟨by rfl, ?_⟩) ?_ ?_
  rotate_left
  · intro w'
    go_simp
    with_reducible rfl
  rotate_left
  · simp only [Act.put, List.setIfInBounds_toArray, List.set_cons_zero, List.set_cons_succ, i64_w, i32_w]
    rfl
  refine pure_ (i := 3) (N := some 9) (v := ?_) (a' := ?_) #[true, true, true, true, false, false] rfl rfl (any_of HT_.out (by kernel_rfl)) (fun _ _ _ h => h) (Or.inl ⟨by rfl, ?_⟩) ?_ ?_
  rotate_left
  · intro w'
    go_simp
    with_reducible rfl
  rotate_left
  · simp only [Act.put, List.setIfInBounds_toArray, List.set_cons_zero, List.set_cons_succ, i64_w, i32_w]
    rfl
  refine take_ (i := 4) (N := some 10) (v := ?_) (a' := ?_) #[true, true, true, true, true, false] rfl rfl (take_ofW HT_.out HW_.out (by kernel_rfl)) (fun _ _ _ h => h) (Or.inl ⟨by rfl, ?_⟩) hHeld ?_ ?_
  rotate_left
  · rintro w' ⟨s0, s1⟩
    go_simp
    with_reducible rfl
  rotate_left
  · simp only [Act.put, List.setIfInBounds_toArray, List.set_cons_zero, List.set_cons_succ, i64_w, i32_w]
    rfl
  refine last_ (i := 5) (N := some 11) #[true, true, true, true, true, true] rfl rfl (one_of HT_.out (by kernel_rfl)) (by decide) (fun K hK => ?_)
  refine call_ 100 #[.pointer (some ⟨c + 1, 0, none⟩), .pointer (some ⟨cb, 0, none⟩)] (by rfl) rfl (by have he := fun w => enters_ Tryz.func100 (by kernel_rfl) rfl #[.pointer (some ⟨c + 1, 0, none⟩), .pointer (some ⟨cb, 0, none⟩)] w; unfold execOp; simp [resolve, Deferred.ofValue, invoke, Act.eval, he]) ?_
  refine (Q1.out _ rfl).mono ?_
  rintro e w1 ⟨rfl, h1⟩
  have H1 := Aside0.mk h1
  clear h1 hHeld
  refine ⟨_, rfl, ?_⟩
  refine hK.out _ _ ?_
  clear hK K
  refine done_ (done_of HT_.out (by kernel_rfl)) ?_
  clear m3 cf Q1 HT_ HW_
  have hnd := FarP.nd rfl rfl rfl H1.out.shot.farP n HH.out.2.1
  obtain ⟨kv1, hb1, -, hlf1, -⟩ := hnd.parts
  have g1 : w1.cell? ⟨nb, 1, none⟩ = some (leafPtr n.leaf) := by rw [← HNB.out, blk_cell hb1]; rfl
  have gk : w1.cell? ⟨kb, 0, none⟩ = some (.string k) := by rw [blk_cell H1.out.key]; rfl
  have HLF := Aside0.mk hlf1
  clear hnd hb1 hlf1
  by_cases hak : a = k.size
  · have hae : ((a : Int) == (k.size : Int)) = true := by rw [hak]; simp
    have HAK := Aside0.mk hak
    cases e : n.leaf with
    | none =>
      rw [e] at g1
      have HE := Aside0.mk e
      unfold leafPtr at g1
      clear e hak
      go_wp2_with fail
      refine bodyPost_end (results_none rfl _ _ _) rfl ?_
      have e2 : stepW wB k s n a = shootC wB s c := by
        unfold stepW marksOn
        rw [if_pos HAK.out, HE.out, HH.out.2.2.2]
        rfl
      rw [e2]
      exact ⟨rfl, H1.out⟩
    | some l =>
      rw [e] at g1
      have HE := Aside0.mk e
      obtain ⟨c2, em2, ec2, q2⟩ := H1.out.call hcb hfb hkb (HH.out.2.2.1 _ (mks_leaf e))
      have Q2 := Aside0.mk q2
      have hl := HLF.out l e
      obtain ⟨lb, elb⟩ : ∃ lb, l.b = lb := ⟨_, rfl⟩
      have g2 : w1.cell? ⟨lb, 2, none⟩ = some (.pointer (some ⟨c2 + 1, 0, none⟩)) := by rw [← elb, blk_cell hl, em2]; rfl
      have cf : w1.cell? ⟨fb, 0, none⟩ = some (.func (.func 100) #[] #[.pointer (some ⟨cb, 0, none⟩)]) := by rw [blk_cell H1.out.fn]; rfl
      have HC2 := Aside0.mk ec2
      have g1' : w1.cell? ⟨nb, 1, none⟩ = some (.pointer (some ⟨lb, 0, none⟩)) := by rw [← elb]; exact g1
      clear g1
      have g1 := g1'
      clear g1'
      unfold ptr at Q2
      clear e hak hl elb em2 ec2 q2
      go_wp2_with fail
      refine start_ (n := 9) (S := (fun Z => Z.cell? ⟨fb, 0, none⟩ = some (.func (.func 100) #[] #[.pointer (some ⟨cb, 0, none⟩)]) ∧ Z.cell? ⟨nb, 1, none⟩ = some (.pointer (some ⟨lb, 0, none⟩)) ∧ Z.cell? ⟨lb, 2, none⟩ = some (.pointer (some ⟨c2 + 1, 0, none⟩)))) (ds := [8]) #[false, false, false, false, false, false, false, false, false] (by kernel_rfl) rfl rfl ⟨cf, g1, g2⟩ (fun hHeld => ?_); refine with_tabW fr2_tab fr2_bits (fun HT_ HW_ => ?_)
      refine take_ (i := 0) (N := some 23) (v := ?_) (a' := ?_) #[true, false, false, false, false, false, false, false, false] rfl rfl (take_ofW HT_.out HW_.out (by kernel_rfl)) (fun _ _ _ h => h) (Or.inl ⟨by rfl, ?_⟩) hHeld ?_ ?_
      rotate_left
      · rintro w' ⟨s0, s1, s2⟩
        go_simp
        with_reducible rfl
      rotate_left
      · simp only [Act.put, List.setIfInBounds_toArray, List.set_cons_zero, List.set_cons_succ, i64_w, i32_w]
        rfl
      refine pure_ (i := 1) (N := some 24) (v := ?_) (a' := ?_) #[true, true, false, false, false, false, false, false, false] rfl rfl (any_of HT_.out (by kernel_rfl)) (fun _ _ _ h => h) (Or.inl ⟨by rfl, ?_⟩) ?_ ?_
      rotate_left
      · intro w'
        go_simp
        with_reducible rfl
      rotate_left
      · simp only [Act.put, List.setIfInBounds_toArray, List.set_cons_zero, List.set_cons_succ, i64_w, i32_w]
        rfl
      refine pure_ (i := 2) (N := some 25) (v := ?_) (a' := ?_) #[true, true, true, false, false, false, false, false, false] rfl rfl (any_of HT_.out (by kernel_rfl)) (fun _ _ _ h => h) (Or.inl ⟨by rfl, ?_⟩) ?_ ?_
      rotate_left
      · intro w'
        go_simp
        with_reducible rfl
      rotate_left
      · simp only [Act.put, List.setIfInBounds_toArray, List.set_cons_zero, List.set_cons_succ, i64_w, i32_w]
        rfl
      refine pure_ (i := 3) (N := some 26) (v := ?_) (a' := ?_) #[true, true, true, true, false, false, false, false, false] rfl rfl (any_of HT_.out (by kernel_rfl)) (fun _ _ _ h => h) (Or.inl ⟨by rfl, ?_⟩) ?_ ?_
      rotate_left
      · intro w'
        go_simp
        with_reducible rfl
      rotate_left
      · simp only [Act.put, List.setIfInBounds_toArray, List.set_cons_zero, List.set_cons_succ, i64_w, i32_w]
        rfl
      refine take_ (i := 4) (N := some 27) (v := ?_) (a' := ?_) #[true, true, true, true, true, false, false, false, false] rfl rfl (take_ofW HT_.out HW_.out (by kernel_rfl)) (fun _ _ _ h => h) (Or.inl ⟨by rfl, ?_⟩) hHeld ?_ ?_
      rotate_left
      · rintro w' ⟨s0, s1, s2⟩
        go_simp
        with_reducible rfl
      rotate_left
      · simp only [Act.put, List.setIfInBounds_toArray, List.set_cons_zero, List.set_cons_succ, i64_w, i32_w]
        rfl
      refine pure_ (i := 5) (N := some 28) (v := ?_) (a' := ?_) #[true, true, true, true, true, true, false, false, false] rfl rfl (any_of HT_.out (by kernel_rfl)) (fun _ _ _ h => h) (Or.inl ⟨by rfl, ?_⟩) ?_ ?_
      rotate_left
      · intro w'
        go_simp
        with_reducible rfl
      rotate_left
      · simp only [Act.put, List.setIfInBounds_toArray, List.set_cons_zero, List.set_cons_succ, i64_w, i32_w]
        rfl
      refine pure_ (i := 6) (N := some 29) (v := ?_) (a' := ?_) #[true, true, true, true, true, true, true, false, false] rfl rfl (any_of HT_.out (by kernel_rfl)) (fun _ _ _ h => h) (Or.inl ⟨by rfl, ?_⟩) ?_ ?_
      rotate_left
      · intro w'
        go_simp
        with_reducible rfl
      rotate_left
      · simp only [Act.put, List.setIfInBounds_toArray, List.set_cons_zero, List.set_cons_succ, i64_w, i32_w]
        rfl
      refine take_ (i := 7) (N := some 30) (v := ?_) (a' := ?_) #[true, true, true, true, true, true, true, true, false] rfl rfl (take_ofW HT_.out HW_.out (by kernel_rfl)) (fun _ _ _ h => h) (Or.inl ⟨by rfl, ?_⟩) hHeld ?_ ?_
      rotate_left
      · rintro w' ⟨s0, s1, s2⟩
        go_simp
        with_reducible rfl
      rotate_left
      · simp only [Act.put, List.setIfInBounds_toArray, List.set_cons_zero, List.set_cons_succ, i64_w, i32_w]
        rfl
      refine last_ (i := 8) (N := some 31) #[true, true, true, true, true, true, true, true, true] rfl rfl (one_of HT_.out (by kernel_rfl)) (by decide) (fun K hK => ?_)
      refine call_ 100 #[.pointer (some ⟨c2 + 1, 0, none⟩), .pointer (some ⟨cb, 0, none⟩)] (by rfl) rfl (by have he := fun w => enters_ Tryz.func100 (by kernel_rfl) rfl #[.pointer (some ⟨c2 + 1, 0, none⟩), .pointer (some ⟨cb, 0, none⟩)] w; unfold execOp; simp [resolve, Deferred.ofValue, invoke, Act.eval, he]) ?_
      refine (Q2.out _ rfl).mono ?_
      rintro e w2 ⟨rfl, h2⟩
      have H2 := Aside0.mk h2
      clear h2 hHeld
      refine ⟨_, rfl, ?_⟩
      refine hK.out _ _ ?_
      clear hK K
      refine done_ (done_of HT_.out (by kernel_rfl)) ?_
      clear g1 g2 gk cf Q2 HT_ HW_
      go_wp2_with fail
      refine bodyPost_end (results_none rfl _ _ _) rfl ?_
      have e2 : stepW wB k s n a = shootC wB (shootC wB s c) c2 := by
        unfold stepW marksOn
        rw [if_pos HAK.out, HE.out, HH.out.2.2.2]
        show shootC wB (shootC wB s c) (chOf l.mark) = _
        rw [HC2.out]
      rw [e2]
      exact ⟨rfl, H2.out⟩
  · have hae : ((a : Int) == (k.size : Int)) = false := beq_eq_false_iff_ne.mpr (by omega)
    have HAK := Aside0.mk hak
    clear hak
    go_wp2_with fail
    refine bodyPost_end (results_none rfl _ _ _) rfl ?_
    have e2 : stepW wB k s n a = shootC wB s c := by
      unfold stepW marksOn
      rw [if_neg HAK.out, HH.out.2.2.2]
      rfl
    rw [e2]
    exact ⟨rfl, H1.out⟩
end Go.Proofs.YtjhgknagmiekeaaGreat.G
set_option linter.unusedVariables false
set_option linter.unusedSimpArgs false
namespace Go.Proofs.YtjhgknagmiekeaaGreat.G
open Go.RowKit Go.Lib Go.Proofs Go.Conc
open Go.Proofs.YtjhgknagmiekeaaGreatW.PrintWords hiding Kept
open Go.Proofs.YtjhgknagmiekeaaGreat.T (Nd NdAt NdsAt LfAt Lf Row ptr ptrs Tr Fine leafPtr L Strs wayF)
def fireK (w0 : World) (root : Nd) (s : (Nat → Bool) × Int) (k : ByteArray) : (Nat → Bool) × Int := wayF (stepW w0 k) k (k.size + 2) (some root) 0 s
def fireAll (w0 : World) (root : Nd) (ks : List ByteArray) : (Nat → Bool) × Int := ks.foldl (fireK w0 root) (fun _ => false, 0)
theorem shot_alloc {w0 w : World} {S : Nat → Bool} (h : Shot w0 w S) (o : Obj) : Shot w0 (w.alloc o) S :=
  ⟨fun c d hw => (h.watch c d hw).move (Below.heap_alloc _ _ _ (Array.getElem?_eq_some_iff.1 (h.watch c d hw).obj).1) (Below.heap_alloc _ _ _ (Array.getElem?_eq_some_iff.1 (h.watch c d hw).ch).1), fun k hk hs => (Below.heap_alloc _ _ _ (Nat.lt_of_lt_of_le hk h.size)).trans (h.far k hk hs), by rw [World.size_alloc]; exact Nat.le_succ_of_le h.size, fun B h1 h2 => (h.below B h1 h2).alloc (Nat.le_trans h1 h.size) o⟩
theorem strs_far {p : TypeId → Bool} (h9 : p 9 = false) {w w' : World} (h : FarP p w w') {A : Option Addr} {ks : List ByteArray} (hs : ∀ i (hi : i < ks.length), ∃ ad cs fr, A = some ad ∧ w.heap[ad.block]? = some (.cells cs 9 fr)) (hk : Strs w A ks) : Strs w' A ks := fun i hi => by
  obtain ⟨ad, e, hc⟩ := hk i hi
  obtain ⟨ad', cs, fr, e', hb⟩ := hs i hi
  rw [e] at e'
  cases e'
  exact ⟨ad, e, (World.cell?_of_block (a := ad.add i) (by rw [add_block]; exact (h _ _ _ _ hb h9).trans hb.symm)).trans hc⟩
theorem run_store_fn {P : Program} {w : World} {a : Addr} {m : Mode} (f : Fn) (x y : Array Value) : (store a (.func f x y) m).run P w = stored P w a (.func f x y) m := run_store P w a _ m rfl
attribute [local go_sem] run_store_fn
set_option maxRecDepth 100000 in
set_option maxHeartbeats 4000000 in
theorem fireTree (w : World) (tb : Nat) (root : Nd) (ht : Tr w tb root) (hM : Mks w root) (A : Option Addr) (c : Nat) (ks : List ByteArray) (hA : Strs w A ks) (hAt : ∀ i (hi : i < ks.length), ∃ ad cs fr, A = some ad ∧ w.heap[ad.block]? = some (.cells cs 9 fr)) (hn : ks.length < 4000000000000) (hs : ∀ k ∈ ks, k.size < 4000000000000) :
    Calls Tryz.prog 67 #[ptr tb, .slice A ks.length c] w fun e w' => e = .returned (.int .i64 (fireAll w root ks).2) ∧ Shot w w' (fireAll w root ks).1 := by
  have HT := Aside0.mk (And.intro ht hM)
  have HS := Aside0.mk (And.intro hs (And.intro hA hAt))
  obtain ⟨n, en⟩ : ∃ n, ks.length = n := ⟨_, rfl⟩
  have HN := Aside0.mk en
  rw [en] at hn ⊢
  clear ht hM hA hAt hs en
  have hmf : ∀ (fn : Fn) (first cap : Array Value) (w : World), (Instr.makeFunc fn first cap).run Tryz.prog w = .ok (.func fn first cap) w := fun _ _ _ _ => rfl
  unfold ptr
  go_enter Tryz.func67, Tryz.ntmps67
  go_upto_region 3 with fail
  obtain ⟨B1, eB1⟩ : ∃ B1, w.heap.size = B1 := ⟨_, rfl⟩
  have HB1 := Aside0.mk eB1
  obtain ⟨W0, eW0⟩ : ∃ W0, (w.alloc (.cells #[.int .i64 0] 3)).alloc (.cells #[.func (.func 100) #[] #[ptr B1]] 187) = W0 := ⟨_, rfl⟩
  have H0 : Aside0 (Shot w W0 (fun _ => false) ∧ W0.heap[B1]? = some (.cells #[.int .i64 0] 3 (0, 0)) ∧ W0.heap[B1 + 1]? = some (.cells #[.func (.func 100) #[] #[ptr B1]] 187 (0, 0)) ∧ B1 + 1 < W0.heap.size) := by
    rw [← eW0]
    refine ⟨shot_alloc (shot_alloc (Shot.refl w) _) _, ?_, ?_, by rw [World.size_alloc, World.size_alloc]; omega⟩
    · rw [← eB1]; exact (Below.heap_alloc _ _ _ (by rw [World.size_alloc]; omega)).trans (heap_alloc_new w _)
    · have := heap_alloc_new (w.alloc (.cells #[.int .i64 0] 3)) (.cells #[.func (.func 100) #[] #[ptr B1]] 187)
      rwa [World.size_alloc, eB1] at this
  have HE0 := Aside0.mk eW0
  rw [eB1]
  have HK : Aside0 (Below w.heap.size w W0) := ⟨by rw [← eW0]; exact ((Below.refl _ w).alloc (Nat.le_refl _) _).alloc (by rw [World.size_alloc]; omega) _⟩
  have e9 : (w.alloc (.cells #[.int .i64 0] 3)).alloc (.cells #[.func (.func 100) #[] #[.pointer (some ⟨B1, 0, none⟩)]] 187) = W0 := eW0
  rw [e9]
  clear e9 eW0 eB1
  go_wp2_with fail
  go_loopg [12] (n + 1) (fun kq v12 W => ∃ (j : Nat) (s : (Nat → Bool) × Int), v12 = .int .i64 (j : Int) ∧ Aside0 (j + kq = n + 1 ∧ j ≤ n) ∧ Aside0 (Shot w W s.1 ∧ W.heap[B1]? = some (.cells #[.int .i64 s.2] 3 (0, 0)) ∧ W.heap[B1 + 1]? = some (.cells #[.func (.func 100) #[] #[ptr B1]] 187 (0, 0))) ∧ Aside0 (s = (ks.take j).foldl (fireK w root) (fun _ => false, 0)))
  case atStart => exact ⟨0, (fun _ => false, 0), rfl, ⟨by omega, Nat.zero_le _⟩, ⟨H0.out.1, H0.out.2.1, H0.out.2.2.1⟩, ⟨rfl⟩⟩
  case round =>
    obtain ⟨j, s, rfl, HI, HV, HF⟩ := hrel
    by_cases hj : j < n
    · have hj' : j < ks.length := by rw [HN.out]; exact hj
      obtain ⟨ad, ea, hk0⟩ := strs_far rfl HV.out.1.farP HS.out.2.2 HS.out.2.1 j hj'
      obtain ⟨k, ek⟩ : ∃ k, ks[j] = k := ⟨_, rfl⟩
      rw [ek] at hk0
      have hks : k.size < 4000000000000 := HS.out.1 k (by rw [← ek]; exact List.getElem_mem _)
      subst ea
      obtain ⟨G, eG⟩ : ∃ G, wr.heap.size = G := ⟨_, rfl⟩
      obtain ⟨W1, eW1⟩ : ∃ W1, wr.alloc (.cells #[.string k] 9) = W1 := ⟨_, rfl⟩
      have hG : B1 + 1 < G := by rw [← eG]; exact (Array.getElem?_eq_some_iff.1 HV.out.2.2).1
      have hst := shot_alloc HV.out.1 (.cells #[.string k] 9)
      have hkey : W1.heap[G]? = some (.cells #[.string k] 9 (0, 0)) := by rw [← eW1, ← eG]; exact heap_alloc_new wr _
      rw [eW1] at hst
      have hinv : InvF w k B1 (B1 + 1) G s W1 := ⟨hst, by rw [← eW1]; exact (Below.heap_alloc _ _ _ (by omega)).trans HV.out.2.1, by rw [← eW1]; exact (Below.heap_alloc _ _ _ (by omega)).trans HV.out.2.2, hkey⟩
      have hrt : W1.cell? ⟨tb, 0, none⟩ = some (.pointer (some ⟨root.b, 0, none⟩)) := by rw [blk_cell (hst.farP _ _ _ _ HT.out.1.at_.blk rfl)]; rfl
      have q1 := Aside0.mk (T.way107 (stepW w k) (InvF w k B1 (B1 + 1) G) (FarP (fun t => t == 153) w) (Mks w) (B1 + 1) G w W1 tb root _ k s hks hst.farP HT.out.1.at_ HT.out.1.fine.ok HT.out.1.fine.sm HT.out.1.fine.top hinv HT.out.2 (fun x hx => hx.kid) hrt (fun w1 hR x hx => FarP.nd rfl rfl rfl hR x hx)
        (fun s' x a w1 hR hI hx hp ha => (call107 w k B1 (B1 + 1) G (Nat.le_of_eq HB1.out) (by omega) hG s' x a w1 hI hx hp ha hks).mono (fun e w' ⟨h1, h2⟩ => ⟨h1, h2, h2.shot.farP⟩)))
      have ck : W1.cell? ⟨G, 0, none⟩ = some (.string k) := by rw [blk_cell hkey]; rfl
      have HTK : Aside0 (ks.take (j + 1) = ks.take j ++ [k]) := ⟨by rw [List.take_add_one, List.getElem?_eq_getElem hj', ek]; rfl⟩
      have HEW := Aside0.mk (And.intro eW1 eG)
      clear hst hkey hinv hrt eW1 ek hj' hks eG hG
      unfold ptr at q1
      go_upto_region 6 with fail
      rw [HEW.out.1, HEW.out.2]
      clear hk0
      go_wp2_with (go_at_call 68; refine q1.out.mono ?_)
      rintro e w2 ⟨rfl, h2, -⟩
      have H2 := Aside0.mk h2
      clear h2 q1 ck
      go_wp2_with fail
      go_roundg (n - j)
      case measure => have := HI.out; omega
      case rel =>
        refine ⟨j + 1, fireK w root s k, by simp, ⟨by have := HI.out; omega⟩, ⟨H2.out.shot, H2.out.cnt, H2.out.fn⟩, ⟨?_⟩⟩
        rw [HTK.out, List.foldl_append, ← HF.out]
        rfl
    · have hin : j = n := by have := HI.out; omega
      subst hin
      have c1 : wr.cell? ⟨B1, 0, none⟩ = some (.int .i64 s.2) := by rw [blk_cell HV.out.2.1]; rfl
      go_wp2_with fail
      go_ret
      have e2 : fireAll w root ks = s := by
        unfold fireAll
        rw [HF.out, ← HN.out, List.take_length]
      rw [e2]
      exact ⟨rfl, HV.out.1⟩
end Go.Proofs.YtjhgknagmiekeaaGreat.G
set_option linter.unusedVariables false
set_option linter.unusedSimpArgs false
namespace Go.Proofs.YtjhgknagmiekeaaGreat.G
open Go.RowKit Go.Lib Go.Proofs Go.Conc
open Go.Proofs.YtjhgknagmiekeaaGreatW.PrintWords hiding Kept
open Go.Proofs.YtjhgknagmiekeaaGreat.T (Nd NdAt ptr Tr L)
section
variable {P : Program} {f : FuncId} {fn : Func}
theorem run_load_ptr (hf : P.funcs[f]? = some fn) (hname : (fn.name == "runtime.NumGoroutine") = false) (hb : fn.body.isNone = true) (hn : Extern.findNext fn = none)
    (he : Extern.find fn = some (Extern.Atomic.loadT .ptr)) {a : Addr} {p : Option Addr} {w : World} (hc : w.cell? a = some (.pointer p)) :
    (callFunc f #[.pointer (some a)]).run P w = .ok (.value (.pointer p)) w := by
  rw [run_callFunc_extern hf hname hb hn he]
  change (Sem.run P (do Extern.Atomic.read .ptr (← asAddr (.pointer (some a)))) w).andThen _ = _
  simp [Extern.Atomic.read, asAddr, hc, Result.andThen]
theorem run_store_ptr (hf : P.funcs[f]? = some fn) (hname : (fn.name == "runtime.NumGoroutine") = false) (hb : fn.body.isNone = true) (hn : Extern.findNext fn = none)
    (he : Extern.find fn = some Extern.Atomic.storeT) {a : Addr} {p : Option Addr} {u : Value} {w : World} (hc : w.cell? a = some u) (hz : w.frozen? a = false) :
    (callFunc f #[.pointer (some a), .pointer p]).run P w = .ok (.value (.tuple #[])) (w.setCell a (.pointer p)) := by
  rw [run_callFunc_extern hf hname hb hn he]
  change (Sem.run P (do
    store (← asAddr (.pointer (some a))) (.pointer p) .atomic
    pure Extern.Atomic.none_) w).andThen _ = _
  simp [asAddr, hc, hz, run_store P w a (.pointer p) .atomic rfl, Result.andThen, Extern.Atomic.none_]
end
theorem lies : liesAt Tryz.prog Tryz.prog.depth 102 (2 / Tryz.prog.cellsOf 102) 0 102 1 = true := by kernel_rfl
theorem size194 : (Tryz.prog.info? 102).map (fun i => decide (i.size = 0)) = some false := by kernel_rfl
theorem conv_from (v : Nat) (x y : Value) (w : World) (hb : w.heap[v]? = some (.cells #[x, y] 102 (0, 0))) : (convert 89 85 (.pointer (some ⟨v, 0, none⟩))).run Tryz.prog w = .ok (.pointer (some ⟨v, 0, none⟩)) w := by
  have hsh : w.shape? v = some (102, 2) := by unfold World.shape?; rw [hb]; rfl
  obtain ⟨i, hi, hz0⟩ := Option.map_eq_some_iff.1 size194
  have hz : i.size ≠ 0 := by simpa using hz0
  have hl := lies
  simp [convert, Conv.unsafePointer, Conv.seenAt, viewAt, cellsIn, sizeOf, typeInfo, run_underlying Tryz.underlying89, run_underlying Tryz.underlying85, hi, hz, hsh, hb, variablesAt, hl, Result.andThen]
theorem conv_to (v : Nat) (x y : Value) (w : World) (hb : w.heap[v]? = some (.cells #[x, y] 102 (0, 0))) : (convert 85 89 (.pointer (some ⟨v, 0, none⟩))).run Tryz.prog w = .ok (.pointer (some ⟨v, 0, none⟩)) w :=
  run_convert_to_unsafe (P := Tryz.prog) (src := 85) (dst := 89) Tryz.underlying85 Tryz.underlying89 (by kernel_rfl) (v := x) (by rw [blk_cell hb]; rfl)
set_option maxRecDepth 100000 in
set_option maxHeartbeats 1600000 in
theorem loadPtr (b v : Nat) (x y : Value) (w : World) (hc : w.cell? ⟨b, 0, none⟩ = some (ptr v)) (hb : w.heap[v]? = some (.cells #[x, y] 102 (0, 0))) :
    Calls Tryz.prog 36 #[ptr b] w fun e w' => e = .returned (ptr v) ∧ w' = w := by
  have hl := run_load_ptr (P := Tryz.prog) Tryz.func71 (by kernel_rfl) (by kernel_rfl) (by kernel_rfl) (by kernel_rfl) hc
  have hv := conv_from v x y w hb
  clear hb
  unfold ptr at hc hl ⊢
  go_enter Tryz.func36, Tryz.ntmps36
  go_wp2
  go_ret
  exact ⟨rfl, rfl⟩
set_option maxRecDepth 100000 in
set_option maxHeartbeats 1600000 in
theorem storePtr (b v : Nat) (x y u : Value) (w : World) (hc : w.cell? ⟨b, 0, none⟩ = some u) (hz : w.frozen? ⟨b, 0, none⟩ = false) (hb : w.heap[v]? = some (.cells #[x, y] 102 (0, 0))) :
    Calls Tryz.prog 34 #[ptr b, ptr v] w fun e w' => e = .returned (.tuple #[]) ∧ w' = w.setCell ⟨b, 0, none⟩ (ptr v) := by
  have hst := run_store_ptr (P := Tryz.prog) Tryz.func70 (by kernel_rfl) (by kernel_rfl) (by kernel_rfl) (by kernel_rfl) (p := some ⟨v, 0, none⟩) hc hz
  have hv := conv_to v x y w hb
  clear hb
  unfold ptr
  go_enter Tryz.func34, Tryz.ntmps34
  go_wp2
  go_end0
  exact ⟨rfl, rfl⟩
structure BaseAt (w : World) (b v tb : Nat) (n : Int) (held : Bool) : Prop where
  base : w.heap[b]? = some (.cells #[ptr v, .int .i32 (if held then 1 else 0), .int .u32 0] 99 (0, 0))
  ver : w.heap[v]? = some (.cells #[ptr tb, .int .u64 n] 102 (0, 0))
set_option maxRecDepth 100000 in
set_option maxHeartbeats 1600000 in
theorem baseTree (w : World) (b v tb : Nat) (n : Int) (held : Bool) (h : BaseAt w b v tb n held) : Calls Tryz.prog 12 #[ptr b] w fun e w' => e = .returned (ptr tb) ∧ w' = w := by
  have c0 : w.cell? ⟨b, 0, none⟩ = some (ptr v) := by rw [blk_cell h.base]; rfl
  have q := Aside0.mk (loadPtr b v _ _ w c0 h.ver)
  have v0 : w.cell? ⟨v, 0, none⟩ = some (ptr tb) := by rw [blk_cell h.ver]; rfl
  clear h c0
  unfold ptr at q v0 ⊢
  go_enter Tryz.func12, Tryz.ntmps12
  go_wp2_with (first | (go_at_call 36; refine q.out.mono ?_; rintro e w' ⟨rfl, hw⟩; subst hw))
  go_ret
  exact ⟨rfl, rfl⟩
set_option maxRecDepth 100000 in
set_option maxHeartbeats 1600000 in
theorem baseVersion (w : World) (b v tb : Nat) (n : Int) (held : Bool) (h : BaseAt w b v tb n held) : Calls Tryz.prog 11 #[ptr b] w fun e w' => e = .returned (.int .u64 n) ∧ w' = w := by
  have c0 : w.cell? ⟨b, 0, none⟩ = some (ptr v) := by rw [blk_cell h.base]; rfl
  have q := Aside0.mk (loadPtr b v _ _ w c0 h.ver)
  have v0 : w.cell? ⟨v, 1, none⟩ = some (.int .u64 n) := by rw [blk_cell h.ver]; rfl
  clear h c0
  unfold ptr at q ⊢
  go_enter Tryz.func11, Tryz.ntmps11
  go_wp2_with (first | (go_at_call 36; refine q.out.mono ?_; rintro e w' ⟨rfl, hw⟩; subst hw))
  go_ret
  exact ⟨rfl, rfl⟩
end Go.Proofs.YtjhgknagmiekeaaGreat.G
set_option linter.unusedVariables false
set_option linter.unusedSimpArgs false
namespace Go.Proofs.YtjhgknagmiekeaaGreat.G
open Go.RowKit Go.Lib Go.Proofs Go.Conc
open Go.Proofs.YtjhgknagmiekeaaGreatW.PrintWords hiding Kept
open Go.Proofs.YtjhgknagmiekeaaGreatW.PrintLast
open Go.Proofs.YtjhgknagmiekeaaGreat.T (Nd NdAt ptr Tr L emptyN TrAt NewMark)
theorem newMark_at {B : Nat} {w : World} {m : Value} (h : NewMark B w m) : ∃ c, m = ptr (c + 1) ∧ B ≤ c ∧ WatchAt w (c + 1) c false := by
  obtain ⟨c, h1, h2, h3, h4⟩ := h
  exact ⟨c, h1, h2, h4, h3⟩
def nw2_T : Bool × List (List Nat × List Nat) := (true, [([], []), ([0], [0]), ([1], [1]), ([], []), ([3], [3]), ([4], [4]), ([2, 5, 3], [2, 5])])
def nw2_B : List Nat := [0, 1, 3, 0, 8, 24, 63]
theorem nw2_bits : waitsOk nw2_T.2 nw2_B = true := by kernel_rfl
theorem nw2_tab : rtab .any (opsOf Tryz.f9 2) = nw2_T := by kernel_rfl
attribute [local go_sem] Oper.semAt_some
set_option maxRecDepth 100000 in
set_option maxHeartbeats 4000000 in
theorem newB (w : World) : Calls Tryz.prog 9 #[] w fun e w' => ∃ b v tb nb c, e = .returned (ptr b) ∧ BaseAt w' b v tb 0 false ∧ TrAt w' tb (emptyN nb (ptr (c + 1))) 0 ∧ WatchAt w' (c + 1) c false ∧ w.heap.size ≤ b ∧ w.heap.size ≤ v ∧ w.heap.size ≤ c ∧ Below w.heap.size w w' := by
  have q1 := Aside0.mk (fun W => T.treeNew W)
  obtain ⟨B, eB⟩ : ∃ B, w.heap.size = B := ⟨_, rfl⟩
  have HB := Aside0.mk eB
  obtain ⟨W0, eW0⟩ : ∃ W0, w.alloc (.cells #[.pointer none, .int .i32 0, .int .u32 0] 99) = W0 := ⟨_, rfl⟩
  have H0 : Aside0 (W0.heap[B]? = some (.cells #[.pointer none, .int .i32 0, .int .u32 0] 99 (0, 0)) ∧ Below w.heap.size w W0 ∧ B < W0.heap.size) := ⟨by rw [← eW0, ← eB]; exact heap_alloc_new w _, by rw [← eW0]; exact (Below.refl _ w).alloc (Nat.le_refl _) _, by rw [← eW0, World.size_alloc]; omega⟩
  have HE := Aside0.mk eW0
  unfold ptr at q1
  clear eW0
  go_enter Tryz.func9, Tryz.ntmps9
  go_upto_region 2 with fail
  rw [HE.out]
  clear eB HE
  refine start_ (n := 7) (S := (fun _ : World => True)) (ds := [6]) #[false, false, false, false, false, false, false] (by kernel_rfl) rfl rfl trivial (fun hHeld => ?_); refine with_tabW nw2_tab nw2_bits (fun HT_ HW_ => ?_)
  refine pure_ (i := 0) (N := some 4) (v := ?_) (a' := ?_) #[true, false, false, false, false, false, false] rfl rfl (any_of HT_.out (by kernel_rfl)) (fun _ _ _ h => h) (Or.inl ⟨by rfl, ?_⟩) ?_ ?_
  rotate_left
  · intro w'
    go_simp
    with_reducible rfl
  rotate_left
  · simp only [Act.put, List.setIfInBounds_toArray, List.set_cons_zero, List.set_cons_succ, i64_w, i32_w]
    rfl
  refine pure_ (i := 1) (N := some 5) (v := ?_) (a' := ?_) #[true, true, false, false, false, false, false] rfl rfl (any_of HT_.out (by kernel_rfl)) (fun _ _ _ h => h) (Or.inl ⟨by rfl, ?_⟩) ?_ ?_
  rotate_left
  · intro w'
    go_simp
    with_reducible rfl
  rotate_left
  · simp only [Act.put, List.setIfInBounds_toArray, List.set_cons_zero, List.set_cons_succ, i64_w, i32_w]
    rfl
  refine pure_ (i := 2) (N := some 6) (v := ?_) (a' := ?_) #[true, true, true, false, false, false, false] rfl rfl (any_of HT_.out (by kernel_rfl)) (fun _ _ _ h => h) (Or.inl ⟨by rfl, ?_⟩) ?_ ?_
  rotate_left
  · intro w'
    go_simp
    with_reducible rfl
  rotate_left
  · simp only [Act.put, List.setIfInBounds_toArray, List.set_cons_zero, List.set_cons_succ, i64_w, i32_w]
    rfl
  refine one_ (i := 3) (N := some 7) #[true, true, true, true, false, false, false] rfl rfl (one_of HT_.out (by kernel_rfl)) (by decide) (fun K hK => ?_)
  refine goes_ Tryz.func35 (by kernel_rfl) rfl #[] (by rfl) rfl rfl (by (try simp only [List.map_toArray, List.map_cons, List.map_nil]); first | done | rfl) ?_
  refine (q1.out _).mono ?_
  rintro e w1 ⟨tb, nb, m, rfl, htr, hm, -, -, hb1⟩
  obtain ⟨c, rfl, hc, hwa⟩ := newMark_at hm
  have H1 := Aside0.mk (And.intro htr (And.intro hc (And.intro hwa hb1)))
  clear htr hm hc hwa hb1
  refine ⟨_, rfl, ?_⟩
  clear hHeld
  refine hK.out _ _ trivial (fun hHeld => ?_)
  clear hK K
  refine norm_ (a' := ?_) ?_ ?_
  rotate_left
  · show Act.put _ (some 7) _ = _
    simp only [Act.put, List.setIfInBounds_toArray, List.set_cons_zero, List.set_cons_succ, i64_w, i32_w]
    rfl
  refine pure_ (i := 4) (N := some 8) (v := ?_) (a' := ?_) #[true, true, true, true, true, false, false] rfl rfl (any_of HT_.out (by kernel_rfl)) (fun _ _ _ h => h) (Or.inl ⟨by rfl, ?_⟩) ?_ ?_
  rotate_left
  · intro w'
    go_simp
    with_reducible rfl
  rotate_left
  · simp only [Act.put, List.setIfInBounds_toArray, List.set_cons_zero, List.set_cons_succ, i64_w, i32_w]
    rfl
  refine one_ (i := 5) (N := some 9) #[true, true, true, true, true, true, false] rfl rfl (one_of HT_.out (by kernel_rfl)) (by decide) (fun K hK => ?_)
  refine value_ (w1 := w1.alloc (.cells #[.pointer (some ⟨tb, 0, none⟩), .int .u64 0] 102)) (v := .pointer (some ⟨w1.heap.size, 0, none⟩)) (by rfl) rfl (by go_simp) ?_
  clear hHeld
  refine hK.out _ _ trivial (fun hHeld => ?_)
  clear hK K
  refine norm_ (a' := ?_) ?_ ?_
  rotate_left
  · show Act.put _ (some 9) _ = _
    simp only [Act.put, List.setIfInBounds_toArray, List.set_cons_zero, List.set_cons_succ, i64_w, i32_w]
    rfl
  obtain ⟨V, eV⟩ : ∃ V, w1.heap.size = V := ⟨_, rfl⟩
  obtain ⟨W2, eW2⟩ : ∃ W2, w1.alloc (.cells #[.pointer (some ⟨tb, 0, none⟩), .int .u64 0] 102) = W2 := ⟨_, rfl⟩
  have hb2 : Below w1.heap.size w1 W2 := by rw [← eW2]; exact (Below.refl _ w1).alloc (Nat.le_refl _) _
  have hv2 : W2.heap[V]? = some (.cells #[.pointer (some ⟨tb, 0, none⟩), .int .u64 0] 102 (0, 0)) := by rw [← eW2, ← eV]; exact heap_alloc_new w1 _
  have hob := (H1.out.2.2.2.block B H0.out.2.2).trans H0.out.1
  have hob2 := (hb2.block _ (Array.getElem?_eq_some_iff.1 hob).1).trans hob
  have hbV : B < V := by rw [← eV]; exact (Array.getElem?_eq_some_iff.1 hob).1
  have q2 := Aside0.mk (storePtr B V _ _ (.pointer none) W2 (by rw [blk_cell hob2]; rfl) (blk_frozen hob2 0) hv2)
  have H2 := Aside0.mk (And.intro hb2 (And.intro hv2 (And.intro hob2 hbV)))
  have HEV := Aside0.mk eV
  rw [eW2, eV]
  clear hb2 hv2 hob hob2 hbV eW2 eV
  unfold ptr at q2
  refine last_ (i := 6) (N := some 10) #[true, true, true, true, true, true, true] rfl rfl (one_of HT_.out (by kernel_rfl)) (by decide) (fun K hK => ?_)
  refine goes_ Tryz.func34 (by kernel_rfl) rfl #[.pointer (some ⟨B, 0, none⟩), .pointer (some ⟨V, 0, none⟩)] (by rfl) rfl rfl (by (try simp only [List.map_toArray, List.map_cons, List.map_nil]); first | done | rfl) ?_
  refine q2.out.mono ?_
  rintro e w3 ⟨rfl, hw3⟩
  have HW3 := Aside0.mk hw3
  clear hw3 hHeld
  refine ⟨_, rfl, ?_⟩
  refine hK.out _ _ ?_
  clear hK K
  refine done_ (done_of HT_.out (by kernel_rfl)) ?_
  clear q1 q2 HT_ HW_
  go_wp2_with fail
  go_ret
  have hw3 := HW3.out
  subst hw3
  have hfar : ∀ k, k ≠ B → (W2.setCell ⟨B, 0, none⟩ (ptr V)).heap[k]? = W2.heap[k]? := fun k hk => Below.heap_setCell _ _ _ k hk
  have hfp : FarP (fun t => t == 99) W2 (W2.setCell ⟨B, 0, none⟩ (ptr V)) := fun k cs t fr hk ht => (hfar k (fun e => by
    subst e
    rw [H2.out.2.2.1] at hk
    injection hk with e1
    injection e1 with _ e2 _
    rw [← e2] at ht
    cases ht)).trans hk
  have hbB := HB.out
  have hch : ∀ k o, W2.heap[k]? = some o → k ≠ B → (W2.setCell ⟨B, 0, none⟩ (ptr V)).heap[k]? = some o := fun k o h1 h2 => (hfar k h2).trans h1
  have hc1 := H1.out.2.2.1
  have hcW0 : W0.heap.size ≤ c := H1.out.2.1
  have hBW := H0.out.2.2
  refine ⟨B, V, tb, nb, c, rfl, ⟨set_atG H2.out.2.2.1 0 _, hch V _ H2.out.2.1 (by have := H2.out.2.2.2; omega)⟩, ⟨hfp _ _ _ _ (T.Kept.at (T.Kept.of H2.out.1) H1.out.1.blk) rfl, FarP.nd rfl rfl rfl hfp _ (T.NdAt.keep (T.Kept.of H2.out.1) _ H1.out.1.root)⟩, ⟨hch _ _ (T.Kept.at (T.Kept.of H2.out.1) hc1.obj) (by omega), hch _ _ (T.Kept.at (T.Kept.of H2.out.1) hc1.ch) (by omega)⟩, by omega, by have := H2.out.2.2.2; omega, by omega, ?_⟩
  exact below_put (T.belowAt (T.belowAt (below_drew H0.out.2.1) H1.out.2.2.2) H2.out.1) B 0 (by omega) _
end Go.Proofs.YtjhgknagmiekeaaGreat.G
set_option linter.unusedVariables false
set_option linter.unusedSimpArgs false
namespace Go.Proofs.YtjhgknagmiekeaaGreat.G
open Go.RowKit Go.Lib Go.Proofs Go.Conc
open Go.Proofs.YtjhgknagmiekeaaGreatW.PrintWords hiding Kept
open Go.Proofs.YtjhgknagmiekeaaGreat.T
theorem mks_mk {b : Nat} {label : ByteArray} {leaf : Option Lf} {kids : List Nd} {mark m : Value} : m ∈ mks (.mk b label leaf kids mark) ↔ m = mark ∨ (∃ l, leaf = some l ∧ m = l.mark) ∨ ∃ k ∈ kids, m ∈ mks k := by
  rw [mks_eq]
  show m ∈ mark :: ((leaf.map (fun l => l.mark)).toList ++ mkss kids) ↔ _
  rw [List.mem_cons, List.mem_append, mkss_mem]
  cases leaf <;> simp
theorem mks_of (n : Nd) {m : Value} : m ∈ mks n ↔ m = n.mark ∨ (∃ l, n.leaf = some l ∧ m = l.mark) ∨ ∃ k ∈ n.kids, m ∈ mks k := by
  cases n; exact mks_mk
theorem mks_tip {rest : ByteArray} {l : Lf} {s : Nat × Value} {m : Value} (h : m ∈ mks (tipN rest l s)) : m = s.2 ∨ m = l.mark := by
  rcases mks_mk.1 h with h | ⟨l', h1, h2⟩ | ⟨k, h1, h2⟩
  · exact .inl h
  · cases h1; exact .inr h2
  · cases h1
theorem mks_low {k : Nd} {p b : Nat} {m : Value} (h : m ∈ mks (lowN k p b)) : m ∈ mks k := by
  rw [mks_of]
  exact mks_mk.1 h
theorem mks_split {k : Nd} {p : Nat} {rest : ByteArray} {l : Lf} {ns : Sup} {m : Value} (h : m ∈ mks (splitN k p rest l ns)) : m ∈ mks k ∨ m = l.mark ∨ ∃ j, m = (ns j).2 := by
  unfold splitN at h
  split at h
  · rcases mks_mk.1 h with h | ⟨l', h1, h2⟩ | ⟨x, h1, h2⟩
    · exact .inr (.inr ⟨_, h⟩)
    · cases h1; exact .inr (.inl h2)
    · rw [List.mem_singleton] at h1; subst h1; exact .inl (mks_low h2)
  · rcases mks_mk.1 h with h | ⟨l', h1, h2⟩ | ⟨x, h1, h2⟩
    · exact .inr (.inr ⟨_, h⟩)
    · cases h1
    · rcases mem_insAt h1 with e | e
      · subst e
        rcases mks_tip h2 with h3 | h3
        · exact .inr (.inr ⟨_, h3⟩)
        · exact .inr (.inl h3)
      · rw [List.mem_singleton] at e; subst e; exact .inl (mks_low h2)
theorem mks_ins : ∀ (N : Nat) (rest : ByteArray), rest.size ≤ N → ∀ (n : Nd) (l : Lf) (ns : Sup) (m : Value), m ∈ mks (insN n rest l ns) → m ∈ mks n ∨ m = l.mark ∨ ∃ j, m = (ns j).2 := by
  intro N
  induction N with
  | zero =>
    intro rest hN n l ns m h
    rw [insN, dif_pos (by omega)] at h
    rcases mks_mk.1 h with h | ⟨l', h1, h2⟩ | ⟨k, h1, h2⟩
    · exact .inr (.inr ⟨_, h⟩)
    · cases h1; exact .inr (.inl h2)
    · exact .inl (mks_kid h1 h2)
  | succ N ih =>
    intro rest hN n l ns m h
    rw [insN] at h
    split at h
    · rcases mks_mk.1 h with h | ⟨l', h1, h2⟩ | ⟨k, h1, h2⟩
      · exact .inr (.inr ⟨_, h⟩)
      · cases h1; exact .inr (.inl h2)
      · exact .inl (mks_kid h1 h2)
    · split at h
      · rcases mks_mk.1 h with h | ⟨l', h1, h2⟩ | ⟨k, h1, h2⟩
        · exact .inr (.inr ⟨_, h⟩)
        · exact .inl (by rw [h2]; exact mks_leaf h1)
        · rcases mem_insAt h1 with e | e
          · subst e
            rcases mks_tip h2 with h3 | h3
            · exact .inr (.inr ⟨_, h3⟩)
            · exact .inr (.inl h3)
          · exact .inl (mks_kid e h2)
      · rename_i k e
        obtain ⟨hh, hlt, ek⟩ := kidN_some e
        have hkm : k ∈ n.kids := by rw [← ek]; exact List.getElem_mem _
        split at h
        · rcases mks_mk.1 h with h | ⟨l', h1, h2⟩ | ⟨x, h1, h2⟩
          · exact .inr (.inr ⟨_, h⟩)
          · exact .inl (by rw [h2]; exact mks_leaf h1)
          · rcases List.mem_or_eq_of_mem_set h1 with e | e
            · exact .inl (mks_kid e h2)
            · subst e
              rcases ih _ (by simp only [ByteArray.size_extract]; omega) k l _ m h2 with h3 | h3 | ⟨j, h3⟩
              · exact .inl (mks_kid hkm h3)
              · exact .inr (.inl h3)
              · exact .inr (.inr ⟨j + 1, h3⟩)
        · rcases mks_mk.1 h with h | ⟨l', h1, h2⟩ | ⟨x, h1, h2⟩
          · exact .inr (.inr ⟨_, h⟩)
          · exact .inl (by rw [h2]; exact mks_leaf h1)
          · rcases List.mem_or_eq_of_mem_set h1 with e | e
            · exact .inl (mks_kid e h2)
            · subst e
              rcases mks_split h2 with h3 | h3 | h3
              · exact .inl (mks_kid hkm h3)
              · exact .inr (.inl h3)
              · exact .inr (.inr h3)
theorem mks_shaped {n s : Nd} {b : Nat} (h : shapedN n b = some s) {m : Value} (hm : m ∈ mks s) : m ∈ mks n := by
  rcases shaped_cases n b with ⟨e, _⟩ | ⟨_, _, e⟩ | ⟨k, hl, hk, e⟩
  · rw [e] at h; cases h; exact hm
  · rw [e] at h; cases h
  · rw [e] at h; cases h
    have hkm : k ∈ n.kids := by rw [hk]; simp
    refine mks_kid hkm ?_
    rw [mks_of]
    exact mks_mk.1 hm
theorem mks_del : ∀ (N : Nat) (rest : ByteArray), rest.size ≤ N → ∀ (n x : Nd) (ns : Sup) (l : Lf), delN n rest ns = some (x, l) → ∀ m ∈ mks x, m ∈ mks n ∨ ∃ j, m = (ns j).2 := by
  intro N
  induction N with
  | zero =>
    intro rest hN n x ns l h m hm
    rcases delN_some h with ⟨h0, h1, h2⟩ | ⟨h0, _⟩
    · rw [h2] at hm
      rcases mks_mk.1 hm with h | ⟨l', h1, h2⟩ | ⟨k, h1, h2⟩
      · exact .inr ⟨_, h⟩
      · cases h1
      · exact .inl (mks_kid h1 h2)
    · omega
  | succ N ih =>
    intro rest hN n x ns l h m hm
    rcases delN_some h with ⟨h0, h1, h2⟩ | ⟨h0, k, low, hd, hp, hdel, h2⟩
    · rw [h2] at hm
      rcases mks_mk.1 hm with h | ⟨l', h1, h2⟩ | ⟨k, h1, h2⟩
      · exact .inr ⟨_, h⟩
      · cases h1
      · exact .inl (mks_kid h1 h2)
    · rw [h2] at hm
      have hkm := (downN_some hd).1
      rcases mks_mk.1 hm with h | ⟨l', h1, h3⟩ | ⟨y, h1, h3⟩
      · exact .inr ⟨_, h⟩
      · exact .inl (by rw [h3]; exact mks_leaf h1)
      · rcases mem_putKid h1 with e | e
        · exact .inl (mks_kid e h3)
        · rcases ih (rest.extract k.label.size rest.size) (by simp only [ByteArray.size_extract]; omega) k low _ l hdel m (mks_shaped e h3) with h4 | ⟨j, h4⟩
          · exact .inl (mks_kid hkm h4)
          · exact .inr ⟨j + 2, h4⟩
theorem insM (w : World) (tb : Nat) (root : Nd) (h : Tr w tb root) (k : ByteArray) (v : Int) (hk : k.size < 4000000000000) (hs : (All root).length < 3999999999999) :
    Calls Tryz.prog 27 #[ptr tb, .string k, .int .i64 v] w fun e w' => ∃ tb' root', e = .returned (wasV tb' (valT root (L k))) ∧ Tr w' tb' root' ∧ (∀ r, valT root' r = if r = L k then some (.int .i64 v) else valT root r) ∧ (All root').length ≤ (All root).length + 1 ∧ (∀ m ∈ mks root', m ∈ mks root ∨ ∃ c, m = ptr (c + 1) ∧ w.heap.size ≤ c ∧ WatchAt w' (c + 1) c false) ∧ Below w.heap.size w w' := by
  refine (treeInsert w tb root _ v k h.at_ h.fine.ok h.fine.sm hk (by omega) (by omega)).mono ?_
  rintro e w' ⟨tb', lb, m, ns, had, old, rfl, h1, h2, h3, h4, h5, h6, hB⟩
  have hg := fine_ins h.fine k hk ⟨lb, k, .int .i64 v, m⟩ rfl ns
  have hl := len_ins h.fine.toGood k ⟨lb, k, .int .i64 v, m⟩ ns hg.toGood
  rw [find_eq h.fine.toGood] at h2
  refine ⟨tb', insN root k ⟨lb, k, .int .i64 v, m⟩ ns, ?_, ⟨?_, hg, vals_ins h.fine.toGood h.vals k _ v rfl ns⟩, valT_ins h.fine.toGood k _ ns, ?_, fun x hx => ?_, hB⟩
  · unfold valT
    cases e : findT root (L k) with
    | none => rw [e] at h2; cases h2; rfl
    | some l => rw [e] at h2; cases h2; rfl
  · have e : (All root).length + incr had = ((All (insN root k ⟨lb, k, .int .i64 v, m⟩ ns)).length : Int) := by
      rw [hl]
      cases e : findT root (L k) with
      | none => rw [e] at h2; cases h2; rfl
      | some l => rw [e] at h2; cases h2; rfl
    rw [← e]
    exact h1
  · have : (if findT root (L k) = none then (1 : Int) else 0) ≤ 1 := by split <;> omega
    omega
  · rcases mks_ins k.size k (Nat.le_refl _) root _ ns x hx with h7 | h7 | ⟨j, h7⟩
    · exact .inl h7
    · obtain ⟨c, e1, e2, e3, e4⟩ := h5
      exact .inr ⟨c, h7.trans e1, e2, e4, e3⟩
    · obtain ⟨c, e1, e2, e3, e4⟩ := h6.mark j
      exact .inr ⟨c, h7.trans e1, e2, e4, e3⟩
end Go.Proofs.YtjhgknagmiekeaaGreat.G
set_option linter.unusedVariables false
set_option linter.unusedSimpArgs false
namespace Go.Proofs.YtjhgknagmiekeaaGreat.G
open Go.RowKit Go.Lib Go.Proofs Go.Conc Go.Maps
open Go.Proofs.YtjhgknagmiekeaaGreatW.PrintWords hiding Kept
open Go.Proofs.YtjhgknagmiekeaaGreat.T (Nd NdAt ptr Tr L All valT wasV Lf)
structure Only (p : Nat → Prop) (w w' : World) : Prop where
  far : ∀ k, k < w.heap.size → ¬ p k → w'.heap[k]? = w.heap[k]?
  size : w.heap.size ≤ w'.heap.size
  below : ∀ B, B ≤ w.heap.size → (∀ k, k < w.heap.size → p k → B ≤ k) → Below B w w'
theorem Only.refl (p : Nat → Prop) (w : World) : Only p w w := ⟨fun _ _ _ => rfl, Nat.le_refl _, fun _ _ _ => Below.refl _ _⟩
theorem Only.of {p : Nat → Prop} {w w' : World} (h : Below w.heap.size w w') : Only p w w' := ⟨fun k hk _ => h.block k hk, h.size, fun B hB _ => h.mono hB⟩
theorem Only.trans {p q : Nat → Prop} {a b c : World} (h : Only p a b) (k : Only q b c) : Only (fun x => p x ∨ q x) a c := by
  refine ⟨fun x hx hn => (k.far x (Nat.lt_of_lt_of_le hx h.size) (fun e => hn (.inr e))).trans (h.far x hx (fun e => hn (.inl e))), Nat.le_trans h.size k.size, fun B hB hs => (h.below B hB (fun x hx hp => hs x hx (.inl hp))).trans (k.below B (Nat.le_trans hB h.size) (fun x hx hq => ?_))⟩
  by_cases hlt : x < a.heap.size
  · exact hs x hlt (.inr hq)
  · omega
theorem Only.imp {p q : Nat → Prop} {w w' : World} (h : Only p w w') (hp : ∀ k, k < w.heap.size → p k → q k) : Only q w w' := ⟨fun k hk hn => h.far k hk (fun e => hn (hp k hk e)), h.size, fun B hB hs => h.below B hB (fun k hk e => hs k hk (hp k hk e))⟩
theorem Only.put {p : Nat → Prop} {w w' : World} (h : Only p w w') (b j : Nat) (hb : p b ∨ w.heap.size ≤ b) (v : Value) : Only p w (w'.setCell ⟨b, j, none⟩ v) := by
  refine ⟨fun k hk hn => (Below.heap_setCell _ _ _ k (fun e => ?_)).trans (h.far k hk hn), by rw [size_setCellG]; exact h.size, fun B hB hs => below_put (h.below B hB hs) b j ?_ v⟩
  · have e2 : k = b := e
    rcases hb with hb | hb
    · exact hn (by rw [e2]; exact hb)
    · omega
  · rcases hb with hb | hb
    · by_cases hlt : b < w.heap.size
      · exact hs b hlt hb
      · omega
    · omega
theorem Only.at {p : Nat → Prop} {w w' : World} (h : Only p w w') {b : Nat} {o : Obj} (hb : w.heap[b]? = some o) (hp : ¬ p b) : w'.heap[b]? = some o := (h.far b (Array.getElem?_eq_some_iff.1 hb).1 hp).trans hb
theorem only_grown {w w' : World} {b : Nat} (h : w.grownBy w' (some b)) : Only (fun k => k = b) w w' := ⟨fun k hk hn => h.block k hk (fun e => hn (by injection e)), h.size, fun B hB hs => by
  by_cases hb : b < w.heap.size
  · exact T.below_grown h hB (fun k e => by injection e with e; rw [← e]; exact hs b hb rfl)
  · exact ⟨h.os, h.tape, h.output, h.size, fun k hk => h.block k (by omega) (fun e => by injection e with e; omega)⟩⟩
def TxnAt (w : World) (x b tx mb : Nat) (over : Bool) : Prop := w.heap[x]? = some (.cells #[ptr b, ptr tx, .map (some mb), .bool over] 117 (0, 0))
def Tch (w : World) (mb n : Nat) (D : DataW Unit) : Prop := w.ownsMap Tryz.prog 9 (plainElem Tryz.prog 3) mb n D
theorem BaseAt.move {w w' : World} {b v tb : Nat} {n : Int} {held : Bool} (h : BaseAt w b v tb n held) (h1 : w'.heap[b]? = w.heap[b]?) (h2 : w'.heap[v]? = w.heap[v]?) : BaseAt w' b v tb n held := ⟨h1.trans h.base, h2.trans h.ver⟩
theorem BaseAt.ne {w : World} {b v tb : Nat} {n : Int} {held : Bool} (h : BaseAt w b v tb n held) : b ≠ v := fun e => by
  have h1 := h.base
  rw [e, h.ver] at h1
  cases h1
set_option maxRecDepth 100000 in
set_option maxHeartbeats 1600000 in
theorem beginHeld (w : World) (b v tb : Nat) (n : Int) (h : BaseAt w b v tb n true) : Calls Tryz.prog 18 #[ptr b] w fun e w' => e = .returned (.tuple #[.pointer none, .int .i64 50]) ∧ w' = w := by
  have q := Aside0.mk (try_held ⟨b, 1, none⟩ w (by rw [blk_cell h.base]; rfl))
  clear h
  have hnot : ∀ (x : Bool) (w : World), (Op.unary .not (.bool x)).run Tryz.prog w = .ok (.bool (!x)) w := fun _ _ => rfl
  unfold ptr
  go_enter Tryz.func18, Tryz.ntmps18
  go_wp2_with (first | (go_at_call 43; refine q.out.mono ?_; rintro e w' ⟨rfl, hw⟩; subst hw))
  go_ret2
  exact ⟨rfl, rfl⟩
set_option maxRecDepth 100000 in
set_option maxHeartbeats 1600000 in
theorem beginFree (w : World) (b v tb : Nat) (n : Int) (h : BaseAt w b v tb n false) : Calls Tryz.prog 18 #[ptr b] w fun e w' => ∃ x mb, e = .returned (.tuple #[ptr x, .int .i64 0]) ∧ BaseAt w' b v tb n true ∧ TxnAt w' x b tb mb false ∧ Tch w' mb 0 (.map []) ∧ w.heap.size ≤ x ∧ w.heap.size ≤ mb ∧ mb < x ∧ Only (fun k => k = b) w w' := by
  have hb : b < w.heap.size := (Array.getElem?_eq_some_iff.1 h.base).1
  have q1 := Aside0.mk (try_free ⟨b, 1, none⟩ w (by rw [blk_cell h.base]; rfl) (blk_frozen h.base 1))
  obtain ⟨W1, eW1⟩ : ∃ W1, w.setCell ⟨b, 1, none⟩ (.int .i32 1) = W1 := ⟨_, rfl⟩
  have h1 : BaseAt W1 b v tb n true := ⟨by rw [← eW1]; exact set_atG h.base 1 _, by rw [← eW1]; exact (Below.heap_setCell _ _ _ v (Ne.symm h.ne)).trans h.ver⟩
  have q2 := Aside0.mk (baseTree W1 b v tb n true h1)
  have hsz : W1.heap.size = w.heap.size := by rw [← eW1, size_setCellG]
  have H1 := Aside0.mk (And.intro h1 (And.intro (show Only (fun k => k = b) w W1 from by rw [← eW1]; exact (Only.refl (fun k => k = b) w).put b 1 (.inl rfl) _) hsz))
  rw [eW1] at q1
  have hmm := @run_makeMap Tryz.prog
  clear h h1 hb eW1
  have hnot : ∀ (x : Bool) (w : World), (Op.unary .not (.bool x)).run Tryz.prog w = .ok (.bool (!x)) w := fun _ _ => rfl
  unfold ptr at q2 ⊢
  go_enter Tryz.func18, Tryz.ntmps18
  go_wp2_with (first | (go_at_call 43; refine q1.out.mono ?_; rintro e w' ⟨rfl, hw⟩; subst hw) | (go_at_call 12; refine q2.out.mono ?_; rintro e w' ⟨rfl, hw⟩; subst hw))
  go_ret2
  have hs1 : w'.heap.size = w.heap.size := H1.out.2.2
  have hb1 : Below w'.heap.size w' (w'.alloc (.map #[] 0)) := (Below.refl _ w').alloc (Nat.le_refl _) _
  have hb2 : Below w'.heap.size w' ((w'.alloc (.map #[] 0)).alloc (.cells #[ptr b, ptr tb, .map (some w.heap.size), .bool false] 117)) := hb1.alloc (by rw [World.size_alloc]; omega) _
  refine ⟨w.heap.size + 1, w.heap.size, rfl, H1.out.1.move (hb2.block _ (Array.getElem?_eq_some_iff.1 H1.out.1.base).1) (hb2.block _ (Array.getElem?_eq_some_iff.1 H1.out.1.ver).1), ?_, ?_, by omega, by omega, by omega, (H1.out.2.1.trans (Only.of (p := fun _ => False) hb2)).imp (fun k _ h => h.elim id (fun e => e.elim))⟩
  · have := heap_alloc_new (w'.alloc (.map #[] 0)) (.cells #[ptr b, ptr tb, .map (some w.heap.size), .bool false] 117)
    rw [World.size_alloc, hs1] at this
    exact this
  · have := World.ownsMap_made (H := Unit) w' Tryz.prog 9 (plainElem Tryz.prog 3)
    rw [hs1] at this
    exact this.alloc _
theorem was_form {root : Nd} (hv : T.IntVals root) (tb : Nat) (r : List UInt8) : ∃ (x : Int) (h : Bool), wasV tb (valT root r) = .tuple #[ptr tb, .int .i64 x, .bool h] := by
  unfold valT
  cases e : T.findT root r with
  | none => exact ⟨0, false, rfl⟩
  | some l =>
    obtain ⟨v, ev⟩ := hv _ _ e
    exact ⟨v, true, by show Value.tuple #[ptr tb, l.val, .bool true] = _; rw [ev]⟩
theorem keyOf_str (k : ByteArray) (hk : k.size < 4000000000000) : keyOf Tryz.prog 9 (.string k) = some (.string k.data.toList) := by
  have h : k.size ≤ maxLen := by unfold maxLen; omega
  simp [keyOf, mapKey, Tryz.underlying9, h]
set_option maxRecDepth 100000 in
set_option maxHeartbeats 4000000 in
theorem txnSet (w : World) (x b tx mb nn : Nat) (D : DataW Unit) (root : Nd) (hx : TxnAt w x b tx mb false) (hm : Tch w mb nn D) (hnn : nn < 1000000000000) (ht : Tr w tx root) (k : ByteArray) (v : Int) (hk : k.size < 4000000000000) (hs : (All root).length < 3999999999999) :
    Calls Tryz.prog 26 #[ptr x, .string k, .int .i64 v] w fun e w' => ∃ (old : Int) (had : Bool) (tx' : Nat) (root' : Nd) (c : Int), e = .returned (.tuple #[.int .i64 old, .bool had, .int .i64 0]) ∧ TxnAt w' x b tx' mb false ∧ Tch w' mb (nn + 1) (D.put (.string k.data.toList) (.lit (.int .i64 c))) ∧ Tr w' tx' root' ∧ (∀ r, valT root' r = if r = L k then some (.int .i64 v) else valT root r) ∧ (All root').length ≤ (All root).length + 1 ∧
      (∀ m ∈ mks root', m ∈ mks root ∨ ∃ c, m = ptr (c + 1) ∧ w.heap.size ≤ c ∧ WatchAt w' (c + 1) c false) ∧ Only (fun j => j = mb ∨ j = x) w w' := by
  obtain ⟨cv, hrun, hat, hwf⟩ := World.ownsMap.lookup_int hm (string_keyed Tryz.underlying9) Tryz.underlying115 Tryz.underlying3 (by kernel_rfl) (keyOf_str k hk)
  have x1 : w.cell? ⟨x, 1, none⟩ = some (ptr tx) := by rw [blk_cell hx]; rfl
  have x2 : w.cell? ⟨x, 2, none⟩ = some (.map (some mb)) := by rw [blk_cell hx]; rfl
  have x3 : w.cell? ⟨x, 3, none⟩ = some (.bool false) := by rw [blk_cell hx]; rfl
  have HX := Aside0.mk (And.intro hx (And.intro hm ht))
  have HK := Aside0.mk (keyOf_str k hk)
  clear hx hm ht hat
  unfold ptr at x1 ⊢
  go_enter Tryz.func26, Tryz.ntmps26
  go_upto_region 4 with fail
  go_wp2_with (at_mapUpdate; refine wpList_mapUpdate_own _ rfl _ _ _ 115 rfl 9 3 (string_keyed Tryz.underlying9) Tryz.underlying115 (plainElem Tryz.prog 3) mb nn D rfl HX.out.2.1 (by unfold maxLen; omega) _ _ (.string k.data.toList) rfl rfl HK.out (.lit (.int .i64 (wrap64 (cv + 1)))) [] (plainElem_int Tryz.underlying3 (RowKit.wrap64_wf _)) ?_)
  intro w1 hm1 hg1
  have ho1 := only_grown hg1
  have hlt : x < w.heap.size := (Array.getElem?_eq_some_iff.1 HX.out.1).1
  have hmx : mb ≠ x := fun e => by
    obtain ⟨es, cl, h1, -⟩ := HX.out.2.1
    rw [e, HX.out.1] at h1
    cases h1
  have hx1 := ho1.at HX.out.1 (fun e => hmx e.symm)
  have y1 : w1.cell? ⟨x, 1, none⟩ = some (.pointer (some ⟨tx, 0, none⟩)) := by rw [blk_cell hx1]; rfl
  have hfar1 : FarP (fun _ => false) w w1 := fun j cs t fr hj _ => ho1.at hj (fun e => by
    obtain ⟨es, cl, h1, -⟩ := HX.out.2.1
    rw [e, h1] at hj
    cases hj)
  have ht1 : Tr w1 tx root := hfar1.tr rfl rfl rfl rfl HX.out.2.2
  have q1 := Aside0.mk (insM w1 tx root ht1 k v hk hs)
  have HW := Aside0.mk (fun tb => was_form ht1.vals tb (L k))
  obtain ⟨o, eo⟩ : ∃ o, valT root (L k) = o := ⟨_, rfl⟩
  rw [eo] at q1 HW
  have H1 := Aside0.mk (And.intro hm1 (And.intro ho1 (And.intro hx1 (And.intro hmx ht1))))
  have HEO := Aside0.mk eo
  clear hm1 hg1 ho1 hx1 hfar1 ht1 x1 x2 x3 hrun eo
  unfold ptr at q1
  go_wp2_with fail
  go_at_call 27
  refine q1.out.mono ?_
  rintro e w2 ⟨tb', root', rfl, ht2, hv2, hl2, hm2, hb2⟩
  obtain ⟨ox, oh, eab⟩ := HW.out tb'
  rw [eab]
  have hx2 := (hb2.block _ (Array.getElem?_eq_some_iff.1 H1.out.2.2.1).1).trans H1.out.2.2.1
  have z1 : w2.cell? ⟨x, 1, none⟩ = some (.pointer (some ⟨tx, 0, none⟩)) := by rw [blk_cell hx2]; rfl
  have f1 : w2.frozen? ⟨x, 1, none⟩ = false := blk_frozen hx2 1
  have H2 := Aside0.mk (And.intro ht2 (And.intro hv2 (And.intro hl2 (And.intro hm2 (And.intro hb2 hx2)))))
  clear ht2 hv2 hl2 hm2 hb2 hx2 q1 HW eab y1
  unfold ptr
  go_wp2_with fail
  go_ret3
  have hfar : ∀ j, j ≠ x → (w2.setCell ⟨x, 1, none⟩ (ptr tb')).heap[j]? = w2.heap[j]? := fun j hj => Below.heap_setCell _ _ _ j hj
  have hfp : FarP (fun t => t == 117) w2 (w2.setCell ⟨x, 1, none⟩ (ptr tb')) := fun j cs t fr hj ht => (hfar j (fun e => by
    subst e
    rw [H2.out.2.2.2.2.2] at hj
    injection hj with e1
    injection e1 with _ e2 _
    rw [← e2] at ht
    cases ht)).trans hj
  have hb := H2.out.2.2.2.2.1
  have hmk : Tch w2 mb (nn + 1) (D.put (.string k.data.toList) (.lit (.int .i64 (wrap64 (cv + 1))))) := by
    have h9 := H1.out.1
    exact h9.kept (row := none) ⟨hb.os, hb.tape, hb.output, hb.size, fun i hi _ => hb.block i hi⟩ (by simp)
  refine ⟨ox, oh, tb', root', wrap64 (cv + 1), rfl, set_atG H2.out.2.2.2.2.2 1 _, hmk.setCell (a := ⟨x, 1, none⟩) H1.out.2.2.2.1 _, hfp.tr rfl rfl rfl rfl H2.out.1, H2.out.2.1, H2.out.2.2.1, fun m hm => ?_, ?_⟩
  · rcases H2.out.2.2.2.1 m hm with h | ⟨c, h1, h2, h3⟩
    · exact .inl h
    · refine .inr ⟨c, h1, Nat.le_trans H1.out.2.1.size h2, h3.move (hfar _ ?_) (hfar _ ?_)⟩
      · have := H1.out.2.1.size; omega
      · have := H1.out.2.1.size; omega
  · exact ((H1.out.2.1.trans (Only.of (p := fun j => j = x) hb)).put x 1 (.inl (.inr rfl)) _)
end Go.Proofs.YtjhgknagmiekeaaGreat.G
