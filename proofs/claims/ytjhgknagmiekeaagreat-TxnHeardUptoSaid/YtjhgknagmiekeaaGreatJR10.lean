/- joined: K13 V5 V7 V20 V6OA V21 D3 G16 H4 D4 H5 H7 -/
import Derived.Test.YtjhgknagmiekeaaGreatJR2
import Derived.Test.YtjhgknagmiekeaaGreatJR9
import Derived.Test.YtjhgknagmiekeaaGreatJR8
import Derived.Laws.Cover1
import Derived.Maps.AppendAt
import Derived.Stop.RegionWithIn
import Derived.Laws.EntriesVeiled
import Derived.Deep.RegionHeld3
import Derived.Test.YtjhgknagmiekeaaGreatJR7
import Derived.Test.YtjhgknagmiekeaaGreatJR5
import Derived.RangeFuncBox
import Derived.Sort.LoopGhostIn
-- Written by a program of this session (wip/tools/printfam.py) out of the translation; hand-proved contracts set in. Lean checks it.
namespace Go.Proofs.YtjhgknagmiekeaaGreat.K
open Go.RowKit Go.Proofs.YtjhgknagmiekeaaGreatW.PrintWords Go.Proofs.YtjhgknagmiekeaaGreatW.PrintLast Go.Proofs.YtjhgknagmiekeaaGreatW.PrintMore
attribute [local go_sem] max2_int min2_int max_two min_two max_three min_three max_four min_four   -- for this text's walks alone
set_option linter.unusedVariables false
set_option linter.unusedSimpArgs false
def strings_HasPrefix.f (a0 : ByteArray) (a1 : ByteArray) : Option (Bool) := (stringslite_HasPrefix.f a0 a1).bind fun t101 => (some t101)
set_option maxHeartbeats 8000000 in
set_option maxRecDepth 100000 in
theorem strings_HasPrefix.calls (a0 : ByteArray) (a1 : ByteArray) (r : Bool) (w : World) (h : strings_HasPrefix.f a0 a1 = some r) :
    Calls Tryz.prog 113 #[.string a0, .string a1] w fun e w' => e = .returned (.bool r) ∧ Drawn0 w w' := by
  have H : ((stringslite_HasPrefix.f a0 a1).bind fun t101 => (some t101)) = some r := h
  clear h
  replace H := Option.bind_eq_some_iff.mp H
  obtain ⟨t101, A30, H⟩ := H
  replace H : (some t101) = some r := H
  have A3 := Aside0.mk A30
  clear A30
  obtain rfl := Option.some.inj H
  go_enter Tryz.func113, Tryz.ntmps113
  go_wp2_with (first | ((with_reducible refine gate_callee (f := 141) rfl ?_); refine goesL_ (some 7) rfl rfl Tryz.func141 (by kernel_rfl) rfl #[.string a0, .string a1] rfl (by (try simp only [List.map_toArray, List.map_cons, List.map_nil]); first | done | rfl | (simp only [List.length_drop, List.length_take]; rfl)) ?_; (with_reducible refine (stringslite_HasPrefix.calls a0 a1 t101 _ A3.out).mono ?_); rintro e w' ⟨rfl, ⟨nd, rfl⟩⟩; refine ⟨_, rfl, ?_⟩))
  go_ret
  exact ⟨by first | rfl | (simp; done) | (simp [*]; done), by repeat (first | exact Drawn0.refl _ | apply Drawn0.step)⟩
end Go.Proofs.YtjhgknagmiekeaaGreat.K
set_option linter.unusedVariables false
set_option linter.unusedSimpArgs false
namespace Go.Proofs.YtjhgknagmiekeaaGreat.V
open Go.RowKit Go.Lib Go.Proofs Go.Proofs.YtjhgknagmiekeaaGreat.T Go.Proofs.YtjhgknagmiekeaaGreat.K
open Go.Proofs.YtjhgknagmiekeaaGreatW.PrintWords hiding blk_cell
def pre (a b : List UInt8) : Bool := b.isPrefixOf a
set_option maxHeartbeats 1600000 in
set_option maxRecDepth 100000 in
theorem neverC (q : ByteArray) (W : World) : Calls Tryz.prog 38 #[.string q] W fun e W' => e = .returned (.bool false) ∧ Below W.heap.size W W' := by
  go_enter Tryz.func38, Tryz.ntmps38
  go_wp2_with fail
  go_ret
  exact ⟨rfl, Below.refl _ _⟩
set_option maxHeartbeats 1600000 in
set_option maxRecDepth 100000 in
theorem alwaysC (q : ByteArray) (W : World) : Calls Tryz.prog 39 #[.string q] W fun e W' => e = .returned (.bool true) ∧ Below W.heap.size W W' := by
  go_enter Tryz.func39, Tryz.ntmps39
  go_wp2_with fail
  go_ret
  exact ⟨rfl, Below.refl _ _⟩
set_option maxHeartbeats 4000000 in
set_option maxRecDepth 100000 in
theorem walkedC (tb : Nat) (s k : Fn) (sa ka : Array Value) (w : World) : Calls Tryz.prog 37 #[ptr tb, .func s #[] sa, .func k #[] ka] w fun e w' => ∃ bt bs bk, e = .returned (.func (.func 72) #[] #[ptr bt, ptr bs, ptr bk]) ∧ w'.heap[bt]? = some (.cells #[ptr tb] 36 (0, 0)) ∧ w'.heap[bs]? = some (.cells #[.func s #[] sa] 105 (0, 0)) ∧ w'.heap[bk]? = some (.cells #[.func k #[] ka] 105 (0, 0)) ∧ Below w.heap.size w w' := by
  unfold ptr
  go_enter Tryz.func37, Tryz.ntmps37
  go_wp2_with fail
  go_ret
  refine ⟨w.heap.size, w.heap.size + 1, w.heap.size + 1 + 1, rfl, ?_, ?_, ?_, ?_⟩
  · rw [(Below.heap_alloc _ _ _ (by simp; omega)), (Below.heap_alloc _ _ _ (by simp))]
    exact World.alloc_heap_new w _
  · rw [(Below.heap_alloc _ _ _ (by simp))]
    have := World.alloc_heap_new (w.alloc (Obj.cells #[Value.pointer (some { block := tb, off := 0 })] 36)) (Obj.cells #[Value.func s #[] sa] 105)
    rwa [World.size_alloc] at this
  · have := World.alloc_heap_new ((w.alloc (Obj.cells #[Value.pointer (some { block := tb, off := 0 })] 36)).alloc (Obj.cells #[Value.func s #[] sa] 105)) (Obj.cells #[Value.func k #[] ka] 105)
    rwa [World.size_alloc, World.size_alloc] at this
  · exact (((Below.refl _ w).alloc (Nat.le_refl _) _).alloc (by simp) _).alloc (by simp; omega) _
set_option maxHeartbeats 4000000 in
set_option maxRecDepth 100000 in
theorem allC (tb : Nat) (w : World) : Calls Tryz.prog 13 #[ptr tb] w fun e w' => ∃ bt bs bk, e = .returned (.func (.func 72) #[] #[ptr bt, ptr bs, ptr bk]) ∧ w'.heap[bt]? = some (.cells #[ptr tb] 36 (0, 0)) ∧ w'.heap[bs]? = some (.cells #[.func (.func 38) #[] #[]] 105 (0, 0)) ∧ w'.heap[bk]? = some (.cells #[.func (.func 39) #[] #[]] 105 (0, 0)) ∧ Below w.heap.size w w' := by
  have q := Aside0.mk (fun w1 => walkedC tb (.func 38) (.func 39) #[] #[] w1)
  unfold ptr at q ⊢
  go_enter Tryz.func13, Tryz.ntmps13
  go_wp2_with (go_at_call 37; refine (q.out _).mono ?_)
  rintro e w' ⟨bt, bs, bk, rfl, h1, h2, h3, h4⟩
  have H := Aside0.mk (And.intro h1 (And.intro h2 (And.intro h3 h4)))
  clear h1 h2 h3 h4 q
  go_wp2_with fail
  go_ret
  exact ⟨bt, bs, bk, rfl, H.out.1, H.out.2.1, H.out.2.2.1, H.out.2.2.2⟩
end Go.Proofs.YtjhgknagmiekeaaGreat.V
set_option linter.unusedVariables false
set_option linter.unusedSimpArgs false
namespace Go.Proofs.YtjhgknagmiekeaaGreat.V
open Go.RowKit Go.Lib Go.Proofs Go.Shelf Go.Proofs.YtjhgknagmiekeaaGreat.T
open Go.Proofs.YtjhgknagmiekeaaGreatW.PrintWords hiding blk_cell
attribute [local go_sem] Oper.semAt_some
theorem kpT {n₁ : Nat} {M : Nat → Prop} {A B C : World} (h : KpM n₁ M A B) (k : KpM n₁ M B C) : KpM n₁ M A C := h.trans k
end Go.Proofs.YtjhgknagmiekeaaGreat.V
set_option linter.unusedVariables false
set_option linter.unusedSimpArgs false
namespace Go.Proofs.YtjhgknagmiekeaaGreat.V
open Go.RowKit Go.Lib Go.Proofs Go.Proofs.YtjhgknagmiekeaaGreat.T
variable {F : Fence} {n : Nat} {P : Program}
def Quiet (t : TypeId) : Prop := t = 4 ∨ t = 9 ∨ t = 36 ∨ t = 161 ∨ t = 105 ∨ t = 158 ∨ t = 190
def qObj (o : Obj) : Prop := o.isCells = false ∨ ∃ cs t fr, o = .cells cs t fr ∧ Quiet t
structure KeepsU (B : Nat) (W W' : World) : Prop where
  size : W.heap.size ≤ W'.heap.size
  same : ∀ (k : Nat) (o : Obj), B ≤ k → W.heap[k]? = some o → qObj o → W'.heap[k]? = some o
theorem KeepsU.trans {B : Nat} {X Y Z : World} (h : KeepsU B X Y) (k : KeepsU B Y Z) : KeepsU B X Z := ⟨Nat.le_trans h.size k.size, fun i o hB hi ho => k.same i o hB (h.same i o hB hi ho) ho⟩
theorem KeepsU.of {B : Nat} {W W' : World} (h : Below W.heap.size W W') : KeepsU B W W' := ⟨h.size, fun k o _ hk _ => (Kept.of h).at hk⟩
theorem KeepsU.refl (B : Nat) (W : World) : KeepsU B W W := KeepsU.of (Below.refl _ _)
theorem KeepsU.up {B B' : Nat} {W W' : World} (h : KeepsU B W W') (hB : B ≤ B') : KeepsU B' W W' := ⟨h.size, fun k o hk h1 h2 => h.same k o (Nat.le_trans hB hk) h1 h2⟩
theorem KeepsU.put {B l : Nat} (W : World) (o : Obj) (h : l < B) : KeepsU B W (W.putObj l o) := by
  have hg := grownBy_putObj' W l o
  exact ⟨hg.size, fun k x hk h1 _ => (hg.block k (Array.getElem?_eq_some_iff.1 h1).1 (fun e => by cases e; omega)).trans h1⟩
theorem KeepsU.set {B b : Nat} (W : World) (v : Value) (h : b < B) : KeepsU B W (W.setCell ⟨b, 0, none⟩ v) := by
  have hg := grownBy_setCell' W b v
  exact ⟨hg.size, fun k x hk h1 _ => (hg.block k (Array.getElem?_eq_some_iff.1 h1).1 (fun e => by cases e; omega)).trans h1⟩
def ownPostU {α : Type} (B : Nat) (Kp : World → World → Prop) (I : List α → World → Prop) (Ix : Code → List α → World → Prop) (xs : List α) (W : World) : Exit → Act → World → Prop
  | .normal, _, W' => KeepsU B W W' ∧ Kp W W' ∧ I xs W'
  | .ret, _, W' => KeepsU B W W' ∧ Ix .ret xs W'
  | .exit id, _, W' => KeepsU B W W' ∧ Ix (.exit id) xs W'
  | .goto t, _, W' => KeepsU B W W' ∧ Ix (.goto t) xs W'
  | .panic _, _, _ => False
  | .outgrown, _, _ => False
def OwnT {β : Type} (B : Nat) (I : β → World → Prop) : Prop :=
  ∀ s W W' row, I s W → W.grownBy W' row → (∀ r, row = some r → B ≤ r ∧ ∃ o : Obj, W.heap[r]? = some o ∧ (o.isCells = false ∨ ∃ b : Bool, o = .cells #[.bool b] 4 (0, 0))) → I s W'
theorem OwnT.putObj {β : Type} {B : Nat} {I : β → World → Prop} (h : OwnT B I) {s : β} {W : World} {l : Nat} {o : Obj} (o' : Obj) (hs : I s W) (hB : B ≤ l) (hl : W.heap[l]? = some o) (ho : o.isCells = false) : I s (W.putObj l o') :=
  h s W _ (some l) hs (grownBy_putObj' W l o') (fun r e => by cases e; exact ⟨hB, o, hl, .inl ho⟩)
theorem OwnT.alloc {β : Type} {B : Nat} {I : β → World → Prop} (h : OwnT B I) {s : β} {W : World} (o : Obj) (hs : I s W) : I s (W.alloc o) :=
  h s W _ none hs (World.grownBy_alloc W o none) (fun r e => by cases e)
theorem OwnT.and {β : Type} {B : Nat} {I I' : β → World → Prop} (h : OwnT B I) (h' : OwnT B I') : OwnT B (fun s W => I s W ∧ I' s W) := fun s W W' row hs hg hr => ⟨h s W W' row hs.1 hg hr, h' s W W' row hs.2 hg hr⟩
theorem OwnT.bool {β : Type} {B : Nat} {I : β → World → Prop} (h : OwnT B I) {s : β} {W : World} {l : Nat} {b : Bool} (v' : Value) (hs : I s W) (hB : B ≤ l) (hl : Boxed W l 4 (.bool b)) : I s (W.setCell ⟨l, 0, none⟩ v') :=
  h s W _ (some l) hs (grownBy_setCell' W l v') (fun r e => by cases e; exact ⟨hB, _, hl, .inr ⟨b, rfl⟩⟩)
def SeqO {α : Type} (F : Fence) (n : Nat) (P : Program) (g : Nat) (lb : Array Value) (encs : α → Array Value) (Kp : World → World → Prop) (Ok S Sp : List α → Prop) (N : Nat) (w : World) : Prop :=
  ∀ (l : Nat) (J Jx : List α → World → Prop) (W : World), Below w.heap.size w W → l < W.heap.size → OwnT W.heap.size J → OwnT W.heap.size Jx →
    (∀ m pre x W1, J pre W1 → pre.length < N → Ok (pre ++ [x]) → YieldAt F m P l (encs x) W1 fun e W' => KeepsU W.heap.size W1 W' ∧ ((e = .returned (.bool true) ∧ J (pre ++ [x]) W' ∧ Kp W1 W') ∨ (e = .returned (.bool false) ∧ Jx (pre ++ [x]) W'))) →
    J [] W → CallsIn F n P g (#[.func (.yield l) #[] #[]] ++ lb) W fun e W' => (∃ v, e = .returned v) ∧ ((∃ xs, S xs ∧ J xs W') ∨ (∃ pre, Sp pre ∧ Jx pre W'))
theorem ownBelow {β : Type} {B : Nat} {J : β → World → Prop} (h : OwnT B J) {s : β} {W W' : World} (hs : J s W) (hb : Below W.heap.size W W') : J s W' :=
  h s W W' none hs ⟨hb.os, hb.tape, hb.output, hb.size, fun k hk _ => hb.block k hk⟩ (fun r e => by cases e)
theorem keep_old {A B : World} {row : Option Nat} {n0 k : Nat} {o : Obj} (hg : A.grownBy B row) (hr : ∀ r, row = some r → n0 ≤ r) (hk : k < n0) (h : A.heap[k]? = some o) : B.heap[k]? = some o :=
  (hg.block k (Array.getElem?_eq_some_iff.1 h).1 (fun e => by have := hr k e.symm; omega)).trans h
theorem wpIn_rangeFuncO {α : Type} {g : Operand} {ps : Array Tmp} {assign body : Code} {Q : Exit → Act → World → Prop} {a : Act} {w : World}
    (hro : F.round = none) (h1 : 1 ≤ n) {gf : Nat} {lb : Array Value} (hg : a.eval g = .func (.func gf) #[] lb) (hFg : F.fn gf) (eg : ∀ args w, (callFunc gf args).run P w = .ok (.enter gf args) w)
    {encs : α → Array Value} {Kp : World → World → Prop} {Ok S Sp : List α → Prop} {N : Nat} {w0 : World} (hseq : SeqO F (n - 1) P gf lb encs Kp Ok S Sp N w0)
    (hKt : ∀ {A B C : World}, Kp A B → Kp B C → Kp A C) (hKb : ∀ (W : World) (o o' : Obj), W.heap[w.heap.size + 1]? = some o → o.isCells = false → Kp W (W.putObj (w.heap.size + 1) o')) (hb0 : Below w0.heap.size w0 w) (hps : ∀ x, (encs x).size = ps.size)
    (I : List α → World → Prop) (Ix : Code → List α → World → Prop) (hI : OwnT w.heap.size I) (hIx : ∀ c, OwnT w.heap.size (Ix c)) (h0 : I [] w) (Ax : α → Act → World → Prop) (hAx : ∀ x a', OwnT w.heap.size (fun (_ : Unit) W => Ax x a' W))
    (hassign : ∀ (l m : Nat) (pre : List α) (x : α) (W : World) (K : Act → World → Prop), I pre W → Ok (pre ++ [x]) → (∀ a' W', KeepsU w.heap.size W W' → Kp W W' → I pre W' → Ax x a' W' → K a' W') →
      assign.wpIn (F.inRound l) m P (Exit.then K (fun _ _ _ => False)) { tmps := (ps.zip (encs x)).foldl (fun t (p, v) => t.setIfInBounds p v) a.tmps, defers := [] } W)
    (hbody : ∀ (l m : Nat) (pre : List α) (x : α) (a' : Act) (W : World), w.heap.size ≤ l → (∃ r, W.heap[l]? = some (.loop r)) → w.heap.size + 2 ≤ W.heap.size → I pre W → Ax x a' W → pre.length < N → Ok (pre ++ [x]) → body.wpIn (F.inRound l) m P (ownPostU w.heap.size Kp I Ix (pre ++ [x]) W) a' W)
    (hdone : ∀ (D : Nat) (xs : List α) (W : World), w.heap.size ≤ D → S xs → I xs W → W.heap[D]? = some (.deferred (some [])) → Q .normal { a with defers := { target := .collected D, args := #[] } :: a.defers } W)
    (hstop : ∀ (D : Nat) (c : Code) (pre : List α) (W : World), w.heap.size ≤ D → Sp pre → Ix c pre W → W.heap[D]? = some (.deferred (some [])) → c.wpIn F n P Q { a with defers := { target := .collected D, args := #[] } :: a.defers } W) :
    (Code.rangeFunc g ps assign body).wpIn F n P Q a w := by
  refine wpIn_rangeFunc ?_
  intro fn hfn
  rw [hro]
  obtain ⟨rec, hrec⟩ : ∃ rec : LoopState → Option Code → Loop, rec = fun st pe => { state := st, pending := pe, fn, tmps := a.tmps, params := ps, assign, body, defers := w.heap.size } := ⟨_, rfl⟩
  obtain ⟨W1, hW1⟩ : ∃ W1, (w.alloc (.deferred (some []))).alloc (.loop (rec .ready none)) = W1 := ⟨_, rfl⟩
  have hs1 : W1.heap.size = w.heap.size + 2 := by rw [← hW1]; simp
  have hL1 : W1.heap[w.heap.size + 1]? = some (.loop (rec .ready none)) := by
    rw [← hW1]; have := World.alloc_heap_new (w.alloc (.deferred (some []))) (.loop (rec .ready none)); rwa [World.size_alloc] at this
  have hK1 : W1.heap[w.heap.size]? = some (.deferred (some [])) := by
    rw [← hW1]; exact (Below.heap_alloc _ _ _ (by simp)).trans (World.alloc_heap_new w _)
  have hI1 : I [] W1 := by rw [← hW1]; exact hI.alloc _ (hI.alloc _ h0)
  have hb1 : Below w0.heap.size w0 W1 := by
    rw [← hW1]; exact hb0.trans ((((Below.refl _ w).alloc (Nat.le_refl _) _).alloc (by simp) _).mono hb0.size)
  refine ⟨w.heap.size + 1, [{ target := .collected w.heap.size, args := #[] }], W1, { target := .fn (.func gf) lb, args := #[.func (.yield (w.heap.size + 1)) #[] #[]] }, W1, gf,
    #[.func (.yield (w.heap.size + 1)) #[] #[]] ++ lb, W1, ?_, ?_, ?_, ?_, fun _ => h1, ?_⟩
  · rw [← hW1, hrec]; exact run_enterLoop_outer _ _ _ _ _
  · simp only [resolve, hg]
    simp [go_sem]
  · intro f' hf'; simp [Target.leads] at hf'; subst hf'; exact hFg
  · simp [invoke, go_sem, eg]
  · refine (hseq (w.heap.size + 1)
      (fun pre W => (I pre W ∧ w.heap.size + 2 ≤ W.heap.size) ∧ W.heap[w.heap.size + 1]? = some (.loop (rec .ready none)) ∧ W.heap[w.heap.size]? = some (.deferred (some [])))
      (fun pre W => ∃ c, Ix c pre W ∧ W.heap[w.heap.size + 1]? = some (.loop (rec .done (some c))) ∧ W.heap[w.heap.size]? = some (.deferred (some [])))
      W1 hb1 (by omega)
      (fun s A B row hs hg' hr => ⟨⟨hI s A B row hs.1.1 hg' (fun r e => ⟨by have := (hr r e).1; omega, (hr r e).2⟩), Nat.le_trans hs.1.2 hg'.size⟩, keep_old hg' (fun r e => (hr r e).1) (by omega) hs.2.1, keep_old hg' (fun r e => (hr r e).1) (by omega) hs.2.2⟩)
      (fun s A B row hs hg' hr => by
        obtain ⟨c, hc, hl, hk⟩ := hs
        exact ⟨c, hIx c s A B row hc hg' (fun r e => ⟨by have := (hr r e).1; omega, (hr r e).2⟩), keep_old hg' (fun r e => (hr r e).1) (by omega) hl, keep_old hg' (fun r e => (hr r e).1) (by omega) hk⟩)
      ?_ ⟨⟨hI1, by omega⟩, hL1, hK1⟩).mono ?_
    · rintro m pre x W ⟨⟨hi, hsz⟩, hl, hk⟩ hlen hok
      have hlt : w.heap.size + 1 < W.heap.size := (Array.getElem?_eq_some_iff.1 hl).1
      have hy := run_yield (P := P) (args := encs x) hl (by rw [hrec]; exact hps x)
      rw [hrec] at hy
      refine ⟨fn, _, assign, body, hy, roundIn_of_wpIn hfn (hassign _ _ pre x W _ hi hok ?_)⟩
      clear hy
      intro a' Wa hkfa hkpa hia hax
      replace hl := hkfa.same _ _ (by omega) hl (.inl rfl)
      replace hk := hkfa.same _ _ (Nat.le_refl _) hk (.inl rfl)
      replace hsz : w.heap.size + 2 ≤ Wa.heap.size := Nat.le_trans hsz hkfa.size
      replace hlt : w.heap.size + 1 < Wa.heap.size := (Array.getElem?_eq_some_iff.1 hl).1
      refine ⟨_, run_beginRound hl (by rw [hrec]), ?_⟩
      have hl2 : (Wa.putObj (w.heap.size + 1) (.loop { rec .ready none with state := .busy })).heap[w.heap.size + 1]? = some (.loop { rec .ready none with state := .busy }) := World.putObj_heap_same hlt
      have hk2 : (Wa.putObj (w.heap.size + 1) (.loop { rec .ready none with state := .busy })).heap[w.heap.size]? = some (.deferred (some [])) := (World.putObj_heap_other (by omega)).trans hk
      have hw2 : Kp Wa (Wa.putObj (w.heap.size + 1) (.loop { rec .ready none with state := .busy })) := hKb _ _ _ hl rfl
      have hg2 := (grownBy_putObj' Wa (w.heap.size + 1) (.loop { rec .ready none with state := .busy })).size
      refine wpIn_mono (hbody _ _ pre x a' _ (by omega) ⟨_, hl2⟩ (Nat.le_trans hsz hg2) (hI.putObj _ hia (by omega) hl rfl) ((hAx x a').putObj (s := ()) _ hax (by omega) hl rfl) hlen hok) ?_
      have fin : ∀ (jump : Option Code) (W3 : World), KeepsU w.heap.size (Wa.putObj (w.heap.size + 1) (.loop { rec .ready none with state := .busy })) W3 →
          (Instr.endRound (w.heap.size + 1) jump).run P W3 = .ok (.bool jump.isNone) (W3.putObj (w.heap.size + 1) (.loop (rec (if jump.isNone then .ready else .done) jump))) ∧
          W3.heap[w.heap.size + 1]? = some (.loop { rec .ready none with state := .busy }) ∧
          (W3.putObj (w.heap.size + 1) (.loop (rec (if jump.isNone then .ready else .done) jump))).heap[w.heap.size + 1]? = some (.loop (rec (if jump.isNone then .ready else .done) jump)) ∧
          (W3.putObj (w.heap.size + 1) (.loop (rec (if jump.isNone then .ready else .done) jump))).heap[w.heap.size]? = some (.deferred (some [])) ∧
          w.heap.size + 2 ≤ (W3.putObj (w.heap.size + 1) (.loop (rec (if jump.isNone then .ready else .done) jump))).heap.size := fun jump W3 hk3 => by
        have hl3 := hk3.same _ _ (by omega) hl2 (.inl rfl)
        have := run_endRound (P := P) jump hl3
        have h9 := (Array.getElem?_eq_some_iff.1 hl3).1
        have h8 := (grownBy_putObj' W3 (w.heap.size + 1) (.loop (rec (if jump.isNone then .ready else .done) jump))).size
        rw [hrec] at this ⊢
        rw [hrec] at h8
        exact ⟨this, by rw [hrec] at hl3; exact hl3, World.putObj_heap_same h9, (World.putObj_heap_other (by omega)).trans (hk3.same _ _ (Nat.le_refl _) hk2 (.inl rfl)), by omega⟩
      have kf : ∀ (W3 : World) (o : Obj), KeepsU w.heap.size (Wa.putObj (w.heap.size + 1) (.loop { rec .ready none with state := .busy })) W3 → KeepsU W1.heap.size W (W3.putObj (w.heap.size + 1) o) := fun W3 o hk3 =>
        (((hkfa.up (by omega)).trans (KeepsU.put Wa _ (by omega))).trans (hk3.up (by omega))).trans (KeepsU.put W3 o (by omega))
      rintro e a3 W3 hp
      cases e with
      | normal =>
        obtain ⟨hk3, hkp3, hi3⟩ := hp
        obtain ⟨hr, hl3, hl4, hk4, hs4⟩ := fin none W3 hk3
        exact ⟨_, _, hr, kf _ _ hk3, .inl ⟨rfl, ⟨⟨hI.putObj _ hi3 (by omega) hl3 rfl, hs4⟩, hl4, hk4⟩, hKt hkpa (hKt (hKt hw2 hkp3) (hKb _ _ _ hl3 rfl))⟩⟩
      | ret =>
        obtain ⟨hk3, hi3⟩ := hp
        obtain ⟨hr, hl3, hl4, hk4, hs4⟩ := fin (some .ret) W3 hk3
        exact ⟨_, _, hr, kf _ _ hk3, .inr ⟨rfl, .ret, (hIx _).putObj _ hi3 (by omega) hl3 rfl, hl4, hk4⟩⟩
      | exit id =>
        obtain ⟨hk3, hi3⟩ := hp
        obtain ⟨hr, hl3, hl4, hk4, hs4⟩ := fin (some (.exit id)) W3 hk3
        exact ⟨_, _, hr, kf _ _ hk3, .inr ⟨rfl, .exit id, (hIx _).putObj _ hi3 (by omega) hl3 rfl, hl4, hk4⟩⟩
      | goto t =>
        obtain ⟨hk3, hi3⟩ := hp
        obtain ⟨hr, hl3, hl4, hk4, hs4⟩ := fin (some (.goto t)) W3 hk3
        exact ⟨_, _, hr, kf _ _ hk3, .inr ⟨rfl, .goto t, (hIx _).putObj _ hi3 (by omega) hl3 rfl, hl4, hk4⟩⟩
      | panic ch => exact hp.elim
      | outgrown => exact hp.elim
    · rintro e W2 ⟨⟨v, rfl⟩, (⟨xs, hS, ⟨hi, -⟩, hl, hk⟩ | ⟨pre, hSp, c, hi, hl, hk⟩)⟩
      · exact ⟨none, _, by have := run_endLoop (P := P) hl (by rw [hrec]; simp); rw [hrec] at this; exact this, hdone _ xs _ (Nat.le_refl _) hS (hI.putObj _ hi (by omega) hl rfl) ((World.putObj_heap_other (by omega)).trans hk)⟩
      · exact ⟨some c, _, by have := run_endLoop (P := P) hl (by rw [hrec]; simp); rw [hrec] at this; exact this, hstop _ c pre _ (Nat.le_refl _) hSp ((hIx c).putObj _ hi (by omega) hl rfl) ((World.putObj_heap_other (by omega)).trans hk)⟩
end Go.Proofs.YtjhgknagmiekeaaGreat.V
set_option linter.unusedVariables false
set_option linter.unusedSimpArgs false
namespace Go.Proofs.YtjhgknagmiekeaaGreat.VOA
open Go.RowKit Go.Lib Go.Proofs Go.Proofs.YtjhgknagmiekeaaGreat.T Go.Proofs.YtjhgknagmiekeaaGreat.V
open Go.Proofs.YtjhgknagmiekeaaGreatW.PrintWords hiding blk_cell
theorem seq (w : World) (n NN n₁ : Nat) (M : Nat → Prop) (wB : World) (hkB : Kept wB w) (hnB : wB.heap.size ≤ n₁) (hnw : n₁ ≤ w.heap.size) (hM : ∀ k, k < wB.heap.size → ¬ M k)
    (tb : Nat) (root : Nd) (ht : Tr wB tb root) (bt bs bk : Nat) (hc : Closed w bt bs bk tb) (hNN : (ovr (fun _ => false) (fun _ => true) ⟨#[]⟩ root).length ≤ NN) :
    SeqO Fence.wide n Tryz.prog 72 #[ptr bt, ptr bs, ptr bk] (fun x : ByteArray × Int => #[.string x.1, .int .i64 x.2]) (KpM n₁ M) (fun ys => ys <+: (ovr (fun _ => false) (fun _ => true) ⟨#[]⟩ root)) (fun ys => ys = (ovr (fun _ => false) (fun _ => true) ⟨#[]⟩ root)) (fun ys => ys <+: (ovr (fun _ => false) (fun _ => true) ⟨#[]⟩ root)) NN w := by
  intro l J Jx W hw hl hJ hJx hY hJ0
  have hk : Kept w W := Kept.of hw
  have hc2 : Closed W bt bs bk tb := ⟨hk.at hc.1, hk.at hc.2.1, hk.at hc.2.2⟩
  refine callsIn_wide.2 (walked_calls l n₁ (fun ys => ys <+: (ovr (fun _ => false) (fun _ => true) ⟨#[]⟩ root)) (fun a b h => (List.prefix_append a b).trans h) M J Jx (fun s W1 W2 hs hb => ownBelow hJ hs hb) (fun m pre x W1 h1 h2 => (hY m pre x W1 h1 (by have := h2.length_le; rw [List.length_append, List.length_singleton] at this; omega) h2).mono (fun e W' h => h.2)) W wB (hkB.trans hk (Nat.le_trans hnB hnw)) hnB hM (fun _ => false) (fun _ => true)
    (fun q W1 h1 => neverC q W1) (fun q W1 h1 => alwaysC q W1) tb root ht bt bs bk W hc2 (Stnd.refl W n₁ M) (Nat.le_trans hnw hw.size) hJ0 (List.prefix_refl _))
end Go.Proofs.YtjhgknagmiekeaaGreat.VOA
set_option linter.unusedVariables false
set_option linter.unusedSimpArgs false
namespace Go.Proofs.YtjhgknagmiekeaaGreat.V
open Go.RowKit Go.Lib Go.Proofs Go.Proofs.YtjhgknagmiekeaaGreat.T Go.Proofs.YtjhgknagmiekeaaGreat.VOA
open Go.Proofs.YtjhgknagmiekeaaGreatW.PrintWords hiding blk_cell
attribute [local go_sem] Oper.semAt_some
structure KpT (n₁ : Nat) (M : Nat → Prop) (W W' : World) : Prop where
  size : W.heap.size ≤ W'.heap.size
  low : ∀ (k : Nat) (o : Obj), W.heap[k]? = some o → k < n₁ → ¬ M k → W'.heap[k]? = some o
  typ : ∀ (k : Nat) (cs : Array Value) (t : TypeId) (fr : Nat × Nat), Quiet t → W.heap[k]? = some (Obj.cells cs t fr) → W'.heap[k]? = some (Obj.cells cs t fr)
theorem KpT.trans {n₁ : Nat} {M : Nat → Prop} {A B C : World} (h : KpT n₁ M A B) (k : KpT n₁ M B C) : KpT n₁ M A C :=
  ⟨Nat.le_trans h.size k.size, fun i o hi h1 h2 => k.low i o (h.low i o hi h1 h2) h1 h2, fun i cs t fr ht hi => k.typ i cs t fr ht (h.typ i cs t fr ht hi)⟩
theorem KpT.of {n₁ : Nat} {M : Nat → Prop} {W W' : World} (h : Below W.heap.size W W') : KpT n₁ M W W' :=
  ⟨h.size, fun k o hk _ _ => (Kept.of h).at hk, fun k cs t fr _ hk => (Kept.of h).at hk⟩
theorem KpT.putObj {n₁ : Nat} {M : Nat → Prop} (W : World) (l : Nat) (o o' : Obj) (hn : n₁ ≤ l) (hl : W.heap[l]? = some o) (hc : o.isCells = false) : KpT n₁ M W (W.putObj l o') := by
  have hg := grownBy_putObj' W l o'
  refine ⟨hg.size, fun k x hk h1 h2 => ?_, fun k cs t fr _ hk => ?_⟩
  · exact (hg.block k (Array.getElem?_eq_some_iff.1 hk).1 (fun e => by cases e; omega)).trans hk
  · refine (hg.block k (Array.getElem?_eq_some_iff.1 hk).1 (fun e => ?_)).trans hk
    cases e
    rw [hk] at hl
    cases hl
    cases hc
structure KpQ (W W' : World) : Prop where
  size : W.heap.size ≤ W'.heap.size
  typ : ∀ (k : Nat) (cs : Array Value) (t : TypeId) (fr : Nat × Nat), Quiet t → W.heap[k]? = some (Obj.cells cs t fr) → W'.heap[k]? = some (Obj.cells cs t fr)
theorem KpQ.trans {A B C : World} (h : KpQ A B) (k : KpQ B C) : KpQ A C := ⟨Nat.le_trans h.size k.size, fun i cs t fr ht hi => k.typ i cs t fr ht (h.typ i cs t fr ht hi)⟩
theorem KpQ.of {W W' : World} (h : Below W.heap.size W W') : KpQ W W' := ⟨h.size, fun k cs t fr _ hk => (Kept.of h).at hk⟩
theorem KpT.q {n₁ : Nat} {M : Nat → Prop} {W W' : World} (h : KpT n₁ M W W') : KpQ W W' := ⟨h.size, h.typ⟩
theorem KpQ.putObj (W : World) (l : Nat) (o o' : Obj) (hl : W.heap[l]? = some o) (hc : o.isCells = false) : KpQ W (W.putObj l o') := by
  have hg := grownBy_putObj' W l o'
  refine ⟨hg.size, fun k cs t fr _ hk => ?_⟩
  refine (hg.block k (Array.getElem?_eq_some_iff.1 hk).1 (fun e => ?_)).trans hk
  cases e
  rw [hk] at hl
  cases hl
  cases hc
theorem ownT_size {β : Type} {B : Nat} (n : Nat) : OwnT B (fun (_ : β) W => n ≤ W.heap.size) := fun _ X Y row hs hg hr => Nat.le_trans hs hg.size
theorem ownT_old {β : Type} {B : Nat} (b : Nat) (f : β → Obj) (hb : b < B) : OwnT B (fun s W => W.heap[b]? = some (f s)) := fun _ X Y row hs hg hr => keep_old hg (fun r e => (hr r e).1) hb hs
theorem ownT_below {β : Type} {B n : Nat} {w : World} (hn : n ≤ w.heap.size) (hB : n ≤ B) : OwnT B (fun (_ : β) W => Below n w W) := fun _ X Y row hs hg hr => hs.grown hg (Nat.le_trans hn hs.size) (fun k e => Nat.le_trans hB (hr k e).1)
end Go.Proofs.YtjhgknagmiekeaaGreat.V
set_option linter.unusedVariables false
set_option linter.unusedSimpArgs false
namespace Go.Proofs.YtjhgknagmiekeaaGreat.D
open Go.RowKit Go.Lib Go.Proofs Go.Shelf
open Go.Proofs.YtjhgknagmiekeaaGreat.T Go.Proofs.YtjhgknagmiekeaaGreat.V Go.Proofs.YtjhgknagmiekeaaGreat.N
open Go.Proofs.YtjhgknagmiekeaaGreatW.PrintWords hiding blk_cell Kept
attribute [local go_sem] Oper.semAt_some
end Go.Proofs.YtjhgknagmiekeaaGreat.D
set_option linter.unusedVariables false
set_option linter.unusedSimpArgs false
namespace Go.Proofs.YtjhgknagmiekeaaGreat.G
open Go.RowKit Go.Lib Go.Proofs Go.Conc Go.Maps
open Go.Proofs.YtjhgknagmiekeaaGreatW.PrintWords hiding Kept
open Go.Proofs.YtjhgknagmiekeaaGreatW.PrintLast
open Go.Proofs.YtjhgknagmiekeaaGreat.T (Nd NdAt ptr Tr L All valT wasV Lf Strs emptyN wayF wayF_none)
theorem mks_empty (nb : Nat) (m : Value) : mks (emptyN nb m) = [m] := by
  rw [mks_eq]
  rfl
theorem keys_one (e : DataW Unit) (s : List UInt8) : strKeys ((DataW.map [] : DataW Unit).put (.string s) e) = [s] := rfl
theorem fire_one (W : World) (nb c : Nat) (k : ByteArray) (h : WatchAt W (c + 1) c false) : (fireAll W (emptyN nb (ptr (c + 1))) [k]).2 = 1 := by
  obtain ⟨n, en⟩ : ∃ n, emptyN nb (ptr (c + 1)) = n := ⟨_, rfl⟩
  have hd : ∀ r, T.downN n r = none := fun r => by
    rw [← en]
    unfold T.downN
    split
    · rfl
    · rfl
  have hm : ∀ a, marksOn k n a = [c] := fun a => by
    rw [← en]
    unfold marksOn
    show _ :: (if a = k.size then [] else []) = _
    rw [ite_self]
    rfl
  have hs : ∀ (f a : Nat) (s : (Nat → Bool) × Int), wayF (stepW W k) k (f + 1) (some n) a s = shootC W s c := fun f a s => by
    rw [wayF, hd, wayF_none]
    unfold stepW
    rw [hm]
    rfl
  have e : fireAll W n [k] = shootC W (fun _ => false, 0) c := by
    unfold fireAll
    rw [List.foldl_cons, List.foldl_nil]
    unfold fireK
    have h2 : k.size + 2 = k.size + 1 + 1 := rfl
    rw [h2]
    exact hs (k.size + 1) 0 _
  rw [en]
  rw [e]
  show (if (shutAt W c || false) = true then (0 : Int) else wrap64 (0 + 1)) = 1
  rw [shutAt_of h]
  decide +kernel
set_option maxRecDepth 100000 in
set_option maxHeartbeats 4000000 in
theorem txnAlive (w : World) : Calls Tryz.prog 8 #[] w fun e w' => e = .returned (.bool true) ∧ Below w.heap.size w w' := by
  have q1 := Aside0.mk (newB w)
  go_enter Tryz.func8, Tryz.ntmps8
  unfold ptr at q1
  go_wp2_with fail
  go_at_call 9
  refine q1.out.mono ?_
  rintro e w1 ⟨b, v, tb, nb, c, rfl, hbA, htA, hwa, h1, h2, h3, hbel⟩
  obtain ⟨root, er⟩ : ∃ r, emptyN nb (ptr (c + 1)) = r := ⟨_, rfl⟩
  have ht : Tr w1 tb root := by rw [← er]; exact ⟨by rw [T.all_empty]; exact htA, T.fine_empty _ _, T.vals_empty _ _⟩
  have q2 := Aside0.mk (baseVersion w1 b v tb 0 false hbA)
  have q3 := Aside0.mk (beginFree w1 b v tb 0 hbA)
  have H1 := Aside0.mk (And.intro hbA (And.intro ht (And.intro hwa (And.intro h1 (And.intro h3 hbel)))))
  have HR := Aside0.mk er
  clear hbA htA hwa h1 h2 h3 hbel ht er q1
  unfold ptr at q2 q3
  go_wp2_with fail
  go_at_call 11
  refine q2.out.mono ?_
  rintro e w' ⟨rfl, hw⟩
  subst hw
  go_wp2_with fail
  go_at_call 18
  refine q3.out.mono ?_
  rintro e w2 ⟨x, mb, rfl, hb2, hx2, hm2, hxs, hms, hmx, ho2⟩
  have q4 := Aside0.mk (beginHeld w2 b v tb 0 hb2)
  have hc2 : CellsOf w' tXB (fun k => k = b) := fun k e => by rw [e]; exact ⟨_, _, _, H1.out.1.base, rfl⟩
  have hf2 := ho2.farP hc2
  have ht2 : Tr w2 tb root := hf2.tr rfl rfl rfl rfl H1.out.2.1
  have hw2 := ho2.watch hc2 rfl H1.out.2.2.1
  have hal : All root = [] := by rw [← HR.out]; exact T.all_empty _ _
  have q5 := Aside0.mk (txnSet w2 x b tb mb 0 _ root hx2 hm2 (by omega) ht2 ⟨#[97]⟩ 5 (by decide) (by rw [hal]; decide))
  have H2 := Aside0.mk (And.intro hb2 (And.intro hx2 (And.intro hm2 (And.intro ht2 (And.intro hw2 (And.intro hxs (And.intro hms ho2)))))))
  clear hb2 hx2 hm2 hxs hms hmx ho2 hc2 hf2 ht2 hw2 hal q2 q3
  unfold ptr at q4 q5
  go_wp2_with fail
  go_at_call 18
  refine q4.out.mono ?_
  rintro e w3 ⟨rfl, hw3⟩
  subst hw3
  go_wp2_with fail
  go_at_call 26
  refine q5.out.mono ?_
  rintro e w4 ⟨old, had, tx, root', cc, rfl, hx4, hm4, ht4, hv4, hl4, hmk4, ho4⟩
  obtain ⟨es, cl, hmo, -⟩ := id H2.out.2.2.1
  have hbx : b ≠ x := fun e => by
    have h1 := H2.out.1.base
    rw [e, H2.out.2.1] at h1
    cases h1
  have hbm : b ≠ mb := fun e => by
    have h1 := H2.out.1.base
    rw [e, hmo] at h1
    cases h1
  have hvx : v ≠ x := fun e => by
    have h1 := H2.out.1.ver
    rw [e, H2.out.2.1] at h1
    cases h1
  have hvm : v ≠ mb := fun e => by
    have h1 := H2.out.1.ver
    rw [e, hmo] at h1
    cases h1
  have hb4 : BaseAt w4 b v tb 0 true := ⟨ho4.at H2.out.1.base (fun e => by rcases e with e | e; exact hbm e; exact hbx e), ho4.at H2.out.1.ver (fun e => by rcases e with e | e; exact hvm e; exact hvx e)⟩
  have hf4 : FarP tXB w3 w4 := fun k cs t fr hk hq => ho4.at hk (fun e => by
    rcases e with e | e
    · rw [e, hmo] at hk; cases hk
    · rw [e, H2.out.2.1] at hk
      injection hk with e1
      injection e1 with _ e2 _
      rw [← e2] at hq
      cases hq)
  have htb4 : Tr w4 tb root := hf4.tr rfl rfl rfl rfl H2.out.2.2.2.1
  have hw4 : WatchAt w4 (c + 1) c false := ⟨hf4 _ _ _ _ H2.out.2.2.2.2.1.obj rfl, ho4.at H2.out.2.2.2.2.1.ch (fun e => by
    rcases e with e | e
    · have h1 := H2.out.2.2.2.2.1.ch
      rw [e, hmo] at h1
      cases h1
    · have h1 := H2.out.2.2.2.2.1.ch
      rw [e, H2.out.2.1] at h1
      cases h1)⟩
  have hmr : ∀ m ∈ mks root, m = ptr (c + 1) := fun m hm => by
    rw [← HR.out, mks_empty] at hm
    exact List.mem_singleton.1 hm
  have hM4 : Mks w4 root := fun m hm => ⟨c, false, hmr m hm, hw4⟩
  have hks := keys_one (.lit (.int .i64 cc)) (⟨#[97]⟩ : ByteArray).data.toList
  have q6 := Aside0.mk (txnCommit w4 x b v tb tx mb 1 0 _ root hb4 hx4 hm4 (by omega) htb4 hM4 (fun s hs => by rw [hks] at hs; rw [List.mem_singleton.1 hs]; decide) (by rw [hks]; simp) (by omega) (by omega))
  have hval : valT root' (L ⟨#[97]⟩) = some (.int .i64 5) := by rw [hv4, if_pos rfl]
  have H4 := Aside0.mk (And.intro hw4 (And.intro hks (And.intro ht4 (And.intro ho4 (And.intro hmr hval)))))
  clear hmo hbx hbm hvx hvm hb4 hf4 htb4 hw4 hmr hM4 hks hx4 hm4 ht4 hv4 hl4 hmk4 ho4 q4 q5 hval
  unfold ptr at q6
  go_wp2_with fail
  go_at_call 30
  refine q6.out.mono ?_
  rintro e w5 ⟨cnt, rfl, hD⟩
  have hcnt : cnt = 1 := by
    obtain ⟨W, ks, hW, hp, e⟩ := hD.count
    rw [H4.out.2.1] at hp
    have h1 := List.perm_singleton.1 hp
    obtain ⟨k, ek⟩ : ∃ k, ks = [k] := by
      cases ks with
      | nil => cases h1
      | cons k r =>
        cases r with
        | nil => exact ⟨k, rfl⟩
        | cons _ _ =>
          have h2 := congrArg List.length h1
          simp at h2
    rw [e, ek, ← HR.out]
    exact fire_one W nb c k (hW _ _ H4.out.1)
  subst hcnt
  obtain ⟨v5, hb5⟩ := hD.base
  have ht5 : Tr w5 tx root' := hD.far.tr rfl rfl rfl rfl H4.out.2.2.1
  have q7 := Aside0.mk (baseTree w5 b v5 tx _ false hb5)
  have q8 := Aside0.mk (baseVersion w5 b v5 tx _ false hb5)
  have q9 := T.getC w5 tx root' ht5 ⟨#[97]⟩ (by decide)
  rw [H4.out.2.2.2.2.2] at q9
  have Q9 := Aside0.mk q9
  have HD := Aside0.mk hD
  clear hD hb5 ht5 q9 q6
  have hB : Aside0 (Below w.heap.size w w5) := ⟨by
    have b2 := H2.out.2.2.2.2.2.2.2.below w.heap.size H1.out.2.2.2.2.2.size (fun k _ e => by rw [e]; exact H1.out.2.2.2.1)
    have s1 := H1.out.2.2.2.2.2.size
    have s2 := H2.out.2.2.2.2.2.2.2.size
    have b4 := H4.out.2.2.2.1.below w.heap.size (by omega) (fun k _ e => by
      have := H2.out.2.2.2.2.2.1
      have := H2.out.2.2.2.2.2.2.1
      rcases e with e | e <;> omega)
    have s4 := H4.out.2.2.2.1.size
    have b5 := HD.out.below w.heap.size (by omega) (by have := H2.out.2.2.2.2.2.1; omega) H1.out.2.2.2.1 (fun m hm => by
      rw [H4.out.2.2.2.2.1 m hm]
      exact H1.out.2.2.2.2.1)
    exact ((H1.out.2.2.2.2.2.trans b2).trans b4).trans b5⟩
  unfold ptr at q7 q8 Q9
  unfold T.gotV at Q9
  go_wp2_with fail
  go_at_call 12
  refine q7.out.mono ?_
  rintro e w6 ⟨rfl, hw6⟩
  subst hw6
  go_wp2_with fail
  go_at_call 11
  refine q8.out.mono ?_
  rintro e w7 ⟨rfl, hw7⟩
  subst hw7
  go_wp2_with fail
  go_at_call 15
  refine Q9.out.mono ?_
  rintro e w8 ⟨rfl, hb8⟩
  have HB8 := Aside0.mk hb8
  clear hb8 q7 q8 Q9
  go_wp2_with fail
  go_ret
  exact ⟨rfl, T.belowAt hB.out HB8.out⟩
end Go.Proofs.YtjhgknagmiekeaaGreat.G
set_option linter.unusedVariables false
set_option linter.unusedSimpArgs false
namespace Go.Proofs.YtjhgknagmiekeaaGreat.G
open Go.RowKit Go.Lib Go.Proofs Go.Conc Go.Maps
open Go.Proofs.YtjhgknagmiekeaaGreatW.PrintWords hiding Kept
open Go.Proofs.YtjhgknagmiekeaaGreatW.PrintLast
open Go.Proofs.YtjhgknagmiekeaaGreat.T (Nd NdAt ptr Tr L All valT wasV Lf Strs delN emptyN)
attribute [local go_sem] Oper.semAt_some
def BoolsAt (w : World) (A : Option Addr) (bs : List Bool) : Prop := ∀ i (h : i < bs.length), ∃ ad, A = some ad ∧ w.cell? (ad.add i) = some (.bool bs[i])
theorem BoolsAt.keep {w w' : World} {A : Option Addr} {l : List Bool} (h : BoolsAt w A l) (k : T.Kept w w') : BoolsAt w' A l := fun i hi => by
  obtain ⟨ad, e, h0⟩ := h i hi
  exact ⟨ad, e, k.cell h0⟩
structure Own (B : Nat) (w : World) (b : Nat) (root : Nd) (n : Int) : Prop where
  base : ∃ v tb, BaseAt w b v tb n false ∧ Tr w tb root
  mkd : Mks w root
  low : B ≤ b ∧ ∀ m ∈ mks root, B ≤ chOf m
theorem Own.after {B : Nat} {w w' : World} {b : Nat} {root root' : Nd} {n n' : Int} (h : Own B w b root n) (hB : B ≤ w.heap.size) (a : After w w' b root root' n') : Own B w' b root' n' ∧ Below B w w' :=
  ⟨⟨a.base, a.mkd, h.low.1, (a.below B hB h.low.1 h.low.2).2⟩, (a.below B hB h.low.1 h.low.2).1⟩
theorem Own.belowG {B : Nat} {w w' : World} {b : Nat} {root : Nd} {n : Int} (h : Own B w b root n) (hb : Below w.heap.size w w') : Own B w' b root n := by
  obtain ⟨v, tb, h1, h2⟩ := h.base
  exact ⟨⟨v, tb, h1.move (hb.block _ (Array.getElem?_eq_some_iff.1 h1.base).1) (hb.block _ (Array.getElem?_eq_some_iff.1 h1.ver).1), h2.keep (T.Kept.of hb)⟩, h.mkd.belowG hb, h.low⟩
set_option maxRecDepth 100000 in
set_option maxHeartbeats 4000000 in
theorem newOwn (w : World) : Calls Tryz.prog 9 #[] w fun e w' => ∃ b root, e = .returned (ptr b) ∧ Own w.heap.size w' b root 0 ∧ (All root).length = 0 ∧ Below w.heap.size w w' ∧ (∀ r, valT root r = none) := by
  refine (newB w).mono ?_
  rintro e w' ⟨b, v, tb, nb, c, rfl, hb, ht, hw, h1, h2, h3, hB⟩
  have ht2 : Tr w' tb (emptyN nb (ptr (c + 1))) := ⟨by rw [T.all_empty]; exact ht, T.fine_empty _ _, T.vals_empty _ _⟩
  have hm : ∀ m ∈ mks (emptyN nb (ptr (c + 1))), m = ptr (c + 1) := fun m hm => by
    rw [mks_empty] at hm
    exact List.mem_singleton.1 hm
  exact ⟨b, _, rfl, ⟨⟨v, tb, hb, ht2⟩, fun m h => ⟨c, false, hm m h, hw⟩, h1, fun m h => by rw [hm m h]; exact h3⟩, by rw [T.all_empty]; rfl, hB, T.valT_empty _ _⟩
theorem doneOwn (B : Nat) (w : World) (hB : B ≤ w.heap.size) (b : Nat) (n : Int) (root : Nd) (h : Own B w b root n) (A : Option Addr) (c : Nat) (cs : List Chg)
    (hR : ∀ W, FarP tAll w W → Below B w W → ChAt W A cs) (hk : ∀ c ∈ cs, c.key.size < 4000000000000) (hlen : cs.length < 1000000000) (hs : (All root).length + cs.length < 3999999999999) (hn0 : 0 ≤ n) (hn1 : n < 1000000000000) (com : Bool) :
    Calls Tryz.prog 10 #[ptr b, .slice A cs.length c, .bool com] w fun e w' => e = .returned (.bool true) ∧ ∃ root', Own B w' b root' (nOf com (valT root) cs n) ∧ After w w' b root root' (nOf com (valT root) cs n) ∧ (All root').length ≤ (All root).length + cs.length ∧ (∀ r, valT root' r = vOf com (valT root) cs r) ∧ Below B w w' := by
  obtain ⟨v, tb, h1, h2⟩ := h.base
  refine (doneC w b v tb n root h1 h2 h.mkd A c cs (fun W h3 h4 => hR W h3 (h4 B hB h.low.1)) hk hlen hs hn0 hn1 com).mono ?_
  rintro e w' ⟨rfl, root', n', ha, hl, hv, rfl⟩
  exact ⟨rfl, root', (h.after hB ha).1, ha, hl, hv, (h.after hB ha).2⟩
end Go.Proofs.YtjhgknagmiekeaaGreat.G
set_option linter.unusedVariables false
set_option linter.unusedSimpArgs false
namespace Go.Proofs.YtjhgknagmiekeaaGreat.V
open Go.RowKit Go.Lib Go.Proofs Go.Shelf
open Go.Proofs.YtjhgknagmiekeaaGreat.T
open Go.Proofs.YtjhgknagmiekeaaGreatW.PrintWords hiding blk_cell
theorem own_move {w w' : World} {B : Nat} {e : TypeId} {size : Nat} {v : Value} {n : Nat} {xs : List Value} (h : w.ownsRow B e size v n xs) (hk : ∀ k, v.ownBlock = some k → w'.heap[k]? = w.heap[k]?) : w'.ownsRow B e size v n xs := by
  refine ⟨h.1, ?_⟩
  rcases h.2 with h2 | ⟨g, cap, cur, h1, h2, h3, h4⟩
  · exact .inl h2
  · exact .inr ⟨g, cap, cur, h1, h2, (hk g (by rw [h1]; rfl)).trans h3, h4⟩
theorem own_weak {w : World} {b b' : Nat} {e : TypeId} {size : Nat} {v : Value} {n : Nat} {xs : List Value} (h : w.ownsRow b e size v n xs) (hb : b' ≤ b) : w.ownsRow b' e size v n xs := by
  refine ⟨h.1, ?_⟩
  rcases h.2 with h2 | ⟨g, cap, cur, h1, h2, h3⟩
  · exact .inl h2
  · exact .inr ⟨g, cap, cur, h1, Nat.le_trans hb h2, h3⟩
theorem appended2 {W w1 : World} {n₁ n₀ B : Nat} {t e : TypeId} {size : Nat} {v v' : Value} {k m : Nat} {xs ys : List Value} {tmp : Obj} {M : Nat → Prop}
    (hv : Boxed W B t v) (hte : t ≠ e) (ht : t ≠ 161) (he : e ≠ 161) (hrow : W.ownsRow n₁ e size v k xs) (hn₁ : n₁ ≤ W.heap.size) (hn₀ : n₀ ≤ n₁) (hB : n₀ ≤ B) (hM : M B)
    (hown' : w1.ownsRow n₁ e size v' m ys) (hgrow : (W.alloc tmp).grownBy w1 v.ownBlock) :
    Boxed w1 B t v ∧ Boxed (w1.setCell ⟨B, 0, none⟩ v') B t v' ∧ (w1.setCell ⟨B, 0, none⟩ v').ownsRow n₁ e size v' m ys ∧ KeepsOthers W (w1.setCell ⟨B, 0, none⟩ v') ∧ Below n₀ W (w1.setCell ⟨B, 0, none⟩ v') ∧ KpM n₁ M W (w1.setCell ⟨B, 0, none⟩ v') ∧ (∀ k, k < n₁ → k ≠ B → (w1.setCell ⟨B, 0, none⟩ v').heap[k]? = W.heap[k]?) := by
  obtain ⟨a1, a2, a3, a4, a5⟩ := hv.appended hte (own_weak hrow hn₀) (Nat.le_trans hn₀ hn₁) hB (own_weak hown' hn₀) hgrow
  have hne : ∀ k, k < n₁ → some k ≠ v.ownBlock := fun k hk e9 => by
    rcases hrow.2 with ⟨rfl, _⟩ | ⟨g, cap, cur, rfl, hb, _, _⟩
    · simp [Value.ownBlock] at e9
    · obtain rfl : k = g := by simpa [Value.ownBlock] using e9
      omega
  have hlow : ∀ k, k < n₁ → k ≠ B → (w1.setCell ⟨B, 0, none⟩ v').heap[k]? = W.heap[k]? := fun k hk hkB => by
    rw [Below.heap_setCell _ _ _ k hkB]
    exact (hgrow.block k (by rw [World.size_alloc]; omega) (hne k hk)).trans (Below.heap_alloc _ _ _ (by omega))
  refine ⟨a1, a2, hown'.kept (grownBy_setCell' w1 B v') (.inr (a1.not_row hte hown').symm), a4, a5, ⟨a5.size, fun k o hk h1 h2 => ?_, fun k cs fr hk => ?_⟩, hlow⟩
  · exact (hlow k h1 (fun e9 => h2 (by rw [e9]; exact hM))).trans hk
  · have hkB : k ≠ B := fun e9 => by
      subst e9
      rw [show W.heap[k]? = _ from hv] at hk
      injection hk with h1
      injection h1 with _ h2 _
      exact ht h2
    have hlt := (Array.getElem?_eq_some_iff.1 hk).1
    rw [Below.heap_setCell _ _ _ k hkB]
    refine (hgrow.block k (by rw [World.size_alloc]; omega) (fun e9 => ?_)).trans ((Below.heap_alloc _ _ _ (by omega)).trans hk)
    rcases hrow.2 with ⟨rfl, _⟩ | ⟨g, cap, cur, rfl, hb, hgb, _⟩
    · simp [Value.ownBlock] at e9
    · obtain rfl : k = g := by simpa [Value.ownBlock] using e9
      rw [hk] at hgb
      injection hgb with h1
      injection h1 with _ h2 _
      exact he h2.symm
theorem ownT_row {β : Type} {B : Nat} (base : Nat) (e : TypeId) (size : Nat) (he : e ≠ 4) (v : Value) (n : Nat) (xs : List Value) : OwnT B (fun (_ : β) W => W.ownsRow base e size v n xs) := fun s X Y row hs hg hr => by
  refine own_move hs (fun k hk => ?_)
  obtain ⟨cs, hc⟩ := own_typed hs k hk
  refine hg.block k (Array.getElem?_eq_some_iff.1 hc).1 (fun e9 => ?_)
  obtain ⟨-, o, h1, h2⟩ := hr k e9.symm
  rw [hc] at h1
  cases h1
  rcases h2 with h2 | ⟨b, h2⟩
  · cases h2
  · injection h2 with _ h3 _
    exact he h3
theorem ownT_all {β γ : Type} {B : Nat} {p : γ → β → World → Prop} (h : ∀ g, OwnT B (p g)) : OwnT B (fun s W => ∃ g, p g s W) := fun s X Y row hs hg hr => by
  obtain ⟨g, hs⟩ := hs
  exact ⟨g, h g s X Y row hs hg hr⟩
theorem appendedF {W w1 : World} {n₁ B : Nat} {t e : TypeId} {size : Nat} {v v' : Value} {k m : Nat} {xs ys : List Value} {tmp : Obj}
    (hv : Boxed W B t v) (hrow : W.ownsRow n₁ e size v k xs) (hown' : w1.ownsRow n₁ e size v' m ys) (hgrow : (W.alloc tmp).grownBy w1 v.ownBlock) :
    ∀ j, j < W.heap.size → j ≠ B → some j ≠ v.ownBlock → (w1.setCell ⟨B, 0, none⟩ v').heap[j]? = W.heap[j]? := fun j hj hB ho => by
  rw [Below.heap_setCell _ _ _ j hB]
  exact (hgrow.block j (by rw [World.size_alloc]; omega) ho).trans (Below.heap_alloc _ _ _ hj)
theorem appendedU {W w1 : World} {n₁ B B' : Nat} {t e : TypeId} {size : Nat} {v v' : Value} {k m : Nat} {xs ys : List Value} {tmp : Obj} (he : ¬ Quiet e) (hB : B < B')
    (hv : Boxed W B t v) (hrow : W.ownsRow n₁ e size v k xs) (hown' : w1.ownsRow n₁ e size v' m ys) (hgrow : (W.alloc tmp).grownBy w1 v.ownBlock) : KeepsU B' W (w1.setCell ⟨B, 0, none⟩ v') := by
  refine ⟨?_, fun j o hj h hq => ?_⟩
  · have h1 := hgrow.size
    have h2 := (grownBy_setCell' w1 B v').size
    rw [World.size_alloc] at h1
    omega
  · refine (appendedF hv hrow hown' hgrow j (Array.getElem?_eq_some_iff.1 h).1 (by omega) (fun e9 => ?_)).trans h
    obtain ⟨cs', hc⟩ := own_typed hrow j e9.symm
    rw [hc] at h
    cases h
    rcases hq with hq | ⟨_, _, _, hq, hq2⟩
    · cases hq
    · injection hq with _ h3 _
      subst h3
      exact he hq2
def rowc (l : List (ByteArray × Int)) : List Value := l.flatMap (fun x => [.bool false, .string x.1, .int .i64 x.2])
theorem own_farRow {w w1 : World} {q : TypeId → Bool} {B : Nat} {e : TypeId} {size : Nat} {v : Value} {n : Nat} {xs : List Value} (h : w.ownsRow B e size v n xs) (hf : Go.Proofs.YtjhgknagmiekeaaGreat.G.FarP q w w1) (hq : q e = false) : w1.ownsRow B e size v n xs :=
  own_move h (fun k hk => by
    obtain ⟨cs', hc⟩ := own_typed h k hk
    exact (hf _ _ _ _ hc hq).trans hc.symm)
end Go.Proofs.YtjhgknagmiekeaaGreat.V
set_option linter.unusedVariables false
set_option linter.unusedSimpArgs false
namespace Go.Proofs.YtjhgknagmiekeaaGreat.T
mutual
theorem ents_len : ∀ (n : Nd) (p : List UInt8) (B : Nat) (x : Ent), Fits n B → x ∈ ents p n → x.1.length ≤ p.length + B
  | .mk b label leaf kids mark, p, B, x, hf, hx => by
    obtain ⟨h1, h2⟩ := hf.parts
    have h1' : label.size ≤ B := h1
    have h2' : Fitss kids (B - label.size) := h2
    rw [ents, List.mem_append] at hx
    rcases hx with hx | hx
    · have e : x.1 = p ++ L label := by
        cases leaf with
        | none => cases hx
        | some l => rw [List.mem_singleton.1 hx]
      rw [e, List.length_append, L_len]; omega
    · have := entss_len kids (p ++ L label) (B - label.size) x h2' hx
      rw [List.length_append, L_len] at this
      omega
theorem entss_len : ∀ (ks : List Nd) (p : List UInt8) (B : Nat) (x : Ent), Fitss ks B → x ∈ entss p ks → x.1.length ≤ p.length + B
  | [], p, B, x, hf, hx => by rw [entss] at hx; cases hx
  | k :: r, p, B, x, hf, hx => by
    rw [entss, List.mem_append] at hx
    have h : Fits k B ∧ Fitss r B := by unfold Fitss at hf; exact hf
    rcases hx with hx | hx
    · exact ents_len k p B x h.1 hx
    · exact entss_len r p B x h.2 hx
end
theorem key_len {root : Nd} (h : Fine root) (r : List UInt8) (hr : valT root r ≠ none) : r.length < 4000000000000 := by
  unfold valT at hr
  cases e : findT root r with
  | none => rw [e] at hr; exact absurd rfl hr
  | some l =>
    have := (mem_all h.toGood r l).2 e
    have h2 := ents_len root [] 3999999999999 (r, l) h.fits this
    simp at h2
    omega
end Go.Proofs.YtjhgknagmiekeaaGreat.T
namespace Go.Proofs.YtjhgknagmiekeaaGreat.G
open Go.RowKit Go.Lib Go.Proofs Go.Conc Go.Maps
open Go.Proofs.YtjhgknagmiekeaaGreatW.PrintWords hiding Kept
open Go.Proofs.YtjhgknagmiekeaaGreatW.PrintLast
open Go.Proofs.YtjhgknagmiekeaaGreat.T (Nd NdAt ptr Tr L All valT wasV Lf Strs delN)
attribute [local go_sem] Oper.semAt_some
theorem base_tree (w : World) (b v tb : Nat) (n : Int) (held : Bool) (h : BaseAt w b v tb n held) : Calls Tryz.prog 12 #[.pointer (some ⟨b, 0, none⟩)] w fun e w' => e = .returned (.pointer (some ⟨tb, 0, none⟩)) ∧ w' = w := baseTree w b v tb n held h
end Go.Proofs.YtjhgknagmiekeaaGreat.G
set_option linter.unusedVariables false
set_option linter.unusedSimpArgs false
namespace Go.Proofs.YtjhgknagmiekeaaGreat.D
open Go.RowKit Go.Lib Go.Proofs Go.Shelf
open Go.Proofs.YtjhgknagmiekeaaGreat.T Go.Proofs.YtjhgknagmiekeaaGreat.V Go.Proofs.YtjhgknagmiekeaaGreat.N
open Go.Proofs.YtjhgknagmiekeaaGreat.G (FarP FarP.of FarD tAll Chg ChAt BaseAt mks newOwn doneOwn base_tree txnAlive nOf vOf runV)
open Go.Proofs.YtjhgknagmiekeaaGreat.VOA (below_drewA)
open Go.Proofs.YtjhgknagmiekeaaGreatW.PrintWords hiding blk_cell Kept
attribute [local go_sem] Oper.semAt_some
def ComsAt (w : World) (A : Option Addr) (cls : List (List Chg)) : Prop := ∀ i (h : i < cls.length), ∃ ad Ai ci, A = some ad ∧ w.cell? (ad.add i) = some (.slice Ai cls[i].length ci) ∧ ChAt w Ai cls[i]
theorem ComsAt.keep {w w' : World} {A : Option Addr} {l : List (List Chg)} (h : ComsAt w A l) (k : Kept w w') : ComsAt w' A l := fun i hi => by
  obtain ⟨ad, Ai, ci, e, h0, h1⟩ := h i hi
  exact ⟨ad, Ai, ci, e, k.cell h0, h1.keep k⟩
def tot (cls : List (List Chg)) : Nat := (cls.map List.length).sum
theorem tot_le : ∀ (cls : List (List Chg)) (i : Nat) (h : i < cls.length), tot (cls.take i) + cls[i].length ≤ tot cls
  | x :: r, 0, h => by simp [tot]
  | x :: r, i + 1, h => by
    have := tot_le r i (by simpa using h)
    simp only [tot, List.take_succ_cons, List.map_cons, List.sum_cons, List.getElem_cons_succ] at this ⊢
    omega
theorem tot_take : ∀ (cls : List (List Chg)) (i : Nat) (h : i < cls.length), tot (cls.take (i + 1)) = tot (cls.take i) + cls[i].length
  | x :: r, 0, h => by simp [tot]
  | x :: r, i + 1, h => by
    have := tot_take r i (by simpa using h)
    simp only [tot, List.take_succ_cons, List.map_cons, List.sum_cons, List.getElem_cons_succ] at this ⊢
    omega
structure Rec where
  tb : Nat
  root : Nd
  A : Option Addr
  c : Nat
  row : List (ByteArray × Int)
structure HeldOk (W : World) (r : Rec) : Prop where
  tr : Tr W r.tb r.root
  len : r.row.length = (All r.root).length
  few : r.row.length < 200000000
  vals : ∀ x ∈ r.row, valT r.root (L x.1) = some (.int .i64 x.2)
  cells : W.ownsRow 0 30 3 (.slice r.A r.row.length r.c) r.row.length (rowc r.row)
theorem HeldOk.far {q : TypeId → Bool} {W W' : World} {r : Rec} (h : HeldOk W r) (hf : FarP q W W') (h30 : q 30 = false) (h1 : q 106 = false) (h2 : q 134 = false) (h3 : q 145 = false) (h4 : q 108 = false) : HeldOk W' r :=
  ⟨hf.tr h1 h2 h3 h4 h.tr, h.len, h.few, h.vals, own_farRow h.cells hf h30⟩
theorem HeldOk.below {W W' : World} {r : Rec} (h : HeldOk W r) (hb : Below W.heap.size W W') : HeldOk W' r := h.far (q := fun _ => false) (FarP.of hb) rfl rfl rfl rfl rfl
structure Rows_ (W : World) (B : Nat) (vT vS : Value) (rs : List Rec) : Prop where
  rT : W.ownsRow B 36 1 vT rs.length (rs.map fun r => ptr r.tb)
  rS : W.ownsRow B 31 1 vS rs.length (rs.map fun r => .slice r.A r.row.length r.c)
  all : ∀ r ∈ rs, HeldOk W r
theorem Rows_.below {W W' : World} {B : Nat} {vT vS : Value} {rs : List Rec} (h : Rows_ W B vT vS rs) (hb : Below W.heap.size W W') : Rows_ W' B vT vS rs :=
  ⟨own_farRow h.rT (FarP.of (p := fun _ => false) hb) rfl, own_farRow h.rS (FarP.of (p := fun _ => false) hb) rfl, fun r hr => (h.all r hr).below hb⟩
theorem Rows_.done {W W' : World} {B : Nat} {vT vS : Value} {rs : List Rec} (h : Rows_ W B vT vS rs) (hf : FarP tAll W W') : Rows_ W' B vT vS rs :=
  ⟨own_farRow h.rT hf rfl, own_farRow h.rS hf rfl, fun r hr => (h.all r hr).far hf rfl rfl rfl rfl rfl⟩
theorem own_some {w : World} {B : Nat} {e : TypeId} {size : Nat} {A : Option Addr} {n c : Nat} {xs : List Value} (h : w.ownsRow B e size (.slice A n c) n xs) (hn : 0 < n) : ∃ g, A = some ⟨g, 0, none⟩ := by
  rcases h.2 with ⟨_, h2⟩ | ⟨g, cap, cur, h1, _⟩
  · omega
  · injection h1 with h1; exact ⟨g, h1⟩
theorem own_form {w : World} {B : Nat} {e : TypeId} {size : Nat} {v : Value} {n : Nat} {xs : List Value} (h : w.ownsRow B e size v n xs) : ∃ A c, v = .slice A n c := by
  rcases h.2 with ⟨rfl, h2⟩ | ⟨g, cap, cur, rfl, _⟩
  · exact ⟨none, 0, by rw [h2]⟩
  · exact ⟨_, _, rfl⟩
end Go.Proofs.YtjhgknagmiekeaaGreat.D
