/- joined: V10g V20 V21 V22 V14 V11 -/
import Derived.Test.YtjhgknagmiekeaaJL15
import Derived.Test.YtjhgknagmiekeaaJL17
import Derived.Stop.RegionWithIn
import Derived.RangeFuncBox
import Derived.Test.YtjhgknagmiekeaaJL14
import Derived.Test.YtjhgknagmiekeaaJL12
import Derived.Deep.RegionHeld3
import Derived.Laws.EntriesVeiled
import Derived.Test.YtjhgknagmiekeaaJL2
import Derived.Test.YtjhgknagmiekeaaRows
import Derived.Test.YtjhgknagmiekeaaJL4
import Derived.Deep.Slices
import Derived.Deep.Fields
import Derived.ChangeSame
import Derived.SizedLaws
import Derived.ProofKit
set_option linter.unusedVariables false
set_option linter.unusedSimpArgs false
namespace Go.Proofs.Ytjhgknagmiekeaa.V
open Go.Proofs.Ytjhgknagmiekeaa.VU (below_drewA)
open Go.RowKit Go.Lib Go.Proofs Go.Shelf
open Go.Proofs.Ytjhgknagmiekeaa.T Go.Proofs.Ytjhgknagmiekeaa.N Go.Proofs.Ytjhgknagmiekeaa.K
open Go.Proofs.YtjhgknagmiekeaaW.PrintWords hiding blk_cell
theorem blk_own {β : Type} (B : Nat) (cs : Array Value) (t : TypeId) (fr : Nat × Nat) : Own (fun (_ : β) W => W.heap[B]? = some (.cells cs t fr)) := fun s X Y row hs hg hrow =>
  (hg.block B (Array.getElem?_eq_some_iff.1 hs).1 (fun e' => by obtain ⟨o, ho, hc⟩ := hrow B e'.symm; rw [hs] at ho; cases ho; cases hc)).trans hs
end Go.Proofs.Ytjhgknagmiekeaa.V
set_option linter.unusedVariables false
set_option linter.unusedSimpArgs false
namespace Go.Proofs.Ytjhgknagmiekeaa.V
open Go.RowKit Go.Lib Go.Proofs Go.Proofs.Ytjhgknagmiekeaa.T
variable {F : Fence} {n : Nat} {P : Program}
def Quiet (t : TypeId) : Prop := t = 4 ∨ t = 9 ∨ t = 24 ∨ t = 60 ∨ t = 110 ∨ t = 111 ∨ t = 132
def qObj (o : Obj) : Prop := o.isCells = false ∨ ∃ cs t fr, o = .cells cs t fr ∧ Quiet t
structure KeepsU (B : Nat) (W W' : World) : Prop where
  size : W.heap.size ≤ W'.heap.size
  same : ∀ (k : Nat) (o : Obj), B ≤ k → W.heap[k]? = some o → qObj o → W'.heap[k]? = some o
theorem KeepsU.trans {B : Nat} {X Y Z : World} (h : KeepsU B X Y) (k : KeepsU B Y Z) : KeepsU B X Z := ⟨Nat.le_trans h.size k.size, fun i o hB hi ho => k.same i o hB (h.same i o hB hi ho) ho⟩
theorem KeepsU.of {B : Nat} {W W' : World} (h : Below W.heap.size W W') : KeepsU B W W' := ⟨h.size, fun k o _ hk _ => (Kept.of h).at hk⟩
theorem KeepsU.refl (B : Nat) (W : World) : KeepsU B W W := KeepsU.of (Below.refl _ _)
theorem KeepsU.up {B B' : Nat} {W W' : World} (h : KeepsU B W W') (hB : B ≤ B') : KeepsU B' W W' := ⟨h.size, fun k o hk h1 h2 => h.same k o (Nat.le_trans hB hk) h1 h2⟩
theorem KeepsU.put {B l : Nat} (W : World) (o : Obj) (h : l < B) : KeepsU B W (W.putObj l o) := by
  have hg := grownBy_putObj' W l o
  exact ⟨hg.size, fun k x hk h1 _ => (hg.block k (Array.getElem?_eq_some_iff.1 h1).1 (fun e => by cases e; omega)).trans h1⟩
theorem KeepsU.set {B b : Nat} (W : World) (v : Value) (h : b < B) : KeepsU B W (W.setCell ⟨b, 0, none⟩ v) := by
  have hg := grownBy_setCell' W b v
  exact ⟨hg.size, fun k x hk h1 _ => (hg.block k (Array.getElem?_eq_some_iff.1 h1).1 (fun e => by cases e; omega)).trans h1⟩
def OwnT {β : Type} (B : Nat) (I : β → World → Prop) : Prop :=
  ∀ s W W' row, I s W → W.grownBy W' row → (∀ r, row = some r → B ≤ r ∧ ∃ o : Obj, W.heap[r]? = some o ∧ (o.isCells = false ∨ ∃ v, o = .cells #[v] 4 (0, 0))) → I s W'
theorem OwnT.putObj {β : Type} {B : Nat} {I : β → World → Prop} (h : OwnT B I) {s : β} {W : World} {l : Nat} {o : Obj} (o' : Obj) (hs : I s W) (hB : B ≤ l) (hl : W.heap[l]? = some o) (ho : o.isCells = false) : I s (W.putObj l o') :=
  h s W _ (some l) hs (grownBy_putObj' W l o') (fun r e => by cases e; exact ⟨hB, o, hl, .inl ho⟩)
theorem OwnT.alloc {β : Type} {B : Nat} {I : β → World → Prop} (h : OwnT B I) {s : β} {W : World} (o : Obj) (hs : I s W) : I s (W.alloc o) :=
  h s W _ none hs (World.grownBy_alloc W o none) (fun r e => by cases e)
theorem OwnT.and {β : Type} {B : Nat} {I I' : β → World → Prop} (h : OwnT B I) (h' : OwnT B I') : OwnT B (fun s W => I s W ∧ I' s W) := fun s W W' row hs hg hr => ⟨h s W W' row hs.1 hg hr, h' s W W' row hs.2 hg hr⟩
theorem OwnT.bool {β : Type} {B : Nat} {I : β → World → Prop} (h : OwnT B I) {s : β} {W : World} {l : Nat} {v : Value} (v' : Value) (hs : I s W) (hB : B ≤ l) (hl : Boxed W l 4 v) : I s (W.setCell ⟨l, 0, none⟩ v') :=
  h s W _ (some l) hs (grownBy_setCell' W l v') (fun r e => by cases e; exact ⟨hB, _, hl, .inr ⟨v, rfl⟩⟩)
end Go.Proofs.Ytjhgknagmiekeaa.V
set_option linter.unusedVariables false
set_option linter.unusedSimpArgs false
namespace Go.Proofs.Ytjhgknagmiekeaa.V
open Go.RowKit Go.Lib Go.Proofs Go.Proofs.Ytjhgknagmiekeaa.T Go.Proofs.Ytjhgknagmiekeaa.VA
open Go.Proofs.YtjhgknagmiekeaaW.PrintWords hiding blk_cell
attribute [local go_sem] Oper.semAt_some
structure KpT (n₁ : Nat) (M : Nat → Prop) (W W' : World) : Prop where
  size : W.heap.size ≤ W'.heap.size
  low : ∀ (k : Nat) (o : Obj), W.heap[k]? = some o → k < n₁ → ¬ M k → W'.heap[k]? = some o
  typ : ∀ (k : Nat) (cs : Array Value) (t : TypeId) (fr : Nat × Nat), Quiet t → W.heap[k]? = some (Obj.cells cs t fr) → W'.heap[k]? = some (Obj.cells cs t fr)
theorem KpT.trans {n₁ : Nat} {M : Nat → Prop} {A B C : World} (h : KpT n₁ M A B) (k : KpT n₁ M B C) : KpT n₁ M A C :=
  ⟨Nat.le_trans h.size k.size, fun i o hi h1 h2 => k.low i o (h.low i o hi h1 h2) h1 h2, fun i cs t fr ht hi => k.typ i cs t fr ht (h.typ i cs t fr ht hi)⟩
theorem KpT.of {n₁ : Nat} {M : Nat → Prop} {W W' : World} (h : Below W.heap.size W W') : KpT n₁ M W W' :=
  ⟨h.size, fun k o hk _ _ => (Kept.of h).at hk, fun k cs t fr _ hk => (Kept.of h).at hk⟩
theorem KpT.putObj {n₁ : Nat} {M : Nat → Prop} (W : World) (l : Nat) (o o' : Obj) (hn : n₁ ≤ l) (hl : W.heap[l]? = some o) (hc : o.isCells = false) : KpT n₁ M W (W.putObj l o') := by
  have hg := grownBy_putObj' W l o'
  refine ⟨hg.size, fun k x hk h1 h2 => ?_, fun k cs t fr _ hk => ?_⟩
  · exact (hg.block k (Array.getElem?_eq_some_iff.1 hk).1 (fun e => by cases e; omega)).trans hk
  · refine (hg.block k (Array.getElem?_eq_some_iff.1 hk).1 (fun e => ?_)).trans hk
    cases e
    rw [hk] at hl
    cases hl
    cases hc
structure KpQ (W W' : World) : Prop where
  size : W.heap.size ≤ W'.heap.size
  typ : ∀ (k : Nat) (cs : Array Value) (t : TypeId) (fr : Nat × Nat), Quiet t → W.heap[k]? = some (Obj.cells cs t fr) → W'.heap[k]? = some (Obj.cells cs t fr)
theorem KpQ.trans {A B C : World} (h : KpQ A B) (k : KpQ B C) : KpQ A C := ⟨Nat.le_trans h.size k.size, fun i cs t fr ht hi => k.typ i cs t fr ht (h.typ i cs t fr ht hi)⟩
theorem KpQ.of {W W' : World} (h : Below W.heap.size W W') : KpQ W W' := ⟨h.size, fun k cs t fr _ hk => (Kept.of h).at hk⟩
theorem KpT.q {n₁ : Nat} {M : Nat → Prop} {W W' : World} (h : KpT n₁ M W W') : KpQ W W' := ⟨h.size, h.typ⟩
theorem KpQ.putObj (W : World) (l : Nat) (o o' : Obj) (hl : W.heap[l]? = some o) (hc : o.isCells = false) : KpQ W (W.putObj l o') := by
  have hg := grownBy_putObj' W l o'
  refine ⟨hg.size, fun k cs t fr _ hk => ?_⟩
  refine (hg.block k (Array.getElem?_eq_some_iff.1 hk).1 (fun e => ?_)).trans hk
  cases e
  rw [hk] at hl
  cases hl
  cases hc
theorem setNew_at {W Z : World} {b k : Nat} {o : Obj} (v : Value) (hb : W.heap.size ≤ b) (h : W.heap[k]? = some o) (hz : Z.heap[k]? = some o) : (Z.setCell ⟨b, 0, none⟩ v).heap[k]? = some o := by
  have h1 := (Array.getElem?_eq_some_iff.1 h).1
  rw [Below.heap_setCell _ _ _ k (by show k ≠ b; omega)]
  exact hz
theorem KeepsU.setNew {B b : Nat} {W Z : World} (h : KeepsU B W Z) (v : Value) (hb : W.heap.size ≤ b) : KeepsU B W (Z.setCell ⟨b, 0, none⟩ v) :=
  ⟨Nat.le_trans h.size (grownBy_setCell' Z b v).size, fun k o hk h1 h2 => setNew_at v hb h1 (h.same k o hk h1 h2)⟩
theorem KpT.setNew {n₁ b : Nat} {M : Nat → Prop} {W Z : World} (h : KpT n₁ M W Z) (v : Value) (hb : W.heap.size ≤ b) : KpT n₁ M W (Z.setCell ⟨b, 0, none⟩ v) :=
  ⟨Nat.le_trans h.size (grownBy_setCell' Z b v).size, fun k o h1 h2 h3 => setNew_at v hb h1 (h.low k o h1 h2 h3), fun k cs t fr ht h1 => setNew_at v hb h1 (h.typ k cs t fr ht h1)⟩
end Go.Proofs.Ytjhgknagmiekeaa.V
set_option linter.unusedVariables false
set_option linter.unusedSimpArgs false
namespace Go.Proofs.Ytjhgknagmiekeaa.V
open Go.RowKit Go.Lib Go.Proofs Go.Proofs.Ytjhgknagmiekeaa.T Go.Proofs.Ytjhgknagmiekeaa.VA
open Go.Proofs.YtjhgknagmiekeaaW.PrintWords hiding blk_cell
attribute [local go_sem] Oper.semAt_some
theorem results_box {fn : Func} {p : Tmp} (h : fn.results = #[.cell p 4]) (tmps : Array Value) (w : World) (g : Nat) (b : Bool) (hp : tmps.getD p undef = .pointer (some ⟨g, 0, none⟩)) (hg : Boxed w g 4 (.bool b)) :
    (results fn tmps).run Try.prog w = .ok (.bool b) w := by
  have hp' : tmps[p]?.getD undef = .pointer (some ⟨g, 0, none⟩) := by simpa using hp
  have hc := hg.cell
  simp [results, h, hp', asAddr, go_sem, hc]
end Go.Proofs.Ytjhgknagmiekeaa.V
set_option linter.unusedVariables false
set_option linter.unusedSimpArgs false
namespace Go.Proofs.Ytjhgknagmiekeaa.V
open Go.Proofs.Ytjhgknagmiekeaa.VU (below_drewA)
open Go.RowKit Go.Lib Go.Proofs Go.Shelf
open Go.Proofs.Ytjhgknagmiekeaa.T Go.Proofs.Ytjhgknagmiekeaa.N Go.Proofs.Ytjhgknagmiekeaa.K
open Go.Proofs.YtjhgknagmiekeaaW.PrintWords hiding blk_cell
attribute [local go_sem] Oper.semAt_some
theorem gb_of {w : World} {b : Nat} {o : Obj} (h : w.heap[b]? = some o) : b < w.heap.size := (Array.getElem?_eq_some_iff.1 h).1
set_option maxRecDepth 100000 in
set_option maxHeartbeats 8000000 in
theorem leftLaw_0 (A : Option Addr) (c : Nat) (l : List S35) (n : Int) (hn : n < 1) (w : World) (hl : EntAt w A l) (hc : l.length ≤ c) (hlen : l.length < 10000000000) (hs : ∀ e ∈ l, e.f0.size < 4000000000000) :
    Calls Try.prog 4 #[.slice A l.length c, .int .i64 n] w fun e w' => e = .returned (.bool true) ∧ Below w.heap.size w w' := by
  refine callsIn_wide.1 (show CallsIn Fence.wide 9 Try.prog 4 _ w _ from ?_)
  have qa := Aside0.mk (fun w1 => show CallsIn Fence.wide 8 Try.prog 20 _ w1 _ from callsIn_wide.2 (aliveC w1))
  have qb := Aside0.mk (fun w1 (h : Below w.heap.size w w1) => show CallsIn Fence.wide 8 Try.prog 21 _ w1 _ from callsIn_wide.2 (builtC A c l w1 (Kd.C_below hl h) hc hlen hs))
  have qf := Aside0.mk (fun w1 tb => show CallsIn Fence.wide 8 Try.prog 26 _ w1 _ from callsIn_wide.2 (allC tb w1))
  have HN := Aside0.mk hlen
  have HB := Aside0.mk (((Below.refl w.heap.size w).alloc (Nat.le_refl _) (.cells #[.int .i64 n] 3)).alloc (by simp) (.cells #[.bool false] 4))
  clear hl hc hlen hs
  unfold ptr at qb qf
  have hnf := funcNil
  refine callsIn_of_wp_marks Try.func4 rfl trivial ?_ rfl
  simp only [Try.ntmps4, List.size_toArray, List.length_cons, List.length_nil, Nat.reduceAdd, Nat.reduceSub, Array.replicate_succ, Array.replicate_zero, List.push_toArray, List.append_toArray, List.nil_append, List.cons_append]
  have hN0 : ((w.alloc (.cells #[.int .i64 n] 3)).alloc (.cells #[.bool false] 4)).heap[w.heap.size]? = some (.cells #[.int .i64 n] 3 (0, 0)) := (Below.heap_alloc _ _ _ (by simp)).trans (World.alloc_heap_new w _)
  have hR0 : ((w.alloc (.cells #[.int .i64 n] 3)).alloc (.cells #[.bool false] 4)).heap[w.heap.size + 1]? = some (.cells #[.bool false] 4 (0, 0)) := by have := World.alloc_heap_new (w.alloc (.cells #[.int .i64 n] 3)) (.cells #[.bool false] 4); rwa [World.size_alloc] at this
  have HNR := Aside0.mk (And.intro hN0 hR0)
  clear hN0 hR0
  gi_wp2_with (first
    | (refine ⟨trivial, ?_⟩; gi_at_call 20; refine (qa.out _).mono ?_; rintro e w0 ⟨rfl, hb0⟩; have HB0 := Aside0.mk (HB.out.trans (hb0.mono (by simp; omega))); have HN0 := Aside0.mk (And.intro ((Kept.of hb0).at HNR.out.1) ((Kept.of hb0).at HNR.out.2)); clear hb0 HNR)
    | (refine ⟨trivial, ?_⟩; gi_at_call 21; refine (qb.out _ HB0.out).mono ?_; rintro e w1 ⟨tb, root, t, v0, v1, v2, v3, v4, rfl, ht, hk, ha, hr, hl, hv, hb⟩; obtain ⟨⟨A0, n0, c0, rfl⟩, ⟨A1, n1, c1, rfl⟩, ⟨A2, n2, c2, rfl⟩, ⟨A3, n3, c3, rfl⟩, ⟨A4, n4, c4, rfl⟩⟩ := hr.forms; have HN1 := Aside0.mk (And.intro ((Kept.of hb).at HN0.out.1) ((Kept.of hb).at HN0.out.2)); have cN := fun o => ((show Boxed w1 w.heap.size 3 (.int .i64 n) from HN1.out.1).alloc o).cell; have fN := fun o => ((show Boxed w1 w.heap.size 3 (.int .i64 n) from HN1.out.1).alloc o).frozen; have H1 := Aside0.mk (And.intro ht (And.intro hk (And.intro ha (And.intro hr (And.intro hl (belowAt HB0.out hb)))))); clear ht hk ha hr hl hv hb HN0)
    | (refine ⟨trivial, ?_⟩; gi_at_call 26; refine (qf.out _ _).mono ?_; rintro e w2 ⟨bt, bs, bk, rfl, h1, h2, h3, h4⟩; have H2 := Aside0.mk (And.intro h1 (And.intro h2 (And.intro h3 h4))); clear h1 h2 h3 h4))
  clear qa qb qf hnf cN fN
  obtain ⟨h1, h2, h3, h4⟩ := H2.out
  have ht := H1.out.1
  have hlow : w.heap.size + 2 ≤ w1.heap.size := by have := gb_of HN1.out.2; omega
  obtain ⟨nn, enn⟩ : ∃ nn : Int, 1 = nn := ⟨_, rfl⟩
  have hnn : 1 ≤ nn := by omega
  obtain ⟨wS, eS⟩ : ∃ wS, ((w1.alloc (Obj.cells #[.slice A0 n0 c0, .slice A1 n1 c1, .slice A2 n2 c2, .slice A3 n3 c3, .slice A4 n4 c4] 28)).setCell ⟨w.heap.size, 0, none⟩ (.int .i64 1)) = wS := ⟨_, rfl⟩
  have hBa : Below w1.heap.size w1 (w1.alloc (Obj.cells #[.slice A0 n0 c0, .slice A1 n1 c1, .slice A2 n2 c2, .slice A3 n3 c3, .slice A4 n4 c4] 28)) := (Below.refl _ w1).alloc (Nat.le_refl _) _
  have hMa := World.alloc_heap_new w1 (Obj.cells #[.slice A0 n0 c0, .slice A1 n1 c1, .slice A2 n2 c2, .slice A3 n3 c3, .slice A4 n4 c4] 28)
  have bNa : Boxed (w1.alloc (Obj.cells #[.slice A0 n0 c0, .slice A1 n1 c1, .slice A2 n2 c2, .slice A3 n3 c3, .slice A4 n4 c4] 28)) w.heap.size 3 (.int .i64 n) := (Kept.of hBa).at HN1.out.1
  have bRa : Boxed (w1.alloc (Obj.cells #[.slice A0 n0 c0, .slice A1 n1 c1, .slice A2 n2 c2, .slice A3 n3 c3, .slice A4 n4 c4] 28)) (w.heap.size + 1) 4 (.bool false) := (Kept.of hBa).at HN1.out.2
  have hwB : Below w.heap.size w (w1.alloc (Obj.cells #[.slice A0 n0 c0, .slice A1 n1 c1, .slice A2 n2 c2, .slice A3 n3 c3, .slice A4 n4 c4] 28)) := belowAt H1.out.2.2.2.2.2 hBa
  have bN : Boxed wS w.heap.size 3 (.int .i64 nn) := by rw [← eS, ← enn]; exact bNa.set _
  have bR : Boxed wS (w.heap.size + 1) 4 (.bool false) := by rw [← eS]; exact bRa.other (by omega) _
  have bM : wS.heap[w1.heap.size]? = some (Obj.cells #[.slice A0 n0 c0, .slice A1 n1 c1, .slice A2 n2 c2, .slice A3 n3 c3, .slice A4 n4 c4] 28) := by rw [← eS]; exact (Below.heap_setCell _ _ _ _ (by show w1.heap.size ≠ w.heap.size; omega)).trans hMa
  have tS : Tr wS tb root := by rw [← eS]; exact farB_tr (farB_box bNa (by decide) (fun b e => by cases e) _) (ht.keep (Kept.of hBa))
  have kS : SlS wS (.slice A0 n0 c0) t.ks := by rw [← eS]; exact slS_set bNa (fun s e => by cases e) _ (H1.out.2.2.2.1.a0.below hBa)
  have wSB : Below w.heap.size w wS := by rw [← eS]; exact hwB.setCell (p := ⟨w.heap.size, 0, none⟩) (Nat.le_refl _) _
  have sS : w1.heap.size + 1 ≤ wS.heap.size := by rw [← eS]; simp [World.setCell]
  have h4' : Below wS.heap.size wS w2 := by rw [← eS]; exact h4
  have k4 := Kept.of h4'
  have s2 := h4'.size
  obtain ⟨w3, e3⟩ : ∃ w3, ((w2.alloc (Obj.cells #[.func (.func 117) #[] #[.pointer (some ⟨bt, 0, none⟩), .pointer (some ⟨bs, 0, none⟩), .pointer (some ⟨bk, 0, none⟩)]] 32)).alloc (Obj.cells #[.int .i64 0] 3)) = w3 := ⟨_, rfl⟩
  have hB3 : Below w2.heap.size w2 w3 := by rw [← e3]; exact ((Below.refl _ w2).alloc (Nat.le_refl _) _).alloc (by simp) _
  have s3 : w3.heap.size = w2.heap.size + 2 := by rw [← e3]; simp
  have bA : w3.heap[w2.heap.size]? = some (.cells #[.func (.func 117) #[] #[.pointer (some ⟨bt, 0, none⟩), .pointer (some ⟨bs, 0, none⟩), .pointer (some ⟨bk, 0, none⟩)]] 32 (0, 0)) := by rw [← e3]; exact (Below.heap_alloc _ _ _ (by simp)).trans (World.alloc_heap_new w2 _)
  have bS : Boxed w3 (w2.heap.size + 1) 3 (.int .i64 0) := by rw [← e3]; have := World.alloc_heap_new (w2.alloc (Obj.cells #[.func (.func 117) #[] #[.pointer (some ⟨bt, 0, none⟩), .pointer (some ⟨bs, 0, none⟩), .pointer (some ⟨bk, 0, none⟩)]] 32)) (Obj.cells #[.int .i64 0] 3); rwa [World.size_alloc] at this
  rw [e3]
  obtain ⟨kc, ekc⟩ : ∃ kc, kS = kc := ⟨_, rfl⟩
  obtain ⟨An, cn, ek, hkc, hkr⟩ := kS
  obtain ⟨rfl, e0, rfl⟩ : A0 = An ∧ t.ks.length = n0 ∧ c0 = cn := by injection ek with a b c; exact ⟨a, b.symm, c⟩
  have kS2 := (show SlS wS (.slice A0 n0 c0) t.ks from kc).below h4'
  have bN2 := k4.at bN
  have bR2 := k4.at bR
  have bM2 := k4.at bM
  have tr2 : Tr w2 tb root := tS.keep k4
  have hall := all_eq ht.fine.toGood H1.out.2.2.1
  have hvl : t.vs.length = t.ks.length := H1.out.2.1.v
  have hzl : (t.ks.zip t.vs).length = t.ks.length := by rw [List.length_zip]; omega
  have hNl : n0 < 10000000000 := by have := H1.out.2.2.2.2.1; have := HN.out; omega
  have HE0 := Aside0.mk e0
  clear hkr hkc ek ekc kc eS e3 hBa hMa bNa bRa hwB tS bN bR bM h4 hn
  refine wpIn_rangeFunc_ownH rfl (by decide) (gf := 117) (lb := #[ptr bt, ptr bs, ptr bk]) rfl trivial (enters_of Try.func117 (by kernel_rfl) rfl)
    (VA.seq w3 8 n0 w3.heap.size (fun k => k = w2.heap.size + 1) w2 (Kept.of hB3) (by omega) (Nat.le_refl _) (fun k hk e => by omega) tb root tr2 bt bs bk ⟨(Kept.of hB3).at h1, (Kept.of hB3).at h2, (Kept.of hB3).at h3⟩ (by rw [hall, hzl]; omega))
    kpT (kpB (Nat.le_refl _)) (Below.refl _ _) (fun _ => rfl)
    (fun pre W => Boxed W (w2.heap.size + 1) 3 (.int .i64 (pre.length : Int)) ∧ (PK t.ks pre ∧ (pre.length : Int) < nn) ∧ W.heap[w2.heap.size]? = some (.cells #[.func (.func 117) #[] #[.pointer (some ⟨bt, 0, none⟩), .pointer (some ⟨bs, 0, none⟩), .pointer (some ⟨bk, 0, none⟩)]] 32 (0, 0)) ∧ Below w2.heap.size w2 W ∧ w3.heap.size ≤ W.heap.size)
    (fun cd pre W => (cd = .ret ∧ ¬ PK t.ks pre) ∨ (cd = .exit 0 ∧ (PK t.ks pre ∧ (pre.length : Int) = nn) ∧ Boxed W (w2.heap.size + 1) 3 (.int .i64 (pre.length : Int)) ∧ Below w2.heap.size w2 W))
    ?hI ?hIx ?h0 (fun (x : ByteArray × Int) a' (Z : World) => a' = { tmps := #[.slice A l.length c, .int .i64 n, undef, .pointer (some ⟨w.heap.size, 0, none⟩), .pointer (some ⟨w.heap.size + 1, 0, none⟩), .pointer (some ⟨tb, 0, none⟩), .pointer (some ⟨w1.heap.size, 0, none⟩), .pointer (some ⟨w2.heap.size, 0, none⟩), .pointer (some ⟨w2.heap.size + 1, 0, none⟩), .string x.1, undef, undef, .bool true, .bool false, .tuple #[.pointer (some ⟨tb, 0, none⟩), .agg #[.slice A0 n0 c0, .slice A1 n1 c1, .slice A2 n2 c2, .slice A3 n3 c3, .slice A4 n4 c4]], .slice A l.length c, .tuple #[.pointer (some ⟨tb, 0, none⟩), .agg #[.slice A0 n0 c0, .slice A1 n1 c1, .slice A2 n2 c2, .slice A3 n3 c3, .slice A4 n4 c4]], .pointer (some ⟨tb, 0, none⟩), .agg #[.slice A0 n0 c0, .slice A1 n1 c1, .slice A2 n2 c2, .slice A3 n3 c3, .slice A4 n4 c4], .pointer (some ⟨tb, 0, none⟩), .bool false, .int .i64 n, .bool true, .pointer (some ⟨tb, 0, none⟩), .func (.func 117) #[] #[.pointer (some ⟨bt, 0, none⟩), .pointer (some ⟨bs, 0, none⟩), .pointer (some ⟨bk, 0, none⟩)], .func (.func 117) #[] #[.pointer (some ⟨bt, 0, none⟩), .pointer (some ⟨bs, 0, none⟩), .pointer (some ⟨bk, 0, none⟩)], .bool false, .func (.func 117) #[] #[.pointer (some ⟨bt, 0, none⟩), .pointer (some ⟨bs, 0, none⟩), .pointer (some ⟨bk, 0, none⟩)], .string x.1, .int .i64 x.2, undef, undef, undef, undef, undef, undef, undef, undef, undef, undef, undef, undef, undef, undef, undef, undef, undef, undef, undef, undef, undef, undef, undef, undef, undef, undef, undef, undef, undef, undef, undef, undef, undef, undef, undef, undef, undef, undef, undef, undef, undef, undef, undef, undef, undef, undef, undef, undef, undef, undef, undef, undef, undef, undef, undef], defers := [] }) ?hAx ?assign ?body ?done ?stop
  case assign =>
    intro l' pre x Wa K hI hK
    gi_wp2
    exact hK _ _ (KeepsFrom.refl _ _) (KpM.of (Below.refl _ _)) hI rfl
  case hI => exact OwnFrom.and (Own.from (boxed_own (w2.heap.size + 1) 3 (fun pre : List (ByteArray × Int) => .int .i64 (pre.length : Int))) _) (OwnFrom.and (ownFrom_pure _ _) (OwnFrom.and (Own.from (blk_own _ _ _ _) _) (OwnFrom.and (ownFrom_below (Nat.le_refl _) (by omega)) (fun s X Y row hs hg hr => Nat.le_trans hs hg.size))))
  case hIx =>
    intro cd s X Y row hs hg hr
    rcases hs with hs | ⟨k1, k2, k3, k4⟩
    · exact .inl hs
    · exact .inr ⟨k1, k2, (Own.from (boxed_own (w2.heap.size + 1) 3 (fun pre : List (ByteArray × Int) => .int .i64 (pre.length : Int))) w3.heap.size) s X Y row k3 hg hr, (ownFrom_below (β := Unit) (B := w3.heap.size) (Nat.le_refl _) (by omega)) () X Y row k4 hg hr⟩
  case hAx => exact fun x a' => ownFrom_pure _ (fun _ => a' = _)
  case h0 => exact ⟨bS, ⟨pk_nil _, by show ((0 : Nat) : Int) < nn; omega⟩, bA, hB3, Nat.le_refl _⟩
  case body =>
    rintro l' pre x a' W hl' hr0 ⟨hS, ⟨hP, hn⟩, hA, hB, hsz⟩ rfl hlt
    have HQ := Aside0.mk (And.intro hall (And.intro hvl (And.intro hzl enn)))
    have HTR := Aside0.mk (And.intro tr2 (And.intro h1 (And.intro h2 h3)))
    have HSZ3 := Aside0.mk s3
    clear hall hvl hzl enn e0 h1 h2 h3 h4' k4 s2 wSB sS hB3 s3 bA bS tr2 hlow
    have cS := hS.cell
    have fS := hS.frozen
    have kB := Kept.of hB
    have cM : W.cell? ⟨w1.heap.size, 0, none⟩ = some (.slice A0 n0 c0) := by rw [blk_cell (kB.at bM2)]; rfl
    have cN : W.cell? ⟨w.heap.size, 0, none⟩ = some (.int .i64 nn) := (show Boxed W _ _ _ from kB.at bN2).cell
    have fR := (show Boxed W _ _ _ from kB.at bR2).frozen
    have cR := (show Boxed W _ _ _ from kB.at bR2).cell
    have cA : W.cell? ⟨w2.heap.size, 0, none⟩ = some (.func (.func 117) #[] #[.pointer (some ⟨bt, 0, none⟩), .pointer (some ⟨bs, 0, none⟩), .pointer (some ⟨bk, 0, none⟩)]) := by rw [blk_cell hA]; rfl
    obtain ⟨pl, epl⟩ : ∃ pl, pre.length = pl := ⟨_, rfl⟩
    rw [epl] at cS hn hlt
    obtain ⟨ad, cq, eq1, eq2, eq3⟩ := slS_at kS2 pl (by rw [HE0.out]; exact hlt)
    have eA : A0 = some ad := by injection eq1
    subst eA
    obtain ⟨gk, egk⟩ : ∃ gk, gd t.ks pl = gk := ⟨_, rfl⟩
    rw [egk] at eq3
    have cK := kB.cell eq3
    have HEQ := Aside0.mk (And.intro egk epl)
    have HW := Aside0.mk (And.intro hS (And.intro hP (And.intro hA (And.intro hB hsz))))
    have HR0 := Aside0.mk hr0
    have HW2 := Aside0.mk kB
    clear hS hP hA hB hsz kB epl hr0 egk eq1 eq2 eq3
    have d1 : decide (n0 ≤ pl) = false := by simp; omega
    by_cases hx : x.1 = gk
    · have d2 := beq_yes hx
      have HX := Aside0.mk hx
      have cA2 : ∀ v o, ((W.setCell ⟨w2.heap.size + 1, 0, none⟩ v).alloc o).cell? ⟨w2.heap.size, 0, none⟩ = some (.func (.func 117) #[] #[.pointer (some ⟨bt, 0, none⟩), .pointer (some ⟨bs, 0, none⟩), .pointer (some ⟨bk, 0, none⟩)]) := fun v o => cellA ((World.cell?_of_block (Below.heap_setCell _ _ _ _ (by show w2.heap.size ≠ w2.heap.size + 1; omega))).trans cA)
      clear hx
      gi_wp2_with fail
      obtain ⟨W2, eW2⟩ : ∃ W2, ((W.setCell ⟨w2.heap.size + 1, 0, none⟩ (.int .i64 ((pl : Int) + 1))).alloc (Obj.cells #[.int .i64 0] 3)) = W2 := ⟨_, rfl⟩
      rw [eW2]
      obtain ⟨hS, hP, hA, hB, hsz⟩ := HW.out
      obtain ⟨r0, hr0⟩ := HR0.out
      have hsS : (W.setCell ⟨w2.heap.size + 1, 0, none⟩ (.int .i64 ((pl : Int) + 1))).heap.size = W.heap.size := by simp [World.setCell]
      have hsW2 : W2.heap.size = W.heap.size + 1 := by rw [← eW2, World.size_alloc, hsS]
      have hso : ∀ k o, W.heap[k]? = some o → k ≠ w2.heap.size + 1 → W2.heap[k]? = some o := fun k o h hk => by
        rw [← eW2]
        exact (Below.heap_alloc _ _ _ (by rw [hsS]; exact gb_of h)).trans ((Below.heap_setCell _ _ _ _ (by exact hk)).trans h)
      have bS2 : Boxed W2 (w2.heap.size + 1) 3 (.int .i64 ((pl : Int) + 1)) := by rw [← eW2]; exact (hS.set _).alloc _
      have bI2 : Boxed W2 W.heap.size 3 (.int .i64 0) := by rw [← eW2, ← hsS]; exact World.alloc_heap_new _ _
      have hA2 := hso _ _ hA (by omega)
      have hB2 : Below w2.heap.size w2 W2 := by rw [← eW2]; exact (hB.setCell (p := ⟨w2.heap.size + 1, 0, none⟩) (by show w2.heap.size ≤ w2.heap.size + 1; omega) _).alloc (by rw [hsS]; exact hB.size) _
      have hr2 : W2.heap[l']? = some (.loop r0) := hso _ _ hr0 (by have := HSZ3.out; omega)
      have hkf : KeepsFrom w3.heap.size W W2 := by rw [← eW2]; exact ((KeepsOthers.setCell _ _ _).from _).trans (KeepsFrom.of_grownBy (World.grownBy_alloc _ _ none) (fun j e => by cases e))
      have hkp : KpM w3.heap.size (fun k => k = w2.heap.size + 1) W W2 := by
        rw [← eW2]
        exact (KpM.setBox (M := fun k => k = w2.heap.size + 1) hS (by decide) rfl _).trans (KpM.of ((Below.refl _ _).alloc (Nat.le_refl _) _))
      have hs2w : w3.heap.size ≤ W.heap.size := hsz
      refine wpIn_rangeFunc_ownN rfl hr2 (by decide) (gf := 117) (lb := #[ptr bt, ptr bs, ptr bk]) rfl trivial (enters_of Try.func117 (by kernel_rfl) rfl)
        (SeqStopsK.inRound l' (VA.seq W2 6 n0 W2.heap.size (fun k => k = W.heap.size) w2 (Kept.of hB2) (by have := hB.size; omega) (Nat.le_refl _) (fun k hk e => by have := hB.size; omega) tb root HTR.out.1 bt bs bk ⟨(Kept.of hB2).at HTR.out.2.1, (Kept.of hB2).at HTR.out.2.2.1, (Kept.of hB2).at HTR.out.2.2.2⟩ (by rw [HQ.out.1, HQ.out.2.2.1, HE0.out]; exact Nat.le_refl _)))
        kpT (kpB (Nat.le_refl _)) (Below.refl _ _) (fun _ => rfl)
        (fun q Z => Boxed Z W.heap.size 3 (.int .i64 (q.length : Int)) ∧ (PK t.ks q ∧ q.length < 3) ∧ Boxed Z (w2.heap.size + 1) 3 (.int .i64 ((pl : Int) + 1)) ∧ Z.heap[w2.heap.size]? = some (.cells #[.func (.func 117) #[] #[.pointer (some ⟨bt, 0, none⟩), .pointer (some ⟨bs, 0, none⟩), .pointer (some ⟨bk, 0, none⟩)]] 32 (0, 0)) ∧ Below w2.heap.size w2 Z ∧ KeepsFrom w3.heap.size W Z ∧ KpM w3.heap.size (fun k => k = w2.heap.size + 1) W Z ∧ W2.heap.size ≤ Z.heap.size)
        (fun cd q Z => (cd = .ret ∧ ¬ PK t.ks q) ∨ (cd = .exit 2 ∧ q.length = 3 ∧ Boxed Z W.heap.size 3 (.int .i64 (q.length : Int)) ∧ Boxed Z (w2.heap.size + 1) 3 (.int .i64 ((pl : Int) + 1)) ∧ Z.heap[w2.heap.size]? = some (.cells #[.func (.func 117) #[] #[.pointer (some ⟨bt, 0, none⟩), .pointer (some ⟨bs, 0, none⟩), .pointer (some ⟨bk, 0, none⟩)]] 32 (0, 0)) ∧ Below w2.heap.size w2 Z ∧ KeepsFrom w3.heap.size W Z ∧ KpM w3.heap.size (fun k => k = w2.heap.size + 1) W Z ∧ W2.heap.size ≤ Z.heap.size))
        ?iI ?iIx ?i0 (fun (y : ByteArray × Int) a' (Z : World) => a' = { tmps := #[.slice A l.length c, .int .i64 n, undef, .pointer (some ⟨w.heap.size, 0, none⟩), .pointer (some ⟨w.heap.size + 1, 0, none⟩), .pointer (some ⟨tb, 0, none⟩), .pointer (some ⟨w1.heap.size, 0, none⟩), .pointer (some ⟨w2.heap.size, 0, none⟩), .pointer (some ⟨w2.heap.size + 1, 0, none⟩), .string x.1, .pointer (some ⟨W.heap.size, 0, none⟩), .string y.1, .bool true, .bool false, .tuple #[.pointer (some ⟨tb, 0, none⟩), .agg #[.slice (some ad) n0 c0, .slice A1 n1 c1, .slice A2 n2 c2, .slice A3 n3 c3, .slice A4 n4 c4]], .slice A l.length c, .tuple #[.pointer (some ⟨tb, 0, none⟩), .agg #[.slice (some ad) n0 c0, .slice A1 n1 c1, .slice A2 n2 c2, .slice A3 n3 c3, .slice A4 n4 c4]], .pointer (some ⟨tb, 0, none⟩), .agg #[.slice (some ad) n0 c0, .slice A1 n1 c1, .slice A2 n2 c2, .slice A3 n3 c3, .slice A4 n4 c4], .pointer (some ⟨tb, 0, none⟩), .bool false, .int .i64 n, .bool true, .pointer (some ⟨tb, 0, none⟩), .func (.func 117) #[] #[.pointer (some ⟨bt, 0, none⟩), .pointer (some ⟨bs, 0, none⟩), .pointer (some ⟨bk, 0, none⟩)], .func (.func 117) #[] #[.pointer (some ⟨bt, 0, none⟩), .pointer (some ⟨bs, 0, none⟩), .pointer (some ⟨bk, 0, none⟩)], .bool false, .func (.func 117) #[] #[.pointer (some ⟨bt, 0, none⟩), .pointer (some ⟨bs, 0, none⟩), .pointer (some ⟨bk, 0, none⟩)], .string x.1, .int .i64 x.2, .int .i64 (pl : Int), .pointer (some ⟨w1.heap.size, 0, none⟩), .slice (some ad) n0 c0, .int .i64 (n0 : Int), .bool false, .bool false, .string x.1, .pointer (some ⟨w1.heap.size, 0, none⟩), .slice (some ad) n0 c0, .int .i64 (pl : Int), .pointer (some (ad.add pl)), .string gk, .bool false, .bool false, .int .i64 (pl : Int), .int .i64 ((pl : Int) + 1), .func (.func 117) #[] #[.pointer (some ⟨bt, 0, none⟩), .pointer (some ⟨bs, 0, none⟩), .pointer (some ⟨bk, 0, none⟩)], .string y.1, .int .i64 y.2, undef, undef, undef, undef, undef, undef, undef, undef, undef, undef, undef, undef, undef, undef, undef, undef, undef, undef, undef, undef, undef, undef, undef, undef, undef, undef, undef, undef, undef, undef, undef, undef, undef, undef, undef, undef], defers := [] }) ?iAx ?iassign ?ibody ?idone ?istop
      case iassign =>
        intro y1 y2 y3 y4 K hI hK
        gi_wp2
        exact hK _ _ (KeepsFrom.refl _ _) (KpM.of (Below.refl _ _)) hI rfl
      case iI => exact OwnFrom.and (Own.from (boxed_own W.heap.size 3 (fun q : List (ByteArray × Int) => .int .i64 (q.length : Int))) _) (OwnFrom.and (ownFrom_pure _ _) (OwnFrom.and (Own.from (boxed_own (w2.heap.size + 1) 3 (fun _ => .int .i64 ((pl : Int) + 1))) _) (OwnFrom.and (Own.from (blk_own _ _ _ _) _) (OwnFrom.and (ownFrom_below (Nat.le_refl _) hB2.size) (OwnFrom.and (ownFrom_keepsFrom (by omega)) (OwnFrom.and (kpM_own (by omega) (by omega)) (fun s X Y row hs hg hr => Nat.le_trans hs hg.size)))))))
      case iIx =>
        intro cd s X Y row hs hg hr
        rcases hs with hs | ⟨k1, k2, k3, k4, k5, k6, k7, k8, k9⟩
        · exact .inl hs
        · exact .inr ⟨k1, k2, (Own.from (boxed_own W.heap.size 3 (fun q : List (ByteArray × Int) => .int .i64 (q.length : Int))) W2.heap.size) s X Y row k3 hg hr, (Own.from (boxed_own (β := Unit) (w2.heap.size + 1) 3 (fun _ => .int .i64 ((pl : Int) + 1))) W2.heap.size) () X Y row k4 hg hr, (Own.from (blk_own (β := Unit) _ _ _ _) W2.heap.size) () X Y row k5 hg hr, (ownFrom_below (β := Unit) (B := W2.heap.size) (Nat.le_refl _) hB2.size) () X Y row k6 hg hr, (ownFrom_keepsFrom (β := Unit) (B' := W2.heap.size) (by omega)) () X Y row k7 hg hr, (kpM_own (β := Unit) (B := W2.heap.size) (by omega) (by omega)) () X Y row k8 hg hr, Nat.le_trans k9 hg.size⟩
      case iAx => exact fun y a' => ownFrom_pure _ (fun _ => a' = _)
      case i0 => exact ⟨bI2, ⟨pk_nil _, by decide⟩, bS2, hA2, hB2, hkf, hkp, Nat.le_refl _⟩
      case ibody =>
        rintro l2 q y a2 Z hl2 hr22 ⟨zI, ⟨zP, z3⟩, zS, zA, zB, zK, zM, zs⟩ rfl hltq
        have HZ := Aside0.mk (And.intro zI (And.intro zP (And.intro zS (And.intro zA (And.intro zB (And.intro zK (And.intro zM zs)))))))
        obtain ⟨ql, eql⟩ : ∃ ql, q.length = ql := ⟨_, rfl⟩
        obtain ⟨ad', cq', eq1, eq2, eq3⟩ := slS_at kS2 q.length (by rw [HE0.out]; exact hltq)
        have ead : ad' = ad := by injection eq1 with e1; injection e1 with e2; exact e2.symm
        rw [ead] at eq3
        obtain ⟨gq, egq⟩ : ∃ gq, gd t.ks q.length = gq := ⟨_, rfl⟩
        rw [egq, eql] at eq3
        have cI := zI.cell
        have fI := zI.frozen
        rw [eql] at cI z3 hltq
        have cKq := (Kept.of zB).cell eq3
        have cMq : Z.cell? ⟨w1.heap.size, 0, none⟩ = some (.slice (some ad) n0 c0) := by rw [blk_cell ((Kept.of zB).at bM2)]; rfl
        have fRq := (show Boxed Z _ _ _ from (Kept.of zB).at bR2).frozen
        have cRq := (show Boxed Z _ _ _ from (Kept.of zB).at bR2).cell
        have d1q : decide (n0 ≤ ql) = false := by simp; omega
        have HQ2 := Aside0.mk (And.intro eql egq)
        have HY2 := Aside0.mk (And.intro hs2w hsW2)
        clear zI zP zS zA zB zK zM zs eq1 eq2 eq3 ead eql egq hr22 cA2 cK cM fR cR cA cN cS fS hS hP hA hB hsz bS2 bI2 hA2 hB2 hr2 hkf hkp hso hsS hr0 eW2 d1 d2
        by_cases hy : y.1 = gq
        · have d2q := beq_yes hy
          have HY := Aside0.mk hy
          clear hy
          by_cases h3 : ql = 2
          · have d3q : decide (3 ≤ (ql : Int) + 1) = true := by simp; omega
            have H3 := Aside0.mk h3
            clear h3
            gi_wp2_with fail
            obtain ⟨zI, zP, zS, zA, zB, zK, zM, zs⟩ := HZ.out
            have el : ((q ++ [y]).length : Int) = (ql : Int) + 1 := by rw [List.length_append, List.length_singleton, HQ2.out.1]; omega
            have hpk : PK t.ks (q ++ [y]) := pk_snoc zP (by rw [HE0.out, HQ2.out.1]; exact hltq) (by rw [HY.out, HQ2.out.2])
            have bI' : Boxed (Z.setCell ⟨W.heap.size, 0, none⟩ (.int .i64 ((ql : Int) + 1))) W.heap.size 3 (.int .i64 ((q ++ [y]).length : Int)) := by rw [el]; exact zI.set _
            have zS' := zS.other (show w2.heap.size + 1 ≠ W.heap.size by have := HY2.out; have := HSZ3.out; omega) (.int .i64 ((ql : Int) + 1))
            have zA' := (Below.heap_setCell Z ⟨W.heap.size, 0, none⟩ (.int .i64 ((ql : Int) + 1)) w2.heap.size (by show w2.heap.size ≠ W.heap.size; have := HY2.out; have := HSZ3.out; omega)).trans zA
            have zB' := zB.setCell (p := ⟨W.heap.size, 0, none⟩) (by show w2.heap.size ≤ W.heap.size; have := HY2.out; have := HSZ3.out; omega) (.int .i64 ((ql : Int) + 1))
            have zK' := zK.trans ((KeepsOthers.setCell Z ⟨W.heap.size, 0, none⟩ (.int .i64 ((ql : Int) + 1))).from w3.heap.size)
            have zM' := zM.setNew (.int .i64 ((ql : Int) + 1)) (Nat.le_refl _)
            have zs' : W2.heap.size ≤ (Z.setCell ⟨W.heap.size, 0, none⟩ (.int .i64 ((ql : Int) + 1))).heap.size := by simpa [World.setCell] using zs
            exact ⟨(KeepsOthers.setCell _ _ _).from _, .inr ⟨rfl, by have := H3.out; omega, bI', zS', zA', zB', zK', zM', zs'⟩⟩
          · have d3q : decide (3 ≤ (ql : Int) + 1) = false := by simp; omega
            have H3 := Aside0.mk h3
            clear h3
            gi_wp2_with fail
            obtain ⟨zI, zP, zS, zA, zB, zK, zM, zs⟩ := HZ.out
            have el : ((q ++ [y]).length : Int) = (ql : Int) + 1 := by rw [List.length_append, List.length_singleton, HQ2.out.1]; omega
            have hpk : PK t.ks (q ++ [y]) := pk_snoc zP (by rw [HE0.out, HQ2.out.1]; exact hltq) (by rw [HY.out, HQ2.out.2])
            have bI' : Boxed (Z.setCell ⟨W.heap.size, 0, none⟩ (.int .i64 ((ql : Int) + 1))) W.heap.size 3 (.int .i64 ((q ++ [y]).length : Int)) := by rw [el]; exact zI.set _
            have zS' := zS.other (show w2.heap.size + 1 ≠ W.heap.size by have := HY2.out; have := HSZ3.out; omega) (.int .i64 ((ql : Int) + 1))
            have zA' := (Below.heap_setCell Z ⟨W.heap.size, 0, none⟩ (.int .i64 ((ql : Int) + 1)) w2.heap.size (by show w2.heap.size ≠ W.heap.size; have := HY2.out; have := HSZ3.out; omega)).trans zA
            have zB' := zB.setCell (p := ⟨W.heap.size, 0, none⟩) (by show w2.heap.size ≤ W.heap.size; have := HY2.out; have := HSZ3.out; omega) (.int .i64 ((ql : Int) + 1))
            have zK' := zK.trans ((KeepsOthers.setCell Z ⟨W.heap.size, 0, none⟩ (.int .i64 ((ql : Int) + 1))).from w3.heap.size)
            have zM' := zM.setNew (.int .i64 ((ql : Int) + 1)) (Nat.le_refl _)
            have zs' : W2.heap.size ≤ (Z.setCell ⟨W.heap.size, 0, none⟩ (.int .i64 ((ql : Int) + 1))).heap.size := by simpa [World.setCell] using zs
            exact ⟨(KeepsOthers.setCell _ _ _).from _, KpM.setBox (M := fun k => k = W.heap.size) zI (by decide) rfl _, bI', ⟨hpk, by have := H3.out; omega⟩, zS', zA', zB', zK', zM', zs'⟩
        · have d2q := beq_no hy
          have HY := Aside0.mk hy
          clear hy
          gi_wp2_with fail
          have hpk : ¬ PK t.ks (q ++ [y]) := pk_not (fun h => HY.out (by rw [h.2, HQ2.out.2]))
          exact ⟨(KeepsOthers.setCell _ _ _).from _, .inl ⟨rfl, hpk⟩⟩
      case idone =>
        rintro ys Z e9 ⟨zI, ⟨zP, z3⟩, zS, zA, zB, zK, zM, zs⟩
        have hys : ys.length = n0 := by rw [e9, HQ.out.1, HQ.out.2.2.1, HE0.out]
        have HZ := Aside0.mk (And.intro zS (And.intro zA (And.intro zB (And.intro zK (And.intro zM zs)))))
        obtain ⟨ql, eql⟩ : ∃ ql, ys.length = ql := ⟨_, rfl⟩
        have hq1 : 1 ≤ ql := by omega
        rw [eql] at zI
        have cI := zI.cell
        have cS2 := zS.cell
        have cNz : Z.cell? ⟨w.heap.size, 0, none⟩ = some (.int .i64 nn) := (show Boxed Z _ _ _ from (Kept.of zB).at bN2).cell
        have d5 : ((ql : Int) == 0) = false := by simp; omega
        have HYq := Aside0.mk (And.intro hs2w (And.intro hsW2 hn))
        clear zI zS zA zB zK zM zs eql cA2 cK cM fR cR cA cN cS fS hS hP hA hB hsz bS2 bI2 hA2 hB2 hr2 hkf hkp hso hsS hr0 eW2 d1 d2
        have hpk : PK t.ks (pre ++ [x]) := pk_snoc HW.out.2.1 (by rw [HE0.out, HEQ.out.2]; exact hlt) (by rw [HX.out, HEQ.out.2, HEQ.out.1])
        have HPK := Aside0.mk hpk
        have el : ((pre ++ [x]).length : Int) = (pl : Int) + 1 := by rw [List.length_append, List.length_singleton, HEQ.out.2]; omega
        have HEL := Aside0.mk el
        clear hpk el
        by_cases hge : nn ≤ (pl : Int) + 1
        · have d6 : decide (nn ≤ (pl : Int) + 1) = true := by simpa using hge
          have HG := Aside0.mk hge
          clear hge
          gi_wp2_with fail
          exact ⟨HZ.out.2.2.2.1, .inr ⟨rfl, ⟨HPK.out, by rw [HEL.out]; have := HG.out; omega⟩, by rw [HEL.out]; exact HZ.out.1, HZ.out.2.2.1⟩⟩
        · have d6 : decide (nn ≤ (pl : Int) + 1) = false := by simpa using hge
          have HG := Aside0.mk hge
          clear hge
          gi_wp2_with fail
          exact ⟨HZ.out.2.2.2.1, HZ.out.2.2.2.2.1, by rw [HEL.out]; exact HZ.out.1, ⟨HPK.out, by rw [HEL.out]; have := HG.out; omega⟩, HZ.out.2.1, HZ.out.2.2.1, by have := HZ.out.2.2.2.2.2; have := HYq.out; omega⟩
      case istop =>
        rintro cd q Z hSp (⟨rfl, hnp⟩ | ⟨rfl, hq3, zI, zS, zA, zB, zK, zM, zs⟩)
        · rw [HQ.out.1] at hSp
          exact absurd (pk_pre HQ.out.2.1 hSp) hnp
        · have HZ := Aside0.mk (And.intro zS (And.intro zA (And.intro zB (And.intro zK (And.intro zM zs)))))
          obtain ⟨ql, eql⟩ : ∃ ql, q.length = ql := ⟨_, rfl⟩
          have hq1 : 1 ≤ ql := by omega
          rw [eql] at zI
          have cI := zI.cell
          have cS2 := zS.cell
          have cNz : Z.cell? ⟨w.heap.size, 0, none⟩ = some (.int .i64 nn) := (show Boxed Z _ _ _ from (Kept.of zB).at bN2).cell
          have d5 : ((ql : Int) == 0) = false := by simp; omega
          have HYq := Aside0.mk (And.intro hs2w (And.intro hsW2 hn))
          clear zI zS zA zB zK zM zs eql cA2 cK cM fR cR cA cN cS fS hS hP hA hB hsz bS2 bI2 hA2 hB2 hr2 hkf hkp hso hsS hr0 eW2 d1 d2
          have hpk : PK t.ks (pre ++ [x]) := pk_snoc HW.out.2.1 (by rw [HE0.out, HEQ.out.2]; exact hlt) (by rw [HX.out, HEQ.out.2, HEQ.out.1])
          have HPK := Aside0.mk hpk
          have el : ((pre ++ [x]).length : Int) = (pl : Int) + 1 := by rw [List.length_append, List.length_singleton, HEQ.out.2]; omega
          have HEL := Aside0.mk el
          clear hpk el
          by_cases hge : nn ≤ (pl : Int) + 1
          · have d6 : decide (nn ≤ (pl : Int) + 1) = true := by simpa using hge
            have HG := Aside0.mk hge
            clear hge
            gi_wp2_with fail
            exact ⟨HZ.out.2.2.2.1, .inr ⟨rfl, ⟨HPK.out, by rw [HEL.out]; have := HG.out; omega⟩, by rw [HEL.out]; exact HZ.out.1, HZ.out.2.2.1⟩⟩
          · have d6 : decide (nn ≤ (pl : Int) + 1) = false := by simpa using hge
            have HG := Aside0.mk hge
            clear hge
            gi_wp2_with fail
            exact ⟨HZ.out.2.2.2.1, HZ.out.2.2.2.2.1, by rw [HEL.out]; exact HZ.out.1, ⟨HPK.out, by rw [HEL.out]; have := HG.out; omega⟩, HZ.out.2.1, HZ.out.2.2.1, by have := HZ.out.2.2.2.2.2; have := HYq.out; omega⟩
    · have d2 := beq_no hx
      have HX := Aside0.mk hx
      clear hx
      gi_wp2_with fail
      have hpk : ¬ PK t.ks (pre ++ [x]) := pk_not (fun h => HX.out (by rw [h.2, HEQ.out.2, HEQ.out.1]))
      exact ⟨(KeepsOthers.setCell _ _ _).from _, .inl ⟨rfl, hpk⟩⟩
  case done =>
    rintro D ys Z hD e9 ⟨hS, ⟨hP, hn⟩, hA, hB, hsz⟩ hDk
    have hys : ys.length = n0 := by rw [e9, hall, hzl, e0]
    rw [hys] at hS hn
    have HSW := Aside0.mk (show w.heap.size ≤ w3.heap.size by omega)
    have d1 : decide (nn < (n0 : Int)) = false := by simp; omega
    clear hA hsz hys
    have hbR := (show Boxed Z _ _ _ from (Kept.of hB).at bR2)
    have hDR : D ≠ w.heap.size + 1 := by have := gb_of bR2; omega
    have hD2 : (Z.setCell ⟨w.heap.size + 1, 0, none⟩ (.bool true)).heap[D]? = some (.deferred (some [])) := (Below.heap_setCell _ _ _ _ (by exact hDR)).trans hDk
    have hBZ : Below w.heap.size w (Z.setCell ⟨w.heap.size + 1, 0, none⟩ (.bool true)) := ((wSB.trans (h4'.mono (by omega))).trans (hB.mono (by omega))).setCell (p := ⟨w.heap.size + 1, 0, none⟩) (by show w.heap.size ≤ w.heap.size + 1; omega) _
    have HF := Aside0.mk (And.intro hbR (And.intro hDR (And.intro hD2 (And.intro hBZ hD))))
    have cS := hS.cell
    have cM : Z.cell? ⟨w1.heap.size, 0, none⟩ = some (.slice A0 n0 c0) := by rw [blk_cell ((Kept.of hB).at bM2)]; rfl
    have cN : Z.cell? ⟨w.heap.size, 0, none⟩ = some (.int .i64 nn) := (show Boxed Z _ _ _ from (Kept.of hB).at bN2).cell
    have fR := hbR.frozen
    have cR := hbR.cell
    clear hbR hDR hD2 hBZ hD hS hP hB hDk hall hvl hzl enn e0 h1 h2 h3 h4' k4 s2 wSB sS hB3 s3 bA bS tr2 hlow
    gi_wp2_with fail
    refine ⟨by simp, .inl ⟨_, _, rfl, run_takeDeferred HF.out.2.2.1, ?_⟩⟩
    exact ⟨_, results_box rfl _ _ _ _ rfl (show Boxed _ _ _ _ from (World.putObj_heap_other HF.out.2.1.symm).trans (HF.out.1.set _)), rfl, HF.out.2.2.2.1.trans (belowK_b (w := w3) (by have := HSW.out; omega) _ D _ _ HF.out.2.2.2.2 HF.out.2.2.1 rfl rfl)⟩
  case stop =>
    rintro D cd pre Z hD hSp hIx hDk
    rcases hIx with ⟨rfl, hnp⟩ | ⟨rfl, ⟨hP, hn⟩, hS, hB⟩
    · rw [hall] at hSp
      exact absurd (pk_pre hvl hSp) hnp
    · have hle : pre.length ≤ n0 := by rw [← e0]; exact hP.1
      obtain ⟨pl, epl⟩ : ∃ pl, pre.length = pl := ⟨_, rfl⟩
      rw [epl] at hS hn hle
      have HSW := Aside0.mk (show w.heap.size ≤ w3.heap.size by omega)
      clear epl hSp
      have hbR := (show Boxed Z _ _ _ from (Kept.of hB).at bR2)
      have hDR : D ≠ w.heap.size + 1 := by have := gb_of bR2; omega
      have hD2 : (Z.setCell ⟨w.heap.size + 1, 0, none⟩ (.bool true)).heap[D]? = some (.deferred (some [])) := (Below.heap_setCell _ _ _ _ (by exact hDR)).trans hDk
      have hBZ : Below w.heap.size w (Z.setCell ⟨w.heap.size + 1, 0, none⟩ (.bool true)) := ((wSB.trans (h4'.mono (by omega))).trans (hB.mono (by omega))).setCell (p := ⟨w.heap.size + 1, 0, none⟩) (by show w.heap.size ≤ w.heap.size + 1; omega) _
      have HF := Aside0.mk (And.intro hbR (And.intro hDR (And.intro hD2 (And.intro hBZ hD))))
      have cS := hS.cell
      have cM : Z.cell? ⟨w1.heap.size, 0, none⟩ = some (.slice A0 n0 c0) := by rw [blk_cell ((Kept.of hB).at bM2)]; rfl
      have cN : Z.cell? ⟨w.heap.size, 0, none⟩ = some (.int .i64 nn) := (show Boxed Z _ _ _ from (Kept.of hB).at bN2).cell
      have fR := hbR.frozen
      have cR := hbR.cell
      clear hbR hDR hD2 hBZ hD hS hP hB hDk hall hvl hzl enn e0 h1 h2 h3 h4' k4 s2 wSB sS hB3 s3 bA bS tr2 hlow
      by_cases hlt : pl < n0
      · have d1 : decide (nn < (n0 : Int)) = true := by simp; omega
        have d2 : ((pl : Int) == nn) = true := by simp; omega
        clear hlt hle hn
        gi_wp2_with fail
        refine ⟨by simp, .inl ⟨_, _, rfl, run_takeDeferred HF.out.2.2.1, ?_⟩⟩
        exact ⟨_, results_box rfl _ _ _ _ rfl (show Boxed _ _ _ _ from (World.putObj_heap_other HF.out.2.1.symm).trans (HF.out.1.set _)), rfl, HF.out.2.2.2.1.trans (belowK_b (w := w3) (by have := HSW.out; omega) _ D _ _ HF.out.2.2.2.2 HF.out.2.2.1 rfl rfl)⟩
      · have epn : pl = n0 := by omega
        subst epn
        have d1 : decide (nn < (pl : Int)) = false := by simp; omega
        clear hlt hle hn
        gi_wp2_with fail
        refine ⟨by simp, .inl ⟨_, _, rfl, run_takeDeferred HF.out.2.2.1, ?_⟩⟩
        exact ⟨_, results_box rfl _ _ _ _ rfl (show Boxed _ _ _ _ from (World.putObj_heap_other HF.out.2.1.symm).trans (HF.out.1.set _)), rfl, HF.out.2.2.2.1.trans (belowK_b (w := w3) (by have := HSW.out; omega) _ D _ _ HF.out.2.2.2.2 HF.out.2.2.1 rfl rfl)⟩
set_option maxRecDepth 100000 in
set_option maxHeartbeats 8000000 in
theorem leftLaw_1 (A : Option Addr) (c : Nat) (l : List S35) (n : Int) (hn : 1 ≤ n) (w : World) (hl : EntAt w A l) (hc : l.length ≤ c) (hlen : l.length < 10000000000) (hs : ∀ e ∈ l, e.f0.size < 4000000000000) :
    Calls Try.prog 4 #[.slice A l.length c, .int .i64 n] w fun e w' => e = .returned (.bool true) ∧ Below w.heap.size w w' := by
  have hdn : decide (n < 1) = false := by simp; omega
  refine callsIn_wide.1 (show CallsIn Fence.wide 9 Try.prog 4 _ w _ from ?_)
  have qa := Aside0.mk (fun w1 => show CallsIn Fence.wide 8 Try.prog 20 _ w1 _ from callsIn_wide.2 (aliveC w1))
  have qb := Aside0.mk (fun w1 (h : Below w.heap.size w w1) => show CallsIn Fence.wide 8 Try.prog 21 _ w1 _ from callsIn_wide.2 (builtC A c l w1 (Kd.C_below hl h) hc hlen hs))
  have qf := Aside0.mk (fun w1 tb => show CallsIn Fence.wide 8 Try.prog 26 _ w1 _ from callsIn_wide.2 (allC tb w1))
  have HN := Aside0.mk hlen
  have HB := Aside0.mk (((Below.refl w.heap.size w).alloc (Nat.le_refl _) (.cells #[.int .i64 n] 3)).alloc (by simp) (.cells #[.bool false] 4))
  clear hl hc hlen hs
  unfold ptr at qb qf
  have hnf := funcNil
  refine callsIn_of_wp_marks Try.func4 rfl trivial ?_ rfl
  simp only [Try.ntmps4, List.size_toArray, List.length_cons, List.length_nil, Nat.reduceAdd, Nat.reduceSub, Array.replicate_succ, Array.replicate_zero, List.push_toArray, List.append_toArray, List.nil_append, List.cons_append]
  have hN0 : ((w.alloc (.cells #[.int .i64 n] 3)).alloc (.cells #[.bool false] 4)).heap[w.heap.size]? = some (.cells #[.int .i64 n] 3 (0, 0)) := (Below.heap_alloc _ _ _ (by simp)).trans (World.alloc_heap_new w _)
  have hR0 : ((w.alloc (.cells #[.int .i64 n] 3)).alloc (.cells #[.bool false] 4)).heap[w.heap.size + 1]? = some (.cells #[.bool false] 4 (0, 0)) := by have := World.alloc_heap_new (w.alloc (.cells #[.int .i64 n] 3)) (.cells #[.bool false] 4); rwa [World.size_alloc] at this
  have HNR := Aside0.mk (And.intro hN0 hR0)
  clear hN0 hR0
  gi_wp2_with (first
    | (refine ⟨trivial, ?_⟩; gi_at_call 20; refine (qa.out _).mono ?_; rintro e w0 ⟨rfl, hb0⟩; have HB0 := Aside0.mk (HB.out.trans (hb0.mono (by simp; omega))); have HN0 := Aside0.mk (And.intro ((Kept.of hb0).at HNR.out.1) ((Kept.of hb0).at HNR.out.2)); clear hb0 HNR)
    | (refine ⟨trivial, ?_⟩; gi_at_call 21; refine (qb.out _ HB0.out).mono ?_; rintro e w1 ⟨tb, root, t, v0, v1, v2, v3, v4, rfl, ht, hk, ha, hr, hl, hv, hb⟩; obtain ⟨⟨A0, n0, c0, rfl⟩, ⟨A1, n1, c1, rfl⟩, ⟨A2, n2, c2, rfl⟩, ⟨A3, n3, c3, rfl⟩, ⟨A4, n4, c4, rfl⟩⟩ := hr.forms; have HN1 := Aside0.mk (And.intro ((Kept.of hb).at HN0.out.1) ((Kept.of hb).at HN0.out.2)); have cN := fun o => ((show Boxed w1 w.heap.size 3 (.int .i64 n) from HN1.out.1).alloc o).cell; have fN := fun o => ((show Boxed w1 w.heap.size 3 (.int .i64 n) from HN1.out.1).alloc o).frozen; have H1 := Aside0.mk (And.intro ht (And.intro hk (And.intro ha (And.intro hr (And.intro hl (belowAt HB0.out hb)))))); clear ht hk ha hr hl hv hb HN0)
    | (refine ⟨trivial, ?_⟩; gi_at_call 26; refine (qf.out _ _).mono ?_; rintro e w2 ⟨bt, bs, bk, rfl, h1, h2, h3, h4⟩; have H2 := Aside0.mk (And.intro h1 (And.intro h2 (And.intro h3 h4))); clear h1 h2 h3 h4))
  clear qa qb qf hnf cN fN hdn
  obtain ⟨h1, h2, h3, h4⟩ := H2.out
  have ht := H1.out.1
  have hlow : w.heap.size + 2 ≤ w1.heap.size := by have := gb_of HN1.out.2; omega
  have enn : True := trivial
  have hnn : 1 ≤ n := by omega
  obtain ⟨wS, eS⟩ : ∃ wS, (w1.alloc (Obj.cells #[.slice A0 n0 c0, .slice A1 n1 c1, .slice A2 n2 c2, .slice A3 n3 c3, .slice A4 n4 c4] 28)) = wS := ⟨_, rfl⟩
  have hBa : Below w1.heap.size w1 (w1.alloc (Obj.cells #[.slice A0 n0 c0, .slice A1 n1 c1, .slice A2 n2 c2, .slice A3 n3 c3, .slice A4 n4 c4] 28)) := (Below.refl _ w1).alloc (Nat.le_refl _) _
  have hMa := World.alloc_heap_new w1 (Obj.cells #[.slice A0 n0 c0, .slice A1 n1 c1, .slice A2 n2 c2, .slice A3 n3 c3, .slice A4 n4 c4] 28)
  have bNa : Boxed (w1.alloc (Obj.cells #[.slice A0 n0 c0, .slice A1 n1 c1, .slice A2 n2 c2, .slice A3 n3 c3, .slice A4 n4 c4] 28)) w.heap.size 3 (.int .i64 n) := (Kept.of hBa).at HN1.out.1
  have bRa : Boxed (w1.alloc (Obj.cells #[.slice A0 n0 c0, .slice A1 n1 c1, .slice A2 n2 c2, .slice A3 n3 c3, .slice A4 n4 c4] 28)) (w.heap.size + 1) 4 (.bool false) := (Kept.of hBa).at HN1.out.2
  have hwB : Below w.heap.size w (w1.alloc (Obj.cells #[.slice A0 n0 c0, .slice A1 n1 c1, .slice A2 n2 c2, .slice A3 n3 c3, .slice A4 n4 c4] 28)) := belowAt H1.out.2.2.2.2.2 hBa
  have bN : Boxed wS w.heap.size 3 (.int .i64 n) := by rw [← eS]; exact bNa
  have bR : Boxed wS (w.heap.size + 1) 4 (.bool false) := by rw [← eS]; exact bRa
  have bM : wS.heap[w1.heap.size]? = some (Obj.cells #[.slice A0 n0 c0, .slice A1 n1 c1, .slice A2 n2 c2, .slice A3 n3 c3, .slice A4 n4 c4] 28) := by rw [← eS]; exact hMa
  have tS : Tr wS tb root := by rw [← eS]; exact ht.keep (Kept.of hBa)
  have kS : SlS wS (.slice A0 n0 c0) t.ks := by rw [← eS]; exact H1.out.2.2.2.1.a0.below hBa
  have wSB : Below w.heap.size w wS := by rw [← eS]; exact hwB
  have sS : w1.heap.size + 1 ≤ wS.heap.size := by rw [← eS]; simp
  have h4' : Below wS.heap.size wS w2 := by rw [← eS]; exact h4
  have k4 := Kept.of h4'
  have s2 := h4'.size
  obtain ⟨w3, e3⟩ : ∃ w3, ((w2.alloc (Obj.cells #[.func (.func 117) #[] #[.pointer (some ⟨bt, 0, none⟩), .pointer (some ⟨bs, 0, none⟩), .pointer (some ⟨bk, 0, none⟩)]] 32)).alloc (Obj.cells #[.int .i64 0] 3)) = w3 := ⟨_, rfl⟩
  have hB3 : Below w2.heap.size w2 w3 := by rw [← e3]; exact ((Below.refl _ w2).alloc (Nat.le_refl _) _).alloc (by simp) _
  have s3 : w3.heap.size = w2.heap.size + 2 := by rw [← e3]; simp
  have bA : w3.heap[w2.heap.size]? = some (.cells #[.func (.func 117) #[] #[.pointer (some ⟨bt, 0, none⟩), .pointer (some ⟨bs, 0, none⟩), .pointer (some ⟨bk, 0, none⟩)]] 32 (0, 0)) := by rw [← e3]; exact (Below.heap_alloc _ _ _ (by simp)).trans (World.alloc_heap_new w2 _)
  have bS : Boxed w3 (w2.heap.size + 1) 3 (.int .i64 0) := by rw [← e3]; have := World.alloc_heap_new (w2.alloc (Obj.cells #[.func (.func 117) #[] #[.pointer (some ⟨bt, 0, none⟩), .pointer (some ⟨bs, 0, none⟩), .pointer (some ⟨bk, 0, none⟩)]] 32)) (Obj.cells #[.int .i64 0] 3); rwa [World.size_alloc] at this
  rw [e3]
  obtain ⟨kc, ekc⟩ : ∃ kc, kS = kc := ⟨_, rfl⟩
  obtain ⟨An, cn, ek, hkc, hkr⟩ := kS
  obtain ⟨rfl, e0, rfl⟩ : A0 = An ∧ t.ks.length = n0 ∧ c0 = cn := by injection ek with a b c; exact ⟨a, b.symm, c⟩
  have kS2 := (show SlS wS (.slice A0 n0 c0) t.ks from kc).below h4'
  have bN2 := k4.at bN
  have bR2 := k4.at bR
  have bM2 := k4.at bM
  have tr2 : Tr w2 tb root := tS.keep k4
  have hall := all_eq ht.fine.toGood H1.out.2.2.1
  have hvl : t.vs.length = t.ks.length := H1.out.2.1.v
  have hzl : (t.ks.zip t.vs).length = t.ks.length := by rw [List.length_zip]; omega
  have hNl : n0 < 10000000000 := by have := H1.out.2.2.2.2.1; have := HN.out; omega
  have HE0 := Aside0.mk e0
  clear hkr hkc ek ekc kc eS e3 hBa hMa bNa bRa hwB tS bN bR bM h4 hn
  refine wpIn_rangeFunc_ownH rfl (by decide) (gf := 117) (lb := #[ptr bt, ptr bs, ptr bk]) rfl trivial (enters_of Try.func117 (by kernel_rfl) rfl)
    (VA.seq w3 8 n0 w3.heap.size (fun k => k = w2.heap.size + 1) w2 (Kept.of hB3) (by omega) (Nat.le_refl _) (fun k hk e => by omega) tb root tr2 bt bs bk ⟨(Kept.of hB3).at h1, (Kept.of hB3).at h2, (Kept.of hB3).at h3⟩ (by rw [hall, hzl]; omega))
    kpT (kpB (Nat.le_refl _)) (Below.refl _ _) (fun _ => rfl)
    (fun pre W => Boxed W (w2.heap.size + 1) 3 (.int .i64 (pre.length : Int)) ∧ (PK t.ks pre ∧ (pre.length : Int) < n) ∧ W.heap[w2.heap.size]? = some (.cells #[.func (.func 117) #[] #[.pointer (some ⟨bt, 0, none⟩), .pointer (some ⟨bs, 0, none⟩), .pointer (some ⟨bk, 0, none⟩)]] 32 (0, 0)) ∧ Below w2.heap.size w2 W ∧ w3.heap.size ≤ W.heap.size)
    (fun cd pre W => (cd = .ret ∧ ¬ PK t.ks pre) ∨ (cd = .exit 0 ∧ (PK t.ks pre ∧ (pre.length : Int) = n) ∧ Boxed W (w2.heap.size + 1) 3 (.int .i64 (pre.length : Int)) ∧ Below w2.heap.size w2 W))
    ?hI ?hIx ?h0 (fun (x : ByteArray × Int) a' (Z : World) => a' = { tmps := #[.slice A l.length c, .int .i64 n, undef, .pointer (some ⟨w.heap.size, 0, none⟩), .pointer (some ⟨w.heap.size + 1, 0, none⟩), .pointer (some ⟨tb, 0, none⟩), .pointer (some ⟨w1.heap.size, 0, none⟩), .pointer (some ⟨w2.heap.size, 0, none⟩), .pointer (some ⟨w2.heap.size + 1, 0, none⟩), .string x.1, undef, undef, .bool true, .bool false, .tuple #[.pointer (some ⟨tb, 0, none⟩), .agg #[.slice A0 n0 c0, .slice A1 n1 c1, .slice A2 n2 c2, .slice A3 n3 c3, .slice A4 n4 c4]], .slice A l.length c, .tuple #[.pointer (some ⟨tb, 0, none⟩), .agg #[.slice A0 n0 c0, .slice A1 n1 c1, .slice A2 n2 c2, .slice A3 n3 c3, .slice A4 n4 c4]], .pointer (some ⟨tb, 0, none⟩), .agg #[.slice A0 n0 c0, .slice A1 n1 c1, .slice A2 n2 c2, .slice A3 n3 c3, .slice A4 n4 c4], .pointer (some ⟨tb, 0, none⟩), .bool false, .int .i64 n, .bool false, .pointer (some ⟨tb, 0, none⟩), .func (.func 117) #[] #[.pointer (some ⟨bt, 0, none⟩), .pointer (some ⟨bs, 0, none⟩), .pointer (some ⟨bk, 0, none⟩)], .func (.func 117) #[] #[.pointer (some ⟨bt, 0, none⟩), .pointer (some ⟨bs, 0, none⟩), .pointer (some ⟨bk, 0, none⟩)], .bool false, .func (.func 117) #[] #[.pointer (some ⟨bt, 0, none⟩), .pointer (some ⟨bs, 0, none⟩), .pointer (some ⟨bk, 0, none⟩)], .string x.1, .int .i64 x.2, undef, undef, undef, undef, undef, undef, undef, undef, undef, undef, undef, undef, undef, undef, undef, undef, undef, undef, undef, undef, undef, undef, undef, undef, undef, undef, undef, undef, undef, undef, undef, undef, undef, undef, undef, undef, undef, undef, undef, undef, undef, undef, undef, undef, undef, undef, undef, undef, undef, undef, undef, undef, undef, undef, undef], defers := [] }) ?hAx ?assign ?body ?done ?stop
  case assign =>
    intro l' pre x Wa K hI hK
    gi_wp2
    exact hK _ _ (KeepsFrom.refl _ _) (KpM.of (Below.refl _ _)) hI rfl
  case hI => exact OwnFrom.and (Own.from (boxed_own (w2.heap.size + 1) 3 (fun pre : List (ByteArray × Int) => .int .i64 (pre.length : Int))) _) (OwnFrom.and (ownFrom_pure _ _) (OwnFrom.and (Own.from (blk_own _ _ _ _) _) (OwnFrom.and (ownFrom_below (Nat.le_refl _) (by omega)) (fun s X Y row hs hg hr => Nat.le_trans hs hg.size))))
  case hIx =>
    intro cd s X Y row hs hg hr
    rcases hs with hs | ⟨k1, k2, k3, k4⟩
    · exact .inl hs
    · exact .inr ⟨k1, k2, (Own.from (boxed_own (w2.heap.size + 1) 3 (fun pre : List (ByteArray × Int) => .int .i64 (pre.length : Int))) w3.heap.size) s X Y row k3 hg hr, (ownFrom_below (β := Unit) (B := w3.heap.size) (Nat.le_refl _) (by omega)) () X Y row k4 hg hr⟩
  case hAx => exact fun x a' => ownFrom_pure _ (fun _ => a' = _)
  case h0 => exact ⟨bS, ⟨pk_nil _, by show ((0 : Nat) : Int) < n; omega⟩, bA, hB3, Nat.le_refl _⟩
  case body =>
    rintro l' pre x a' W hl' hr0 ⟨hS, ⟨hP, hn⟩, hA, hB, hsz⟩ rfl hlt
    have HQ := Aside0.mk (And.intro hall (And.intro hvl (And.intro hzl enn)))
    have HTR := Aside0.mk (And.intro tr2 (And.intro h1 (And.intro h2 h3)))
    have HSZ3 := Aside0.mk s3
    clear hall hvl hzl enn e0 h1 h2 h3 h4' k4 s2 wSB sS hB3 s3 bA bS tr2 hlow
    have cS := hS.cell
    have fS := hS.frozen
    have kB := Kept.of hB
    have cM : W.cell? ⟨w1.heap.size, 0, none⟩ = some (.slice A0 n0 c0) := by rw [blk_cell (kB.at bM2)]; rfl
    have cN : W.cell? ⟨w.heap.size, 0, none⟩ = some (.int .i64 n) := (show Boxed W _ _ _ from kB.at bN2).cell
    have fR := (show Boxed W _ _ _ from kB.at bR2).frozen
    have cR := (show Boxed W _ _ _ from kB.at bR2).cell
    have cA : W.cell? ⟨w2.heap.size, 0, none⟩ = some (.func (.func 117) #[] #[.pointer (some ⟨bt, 0, none⟩), .pointer (some ⟨bs, 0, none⟩), .pointer (some ⟨bk, 0, none⟩)]) := by rw [blk_cell hA]; rfl
    obtain ⟨pl, epl⟩ : ∃ pl, pre.length = pl := ⟨_, rfl⟩
    rw [epl] at cS hn hlt
    obtain ⟨ad, cq, eq1, eq2, eq3⟩ := slS_at kS2 pl (by rw [HE0.out]; exact hlt)
    have eA : A0 = some ad := by injection eq1
    subst eA
    obtain ⟨gk, egk⟩ : ∃ gk, gd t.ks pl = gk := ⟨_, rfl⟩
    rw [egk] at eq3
    have cK := kB.cell eq3
    have HEQ := Aside0.mk (And.intro egk epl)
    have HW := Aside0.mk (And.intro hS (And.intro hP (And.intro hA (And.intro hB hsz))))
    have HR0 := Aside0.mk hr0
    have HW2 := Aside0.mk kB
    clear hS hP hA hB hsz kB epl hr0 egk eq1 eq2 eq3
    have d1 : decide (n0 ≤ pl) = false := by simp; omega
    by_cases hx : x.1 = gk
    · have d2 := beq_yes hx
      have HX := Aside0.mk hx
      have cA2 : ∀ v o, ((W.setCell ⟨w2.heap.size + 1, 0, none⟩ v).alloc o).cell? ⟨w2.heap.size, 0, none⟩ = some (.func (.func 117) #[] #[.pointer (some ⟨bt, 0, none⟩), .pointer (some ⟨bs, 0, none⟩), .pointer (some ⟨bk, 0, none⟩)]) := fun v o => cellA ((World.cell?_of_block (Below.heap_setCell _ _ _ _ (by show w2.heap.size ≠ w2.heap.size + 1; omega))).trans cA)
      clear hx
      gi_wp2_with fail
      obtain ⟨W2, eW2⟩ : ∃ W2, ((W.setCell ⟨w2.heap.size + 1, 0, none⟩ (.int .i64 ((pl : Int) + 1))).alloc (Obj.cells #[.int .i64 0] 3)) = W2 := ⟨_, rfl⟩
      rw [eW2]
      obtain ⟨hS, hP, hA, hB, hsz⟩ := HW.out
      obtain ⟨r0, hr0⟩ := HR0.out
      have hsS : (W.setCell ⟨w2.heap.size + 1, 0, none⟩ (.int .i64 ((pl : Int) + 1))).heap.size = W.heap.size := by simp [World.setCell]
      have hsW2 : W2.heap.size = W.heap.size + 1 := by rw [← eW2, World.size_alloc, hsS]
      have hso : ∀ k o, W.heap[k]? = some o → k ≠ w2.heap.size + 1 → W2.heap[k]? = some o := fun k o h hk => by
        rw [← eW2]
        exact (Below.heap_alloc _ _ _ (by rw [hsS]; exact gb_of h)).trans ((Below.heap_setCell _ _ _ _ (by exact hk)).trans h)
      have bS2 : Boxed W2 (w2.heap.size + 1) 3 (.int .i64 ((pl : Int) + 1)) := by rw [← eW2]; exact (hS.set _).alloc _
      have bI2 : Boxed W2 W.heap.size 3 (.int .i64 0) := by rw [← eW2, ← hsS]; exact World.alloc_heap_new _ _
      have hA2 := hso _ _ hA (by omega)
      have hB2 : Below w2.heap.size w2 W2 := by rw [← eW2]; exact (hB.setCell (p := ⟨w2.heap.size + 1, 0, none⟩) (by show w2.heap.size ≤ w2.heap.size + 1; omega) _).alloc (by rw [hsS]; exact hB.size) _
      have hr2 : W2.heap[l']? = some (.loop r0) := hso _ _ hr0 (by have := HSZ3.out; omega)
      have hkf : KeepsFrom w3.heap.size W W2 := by rw [← eW2]; exact ((KeepsOthers.setCell _ _ _).from _).trans (KeepsFrom.of_grownBy (World.grownBy_alloc _ _ none) (fun j e => by cases e))
      have hkp : KpM w3.heap.size (fun k => k = w2.heap.size + 1) W W2 := by
        rw [← eW2]
        exact (KpM.setBox (M := fun k => k = w2.heap.size + 1) hS (by decide) rfl _).trans (KpM.of ((Below.refl _ _).alloc (Nat.le_refl _) _))
      have hs2w : w3.heap.size ≤ W.heap.size := hsz
      refine wpIn_rangeFunc_ownN rfl hr2 (by decide) (gf := 117) (lb := #[ptr bt, ptr bs, ptr bk]) rfl trivial (enters_of Try.func117 (by kernel_rfl) rfl)
        (SeqStopsK.inRound l' (VA.seq W2 6 n0 W2.heap.size (fun k => k = W.heap.size) w2 (Kept.of hB2) (by have := hB.size; omega) (Nat.le_refl _) (fun k hk e => by have := hB.size; omega) tb root HTR.out.1 bt bs bk ⟨(Kept.of hB2).at HTR.out.2.1, (Kept.of hB2).at HTR.out.2.2.1, (Kept.of hB2).at HTR.out.2.2.2⟩ (by rw [HQ.out.1, HQ.out.2.2.1, HE0.out]; exact Nat.le_refl _)))
        kpT (kpB (Nat.le_refl _)) (Below.refl _ _) (fun _ => rfl)
        (fun q Z => Boxed Z W.heap.size 3 (.int .i64 (q.length : Int)) ∧ (PK t.ks q ∧ q.length < 3) ∧ Boxed Z (w2.heap.size + 1) 3 (.int .i64 ((pl : Int) + 1)) ∧ Z.heap[w2.heap.size]? = some (.cells #[.func (.func 117) #[] #[.pointer (some ⟨bt, 0, none⟩), .pointer (some ⟨bs, 0, none⟩), .pointer (some ⟨bk, 0, none⟩)]] 32 (0, 0)) ∧ Below w2.heap.size w2 Z ∧ KeepsFrom w3.heap.size W Z ∧ KpM w3.heap.size (fun k => k = w2.heap.size + 1) W Z ∧ W2.heap.size ≤ Z.heap.size)
        (fun cd q Z => (cd = .ret ∧ ¬ PK t.ks q) ∨ (cd = .exit 2 ∧ q.length = 3 ∧ Boxed Z W.heap.size 3 (.int .i64 (q.length : Int)) ∧ Boxed Z (w2.heap.size + 1) 3 (.int .i64 ((pl : Int) + 1)) ∧ Z.heap[w2.heap.size]? = some (.cells #[.func (.func 117) #[] #[.pointer (some ⟨bt, 0, none⟩), .pointer (some ⟨bs, 0, none⟩), .pointer (some ⟨bk, 0, none⟩)]] 32 (0, 0)) ∧ Below w2.heap.size w2 Z ∧ KeepsFrom w3.heap.size W Z ∧ KpM w3.heap.size (fun k => k = w2.heap.size + 1) W Z ∧ W2.heap.size ≤ Z.heap.size))
        ?iI ?iIx ?i0 (fun (y : ByteArray × Int) a' (Z : World) => a' = { tmps := #[.slice A l.length c, .int .i64 n, undef, .pointer (some ⟨w.heap.size, 0, none⟩), .pointer (some ⟨w.heap.size + 1, 0, none⟩), .pointer (some ⟨tb, 0, none⟩), .pointer (some ⟨w1.heap.size, 0, none⟩), .pointer (some ⟨w2.heap.size, 0, none⟩), .pointer (some ⟨w2.heap.size + 1, 0, none⟩), .string x.1, .pointer (some ⟨W.heap.size, 0, none⟩), .string y.1, .bool true, .bool false, .tuple #[.pointer (some ⟨tb, 0, none⟩), .agg #[.slice (some ad) n0 c0, .slice A1 n1 c1, .slice A2 n2 c2, .slice A3 n3 c3, .slice A4 n4 c4]], .slice A l.length c, .tuple #[.pointer (some ⟨tb, 0, none⟩), .agg #[.slice (some ad) n0 c0, .slice A1 n1 c1, .slice A2 n2 c2, .slice A3 n3 c3, .slice A4 n4 c4]], .pointer (some ⟨tb, 0, none⟩), .agg #[.slice (some ad) n0 c0, .slice A1 n1 c1, .slice A2 n2 c2, .slice A3 n3 c3, .slice A4 n4 c4], .pointer (some ⟨tb, 0, none⟩), .bool false, .int .i64 n, .bool false, .pointer (some ⟨tb, 0, none⟩), .func (.func 117) #[] #[.pointer (some ⟨bt, 0, none⟩), .pointer (some ⟨bs, 0, none⟩), .pointer (some ⟨bk, 0, none⟩)], .func (.func 117) #[] #[.pointer (some ⟨bt, 0, none⟩), .pointer (some ⟨bs, 0, none⟩), .pointer (some ⟨bk, 0, none⟩)], .bool false, .func (.func 117) #[] #[.pointer (some ⟨bt, 0, none⟩), .pointer (some ⟨bs, 0, none⟩), .pointer (some ⟨bk, 0, none⟩)], .string x.1, .int .i64 x.2, .int .i64 (pl : Int), .pointer (some ⟨w1.heap.size, 0, none⟩), .slice (some ad) n0 c0, .int .i64 (n0 : Int), .bool false, .bool false, .string x.1, .pointer (some ⟨w1.heap.size, 0, none⟩), .slice (some ad) n0 c0, .int .i64 (pl : Int), .pointer (some (ad.add pl)), .string gk, .bool false, .bool false, .int .i64 (pl : Int), .int .i64 ((pl : Int) + 1), .func (.func 117) #[] #[.pointer (some ⟨bt, 0, none⟩), .pointer (some ⟨bs, 0, none⟩), .pointer (some ⟨bk, 0, none⟩)], .string y.1, .int .i64 y.2, undef, undef, undef, undef, undef, undef, undef, undef, undef, undef, undef, undef, undef, undef, undef, undef, undef, undef, undef, undef, undef, undef, undef, undef, undef, undef, undef, undef, undef, undef, undef, undef, undef, undef, undef, undef], defers := [] }) ?iAx ?iassign ?ibody ?idone ?istop
      case iassign =>
        intro y1 y2 y3 y4 K hI hK
        gi_wp2
        exact hK _ _ (KeepsFrom.refl _ _) (KpM.of (Below.refl _ _)) hI rfl
      case iI => exact OwnFrom.and (Own.from (boxed_own W.heap.size 3 (fun q : List (ByteArray × Int) => .int .i64 (q.length : Int))) _) (OwnFrom.and (ownFrom_pure _ _) (OwnFrom.and (Own.from (boxed_own (w2.heap.size + 1) 3 (fun _ => .int .i64 ((pl : Int) + 1))) _) (OwnFrom.and (Own.from (blk_own _ _ _ _) _) (OwnFrom.and (ownFrom_below (Nat.le_refl _) hB2.size) (OwnFrom.and (ownFrom_keepsFrom (by omega)) (OwnFrom.and (kpM_own (by omega) (by omega)) (fun s X Y row hs hg hr => Nat.le_trans hs hg.size)))))))
      case iIx =>
        intro cd s X Y row hs hg hr
        rcases hs with hs | ⟨k1, k2, k3, k4, k5, k6, k7, k8, k9⟩
        · exact .inl hs
        · exact .inr ⟨k1, k2, (Own.from (boxed_own W.heap.size 3 (fun q : List (ByteArray × Int) => .int .i64 (q.length : Int))) W2.heap.size) s X Y row k3 hg hr, (Own.from (boxed_own (β := Unit) (w2.heap.size + 1) 3 (fun _ => .int .i64 ((pl : Int) + 1))) W2.heap.size) () X Y row k4 hg hr, (Own.from (blk_own (β := Unit) _ _ _ _) W2.heap.size) () X Y row k5 hg hr, (ownFrom_below (β := Unit) (B := W2.heap.size) (Nat.le_refl _) hB2.size) () X Y row k6 hg hr, (ownFrom_keepsFrom (β := Unit) (B' := W2.heap.size) (by omega)) () X Y row k7 hg hr, (kpM_own (β := Unit) (B := W2.heap.size) (by omega) (by omega)) () X Y row k8 hg hr, Nat.le_trans k9 hg.size⟩
      case iAx => exact fun y a' => ownFrom_pure _ (fun _ => a' = _)
      case i0 => exact ⟨bI2, ⟨pk_nil _, by decide⟩, bS2, hA2, hB2, hkf, hkp, Nat.le_refl _⟩
      case ibody =>
        rintro l2 q y a2 Z hl2 hr22 ⟨zI, ⟨zP, z3⟩, zS, zA, zB, zK, zM, zs⟩ rfl hltq
        have HZ := Aside0.mk (And.intro zI (And.intro zP (And.intro zS (And.intro zA (And.intro zB (And.intro zK (And.intro zM zs)))))))
        obtain ⟨ql, eql⟩ : ∃ ql, q.length = ql := ⟨_, rfl⟩
        obtain ⟨ad', cq', eq1, eq2, eq3⟩ := slS_at kS2 q.length (by rw [HE0.out]; exact hltq)
        have ead : ad' = ad := by injection eq1 with e1; injection e1 with e2; exact e2.symm
        rw [ead] at eq3
        obtain ⟨gq, egq⟩ : ∃ gq, gd t.ks q.length = gq := ⟨_, rfl⟩
        rw [egq, eql] at eq3
        have cI := zI.cell
        have fI := zI.frozen
        rw [eql] at cI z3 hltq
        have cKq := (Kept.of zB).cell eq3
        have cMq : Z.cell? ⟨w1.heap.size, 0, none⟩ = some (.slice (some ad) n0 c0) := by rw [blk_cell ((Kept.of zB).at bM2)]; rfl
        have fRq := (show Boxed Z _ _ _ from (Kept.of zB).at bR2).frozen
        have cRq := (show Boxed Z _ _ _ from (Kept.of zB).at bR2).cell
        have d1q : decide (n0 ≤ ql) = false := by simp; omega
        have HQ2 := Aside0.mk (And.intro eql egq)
        have HY2 := Aside0.mk (And.intro hs2w hsW2)
        clear zI zP zS zA zB zK zM zs eq1 eq2 eq3 ead eql egq hr22 cA2 cK cM fR cR cA cN cS fS hS hP hA hB hsz bS2 bI2 hA2 hB2 hr2 hkf hkp hso hsS hr0 eW2 d1 d2
        by_cases hy : y.1 = gq
        · have d2q := beq_yes hy
          have HY := Aside0.mk hy
          clear hy
          by_cases h3 : ql = 2
          · have d3q : decide (3 ≤ (ql : Int) + 1) = true := by simp; omega
            have H3 := Aside0.mk h3
            clear h3
            gi_wp2_with fail
            obtain ⟨zI, zP, zS, zA, zB, zK, zM, zs⟩ := HZ.out
            have el : ((q ++ [y]).length : Int) = (ql : Int) + 1 := by rw [List.length_append, List.length_singleton, HQ2.out.1]; omega
            have hpk : PK t.ks (q ++ [y]) := pk_snoc zP (by rw [HE0.out, HQ2.out.1]; exact hltq) (by rw [HY.out, HQ2.out.2])
            have bI' : Boxed (Z.setCell ⟨W.heap.size, 0, none⟩ (.int .i64 ((ql : Int) + 1))) W.heap.size 3 (.int .i64 ((q ++ [y]).length : Int)) := by rw [el]; exact zI.set _
            have zS' := zS.other (show w2.heap.size + 1 ≠ W.heap.size by have := HY2.out; have := HSZ3.out; omega) (.int .i64 ((ql : Int) + 1))
            have zA' := (Below.heap_setCell Z ⟨W.heap.size, 0, none⟩ (.int .i64 ((ql : Int) + 1)) w2.heap.size (by show w2.heap.size ≠ W.heap.size; have := HY2.out; have := HSZ3.out; omega)).trans zA
            have zB' := zB.setCell (p := ⟨W.heap.size, 0, none⟩) (by show w2.heap.size ≤ W.heap.size; have := HY2.out; have := HSZ3.out; omega) (.int .i64 ((ql : Int) + 1))
            have zK' := zK.trans ((KeepsOthers.setCell Z ⟨W.heap.size, 0, none⟩ (.int .i64 ((ql : Int) + 1))).from w3.heap.size)
            have zM' := zM.setNew (.int .i64 ((ql : Int) + 1)) (Nat.le_refl _)
            have zs' : W2.heap.size ≤ (Z.setCell ⟨W.heap.size, 0, none⟩ (.int .i64 ((ql : Int) + 1))).heap.size := by simpa [World.setCell] using zs
            exact ⟨(KeepsOthers.setCell _ _ _).from _, .inr ⟨rfl, by have := H3.out; omega, bI', zS', zA', zB', zK', zM', zs'⟩⟩
          · have d3q : decide (3 ≤ (ql : Int) + 1) = false := by simp; omega
            have H3 := Aside0.mk h3
            clear h3
            gi_wp2_with fail
            obtain ⟨zI, zP, zS, zA, zB, zK, zM, zs⟩ := HZ.out
            have el : ((q ++ [y]).length : Int) = (ql : Int) + 1 := by rw [List.length_append, List.length_singleton, HQ2.out.1]; omega
            have hpk : PK t.ks (q ++ [y]) := pk_snoc zP (by rw [HE0.out, HQ2.out.1]; exact hltq) (by rw [HY.out, HQ2.out.2])
            have bI' : Boxed (Z.setCell ⟨W.heap.size, 0, none⟩ (.int .i64 ((ql : Int) + 1))) W.heap.size 3 (.int .i64 ((q ++ [y]).length : Int)) := by rw [el]; exact zI.set _
            have zS' := zS.other (show w2.heap.size + 1 ≠ W.heap.size by have := HY2.out; have := HSZ3.out; omega) (.int .i64 ((ql : Int) + 1))
            have zA' := (Below.heap_setCell Z ⟨W.heap.size, 0, none⟩ (.int .i64 ((ql : Int) + 1)) w2.heap.size (by show w2.heap.size ≠ W.heap.size; have := HY2.out; have := HSZ3.out; omega)).trans zA
            have zB' := zB.setCell (p := ⟨W.heap.size, 0, none⟩) (by show w2.heap.size ≤ W.heap.size; have := HY2.out; have := HSZ3.out; omega) (.int .i64 ((ql : Int) + 1))
            have zK' := zK.trans ((KeepsOthers.setCell Z ⟨W.heap.size, 0, none⟩ (.int .i64 ((ql : Int) + 1))).from w3.heap.size)
            have zM' := zM.setNew (.int .i64 ((ql : Int) + 1)) (Nat.le_refl _)
            have zs' : W2.heap.size ≤ (Z.setCell ⟨W.heap.size, 0, none⟩ (.int .i64 ((ql : Int) + 1))).heap.size := by simpa [World.setCell] using zs
            exact ⟨(KeepsOthers.setCell _ _ _).from _, KpM.setBox (M := fun k => k = W.heap.size) zI (by decide) rfl _, bI', ⟨hpk, by have := H3.out; omega⟩, zS', zA', zB', zK', zM', zs'⟩
        · have d2q := beq_no hy
          have HY := Aside0.mk hy
          clear hy
          gi_wp2_with fail
          have hpk : ¬ PK t.ks (q ++ [y]) := pk_not (fun h => HY.out (by rw [h.2, HQ2.out.2]))
          exact ⟨(KeepsOthers.setCell _ _ _).from _, .inl ⟨rfl, hpk⟩⟩
      case idone =>
        rintro ys Z e9 ⟨zI, ⟨zP, z3⟩, zS, zA, zB, zK, zM, zs⟩
        have hys : ys.length = n0 := by rw [e9, HQ.out.1, HQ.out.2.2.1, HE0.out]
        have HZ := Aside0.mk (And.intro zS (And.intro zA (And.intro zB (And.intro zK (And.intro zM zs)))))
        obtain ⟨ql, eql⟩ : ∃ ql, ys.length = ql := ⟨_, rfl⟩
        have hq1 : 1 ≤ ql := by omega
        rw [eql] at zI
        have cI := zI.cell
        have cS2 := zS.cell
        have cNz : Z.cell? ⟨w.heap.size, 0, none⟩ = some (.int .i64 n) := (show Boxed Z _ _ _ from (Kept.of zB).at bN2).cell
        have d5 : ((ql : Int) == 0) = false := by simp; omega
        have HYq := Aside0.mk (And.intro hs2w (And.intro hsW2 hn))
        clear zI zS zA zB zK zM zs eql cA2 cK cM fR cR cA cN cS fS hS hP hA hB hsz bS2 bI2 hA2 hB2 hr2 hkf hkp hso hsS hr0 eW2 d1 d2
        have hpk : PK t.ks (pre ++ [x]) := pk_snoc HW.out.2.1 (by rw [HE0.out, HEQ.out.2]; exact hlt) (by rw [HX.out, HEQ.out.2, HEQ.out.1])
        have HPK := Aside0.mk hpk
        have el : ((pre ++ [x]).length : Int) = (pl : Int) + 1 := by rw [List.length_append, List.length_singleton, HEQ.out.2]; omega
        have HEL := Aside0.mk el
        clear hpk el
        by_cases hge : n ≤ (pl : Int) + 1
        · have d6 : decide (n ≤ (pl : Int) + 1) = true := by simpa using hge
          have HG := Aside0.mk hge
          clear hge
          gi_wp2_with fail
          exact ⟨HZ.out.2.2.2.1, .inr ⟨rfl, ⟨HPK.out, by rw [HEL.out]; have := HG.out; omega⟩, by rw [HEL.out]; exact HZ.out.1, HZ.out.2.2.1⟩⟩
        · have d6 : decide (n ≤ (pl : Int) + 1) = false := by simpa using hge
          have HG := Aside0.mk hge
          clear hge
          gi_wp2_with fail
          exact ⟨HZ.out.2.2.2.1, HZ.out.2.2.2.2.1, by rw [HEL.out]; exact HZ.out.1, ⟨HPK.out, by rw [HEL.out]; have := HG.out; omega⟩, HZ.out.2.1, HZ.out.2.2.1, by have := HZ.out.2.2.2.2.2; have := HYq.out; omega⟩
      case istop =>
        rintro cd q Z hSp (⟨rfl, hnp⟩ | ⟨rfl, hq3, zI, zS, zA, zB, zK, zM, zs⟩)
        · rw [HQ.out.1] at hSp
          exact absurd (pk_pre HQ.out.2.1 hSp) hnp
        · have HZ := Aside0.mk (And.intro zS (And.intro zA (And.intro zB (And.intro zK (And.intro zM zs)))))
          obtain ⟨ql, eql⟩ : ∃ ql, q.length = ql := ⟨_, rfl⟩
          have hq1 : 1 ≤ ql := by omega
          rw [eql] at zI
          have cI := zI.cell
          have cS2 := zS.cell
          have cNz : Z.cell? ⟨w.heap.size, 0, none⟩ = some (.int .i64 n) := (show Boxed Z _ _ _ from (Kept.of zB).at bN2).cell
          have d5 : ((ql : Int) == 0) = false := by simp; omega
          have HYq := Aside0.mk (And.intro hs2w (And.intro hsW2 hn))
          clear zI zS zA zB zK zM zs eql cA2 cK cM fR cR cA cN cS fS hS hP hA hB hsz bS2 bI2 hA2 hB2 hr2 hkf hkp hso hsS hr0 eW2 d1 d2
          have hpk : PK t.ks (pre ++ [x]) := pk_snoc HW.out.2.1 (by rw [HE0.out, HEQ.out.2]; exact hlt) (by rw [HX.out, HEQ.out.2, HEQ.out.1])
          have HPK := Aside0.mk hpk
          have el : ((pre ++ [x]).length : Int) = (pl : Int) + 1 := by rw [List.length_append, List.length_singleton, HEQ.out.2]; omega
          have HEL := Aside0.mk el
          clear hpk el
          by_cases hge : n ≤ (pl : Int) + 1
          · have d6 : decide (n ≤ (pl : Int) + 1) = true := by simpa using hge
            have HG := Aside0.mk hge
            clear hge
            gi_wp2_with fail
            exact ⟨HZ.out.2.2.2.1, .inr ⟨rfl, ⟨HPK.out, by rw [HEL.out]; have := HG.out; omega⟩, by rw [HEL.out]; exact HZ.out.1, HZ.out.2.2.1⟩⟩
          · have d6 : decide (n ≤ (pl : Int) + 1) = false := by simpa using hge
            have HG := Aside0.mk hge
            clear hge
            gi_wp2_with fail
            exact ⟨HZ.out.2.2.2.1, HZ.out.2.2.2.2.1, by rw [HEL.out]; exact HZ.out.1, ⟨HPK.out, by rw [HEL.out]; have := HG.out; omega⟩, HZ.out.2.1, HZ.out.2.2.1, by have := HZ.out.2.2.2.2.2; have := HYq.out; omega⟩
    · have d2 := beq_no hx
      have HX := Aside0.mk hx
      clear hx
      gi_wp2_with fail
      have hpk : ¬ PK t.ks (pre ++ [x]) := pk_not (fun h => HX.out (by rw [h.2, HEQ.out.2, HEQ.out.1]))
      exact ⟨(KeepsOthers.setCell _ _ _).from _, .inl ⟨rfl, hpk⟩⟩
  case done =>
    rintro D ys Z hD e9 ⟨hS, ⟨hP, hn⟩, hA, hB, hsz⟩ hDk
    have hys : ys.length = n0 := by rw [e9, hall, hzl, e0]
    rw [hys] at hS hn
    have HSW := Aside0.mk (show w.heap.size ≤ w3.heap.size by omega)
    have d1 : decide (n < (n0 : Int)) = false := by simp; omega
    clear hA hsz hys
    have hbR := (show Boxed Z _ _ _ from (Kept.of hB).at bR2)
    have hDR : D ≠ w.heap.size + 1 := by have := gb_of bR2; omega
    have hD2 : (Z.setCell ⟨w.heap.size + 1, 0, none⟩ (.bool true)).heap[D]? = some (.deferred (some [])) := (Below.heap_setCell _ _ _ _ (by exact hDR)).trans hDk
    have hBZ : Below w.heap.size w (Z.setCell ⟨w.heap.size + 1, 0, none⟩ (.bool true)) := ((wSB.trans (h4'.mono (by omega))).trans (hB.mono (by omega))).setCell (p := ⟨w.heap.size + 1, 0, none⟩) (by show w.heap.size ≤ w.heap.size + 1; omega) _
    have HF := Aside0.mk (And.intro hbR (And.intro hDR (And.intro hD2 (And.intro hBZ hD))))
    have cS := hS.cell
    have cM : Z.cell? ⟨w1.heap.size, 0, none⟩ = some (.slice A0 n0 c0) := by rw [blk_cell ((Kept.of hB).at bM2)]; rfl
    have cN : Z.cell? ⟨w.heap.size, 0, none⟩ = some (.int .i64 n) := (show Boxed Z _ _ _ from (Kept.of hB).at bN2).cell
    have fR := hbR.frozen
    have cR := hbR.cell
    clear hbR hDR hD2 hBZ hD hS hP hB hDk hall hvl hzl enn e0 h1 h2 h3 h4' k4 s2 wSB sS hB3 s3 bA bS tr2 hlow
    gi_wp2_with fail
    refine ⟨by simp, .inl ⟨_, _, rfl, run_takeDeferred HF.out.2.2.1, ?_⟩⟩
    exact ⟨_, results_box rfl _ _ _ _ rfl (show Boxed _ _ _ _ from (World.putObj_heap_other HF.out.2.1.symm).trans (HF.out.1.set _)), rfl, HF.out.2.2.2.1.trans (belowK_b (w := w3) (by have := HSW.out; omega) _ D _ _ HF.out.2.2.2.2 HF.out.2.2.1 rfl rfl)⟩
  case stop =>
    rintro D cd pre Z hD hSp hIx hDk
    rcases hIx with ⟨rfl, hnp⟩ | ⟨rfl, ⟨hP, hn⟩, hS, hB⟩
    · rw [hall] at hSp
      exact absurd (pk_pre hvl hSp) hnp
    · have hle : pre.length ≤ n0 := by rw [← e0]; exact hP.1
      obtain ⟨pl, epl⟩ : ∃ pl, pre.length = pl := ⟨_, rfl⟩
      rw [epl] at hS hn hle
      have HSW := Aside0.mk (show w.heap.size ≤ w3.heap.size by omega)
      clear epl hSp
      have hbR := (show Boxed Z _ _ _ from (Kept.of hB).at bR2)
      have hDR : D ≠ w.heap.size + 1 := by have := gb_of bR2; omega
      have hD2 : (Z.setCell ⟨w.heap.size + 1, 0, none⟩ (.bool true)).heap[D]? = some (.deferred (some [])) := (Below.heap_setCell _ _ _ _ (by exact hDR)).trans hDk
      have hBZ : Below w.heap.size w (Z.setCell ⟨w.heap.size + 1, 0, none⟩ (.bool true)) := ((wSB.trans (h4'.mono (by omega))).trans (hB.mono (by omega))).setCell (p := ⟨w.heap.size + 1, 0, none⟩) (by show w.heap.size ≤ w.heap.size + 1; omega) _
      have HF := Aside0.mk (And.intro hbR (And.intro hDR (And.intro hD2 (And.intro hBZ hD))))
      have cS := hS.cell
      have cM : Z.cell? ⟨w1.heap.size, 0, none⟩ = some (.slice A0 n0 c0) := by rw [blk_cell ((Kept.of hB).at bM2)]; rfl
      have cN : Z.cell? ⟨w.heap.size, 0, none⟩ = some (.int .i64 n) := (show Boxed Z _ _ _ from (Kept.of hB).at bN2).cell
      have fR := hbR.frozen
      have cR := hbR.cell
      clear hbR hDR hD2 hBZ hD hS hP hB hDk hall hvl hzl enn e0 h1 h2 h3 h4' k4 s2 wSB sS hB3 s3 bA bS tr2 hlow
      by_cases hlt : pl < n0
      · have d1 : decide (n < (n0 : Int)) = true := by simp; omega
        have d2 : ((pl : Int) == n) = true := by simp; omega
        clear hlt hle hn
        gi_wp2_with fail
        refine ⟨by simp, .inl ⟨_, _, rfl, run_takeDeferred HF.out.2.2.1, ?_⟩⟩
        exact ⟨_, results_box rfl _ _ _ _ rfl (show Boxed _ _ _ _ from (World.putObj_heap_other HF.out.2.1.symm).trans (HF.out.1.set _)), rfl, HF.out.2.2.2.1.trans (belowK_b (w := w3) (by have := HSW.out; omega) _ D _ _ HF.out.2.2.2.2 HF.out.2.2.1 rfl rfl)⟩
      · have epn : pl = n0 := by omega
        subst epn
        have d1 : decide (n < (pl : Int)) = false := by simp; omega
        clear hlt hle hn
        gi_wp2_with fail
        refine ⟨by simp, .inl ⟨_, _, rfl, run_takeDeferred HF.out.2.2.1, ?_⟩⟩
        exact ⟨_, results_box rfl _ _ _ _ rfl (show Boxed _ _ _ _ from (World.putObj_heap_other HF.out.2.1.symm).trans (HF.out.1.set _)), rfl, HF.out.2.2.2.1.trans (belowK_b (w := w3) (by have := HSW.out; omega) _ D _ _ HF.out.2.2.2.2 HF.out.2.2.1 rfl rfl)⟩
theorem leftLaw (A : Option Addr) (c : Nat) (l : List S35) (n : Int) (w : World) (hl : EntAt w A l) (hc : l.length ≤ c) (hlen : l.length < 10000000000) (hs : ∀ e ∈ l, e.f0.size < 4000000000000) :
    Calls Try.prog 4 #[.slice A l.length c, .int .i64 n] w fun e w' => e = .returned (.bool true) ∧ Below w.heap.size w w' := by
  by_cases h : n < 1
  · exact leftLaw_0 A c l n h w hl hc hlen hs
  · exact leftLaw_1 A c l n (by omega) w hl hc hlen hs
end Go.Proofs.Ytjhgknagmiekeaa.V
set_option linter.unusedVariables false
set_option linter.unusedSimpArgs false
namespace Go.Proofs.Ytjhgknagmiekeaa.R
open Go.ChangeShapes Go.WideShapes Go.Deep Go.RowKit
open Go.Proofs.YtjhgknagmiekeaaW.PrintWords Go.Proofs.Ytjhgknagmiekeaa.K
section
variable {H : Type} {enc : TypeId × Value → H} {P : Program} {w : World} {base : Nat} {spare : Nat → Bool} {held : Bool}
theorem open_slice_fields {t e : TypeId} {fs : Array Field} {fuel : Nat} {cs : List Value} {x : DataW H × List MemPlace} (ht : P.underlying t = some (.slice e)) (he : P.underlying e = some (.struct fs))
    (hone : oneCellFields P fs = true) (hC : P.cellsOf e = fs.size) (h : DataW.trod enc P w base spare held fuel t cs = some x) :
    (cs = [.slice none 0 0] ∧ x = (.nil, [])) ∨
    ∃ (a : Addr) (len cap m : Nat) (D : Nat → DataW H) (Pl : Nat → List MemPlace), cs = [.slice (some a) len cap] ∧ base ≤ a.block ∧ len ≤ cap ∧ cap ≤ maxLen ∧ m = (if spare a.block then cap else len) ∧
      x = (.slice ((List.range len).map D) ((List.range (m - len)).map fun j => D (len + j)), MemPlace.row a (m * fs.size) ++ (List.range m).flatMap Pl) ∧
      ∀ i, i < m → ∃ (ys : List (DataW H × List MemPlace)) (n : Nat), D i = .agg (ys.map (·.1)) ∧ Pl i = ys.flatMap (·.2) ∧ ys.length = fs.size ∧
        ∀ (j : Nat) (f : Field), fs[j]? = some f → ∃ (v : Value) (y : DataW H × List MemPlace), w.cell? (a.add (i * fs.size + j)) = some v ∧ ys[j]? = some y ∧ DataW.trod enc P w base spare held n f.type [v] = some y := by
  rcases open_slice ht h with h0 | ⟨a, len, cap, m, n, D, Pl, hcs, hb, hl, hm, hmm, hx, hi⟩
  · exact .inl h0
  · refine .inr ⟨a, len, cap, m, D, Pl, hcs, hb, hl, hm, hmm, by rw [hC] at hx; exact hx, fun i him => ?_⟩
    obtain ⟨cs', hc, ht'⟩ := hi i him
    rw [hC] at hc
    obtain ⟨ys, n', hn', hy, hlen, hyl, hf⟩ := DataW.trod_struct he ht'
    obtain ⟨_, hcl, hat⟩ := World.cells?_some hc
    simp only [Prod.mk.injEq] at hy
    refine ⟨ys, n', hy.1, hy.2, hyl, fun j f hj => ?_⟩
    obtain ⟨ho, hk⟩ := hone_of hone j f hj
    have hjl : j < fs.size := (Array.getElem?_eq_some_iff.1 hj).1
    have hcell := hat j hjl
    have hv : cs'[j]? = some (cs'[j]'(by omega)) := List.getElem?_eq_getElem (by omega)
    have h1 := hf j f hj
    rw [ho, hk] at h1
    have hone' : (cs'.drop j).take 1 = [cs'[j]'(by omega)] := by
      rw [List.drop_eq_getElem_cons (by omega)]
      rfl
    rw [hone'] at h1
    have hys : ys[j]? = some (ys[j]'(by omega)) := List.getElem?_eq_getElem (by omega)
    refine ⟨_, _, ?_, hys, h1.trans hys⟩
    rw [← Go.Deep.add_add, hcell, hv]
end
def dE {H : Type} (p : S35) : DataW H := .agg [.lit (.string p.f0.data.toList), .lit (.int .i64 p.f1)]
theorem open_entries {H : Type} {enc : TypeId × Value → H} {W : World} {base : Nat} {spare : Nat → Bool} {held : Bool} {a : Option Addr} {len cap : Nat} {d : DataW H} {ps : List MemPlace}
    (h : DataW.Trod enc Try.prog W base spare held 22 (.slice a len cap) d ps) :
    ∃ l : List S35, len = l.length ∧ l.length ≤ cap ∧ Kd.C k35 W a l.length l ∧ ((d = .nil ∧ l = []) ∨ ∃ sp, d = .slice (l.map dE) sp) := by
  obtain ⟨fuel, hf⟩ := h
  rcases open_slice_fields (fs := #[_, _]) Try.underlying22 Try.underlying35 (by kernel_rfl) (by kernel_rfl) hf with ⟨hcs, hx⟩ | ⟨ad, len', cap', m, D, Pl, hcs, _, hl, hm, hmm, hx, hi⟩
  · simp [Value.cells] at hcs
    obtain ⟨rfl, rfl, rfl⟩ := hcs
    obtain ⟨rfl, _⟩ := Prod.mk.inj hx
    exact ⟨[], rfl, by simp, Kd.C_nil k35 W, .inl ⟨rfl, rfl⟩⟩
  · simp [Value.cells] at hcs
    obtain ⟨rfl, rfl, rfl⟩ := hcs
    obtain ⟨hx, _⟩ := Prod.mk.inj hx
    subst hx
    have hlm : len ≤ m := by rw [hmm]; split; exact hl; exact Nat.le_refl _
    have each : ∀ i : Nat, ∃ p : S35, i < len → D i = dE p ∧ W.cell? (ad.add (i * 2)) = some (.string p.f0) ∧ W.cell? (ad.add (i * 2 + 1)) = some (.int .i64 p.f1) := by
      intro i
      by_cases hil : i < len
      · obtain ⟨ys, n, hD, _, hyl, hj⟩ := hi i (by omega)
        obtain ⟨v0, y0, c0, e0, t0⟩ := hj 0 _ rfl
        obtain ⟨v1, y1, c1, e1, t1⟩ := hj 1 _ rfl
        obtain ⟨s0, q0, r0, w0⟩ := DataW.trod_string Try.underlying9 t0
        obtain ⟨n1, q1, r1, w1⟩ := DataW.trod_int Try.underlying3 t1
        simp only [List.cons.injEq, and_true] at q0 q1
        subst q0 q1 r0 r1
        refine ⟨⟨s0, n1⟩, fun _ => ⟨?_, c0, c1⟩⟩
        have hys : ys = [(.lit (.string s0.data.toList), []), (.lit (.int .i64 n1), [])] := by
          match ys, hyl, e0, e1 with
          | [a, b], _, e0, e1 => simp at e0 e1; rw [e0, e1]
        rw [hD, hys]
        rfl
      · exact ⟨⟨⟨#[]⟩, 0⟩, fun h => absurd h hil⟩
    obtain ⟨g, hg⟩ := Classical.axiomOfChoice each
    refine ⟨(List.range len).map g, by simp, by simpa using hl, ?_, .inr ⟨(List.range (m - len)).map fun j => D (len + j), ?_⟩⟩
    · have hlen : ((List.range len).map g).length = len := by simp
      rw [hlen]
      refine ⟨hlen, by unfold maxLen at hm; omega, fun _ => ⟨ad, rfl, fun j p hp => ?_⟩⟩
      have hj : j < len := by have := (List.getElem?_eq_some_iff.1 hp).1; rw [hlen] at this; exact this
      have hpe : p = g j := by
        rw [List.getElem?_map, List.getElem?_range hj] at hp
        simpa using hp.symm
      subst hpe
      obtain ⟨_, c0, c1⟩ := hg j hj
      refine ⟨_, rfl, k35_mk W (g j), fun i u hu => ?_⟩
      match i, hu with
      | 0, hu => simp at hu; subst hu; exact c0
      | 1, hu => simp at hu; subst hu; exact c1
    · congr 1
      rw [List.map_map]
      apply List.map_congr_left
      intro j hj
      exact (hg j (List.mem_range.1 hj)).1
def wt : List S35 → Nat
  | [] => 0
  | p :: ps => p.f0.size + 1 + wt ps
theorem wt_bulk {H : Type} (l : List S35) : wt l ≤ Rows.uptoBulkAll (l.map (dE (H := H))) := by
  induction l with
  | nil => exact Nat.zero_le _
  | cons p ps ih =>
    have e : p.f0.data.toList.length = p.f0.size := T.L_len _
    simp only [List.map_cons, Rows.uptoBulkAll, wt, dE, Rows.uptoBulk, e]
    omega
theorem wt_of {H : Type} {d : DataW H} {l : List S35} (h : (d = .nil ∧ l = []) ∨ ∃ sp, d = .slice (l.map dE) sp) : wt l ≤ Rows.uptoBulk d := by
  rcases h with ⟨rfl, rfl⟩ | ⟨sp, rfl⟩
  · exact Nat.zero_le _
  · have := wt_bulk (H := H) l
    simp only [Rows.uptoBulk]
    omega
theorem wt_len : ∀ (l : List S35), l.length ≤ wt l
  | [] => Nat.zero_le _
  | p :: ps => by have := wt_len ps; simp only [List.length_cons, wt]; omega
theorem wt_mem : ∀ (l : List S35) (p : S35), p ∈ l → p.f0.size ≤ wt l
  | q :: l, p, h => by
    simp only [wt]
    rcases List.mem_cons.1 h with e | e
    · rw [e]; omega
    · have := wt_mem l p e; omega
end Go.Proofs.Ytjhgknagmiekeaa.R
