/- joined: V5 V6U V7 V8 V2OA V3OA V4OA V6A N6 -/
import Derived.Test.YtjhgknagmiekeaaJD9
import Derived.Test.YtjhgknagmiekeaaJD11
import Derived.Laws.Cover1
import Derived.Test.YtjhgknagmiekeaaJD10
import Derived.Maps.AppendAt
import Derived.Deep.RegionHeld3
set_option linter.unusedVariables false
set_option linter.unusedSimpArgs false
namespace Go.Proofs.Ytjhgknagmiekeaa.V
open Go.RowKit Go.Lib Go.Proofs Go.Proofs.Ytjhgknagmiekeaa.T Go.Proofs.Ytjhgknagmiekeaa.K
open Go.Proofs.YtjhgknagmiekeaaW.PrintWords hiding blk_cell
def pre (a b : List UInt8) : Bool := b.isPrefixOf a
theorem pre_ext (a : ByteArray) (b : ByteArray) (h : b.size ≤ a.size) : ((a.extract 0 b.size).toList == b.toList) = pre (L a) (L b) := by
 unfold pre
 rw [Lib.toList_data, Lib.toList_data, ByteArray.data_extract, Array.toList_extract]
 rw [Bool.eq_iff_iff, beq_iff_eq, List.isPrefixOf_iff_prefix, List.prefix_iff_eq_take]
 have e : (L b).length = b.size := L_len b
 rw [e]
 show (a.data.toList.extract 0 b.size) = b.data.toList ↔ L b = (L a).take b.size
 rw [List.extract_eq_take_drop]
 simp only [Nat.sub_zero, List.drop_zero]
 exact eq_comm
theorem pre_short (a : ByteArray) (b : ByteArray) (h : a.size < b.size) : pre (L a) (L b) = false := by
 unfold pre
 rw [Bool.eq_false_iff]
 intro h2
 have := (List.isPrefixOf_iff_prefix.1 h2).length_le
 rw [L_len, L_len] at this
 omega
theorem pre_f (a b : ByteArray) : stringslite_HasPrefix.f a b = some (pre (L a) (L b)) := by
 unfold stringslite_HasPrefix.f
 by_cases h : (a.size : Int) ≥ (b.size : Int)
 ·rw [if_pos h, if_pos (by omega), if_pos (by omega), Int.toNat_natCast, pre_ext a b (by omega)]
 ·rw [if_neg h, pre_short a b (by omega)]
theorem hpC (a b : ByteArray) (W : World) : Calls Try.prog 73 #[.string a, .string b] W fun e W' => e = .returned (.bool (pre (L a) (L b))) ∧ Below W.heap.size W W' :=
 (strings_HasPrefix.calls a b _ W (by unfold strings_HasPrefix.f; rw [pre_f]; rfl)).mono fun e w' h => ⟨h.1, (Qt.of0 h.2).below _⟩
theorem neverC (q : ByteArray) (W : World) : Calls Try.prog 76 #[.string q] W fun e W' => e = .returned (.bool false) ∧ Below W.heap.size W W' :=
 (walk_never.calls q _ W rfl).mono fun e w' h => ⟨h.1, (Qt.of0 h.2).below _⟩
theorem alwaysC (q : ByteArray) (W : World) : Calls Try.prog 77 #[.string q] W fun e W' => e = .returned (.bool true) ∧ Below W.heap.size W W' :=
 (walk_always.calls q _ W rfl).mono fun e w' h => ⟨h.1, (Qt.of0 h.2).below _⟩
set_option maxHeartbeats 4000000 in
set_option maxRecDepth 100000 in
theorem walkedC (tb : Nat) (s k : Fn) (sa ka : Array Value) (w : World) : Calls Try.prog 71 #[ptr tb, .func s #[] sa, .func k #[] ka] w fun e w' => ∃ bt bs bk, e = .returned (.func (.func 117) #[] #[ptr bt, ptr bs, ptr bk]) ∧ w'.heap[bt]? = some (.cells #[ptr tb] 24 (0, 0)) ∧ w'.heap[bs]? = some (.cells #[.func s #[] sa] 110 (0, 0)) ∧ w'.heap[bk]? = some (.cells #[.func k #[] ka] 110 (0, 0)) ∧ Below w.heap.size w w' := by
 unfold ptr
 go_enter Try.func71, Try.ntmps71
 go_wp2_with fail
 go_ret
 refine ⟨w.heap.size, w.heap.size + 1, w.heap.size + 1 + 1, rfl, ?_, ?_, ?_, ?_⟩
 ·rw [(Below.heap_alloc _ _ _ (by simp; omega)), (Below.heap_alloc _ _ _ (by simp))]
  exact World.alloc_heap_new w _
 ·rw [(Below.heap_alloc _ _ _ (by simp))]
  have := World.alloc_heap_new (w.alloc (Obj.cells #[Value.pointer (some { block := tb, off := 0 })] 24)) (Obj.cells #[Value.func s #[] sa] 110)
  rwa [World.size_alloc] at this
 ·have := World.alloc_heap_new ((w.alloc (Obj.cells #[Value.pointer (some { block := tb, off := 0 })] 24)).alloc (Obj.cells #[Value.func s #[] sa] 110)) (Obj.cells #[Value.func k #[] ka] 110)
  rwa [World.size_alloc, World.size_alloc] at this
 ·exact (((Below.refl _ w).alloc (Nat.le_refl _) _).alloc (by simp) _).alloc (by simp; omega) _
set_option maxHeartbeats 4000000 in
set_option maxRecDepth 100000 in
theorem allC (tb : Nat) (w : World) : Calls Try.prog 26 #[ptr tb] w fun e w' => ∃ bt bs bk, e = .returned (.func (.func 117) #[] #[ptr bt, ptr bs, ptr bk]) ∧ w'.heap[bt]? = some (.cells #[ptr tb] 24 (0, 0)) ∧ w'.heap[bs]? = some (.cells #[.func (.func 76) #[] #[]] 110 (0, 0)) ∧ w'.heap[bk]? = some (.cells #[.func (.func 77) #[] #[]] 110 (0, 0)) ∧ Below w.heap.size w w' := by
 have q := Aside0.mk (fun w1 => walkedC tb (.func 76) (.func 77) #[] #[] w1)
 unfold ptr at q ⊢
 go_enter Try.func26, Try.ntmps26
 go_wp2_with (go_at_call 71; refine (q.out _).mono ?_)
 rintro e w' ⟨bt, bs, bk, rfl, h1, h2, h3, h4⟩
 have H := Aside0.mk (And.intro h1 (And.intro h2 (And.intro h3 h4)))
 clear h1 h2 h3 h4 q
 go_wp2_with fail
 go_ret
 exact ⟨bt, bs, bk, rfl, H.out.1, H.out.2.1, H.out.2.2.1, H.out.2.2.2⟩
set_option maxHeartbeats 4000000 in
set_option maxRecDepth 100000 in
theorem underC (tb : Nat) (p : ByteArray) (w : World) : Calls Try.prog 22 #[ptr tb, .string p] w fun e w' => ∃ bp bt bs bk, e = .returned (.func (.func 117) #[] #[ptr bt, ptr bs, ptr bk]) ∧ w.heap.size ≤ bp ∧ w'.heap[bp]? = some (.cells #[.string p] 9 (0, 0)) ∧ w'.heap[bt]? = some (.cells #[ptr tb] 24 (0, 0)) ∧ w'.heap[bs]? = some (.cells #[.func (.func 72) #[] #[ptr bp]] 110 (0, 0)) ∧ w'.heap[bk]? = some (.cells #[.func (.func 74) #[] #[ptr bp]] 110 (0, 0)) ∧ Below w.heap.size w w' := by
 have q := Aside0.mk (fun w1 sa ka => walkedC tb (.func 72) (.func 74) sa ka w1)
 unfold ptr at q ⊢
 go_enter Try.func22, Try.ntmps22
 go_wp2_with (go_at_call 71; refine (q.out _ _ _).mono ?_)
 rintro e w' ⟨bt, bs, bk, rfl, h1, h2, h3, h4⟩
 have H := Aside0.mk (And.intro h1 (And.intro h2 (And.intro h3 h4)))
 clear h1 h2 h3 h4 q
 go_wp2_with fail
 go_ret
 refine ⟨w.heap.size, bt, bs, bk, rfl, Nat.le_refl _, ?_, H.out.1, H.out.2.1, H.out.2.2.1, belowAt ((Below.refl _ w).alloc (Nat.le_refl _) _) H.out.2.2.2⟩
 exact (H.out.2.2.2.block _ (by simp)).trans (World.alloc_heap_new w _)
def skU (p q : List UInt8) : Bool := !pre q p && !pre p q
def kpU (p q : List UInt8) : Bool := pre q p
def skF (p q : List UInt8) : Bool := decide (q < p) && !pre p q
def kpF (p q : List UInt8) : Bool := !decide (q < p)
def skL (p q : List UInt8) : Bool := !pre p q
abbrev Bx (W : World) (bp : Nat) (p : ByteArray) : Prop := W.heap[bp]? = some (.cells #[.string p] 9 (0, 0))
set_option maxHeartbeats 4000000 in
set_option maxRecDepth 100000 in
theorem kpUC (q p : ByteArray) (bp : Nat) (W : World) (hb : Bx W bp p) : Calls Try.prog 74 #[.string q, ptr bp] W fun e W' => e = .returned (.bool (kpU (L p) (L q))) ∧ Below W.heap.size W W' := by
 have c1 : W.cell? ⟨bp, 0, none⟩ = some (.string p) := by rw [blk_cell hb]; rfl
 clear hb
 have qq := Aside0.mk (hpC q p W)
 unfold ptr
 go_enter Try.func74, Try.ntmps74
 go_wp2_with (go_at_call 73; refine qq.out.mono ?_)
 rintro e w' ⟨rfl, HB⟩
 have H := Aside0.mk HB
 clear HB qq
 go_wp2_with fail
 go_ret
 exact ⟨rfl, H.out⟩
set_option maxHeartbeats 4000000 in
set_option maxRecDepth 100000 in
theorem skUC (q p : ByteArray) (bp : Nat) (W : World) (hb : Bx W bp p) : Calls Try.prog 72 #[.string q, ptr bp] W fun e W' => e = .returned (.bool (skU (L p) (L q))) ∧ Below W.heap.size W W' := by
 have c1 : W.cell? ⟨bp, 0, none⟩ = some (.string p) := by rw [blk_cell hb]; rfl
 clear hb
 have q1 := Aside0.mk (hpC q p W)
 unfold ptr
 go_enter Try.func72, Try.ntmps72
 go_wp2_with (go_at_call 73; refine q1.out.mono ?_)
 rintro e w1 ⟨rfl, HB⟩
 have H := Aside0.mk HB
 have q2 := Aside0.mk (hpC p q w1)
 have c2 := (Kept.of HB).cell c1
 obtain ⟨t, et⟩ : ∃ t, pre (L q) (L p) = t := ⟨_, rfl⟩
 rw [et]
 have HT := Aside0.mk et
 clear HB q1 et
 go_wp2_with (go_at_call 73; refine q2.out.mono ?_)
 case isFalse =>
  have hh : ¬ t = true := by assumption
  rintro e w2 ⟨rfl, HB2⟩
  have H2 := Aside0.mk HB2
  clear HB2 q2
  go_wp2_with fail
  go_ret
  refine ⟨?_, belowAt H.out H2.out⟩
  unfold skU
  rw [HT.out, (Bool.not_eq_true _).mp hh]
  rfl
 have hh : t = true := by assumption
 go_ret
 refine ⟨?_, H.out⟩
 unfold skU
 rw [HT.out, hh]
 rfl
end Go.Proofs.Ytjhgknagmiekeaa.V
set_option linter.unusedVariables false
set_option linter.unusedSimpArgs false
namespace Go.Proofs.Ytjhgknagmiekeaa.VU
open Go.RowKit Go.Lib Go.Proofs Go.Proofs.Ytjhgknagmiekeaa.T Go.Proofs.Ytjhgknagmiekeaa.V Go.Proofs.Ytjhgknagmiekeaa.VOU
open Go.Proofs.YtjhgknagmiekeaaW.PrintWords hiding blk_cell
theorem seq (w : World) (n NN n₁ : Nat) (M : Nat → Prop) (wB : World) (hkB : Kept wB w) (hnB : wB.heap.size ≤ n₁) (hnw : n₁ ≤ w.heap.size) (hM : ∀ k, k < wB.heap.size → ¬ M k)
  (tb : Nat) (root : Nd) (ht : Tr wB tb root) (bp : Nat) (bt bs bk : Nat) (hc : Closed w bp bt bs bk tb) (p : ByteArray) (hp : Bx w bp p) (hbp : bp < n₁) (hMp : ¬ M bp) (hNN : (ovr (fun q => skU (L p) (L q)) (fun q => kpU (L p) (L q)) ⟨#[]⟩ root).length ≤ NN) :
  SeqStopsK Fence.wide n Try.prog 117 #[ptr bt, ptr bs, ptr bk] (fun x : ByteArray × Int => #[.string x.1, .int .i64 x.2]) (KpM n₁ M) (fun ys => ys = ovr (fun q => skU (L p) (L q)) (fun q => kpU (L p) (L q)) ⟨#[]⟩ root) (fun ys => ys <+: ovr (fun q => skU (L p) (L q)) (fun q => kpU (L p) (L q)) ⟨#[]⟩ root) NN w := by
 intro l J Jx W hw hJ hJx hY hJ0
 have hk : Kept w W := Kept.of hw
 have hc2 : Closed W bp bt bs bk tb := ⟨hk.at hc.1, hk.at hc.2.1, hk.at hc.2.2⟩
 have hbx : ∀ W1, Stnd W n₁ M W1 → Bx W1 bp p := fun W1 h => h bp _ (hk.at hp) hbp hMp
 refine callsIn_wide.2 (walked_calls bp l n₁ (fun ys => ys.length ≤ NN) (fun a b h => by rw [List.length_append] at h; omega) M J Jx (abd_of hJ) (fun m pre x W1 h1 h2 => yieldDepth m (hY pre x W1 h1 (by rw [List.length_append, List.length_singleton] at h2; omega))) W wB (hkB.trans hk (Nat.le_trans hnB hnw)) hnB hM (fun q => skU (L p) (L q)) (fun q => kpU (L p) (L q))
  (fun q W1 h1 => skUC q p bp W1 (hbx W1 h1)) (fun q W1 h1 => kpUC q p bp W1 (hbx W1 h1)) tb root ht bt bs bk W hc2 (Stnd.refl W n₁ M) (Nat.le_trans hnw hw.size) hJ0 hNN)
end Go.Proofs.Ytjhgknagmiekeaa.VU
set_option linter.unusedVariables false
set_option linter.unusedSimpArgs false
namespace Go.Proofs.Ytjhgknagmiekeaa.V
open Go.RowKit Go.Lib Go.Proofs Go.Shelf Go.Proofs.Ytjhgknagmiekeaa.T
open Go.Proofs.YtjhgknagmiekeaaW.PrintWords hiding blk_cell
attribute [local go_sem] Oper.semAt_some
theorem KpM.setBox {n₁ : Nat} {M : Nat → Prop} {W : World} {B : Nat} {t : TypeId} {v : Value} (hv : Boxed W B t v) (ht : t ≠ 60) (hM : M B) (v' : Value) : KpM n₁ M W (W.setCell ⟨B, 0, none⟩ v') := by
 have hg := grownBy_setCell' W B v'
 refine ⟨hg.size, fun k o hk h1 h2 => ?_, fun k cs fr hk => ?_⟩
 ·exact (hg.block k (Array.getElem?_eq_some_iff.1 hk).1 (fun e => h2 (by cases e; exact hM))).trans hk
 ·refine (hg.block k (Array.getElem?_eq_some_iff.1 hk).1 (fun e => ?_)).trans hk
  cases e
  rw [show W.heap[B]? = _ from hv] at hk
  injection hk with h1
  injection h1 with _ h2 _
  exact ht h2
theorem kpT {n₁ : Nat} {M : Nat → Prop} {A B C : World} (h : KpM n₁ M A B) (k : KpM n₁ M B C) : KpM n₁ M A C := h.trans k
theorem kpB {n₁ : Nat} {M : Nat → Prop} {w : World} (hn : n₁ ≤ w.heap.size) (W : World) (l : Nat) (o o' : Obj) (hl : w.heap.size ≤ l) (h : W.heap[l]? = some o) (hc : o.isCells = false) (_ : o.isWalk = false) : KpM n₁ M W (W.putObj l o') := KpM.putObj W l o o' (Nat.le_trans hn hl) h hc
set_option maxRecDepth 100000 in
set_option maxHeartbeats 4000000 in
theorem countC (tb : Nat) (root : Nd) (p : ByteArray) (w : World) (ht : Tr w tb root) (NN : Nat) (hNN : (ovr (fun q => skU (L p) (L q)) (fun q => kpU (L p) (L q)) ⟨#[]⟩ root).length = NN) (hs : NN < 4611686018427387904) :
  Calls Try.prog 25 #[ptr tb, .string p] w fun e w' => e = .returned (.int .i64 (NN : Int)) ∧ Below w.heap.size w w' := by
 refine callsIn_wide.1 (show CallsIn Fence.wide 3 Try.prog 25 _ w _ from ?_)
 have q := Aside0.mk (fun w1 => show CallsIn Fence.wide 2 Try.prog 22 _ w1 _ from callsIn_wide.2 (underC tb p w1))
 unfold ptr at q ⊢
 have hdd : ∀ k : Nat, (Fence.wide.depth.isSome = true → 1 ≤ k) := fun k h => by cases h
 refine callsIn_of_wp_marks Try.func25 rfl trivial ?_ rfl
 simp only [Try.ntmps25, List.size_toArray, List.length_cons, List.length_nil, Nat.reduceAdd, Nat.reduceSub, Array.replicate_succ, Array.replicate_zero, List.push_toArray, List.append_toArray, List.nil_append, List.cons_append]
 gi_wp2_with (refine ⟨trivial, ?_⟩; gi_at_call 22; refine (q.out _).mono ?_; rintro e w1 ⟨bp, bt, bs, bk, rfl, h0, h1, h2, h3, h4, h5⟩)
 clear q
 rw [World.size_alloc] at h0 h5
 have hw1 : w.heap.size + 1 ≤ w1.heap.size := by have := h5.size; rw [World.size_alloc] at this; exact this
 have bC : Boxed w1 w.heap.size 3 (.int .i64 0) := (h5.block _ (by omega)).trans (World.alloc_heap_new w _)
 have hB0 : Below w.heap.size w w1 := ((Below.refl _ w).alloc (Nat.le_refl _) _).trans (h5.mono (by omega))
 have hbp : bp < w1.heap.size := (Array.getElem?_eq_some_iff.1 h1).1
 refine wpIn_rangeFunc_ownG rfl (by decide) (gf := 117) (lb := #[ptr bt, ptr bs, ptr bk]) rfl trivial (enters_of Try.func117 (by kernel_rfl) rfl)
  (VU.seq w1 2 NN w1.heap.size (fun k => k = w.heap.size) w (Kept.of hB0) (by omega) (Nat.le_refl _) (fun k hk e => by omega) tb root ht bp bt bs bk ⟨h2, h3, h4⟩ p h1 hbp (fun e => by omega) (Nat.le_of_eq hNN))
  kpT (kpB (Nat.le_refl _)) (Below.refl _ _) (fun _ => rfl)
  (fun pre W => Boxed W w.heap.size 3 (.int .i64 (pre.length : Int)) ∧ Below w.heap.size w W)
  (fun _ _ _ => False)
  (OwnFrom.and (Own.from (boxed_own w.heap.size 3 (fun pre : List (ByteArray × Int) => .int .i64 (pre.length : Int))) _) (ownFrom_below (Nat.le_refl _) (by omega)))
  (fun _ _ _ _ _ hs _ _ => hs)
  ⟨bC, hB0⟩
  (fun x => { tmps := #[.pointer (some ⟨tb, 0, none⟩), .string p, undef, undef, .int .i64 0, .pointer (some ⟨w.heap.size, 0, none⟩), .pointer (some ⟨tb, 0, none⟩), .string p, .func (.func 117) #[] #[.pointer (some ⟨bt, 0, none⟩), .pointer (some ⟨bs, 0, none⟩), .pointer (some ⟨bk, 0, none⟩)], .string x.1, .int .i64 x.2, undef, undef, undef], defers := [] }) ?assign ?body ?done ?stop
 case assign =>
  intro l x W K hK
  gi_wp2
  rw [show (#[9, 10] : Array Tmp).zip #[Value.string x.1, Value.int .i64 x.2] = #[(9, Value.string x.1), (10, Value.int .i64 x.2)] from by simp]
  simp
  exact hK
 case body =>
  rintro l pre x W ⟨hv, hB⟩ hlt
  have hc := hv.cell
  have hf := hv.frozen
  gi_wp2
  have e : ((pre ++ [x]).length : Int) = (pre.length : Int) + 1 := by simp
  refine ⟨(KeepsOthers.setCell _ _ _).from _, KpM.setBox (M := fun k => k = w.heap.size) hv (by decide) rfl _, ?_, hB.setCell (p := ⟨w.heap.size, 0, none⟩) (Nat.le_refl _) _⟩
  rw [e]
  exact hv.set _
 case done =>
  rintro D ys W hD rfl ⟨hv, hB⟩ hK
  have hc := hv.cell
  gi_wp2
  refine ⟨by simp, .inl ⟨_, _, rfl, run_takeDeferred hK, ?_⟩⟩
  refine ⟨_, results_tmp rfl _ _ _, ?_, hB.trans (belowK_b (w := w1) (by omega) W D _ _ hD hK rfl rfl)⟩
  rfl
 case stop =>
  rintro D c pre W _ _ h _
  exact h.elim
end Go.Proofs.Ytjhgknagmiekeaa.V
set_option linter.unusedVariables false
set_option linter.unusedSimpArgs false
namespace Go.Proofs.Ytjhgknagmiekeaa.V
open Go.Proofs.Ytjhgknagmiekeaa.VOU (below_drewA)
open Go.RowKit Go.Lib Go.Proofs Go.Shelf
open Go.Proofs.Ytjhgknagmiekeaa.T Go.Proofs.Ytjhgknagmiekeaa.N Go.Proofs.Ytjhgknagmiekeaa.K
open Go.Proofs.YtjhgknagmiekeaaW.PrintWords hiding blk_cell
structure Far (bm : Nat) (W W' : World) : Prop where
 box : ∃ v0 v1 v2 v3 v4 : Value, W.heap[bm]? = some (.cells #[v0, v1, v2, v3, v4] 28 (0, 0)) ∧ ∀ v ∈ [v0, v1, v2, v3, v4], ∀ p, v ≠ .pointer p
 same : ∀ k, k ≠ bm → k < W.heap.size → W'.heap[k]? = W.heap[k]?
theorem Far.at {bm : Nat} {W W' : World} (h : Far bm W W') {b : Nat} {cs : Array Value} {t : TypeId} {fr : Nat × Nat} (hv : W.heap[b]? = some (.cells cs t fr)) (ht : t ≠ 28) : W'.heap[b]? = some (.cells cs t fr) := by
 refine (h.same b (fun e => ?_) (Array.getElem?_eq_some_iff.1 hv).1).trans hv
 obtain ⟨v0, v1, v2, v3, v4, hb, -⟩ := h.box
 subst e
 rw [hb] at hv
 injection hv with h1
 injection h1 with _ h2 _
 exact ht h2.symm
theorem Far.cell {bm : Nat} {W W' : World} (h : Far bm W W') {a : Addr} {p : Option Addr} (hv : W.cell? a = some (.pointer p)) : W'.cell? a = some (.pointer p) := by
 refine (World.cell?_of_block (h.same a.block (fun e => ?_) (World.block_lt_of_cell? W a hv))).trans hv
 obtain ⟨v0, v1, v2, v3, v4, hb, hp⟩ := h.box
 rw [← e] at hb
 have : ∃ v ∈ [v0, v1, v2, v3, v4], v = .pointer p := by
  unfold World.cell? at hv
  rw [hb] at hv
  have h3 : a.spot = none ∧ [v0, v1, v2, v3, v4][a.off]? = some (.pointer p) := by simpa using hv
  exact ⟨_, List.mem_of_getElem? h3.2, rfl⟩
 obtain ⟨v, h1, h2⟩ := this
 exact hp v h1 p h2
theorem far_row {bm : Nat} {W W' : World} (h : Far bm W W') {v : Value} {ks : List Nd} (hr : Row W v (ptrs ks)) : Row W' v (ptrs ks) := by
 rcases hr with hr | ⟨ad, c, hv, hr⟩
 ·exact .inl hr
 ·refine .inr ⟨ad, c, hv, fun i hi => ?_⟩
  obtain ⟨h1, cs, fr, h2⟩ := hr i hi
  have e : (ptrs ks)[i] = ptr (ks[i]'(by simpa [ptrs] using hi)).b := by simp [ptrs]
  rw [e] at h1 ⊢
  exact ⟨h.cell h1, cs, fr, h.at h2 (by decide)⟩
theorem far_leaf {bm : Nat} {W W' : World} (h : Far bm W W') {o : Option Lf} (hl : LfAt W o) : LfAt W' o := fun l e => h.at (hl l e) (by decide)
mutual
theorem far_nd {bm : Nat} {W W' : World} (h : Far bm W W') : ∀ t : Nd, NdAt W t → NdAt W' t
 | .mk b label leaf kids mark, hn => by
  unfold NdAt at hn ⊢
  obtain ⟨⟨kv, h1, h2⟩, h3, h4, h5⟩ := hn
  exact ⟨⟨kv, h.at h1 (by decide), far_row h h2⟩, far_leaf h h3, far_nds h kids h4, h5⟩
theorem far_nds {bm : Nat} {W W' : World} (h : Far bm W W') : ∀ ks : List Nd, NdsAt W ks → NdsAt W' ks
 | [], _ => by unfold NdsAt; trivial
 | n :: r, hn => by
  unfold NdsAt at hn ⊢
  exact ⟨far_nd h n hn.1, far_nds h r hn.2⟩
end
theorem far_tr {bm : Nat} {W W' : World} (h : Far bm W W') {tb : Nat} {root : Nd} (ht : Tr W tb root) : Tr W' tb root := ⟨⟨h.at ht.at_.blk (by decide), far_nd h root ht.at_.root⟩, ht.fine, ht.vals⟩
theorem set_at {W : World} {b : Nat} {cs : Array Value} {t : TypeId} {fr : Nat × Nat} (h : W.heap[b]? = some (.cells cs t fr)) (j : Nat) (v : Value) : (W.setCell ⟨b, j, none⟩ v).heap[b]? = some (.cells (cs.setIfInBounds j v) t fr) := by
 obtain ⟨hlt, hk⟩ := Array.getElem?_eq_some_iff.1 h
 show (W.heap.modify b _)[b]? = _
 rw [Array.getElem?_eq_getElem (by rw [Array.size_modify]; exact hlt), Array.getElem_modify_self, hk]
 rfl
theorem set_far (W : World) (b j : Nat) (v : Value) (k : Nat) (h : k ≠ b) : (W.setCell ⟨b, j, none⟩ v).heap[k]? = W.heap[k]? := Below.heap_setCell _ _ _ k h
def set5 (W : World) (b : Nat) (v0 v1 v2 v3 v4 : Value) : World := ((((W.setCell ⟨b, 0, none⟩ v0).setCell ⟨b, 1, none⟩ v1).setCell ⟨b, 2, none⟩ v2).setCell ⟨b, 3, none⟩ v3).setCell ⟨b, 4, none⟩ v4
theorem set5_at {W : World} {b : Nat} {x0 x1 x2 x3 x4 : Value} {t : TypeId} (h : W.heap[b]? = some (.cells #[x0, x1, x2, x3, x4] t (0, 0))) (v0 v1 v2 v3 v4 : Value) : (set5 W b v0 v1 v2 v3 v4).heap[b]? = some (.cells #[v0, v1, v2, v3, v4] t (0, 0)) :=
 set_at (set_at (set_at (set_at (set_at h 0 v0) 1 v1) 2 v2) 3 v3) 4 v4
theorem set5_far (W : World) (b : Nat) (v0 v1 v2 v3 v4 : Value) (k : Nat) (h : k ≠ b) : (set5 W b v0 v1 v2 v3 v4).heap[k]? = W.heap[k]? := by
 unfold set5
 rw [set_far _ _ _ _ _ h, set_far _ _ _ _ _ h, set_far _ _ _ _ _ h, set_far _ _ _ _ _ h, set_far _ _ _ _ _ h]
theorem set5_below {n : Nat} {w W : World} {b : Nat} (hb : Below n w W) (hn : n ≤ b) (v0 v1 v2 v3 v4 : Value) : Below n w (set5 W b v0 v1 v2 v3 v4) :=
 ((((hb.setCell (p := ⟨b, 0, none⟩) hn v0).setCell (p := ⟨b, 1, none⟩) hn v1).setCell (p := ⟨b, 2, none⟩) hn v2).setCell (p := ⟨b, 3, none⟩) hn v3).setCell (p := ⟨b, 4, none⟩) hn v4
theorem set5_le (W : World) (b : Nat) (v0 v1 v2 v3 v4 : Value) : W.heap.size ≤ (set5 W b v0 v1 v2 v3 v4).heap.size := (set5_below (n := 0) (Below.refl 0 W) (Nat.zero_le _) v0 v1 v2 v3 v4).size
abbrev EntAt (w : World) (A : Option Addr) (l : List S35) : Prop := Kd.C k35 w A l.length l
def lastE (l : List S35) (r : List UInt8) : Option Value := l.foldl (fun o e => if r = L e.f0 then some (.int .i64 e.f1) else o) none
theorem lastE_snoc (l : List S35) (x : S35) (r : List UInt8) : lastE (l ++ [x]) r = if r = L x.f0 then some (.int .i64 x.f1) else lastE l r := by
 unfold lastE
 rw [List.foldl_append]
 rfl
end Go.Proofs.Ytjhgknagmiekeaa.V
set_option linter.unusedVariables false
set_option linter.unusedSimpArgs false
namespace Go.Proofs.Ytjhgknagmiekeaa.VOA
open Go.RowKit Go.Lib Go.Proofs Go.Proofs.YtjhgknagmiekeaaW.PrintWords Go.Proofs.Ytjhgknagmiekeaa.T Go.Proofs.Ytjhgknagmiekeaa.V
attribute [local go_sem] Oper.semAt_some
def Post (n₁ : Nat) (M : Nat → Prop) (J Jx : List (ByteArray × Int) → World → Prop) (pre xs : List (ByteArray × Int)) (W : World) (e : Ending) (W' : World) : Prop :=
  (e = .returned (.bool true) ∧ J (pre ++ xs) W' ∧ KpM n₁ M W W') ∨ (e = .returned (.bool false) ∧ ∃ q, q <+: xs ∧ Jx (pre ++ q) W')
set_option maxRecDepth 100000 in
set_option maxHeartbeats 4000000 in
theorem skip_in (l n₁ : Nat) (M : Nat → Prop) (J Jx : List (ByteArray × Int) → World → Prop) (hJ : Abd J) (wI : World) (sk kp : ByteArray → Bool)
    (hsk : ∀ q W, Stnd wI n₁ M W → Calls Try.prog 76 #[.string q] W fun e W' => e = .returned (.bool (sk q)) ∧ Below W.heap.size W W') (m : Nat) (n : Nd) (p : ByteArray) (pre : List (ByteArray × Int)) (W : World)
    (hst : Stnd wI n₁ M W) (hJ0 : J pre W) (hs : sk p = true) :
    CallsIn Fence.wide m Try.prog 118 #[nodeV n.b p, .func (.func 76) #[] #[], .func (.func 77) #[] #[], .func (.yield l) #[] #[]] W (Post n₁ M J Jx pre (ovr sk kp p n) W) := by
  have hdd : ∀ k : Nat, (Fence.wide.depth.isSome = true → 1 ≤ k) := fun k h => by cases h
  have HB0 := Aside0.mk ((Below.refl W.heap.size W).alloc (Nat.le_refl _) (.cells #[.pointer (some ⟨n.b, 0, none⟩), .string p] 60))
  have q1 := Aside0.mk (fun W1 => pathC W1 n.b p)
  have HK := Aside0.mk (fun W1 (h : Below W.heap.size W W1) => hsk p W1 (hst.kp (KpM.of h)))
  rw [hs] at HK
  have e0 : ovr sk kp p n = [] := by rw [ovr_eq, hs]; rfl
  rw [e0]
  have HJ := Aside0.mk (And.intro hJ hJ0)
  clear hJ hst hJ0 hs e0 hsk
  unfold nodeV ptr at q1 ⊢
  refine callsIn_of_wp Try.func118 rfl trivial ?_ rfl
  simp only [Try.ntmps118, List.size_toArray, List.length_cons, List.length_nil, Nat.reduceAdd, Nat.reduceSub, Array.replicate_succ, Array.replicate_zero, List.push_toArray, List.append_toArray, List.nil_append, List.cons_append]
  gi_wp2_with (refine ⟨trivial, hdd _, ?_⟩; gi_at_call 94; refine (callsIn_wide.2 (q1.out _)).mono ?_)
  rintro e W1 ⟨rfl, B1⟩
  have HB1 := Aside0.mk (belowAt HB0.out B1)
  have q2 := Aside0.mk (HK.out W1 HB1.out)
  clear B1 q1 HK
  gi_wp2_with (refine ⟨trivial, hdd _, ?_⟩; gi_at_call 76; refine (callsIn_wide.2 q2.out).mono ?_)
  rintro e W2 ⟨rfl, B2⟩
  have HB2 := Aside0.mk (belowAt HB1.out B2)
  clear B2 q2
  gi_wp2
  go_ret
  exact .inl ⟨rfl, by rw [List.append_nil]; exact abide HJ.out.1 HJ.out.2 HB2.out, KpM.of HB2.out⟩
end Go.Proofs.Ytjhgknagmiekeaa.VOA
set_option linter.unusedVariables false
set_option linter.unusedSimpArgs false
namespace Go.Proofs.Ytjhgknagmiekeaa.VOA
open Go.RowKit Go.Lib Go.Proofs Go.Proofs.Ytjhgknagmiekeaa.T Go.Proofs.Ytjhgknagmiekeaa.V
open Go.Proofs.YtjhgknagmiekeaaW.PrintWords hiding blk_cell
attribute [local go_sem] Oper.semAt_some
theorem skip94 {K : Prop} (h : K) : Fence.wide.fn 94 ∧ K := ⟨trivial, h⟩
theorem ok_pre {OK : List (ByteArray × Int) → Prop} (hcl : ∀ a b, OK (a ++ b) → OK a) {a b : List (ByteArray × Int)} (h : OK b) (hp : a <+: b) : OK a := by
  obtain ⟨t, rfl⟩ := hp
  exact hcl _ _ h
theorem rowForm {w : World} {base n : Nat} {v : Value} {ps : List Value} (h : w.ownsRow base 60 2 v n ps) : ∃ A c, v = .slice A n c ∧ True := by
  rcases h.2 with ⟨rfl, rfl⟩ | ⟨g, cap, cur, rfl, _⟩
  · exact ⟨none, 0, rfl, trivial⟩
  · exact ⟨_, _, rfl, trivial⟩
theorem ownsNode {w : World} {base n : Nat} {A : Option Addr} {c : Nat} {ps : List Value} (h : w.ownsRow base 60 2 (.slice A n c) n ps) (hn : 0 < n) : ∃ g cap cur, (A = some ⟨g, 0, none⟩ ∧ c = cap) ∧ base ≤ g ∧ w.heap[g]? = some (.cells cur 60 (0, 0)) ∧ ∀ j, j < n * 2 → cur[j]? = ps[j]? := by
  rcases h.2 with ⟨_, h0⟩ | ⟨g, cap, cur, e, hb, hg, hnc, hcm, hcs, ht⟩
  · omega
  · injection e with e1 _ e3
    refine ⟨g, cap, cur, ⟨e1, e3⟩, hb, hg, fun j hj => ?_⟩
    have e := List.getElem?_take_of_lt (l := cur.toList) hj
    rw [ht] at e
    rw [← Array.getElem?_toList]
    exact e.symm
theorem ownsRow_kp {w w' : World} {n₁ : Nat} {M : Nat → Prop} {base n : Nat} {v : Value} {ps : List Value} (h : w.ownsRow base 60 2 v n ps) (k : KpM n₁ M w w') : w'.ownsRow base 60 2 v n ps := by
  refine ⟨h.1, ?_⟩
  rcases h.2 with h0 | ⟨g, cap, cur, rfl, hb, hg, rest⟩
  · exact .inl h0
  · exact .inr ⟨g, cap, cur, rfl, hb, k.node g cur _ hg, rest⟩
set_option maxRecDepth 100000 in
set_option maxHeartbeats 8000000 in
theorem deep_in (l n₁ : Nat) (OK : List (ByteArray × Int) → Prop) (hcl : ∀ a b, OK (a ++ b) → OK a) (M : Nat → Prop) (J Jx : List (ByteArray × Int) → World → Prop) (hJ : Abd J)
    (hY : ∀ m pre (x : ByteArray × Int) W, J pre W → OK (pre ++ [x]) → YieldAt Fence.wide m Try.prog l #[.string x.1, .int .i64 x.2] W fun e W' => (e = .returned (.bool true) ∧ J (pre ++ [x]) W' ∧ KpM n₁ M W W') ∨ (e = .returned (.bool false) ∧ Jx (pre ++ [x]) W'))
    (wI wB : World) (hkB : Kept wB wI) (hnB : wB.heap.size ≤ n₁) (hM : ∀ k, k < wB.heap.size → ¬ M k) (sk kp : ByteArray → Bool)
    (hsk : ∀ q W, Stnd wI n₁ M W → Calls Try.prog 76 #[.string q] W fun e W' => e = .returned (.bool (sk q)) ∧ Below W.heap.size W W')
    (hkp : ∀ q W, Stnd wI n₁ M W → Calls Try.prog 77 #[.string q] W fun e W' => e = .returned (.bool (kp q)) ∧ Below W.heap.size W W') (m : Nat) (n : Nd) (p : ByteArray) (pre : List (ByteArray × Int)) (W : World)
    (hn : NdAt wB n) (ho : Ok n) (hv : ∀ l, n.leaf = some l → ∃ v, l.val = .int .i64 v) (hp : ∀ k ∈ n.kids, p.size + k.label.size < 9000000000000000000)
    (hst : Stnd wI n₁ M W) (hnW : n₁ ≤ W.heap.size) (hJ0 : J pre W) (hN : OK (pre ++ ovr sk kp p n)) (hs : sk p = false)
    (IH : ∀ i (hi : i < n.kids.length) pre' W', Stnd wI n₁ M W' → n₁ ≤ W'.heap.size → J pre' W' → OK (pre' ++ ovr sk kp (p ++ n.kids[i].label) n.kids[i]) →
      CallsIn Fence.wide (m - 1) Try.prog 118 #[nodeV n.kids[i].b (p ++ n.kids[i].label), .func (.func 76) #[] #[], .func (.func 77) #[] #[], .func (.yield l) #[] #[]] W' (Post n₁ M J Jx pre' (ovr sk kp (p ++ n.kids[i].label) n.kids[i]) W')) :
    CallsIn Fence.wide m Try.prog 118 #[nodeV n.b p, .func (.func 76) #[] #[], .func (.func 77) #[] #[], .func (.yield l) #[] #[]] W (Post n₁ M J Jx pre (ovr sk kp p n) W) := by
  have hdd : ∀ k : Nat, (Fence.wide.depth.isSome = true → 1 ≤ k) := fun k h => by cases h
  have HB0 := Aside0.mk ((Below.refl W.heap.size W).alloc (Nat.le_refl _) (.cells #[.pointer (some ⟨n.b, 0, none⟩), .string p] 60))
  have hx0 := heap_alloc_new W (.cells #[.pointer (some ⟨n.b, 0, none⟩), .string p] 60)
  have q1 := Aside0.mk (fun W1 => pathC W1 n.b p)
  have qs := Aside0.mk (fun W1 (h : Stnd wI n₁ M W1) => hsk p W1 h)
  rw [hs] at qs
  have qp := Aside0.mk (fun W1 (h : Stnd wI n₁ M W1) => hkp p W1 h)
  have HkB := Aside0.mk (And.intro hkB (And.intro hnB hM))
  have HN := Aside0.mk (And.intro hn (And.intro ho (And.intro hp hv)))
  have HS0 := Aside0.mk hst
  have HnW := Aside0.mk hnW
  have HJa := Aside0.mk hJ
  have HJ0 := Aside0.mk hJ0
  have HY := Aside0.mk hY
  have HNN := Aside0.mk hN
  have HCL := Aside0.mk hcl
  clear hcl
  have HSk := Aside0.mk hs
  have HIH := Aside0.mk IH
  have hfew := ho.few
  obtain ⟨len, elen⟩ : ∃ len, n.kids.length = len := ⟨_, rfl⟩
  have HLen := Aside0.mk elen
  have hl256 : len ≤ 256 := by omega
  have HX0 := Aside0.mk hx0
  have HStd := Aside0.mk (fun W1 (h : Below W.heap.size W W1) => hst.kp (KpM.of h))
  have hbox : ∀ W1, Below (W.alloc (.cells #[.pointer (some ⟨n.b, 0, none⟩), .string p] 60)).heap.size (W.alloc (.cells #[.pointer (some ⟨n.b, 0, none⟩), .string p] 60)) W1 → W1.heap[W.heap.size]? = some (.cells #[.pointer (some ⟨n.b, 0, none⟩), .string p] 60 (0, 0)) := fun W1 h => (Kept.of h).at hx0
  have HBox := Aside0.mk hbox
  clear hkB hnB hM hn ho hp hv hst hnW hJ hJ0 hY hN hs IH hfew elen hx0 hbox hsk hkp
  unfold nodeV ptr at q1 ⊢
  refine callsIn_of_wp Try.func118 rfl trivial ?_ rfl
  simp only [Try.ntmps118, List.size_toArray, List.length_cons, List.length_nil, Nat.reduceAdd, Nat.reduceSub, Array.replicate_succ, Array.replicate_zero, List.push_toArray, List.append_toArray, List.nil_append, List.cons_append]
  gi_wp2_with (refine ⟨trivial, hdd _, ?_⟩; gi_at_call 94; refine (callsIn_wide.2 (q1.out _)).mono ?_)
  rintro e W1 ⟨rfl, B1⟩
  have HA1 := Aside0.mk B1
  have q2 := Aside0.mk (qs.out W1 (HStd.out W1 (belowAt HB0.out B1)))
  clear B1 qs
  gi_wp2_with (refine ⟨trivial, hdd _, ?_⟩; gi_at_call 76; refine (callsIn_wide.2 q2.out).mono ?_)
  rintro e W2 ⟨rfl, B2⟩
  have HA2 := Aside0.mk (belowAt HA1.out B2)
  have hb2 := HBox.out W2 HA2.out
  have b20 : W2.cell? ⟨W.heap.size, 0, none⟩ = some (.pointer (some ⟨n.b, 0, none⟩)) := by rw [blk_cell hb2]; rfl
  have b21 : W2.cell? ⟨W.heap.size, 1, none⟩ = some (.string p) := by rw [blk_cell hb2]; rfl
  have HS2 := Aside0.mk (HStd.out W2 (belowAt HB0.out HA2.out))
  have q3 := Aside0.mk (valueC W2 n p (NdAt.keep (HS2.out.kept HkB.out.1 HkB.out.2.1 HkB.out.2.2) n HN.out.1))
  clear B2 q2 hb2 HA1
  cases hlf : n.leaf with
  | none =>
    rw [hlf] at q3
    have HLf := Aside0.mk hlf
    unfold lookV nodeV ptr at q3
    clear hlf
    gi_wp2_with (refine ⟨trivial, hdd _, ?_⟩; gi_at_call 93; refine (callsIn_wide.2 q3.out).mono ?_)
    rintro e W3 ⟨rfl, B3⟩
    have HA3 := Aside0.mk (belowAt HA2.out B3)
    have hb3 := HBox.out W3 HA3.out
    have b30 : W3.cell? ⟨W.heap.size, 0, none⟩ = some (.pointer (some ⟨n.b, 0, none⟩)) := by rw [blk_cell hb3]; rfl
    have b31 : W3.cell? ⟨W.heap.size, 1, none⟩ = some (.string p) := by rw [blk_cell hb3]; rfl
    clear B3 q3 hb3 b20 b21
    gi_wp2
    repeat (first | (refine ⟨fun _ h => (by cases h), ?_⟩; gi_wp2) | ((with_reducible refine skip94 ?_); gi_wp2))
    have HSt := Aside0.mk (HStd.out W3 (belowAt HB0.out HA3.out))
    have HKp := Aside0.mk (KpM.of (n₁ := n₁) (M := M) (belowAt HB0.out HA3.out))
    have HJc : Aside0 (J (pre ++ ownE kp p n.leaf) W3) := ⟨by rw [HLf.out]; show J (pre ++ []) W3; rw [List.append_nil]; exact abide HJa.out HJ0.out (belowAt HB0.out HA3.out)⟩
    have HK := Aside0.mk (HSt.out.kept HkB.out.1 HkB.out.2.1 HkB.out.2.2)
    have qk := Aside0.mk (kidsO W3 n p (NdAt.keep HK.out n HN.out.1) HN.out.2.1 HN.out.2.2.1)
    unfold nodeV ptr at qk
    gi_wp2_with (refine ⟨trivial, hdd _, ?_⟩; gi_at_call 95; refine (callsIn_wide.2 qk.out).mono ?_)
    rintro e Wd ⟨v, rfl, ho, Bd⟩
    obtain ⟨A, c, ev, hrow⟩ := rowForm ho
    rw [HLen.out] at ho ev
    subst ev
    have HRow := Aside0.mk ho
    have HSd := Aside0.mk (HSt.out.kp (KpM.of Bd))
    have HKd := Aside0.mk (HKp.out.trans (KpM.of Bd))
    have HJd := Aside0.mk (abide HJa.out HJc.out Bd)
    have HWd := Aside0.mk (Nat.le_trans HnW.out (HKp.out.trans (KpM.of Bd)).size)
    clear ho hrow Bd qk HK HSt HKp HJc
    gi_wp2
    gi_loopw [12, 40] (fun v12 v40 wr => ∃ j : Nat, v40 = .int .i64 (j : Int) ∧ Aside0 (j ≤ len) ∧ Aside0 (J (pre ++ (ownE kp p n.leaf ++ ovrs sk kp p (n.kids.take j))) wr) ∧ Aside0 (Stnd wI n₁ M wr) ∧ Aside0 (KpM n₁ M W wr) ∧ Aside0 (wr.ownsRow (W3.heap.size + 1) 60 2 (.slice A len c) len (flatK p n.kids)))
      (fun v12 v40 wr => len - (RowKit.intOf v40).toNat)
    case atStart => exact ⟨0, rfl, ⟨Nat.zero_le _⟩, ⟨by simpa [ovrs] using HJd.out⟩, HSd, HKd, HRow⟩
    case round =>
      obtain ⟨j, rfl, HI, HJr, HSr, HKr, HRr⟩ := hrel
      by_cases hlt : j < len
      · have hj' : j < n.kids.length := by rw [HLen.out]; exact hlt
        obtain ⟨g, cap, cur, eg, hgb, hgg, hgc⟩ := ownsNode HRr.out (by omega)
        obtain ⟨rfl, rfl⟩ := eg
        have hf := flatK_get p n.kids j hj'
        have hn2 : j * 2 + 1 < len * 2 := by omega
        have c0 : wr.cell? ⟨g, j * 2, none⟩ = some (.pointer (some ⟨n.kids[j].b, 0, none⟩)) := by rw [blk_cell hgg, hgc (j * 2) (by omega), hf.1]; rfl
        have c1 : wr.cell? ⟨g, j * 2 + 1, none⟩ = some (.string (p ++ n.kids[j].label)) := by rw [blk_cell hgg, hgc (j * 2 + 1) hn2, hf.2]
        have hB2 := (Below.refl wr.heap.size wr).alloc (Nat.le_refl _) (.cells #[.pointer (some ⟨n.kids[j].b, 0, none⟩), .string (p ++ n.kids[j].label)] 60)
        have HB2 := Aside0.mk hB2
        have epre : ovr sk kp p n = ownE kp p n.leaf ++ ovrs sk kp p n.kids := by rw [ovr_eq, HSk.out]; rfl
        have hpt := ovrs_take sk kp p n.kids j hj'
        have hpp := ovrs_pre sk kp p n.kids (j + 1)
        have hNN : OK ((pre ++ (ownE kp p n.leaf ++ ovrs sk kp p (n.kids.take j))) ++ ovr sk kp (p ++ n.kids[j].label) n.kids[j]) := by
          have h1 := HNN.out
          rw [epre] at h1
          refine ok_pre HCL.out h1 ?_
          rw [List.append_assoc, List.append_assoc]
          refine (List.prefix_append_right_inj _).2 ((List.prefix_append_right_inj _).2 ?_)
          rw [← hpt]
          exact hpp
        have q9 := Aside0.mk (HIH.out j hj' _ _ (HSr.out.kp (KpM.of hB2)) (Nat.le_trans (Nat.le_trans HnW.out HKr.out.size) hB2.size) (abide HJa.out HJr.out hB2) hNN)
        have HPT := Aside0.mk (And.intro epre (And.intro hpt hpp))
        obtain ⟨kb, ekb⟩ : ∃ kb, n.kids[j].b = kb := ⟨_, rfl⟩
        obtain ⟨kp2, ekp⟩ : ∃ kp2, p ++ n.kids[j].label = kp2 := ⟨_, rfl⟩
        have HOv := Aside0.mk (show ovr sk kp (p ++ n.kids[j].label) n.kids[j] = ovr sk kp kp2 n.kids[j] by rw [ekp])
        rw [ekb, ekp] at q9 HB2
        rw [ekb] at c0
        rw [ekp] at c1
        have hltI : (j : Int) < (len : Int) := by omega
        have ew : wrap64 ((j : Int) + 1) = (j : Int) + 1 := by unfold wrap64; omega
        clear hf hn2 hgb hgg hgc hB2 epre hpt hpp hNN ekb ekp
        unfold nodeV ptr at q9
        gi_wp2_with (refine ⟨trivial, hdd _, ?_⟩; gi_at_call 118; refine q9.out.mono ?_)
        rintro e Wz (⟨rfl, hjz, hkz⟩ | ⟨rfl, q, hq, hxz⟩)
        · have HZ := Aside0.mk (And.intro hjz hkz)
          clear hjz hkz q9
          gi_wp2
          go_roundw
          case rel =>
            have hk2 := (KpM.of HB2.out).trans HZ.out.2
            refine ⟨j + 1, by simp, ⟨hlt⟩, ⟨?_⟩, ⟨HSr.out.kp hk2⟩, ⟨HKr.out.trans hk2⟩, ⟨ownsRow_kp HRr.out hk2⟩⟩
            have h1 := HZ.out.1
            rw [List.append_assoc, List.append_assoc, ← HOv.out, ← HPT.out.2.1] at h1
            exact h1
          case measure => simp [RowKit.intOf]; (try rw [ew]); omega
        · have HZ := Aside0.mk (And.intro hq hxz)
          clear hq hxz q9
          gi_wp2
          go_ret
          refine .inr ⟨rfl, ownE kp p n.leaf ++ ovrs sk kp p (n.kids.take j) ++ q, ?_, ?_⟩
          · rw [HPT.out.1, List.append_assoc]
            refine (List.prefix_append_right_inj _).2 (List.IsPrefix.trans ?_ HPT.out.2.2)
            rw [HPT.out.2.1, HOv.out]
            exact (List.prefix_append_right_inj _).2 HZ.out.1
          · rw [← List.append_assoc]; exact HZ.out.2
      · have hjl : j = len := by have := HI.out; omega
        subst hjl
        gi_wp2
        go_ret
        refine .inl ⟨rfl, ?_, HKr.out⟩
        have h1 := HJr.out
        rw [List.take_of_length_le (by rw [HLen.out]; exact Nat.le_refl _)] at h1
        rw [ovr_eq, HSk.out]
        exact h1
  | some lf =>
    obtain ⟨v, hvv⟩ := HN.out.2.2.2 lf hlf
    rw [hlf] at q3
    unfold lookV at q3
    simp only [hvv] at q3
    have HLf := Aside0.mk hlf
    have HVal := Aside0.mk hvv
    unfold nodeV ptr at q3
    clear hlf hvv
    cases hkpp : kp p with
    | false =>
      have HKpp := Aside0.mk hkpp
      clear hkpp
      gi_wp2_with (refine ⟨trivial, hdd _, ?_⟩; gi_at_call 93; refine (callsIn_wide.2 q3.out).mono ?_)
      rintro e W3 ⟨rfl, B3⟩
      have HA3 := Aside0.mk (belowAt HA2.out B3)
      have hb3 := HBox.out W3 HA3.out
      have b30 : W3.cell? ⟨W.heap.size, 0, none⟩ = some (.pointer (some ⟨n.b, 0, none⟩)) := by rw [blk_cell hb3]; rfl
      have b31 : W3.cell? ⟨W.heap.size, 1, none⟩ = some (.string p) := by rw [blk_cell hb3]; rfl
      clear B3 q3 hb3 b20 b21
      gi_wp2_with (refine ⟨trivial, hdd _, ?_⟩; gi_at_call 94; refine (callsIn_wide.2 (q1.out _)).mono ?_)
      rintro e W4 ⟨rfl, B4⟩
      have HA4 := Aside0.mk (belowAt HA3.out B4)
      have q4 := Aside0.mk (qp.out W4 (HStd.out W4 (belowAt HB0.out HA4.out)))
      rw [HKpp.out] at q4
      clear B4
      gi_wp2_with (refine ⟨trivial, hdd _, ?_⟩; gi_at_call 77; refine (callsIn_wide.2 q4.out).mono ?_)
      rintro e W5 ⟨rfl, B5⟩
      have HA5 := Aside0.mk (belowAt HA4.out B5)
      have hb5 := HBox.out W5 HA5.out
      have b50 : W5.cell? ⟨W.heap.size, 0, none⟩ = some (.pointer (some ⟨n.b, 0, none⟩)) := by rw [blk_cell hb5]; rfl
      have b51 : W5.cell? ⟨W.heap.size, 1, none⟩ = some (.string p) := by rw [blk_cell hb5]; rfl
      clear B5 q4 hb5 b30 b31
      gi_wp2
      repeat (first | (refine ⟨fun _ h => (by cases h), ?_⟩; gi_wp2) | ((with_reducible refine skip94 ?_); gi_wp2))
      have HSt := Aside0.mk (HStd.out W5 (belowAt HB0.out HA5.out))
      have HKp := Aside0.mk (KpM.of (n₁ := n₁) (M := M) (belowAt HB0.out HA5.out))
      have HJc : Aside0 (J (pre ++ ownE kp p n.leaf) W5) := ⟨by rw [HLf.out]; show J (pre ++ (if kp p = true then [(p, valI lf.val)] else [])) W5; rw [HKpp.out]; show J (pre ++ []) W5; rw [List.append_nil]; exact abide HJa.out HJ0.out (belowAt HB0.out HA5.out)⟩
      have HK := Aside0.mk (HSt.out.kept HkB.out.1 HkB.out.2.1 HkB.out.2.2)
      have qk := Aside0.mk (kidsO W5 n p (NdAt.keep HK.out n HN.out.1) HN.out.2.1 HN.out.2.2.1)
      unfold nodeV ptr at qk
      gi_wp2_with (refine ⟨trivial, hdd _, ?_⟩; gi_at_call 95; refine (callsIn_wide.2 qk.out).mono ?_)
      rintro e Wd ⟨v, rfl, ho, Bd⟩
      obtain ⟨A, c, ev, hrow⟩ := rowForm ho
      rw [HLen.out] at ho ev
      subst ev
      have HRow := Aside0.mk ho
      have HSd := Aside0.mk (HSt.out.kp (KpM.of Bd))
      have HKd := Aside0.mk (HKp.out.trans (KpM.of Bd))
      have HJd := Aside0.mk (abide HJa.out HJc.out Bd)
      have HWd := Aside0.mk (Nat.le_trans HnW.out (HKp.out.trans (KpM.of Bd)).size)
      clear ho hrow Bd qk HK HSt HKp HJc
      gi_wp2
      gi_loopw [12, 40] (fun v12 v40 wr => ∃ j : Nat, v40 = .int .i64 (j : Int) ∧ Aside0 (j ≤ len) ∧ Aside0 (J (pre ++ (ownE kp p n.leaf ++ ovrs sk kp p (n.kids.take j))) wr) ∧ Aside0 (Stnd wI n₁ M wr) ∧ Aside0 (KpM n₁ M W wr) ∧ Aside0 (wr.ownsRow (W5.heap.size + 1) 60 2 (.slice A len c) len (flatK p n.kids)))
        (fun v12 v40 wr => len - (RowKit.intOf v40).toNat)
      case atStart => exact ⟨0, rfl, ⟨Nat.zero_le _⟩, ⟨by simpa [ovrs] using HJd.out⟩, HSd, HKd, HRow⟩
      case round =>
        obtain ⟨j, rfl, HI, HJr, HSr, HKr, HRr⟩ := hrel
        by_cases hlt : j < len
        · have hj' : j < n.kids.length := by rw [HLen.out]; exact hlt
          obtain ⟨g, cap, cur, eg, hgb, hgg, hgc⟩ := ownsNode HRr.out (by omega)
          obtain ⟨rfl, rfl⟩ := eg
          have hf := flatK_get p n.kids j hj'
          have hn2 : j * 2 + 1 < len * 2 := by omega
          have c0 : wr.cell? ⟨g, j * 2, none⟩ = some (.pointer (some ⟨n.kids[j].b, 0, none⟩)) := by rw [blk_cell hgg, hgc (j * 2) (by omega), hf.1]; rfl
          have c1 : wr.cell? ⟨g, j * 2 + 1, none⟩ = some (.string (p ++ n.kids[j].label)) := by rw [blk_cell hgg, hgc (j * 2 + 1) hn2, hf.2]
          have hB2 := (Below.refl wr.heap.size wr).alloc (Nat.le_refl _) (.cells #[.pointer (some ⟨n.kids[j].b, 0, none⟩), .string (p ++ n.kids[j].label)] 60)
          have HB2 := Aside0.mk hB2
          have epre : ovr sk kp p n = ownE kp p n.leaf ++ ovrs sk kp p n.kids := by rw [ovr_eq, HSk.out]; rfl
          have hpt := ovrs_take sk kp p n.kids j hj'
          have hpp := ovrs_pre sk kp p n.kids (j + 1)
          have hNN : OK ((pre ++ (ownE kp p n.leaf ++ ovrs sk kp p (n.kids.take j))) ++ ovr sk kp (p ++ n.kids[j].label) n.kids[j]) := by
            have h1 := HNN.out
            rw [epre] at h1
            refine ok_pre HCL.out h1 ?_
            rw [List.append_assoc, List.append_assoc]
            refine (List.prefix_append_right_inj _).2 ((List.prefix_append_right_inj _).2 ?_)
            rw [← hpt]
            exact hpp
          have q9 := Aside0.mk (HIH.out j hj' _ _ (HSr.out.kp (KpM.of hB2)) (Nat.le_trans (Nat.le_trans HnW.out HKr.out.size) hB2.size) (abide HJa.out HJr.out hB2) hNN)
          have HPT := Aside0.mk (And.intro epre (And.intro hpt hpp))
          obtain ⟨kb, ekb⟩ : ∃ kb, n.kids[j].b = kb := ⟨_, rfl⟩
          obtain ⟨kp2, ekp⟩ : ∃ kp2, p ++ n.kids[j].label = kp2 := ⟨_, rfl⟩
          have HOv := Aside0.mk (show ovr sk kp (p ++ n.kids[j].label) n.kids[j] = ovr sk kp kp2 n.kids[j] by rw [ekp])
          rw [ekb, ekp] at q9 HB2
          rw [ekb] at c0
          rw [ekp] at c1
          have hltI : (j : Int) < (len : Int) := by omega
          have ew : wrap64 ((j : Int) + 1) = (j : Int) + 1 := by unfold wrap64; omega
          clear hf hn2 hgb hgg hgc hB2 epre hpt hpp hNN ekb ekp
          unfold nodeV ptr at q9
          gi_wp2_with (refine ⟨trivial, hdd _, ?_⟩; gi_at_call 118; refine q9.out.mono ?_)
          rintro e Wz (⟨rfl, hjz, hkz⟩ | ⟨rfl, q, hq, hxz⟩)
          · have HZ := Aside0.mk (And.intro hjz hkz)
            clear hjz hkz q9
            gi_wp2
            go_roundw
            case rel =>
              have hk2 := (KpM.of HB2.out).trans HZ.out.2
              refine ⟨j + 1, by simp, ⟨hlt⟩, ⟨?_⟩, ⟨HSr.out.kp hk2⟩, ⟨HKr.out.trans hk2⟩, ⟨ownsRow_kp HRr.out hk2⟩⟩
              have h1 := HZ.out.1
              rw [List.append_assoc, List.append_assoc, ← HOv.out, ← HPT.out.2.1] at h1
              exact h1
            case measure => simp [RowKit.intOf]; (try rw [ew]); omega
          · have HZ := Aside0.mk (And.intro hq hxz)
            clear hq hxz q9
            gi_wp2
            go_ret
            refine .inr ⟨rfl, ownE kp p n.leaf ++ ovrs sk kp p (n.kids.take j) ++ q, ?_, ?_⟩
            · rw [HPT.out.1, List.append_assoc]
              refine (List.prefix_append_right_inj _).2 (List.IsPrefix.trans ?_ HPT.out.2.2)
              rw [HPT.out.2.1, HOv.out]
              exact (List.prefix_append_right_inj _).2 HZ.out.1
            · rw [← List.append_assoc]; exact HZ.out.2
        · have hjl : j = len := by have := HI.out; omega
          subst hjl
          gi_wp2
          go_ret
          refine .inl ⟨rfl, ?_, HKr.out⟩
          have h1 := HJr.out
          rw [List.take_of_length_le (by rw [HLen.out]; exact Nat.le_refl _)] at h1
          rw [ovr_eq, HSk.out]
          exact h1
    | true =>
      have HKpp := Aside0.mk hkpp
      have eown : ownE kp p n.leaf = [(p, v)] := by rw [HLf.out]; show (if kp p = true then [(p, valI lf.val)] else []) = _; rw [hkpp, HVal.out]; rfl
      have HOwn := Aside0.mk eown
      have hlen1 : OK (pre ++ [(p, v)]) := by
        have h1 := HNN.out
        rw [ovr_eq, HSk.out, eown] at h1
        simp only [Bool.false_eq_true, if_false] at h1
        exact ok_pre HCL.out h1 ((List.prefix_append_right_inj _).2 (List.prefix_append _ _))
      have HL1 := Aside0.mk hlen1
      clear hkpp eown hlen1
      gi_wp2_with (refine ⟨trivial, hdd _, ?_⟩; gi_at_call 93; refine (callsIn_wide.2 q3.out).mono ?_)
      rintro e W3 ⟨rfl, B3⟩
      have HA3 := Aside0.mk (belowAt HA2.out B3)
      have hb3 := HBox.out W3 HA3.out
      have b30 : W3.cell? ⟨W.heap.size, 0, none⟩ = some (.pointer (some ⟨n.b, 0, none⟩)) := by rw [blk_cell hb3]; rfl
      have b31 : W3.cell? ⟨W.heap.size, 1, none⟩ = some (.string p) := by rw [blk_cell hb3]; rfl
      clear B3 q3 hb3 b20 b21
      gi_wp2_with (refine ⟨trivial, hdd _, ?_⟩; gi_at_call 94; refine (callsIn_wide.2 (q1.out _)).mono ?_)
      rintro e W4 ⟨rfl, B4⟩
      have HA4 := Aside0.mk (belowAt HA3.out B4)
      have q4 := Aside0.mk (qp.out W4 (HStd.out W4 (belowAt HB0.out HA4.out)))
      rw [HKpp.out] at q4
      clear B4
      gi_wp2_with (refine ⟨trivial, hdd _, ?_⟩; gi_at_call 77; refine (callsIn_wide.2 q4.out).mono ?_)
      rintro e W5 ⟨rfl, B5⟩
      have HA5 := Aside0.mk (belowAt HA4.out B5)
      have hb5 := HBox.out W5 HA5.out
      have b50 : W5.cell? ⟨W.heap.size, 0, none⟩ = some (.pointer (some ⟨n.b, 0, none⟩)) := by rw [blk_cell hb5]; rfl
      have b51 : W5.cell? ⟨W.heap.size, 1, none⟩ = some (.string p) := by rw [blk_cell hb5]; rfl
      clear B5 q4 hb5 b30 b31
      gi_wp2_with (refine ⟨trivial, hdd _, ?_⟩; gi_at_call 94; refine (callsIn_wide.2 (q1.out _)).mono ?_)
      rintro e W6 ⟨rfl, B6⟩
      have HA6 := Aside0.mk (belowAt HA5.out B6)
      have hb6 := HBox.out W6 HA6.out
      have hy0 := HY.out (m - 1) pre (p, v) W6 (abide HJa.out HJ0.out (belowAt HB0.out HA6.out)) HL1.out
      obtain ⟨fn, tmps, assign, body, hy, hR⟩ := hy0
      dsimp only at hy
      have HR := Aside0.mk hR
      have HB6 := Aside0.mk hb6
      clear B6 hb6 hR b50 b51 q1
      gi_wp2
      refine ⟨hdd _, ?_⟩
      refine HR.out.mono ?_
      rintro e W7 (⟨rfl, hJ7, hk7⟩ | ⟨rfl, hx7⟩)
      · have hb7 := hk7.node _ _ _ HB6.out
        have b70 : W7.cell? ⟨W.heap.size, 0, none⟩ = some (.pointer (some ⟨n.b, 0, none⟩)) := by rw [blk_cell hb7]; rfl
        have b71 : W7.cell? ⟨W.heap.size, 1, none⟩ = some (.string p) := by rw [blk_cell hb7]; rfl
        have HSt := Aside0.mk ((HStd.out W6 (belowAt HB0.out HA6.out)).kp hk7)
        have HKp := Aside0.mk ((KpM.of (n₁ := n₁) (M := M) (belowAt HB0.out HA6.out)).trans hk7)
        have HJc : Aside0 (J (pre ++ ownE kp p n.leaf) W7) := ⟨by rw [HOwn.out]; exact hJ7⟩
        clear hJ7 hk7 hb7 HR hy
        gi_wp2
        have HK := Aside0.mk (HSt.out.kept HkB.out.1 HkB.out.2.1 HkB.out.2.2)
        have qk := Aside0.mk (kidsO W7 n p (NdAt.keep HK.out n HN.out.1) HN.out.2.1 HN.out.2.2.1)
        unfold nodeV ptr at qk
        gi_wp2_with (refine ⟨trivial, hdd _, ?_⟩; gi_at_call 95; refine (callsIn_wide.2 qk.out).mono ?_)
        rintro e Wd ⟨v, rfl, ho, Bd⟩
        obtain ⟨A, c, ev, hrow⟩ := rowForm ho
        rw [HLen.out] at ho ev
        subst ev
        have HRow := Aside0.mk ho
        have HSd := Aside0.mk (HSt.out.kp (KpM.of Bd))
        have HKd := Aside0.mk (HKp.out.trans (KpM.of Bd))
        have HJd := Aside0.mk (abide HJa.out HJc.out Bd)
        have HWd := Aside0.mk (Nat.le_trans HnW.out (HKp.out.trans (KpM.of Bd)).size)
        clear ho hrow Bd qk HK HSt HKp HJc
        gi_wp2
        gi_loopw [12, 40] (fun v12 v40 wr => ∃ j : Nat, v40 = .int .i64 (j : Int) ∧ Aside0 (j ≤ len) ∧ Aside0 (J (pre ++ (ownE kp p n.leaf ++ ovrs sk kp p (n.kids.take j))) wr) ∧ Aside0 (Stnd wI n₁ M wr) ∧ Aside0 (KpM n₁ M W wr) ∧ Aside0 (wr.ownsRow (W7.heap.size + 1) 60 2 (.slice A len c) len (flatK p n.kids)))
          (fun v12 v40 wr => len - (RowKit.intOf v40).toNat)
        case atStart => exact ⟨0, rfl, ⟨Nat.zero_le _⟩, ⟨by simpa [ovrs] using HJd.out⟩, HSd, HKd, HRow⟩
        case round =>
          obtain ⟨j, rfl, HI, HJr, HSr, HKr, HRr⟩ := hrel
          by_cases hlt : j < len
          · have hj' : j < n.kids.length := by rw [HLen.out]; exact hlt
            obtain ⟨g, cap, cur, eg, hgb, hgg, hgc⟩ := ownsNode HRr.out (by omega)
            obtain ⟨rfl, rfl⟩ := eg
            have hf := flatK_get p n.kids j hj'
            have hn2 : j * 2 + 1 < len * 2 := by omega
            have c0 : wr.cell? ⟨g, j * 2, none⟩ = some (.pointer (some ⟨n.kids[j].b, 0, none⟩)) := by rw [blk_cell hgg, hgc (j * 2) (by omega), hf.1]; rfl
            have c1 : wr.cell? ⟨g, j * 2 + 1, none⟩ = some (.string (p ++ n.kids[j].label)) := by rw [blk_cell hgg, hgc (j * 2 + 1) hn2, hf.2]
            have hB2 := (Below.refl wr.heap.size wr).alloc (Nat.le_refl _) (.cells #[.pointer (some ⟨n.kids[j].b, 0, none⟩), .string (p ++ n.kids[j].label)] 60)
            have HB2 := Aside0.mk hB2
            have epre : ovr sk kp p n = ownE kp p n.leaf ++ ovrs sk kp p n.kids := by rw [ovr_eq, HSk.out]; rfl
            have hpt := ovrs_take sk kp p n.kids j hj'
            have hpp := ovrs_pre sk kp p n.kids (j + 1)
            have hNN : OK ((pre ++ (ownE kp p n.leaf ++ ovrs sk kp p (n.kids.take j))) ++ ovr sk kp (p ++ n.kids[j].label) n.kids[j]) := by
              have h1 := HNN.out
              rw [epre] at h1
              refine ok_pre HCL.out h1 ?_
              rw [List.append_assoc, List.append_assoc]
              refine (List.prefix_append_right_inj _).2 ((List.prefix_append_right_inj _).2 ?_)
              rw [← hpt]
              exact hpp
            have q9 := Aside0.mk (HIH.out j hj' _ _ (HSr.out.kp (KpM.of hB2)) (Nat.le_trans (Nat.le_trans HnW.out HKr.out.size) hB2.size) (abide HJa.out HJr.out hB2) hNN)
            have HPT := Aside0.mk (And.intro epre (And.intro hpt hpp))
            obtain ⟨kb, ekb⟩ : ∃ kb, n.kids[j].b = kb := ⟨_, rfl⟩
            obtain ⟨kp2, ekp⟩ : ∃ kp2, p ++ n.kids[j].label = kp2 := ⟨_, rfl⟩
            have HOv := Aside0.mk (show ovr sk kp (p ++ n.kids[j].label) n.kids[j] = ovr sk kp kp2 n.kids[j] by rw [ekp])
            rw [ekb, ekp] at q9 HB2
            rw [ekb] at c0
            rw [ekp] at c1
            have hltI : (j : Int) < (len : Int) := by omega
            have ew : wrap64 ((j : Int) + 1) = (j : Int) + 1 := by unfold wrap64; omega
            clear hf hn2 hgb hgg hgc hB2 epre hpt hpp hNN ekb ekp
            unfold nodeV ptr at q9
            gi_wp2_with (refine ⟨trivial, hdd _, ?_⟩; gi_at_call 118; refine q9.out.mono ?_)
            rintro e Wz (⟨rfl, hjz, hkz⟩ | ⟨rfl, q, hq, hxz⟩)
            · have HZ := Aside0.mk (And.intro hjz hkz)
              clear hjz hkz q9
              gi_wp2
              go_roundw
              case rel =>
                have hk2 := (KpM.of HB2.out).trans HZ.out.2
                refine ⟨j + 1, by simp, ⟨hlt⟩, ⟨?_⟩, ⟨HSr.out.kp hk2⟩, ⟨HKr.out.trans hk2⟩, ⟨ownsRow_kp HRr.out hk2⟩⟩
                have h1 := HZ.out.1
                rw [List.append_assoc, List.append_assoc, ← HOv.out, ← HPT.out.2.1] at h1
                exact h1
              case measure => simp [RowKit.intOf]; (try rw [ew]); omega
            · have HZ := Aside0.mk (And.intro hq hxz)
              clear hq hxz q9
              gi_wp2
              go_ret
              refine .inr ⟨rfl, ownE kp p n.leaf ++ ovrs sk kp p (n.kids.take j) ++ q, ?_, ?_⟩
              · rw [HPT.out.1, List.append_assoc]
                refine (List.prefix_append_right_inj _).2 (List.IsPrefix.trans ?_ HPT.out.2.2)
                rw [HPT.out.2.1, HOv.out]
                exact (List.prefix_append_right_inj _).2 HZ.out.1
              · rw [← List.append_assoc]; exact HZ.out.2
          · have hjl : j = len := by have := HI.out; omega
            subst hjl
            gi_wp2
            go_ret
            refine .inl ⟨rfl, ?_, HKr.out⟩
            have h1 := HJr.out
            rw [List.take_of_length_le (by rw [HLen.out]; exact Nat.le_refl _)] at h1
            rw [ovr_eq, HSk.out]
            exact h1
      · have HX := Aside0.mk hx7
        clear hx7 HR hy
        gi_wp2
        go_ret
        refine .inr ⟨rfl, [(p, v)], ?_, HX.out⟩
        rw [ovr_eq, HSk.out, HOwn.out]
        exact List.prefix_append _ _
end Go.Proofs.Ytjhgknagmiekeaa.VOA
set_option linter.unusedVariables false
set_option linter.unusedSimpArgs false
namespace Go.Proofs.Ytjhgknagmiekeaa.VOA
open Go.RowKit Go.Lib Go.Proofs Go.Proofs.Ytjhgknagmiekeaa.T Go.Proofs.Ytjhgknagmiekeaa.V
open Go.Proofs.YtjhgknagmiekeaaW.PrintWords hiding blk_cell
theorem over_in (l n₁ : Nat) (OK : List (ByteArray × Int) → Prop) (hcl : ∀ a b, OK (a ++ b) → OK a) (M : Nat → Prop) (J Jx : List (ByteArray × Int) → World → Prop) (hJ : Abd J)
    (hY : ∀ m pre (x : ByteArray × Int) W, J pre W → OK (pre ++ [x]) → YieldAt Fence.wide m Try.prog l #[.string x.1, .int .i64 x.2] W fun e W' => (e = .returned (.bool true) ∧ J (pre ++ [x]) W' ∧ KpM n₁ M W W') ∨ (e = .returned (.bool false) ∧ Jx (pre ++ [x]) W'))
    (wI wB : World) (hkB : Kept wB wI) (hnB : wB.heap.size ≤ n₁) (hM : ∀ k, k < wB.heap.size → ¬ M k) (sk kp : ByteArray → Bool)
    (hsk : ∀ q W, Stnd wI n₁ M W → Calls Try.prog 76 #[.string q] W fun e W' => e = .returned (.bool (sk q)) ∧ Below W.heap.size W W')
    (hkp : ∀ q W, Stnd wI n₁ M W → Calls Try.prog 77 #[.string q] W fun e W' => e = .returned (.bool (kp q)) ∧ Below W.heap.size W W') :
    ∀ (N : Nat) (n : Nd) (m : Nat) (p : ByteArray) (B : Nat) (pre : List (ByteArray × Int)) (W : World), nsz n ≤ N → NdAt wB n → Ok n → IntVals n → Fits n B → p.size + (B - n.label.size) < 9000000000000000000 →
      Stnd wI n₁ M W → n₁ ≤ W.heap.size → J pre W → OK (pre ++ ovr sk kp p n) →
      CallsIn Fence.wide m Try.prog 118 #[nodeV n.b p, .func (.func 76) #[] #[], .func (.func 77) #[] #[], .func (.yield l) #[] #[]] W (Post n₁ M J Jx pre (ovr sk kp p n) W) := by
  intro N
  induction N with
  | zero =>
    intro n m p B pre W hN
    cases n with
    | mk _ _ _ ks _ => exfalso; unfold nsz at hN; omega
  | succ N ih =>
    intro n m p B pre W hN hn ho hv hf hB hst hnW hJ0 hNN
    have hfa : ∀ k ∈ n.kids, k.label.size ≤ B - n.label.size ∧ Fits k (B - n.label.size) := fun k hk => by
      have h1 := hf.parts.2.mem k hk
      exact ⟨h1.parts.1, h1⟩
    cases hs : sk p with
    | true => exact skip_in l n₁ M J Jx hJ wI sk kp hsk m n p pre W hst hJ0 hs
    | false =>
      refine deep_in l n₁ OK hcl M J Jx hJ hY wI wB hkB hnB hM sk kp hsk hkp m n p pre W hn ho (fun l hl => ?_) (fun k hk => by have := (hfa k hk).1; omega) hst hnW hJ0 hNN hs (fun i hi pre' W' h1 h2 h3 h4 => ?_)
      · exact hv [] l (by rw [findT_nil]; exact hl)
      · have hka : n.kids[i] ∈ n.kids := List.getElem_mem _
        have hsz := nsz_kid hka
        have hfk := hfa _ hka
        refine ih n.kids[i] (m - 1) _ (B - n.label.size) pre' W' (by omega) (hn.parts.choose_spec.2.2.2.mem _ hka) (ho.parts.2.2.get _ hka) (fun r l e => hv (L n.kids[i].label ++ r) l (by rw [findT_kid ho hka]; exact e)) hfk.2 ?_ h1 h2 h3 h4
        rw [ByteArray.size_append]
        have := hfk.1
        omega
theorem below_drewA {B : Nat} {w w' : World} (h : Below B w w') : Below B w w'.drew := ⟨h.os, h.tape, h.output, h.size, h.block⟩
def Closed (w : World) (bt bs bk tb : Nat) : Prop := w.heap[bt]? = some (.cells #[ptr tb] 24 (0, 0)) ∧ w.heap[bs]? = some (.cells #[.func (.func 76) #[] #[]] 110 (0, 0)) ∧ w.heap[bk]? = some (.cells #[.func (.func 77) #[] #[]] 110 (0, 0))
set_option maxHeartbeats 4000000 in
set_option maxRecDepth 100000 in
theorem walked_calls (l n₁ : Nat) (OK : List (ByteArray × Int) → Prop) (hcl : ∀ a b, OK (a ++ b) → OK a) (M : Nat → Prop) (J Jx : List (ByteArray × Int) → World → Prop) (hJ : Abd J)
    (hY : ∀ m pre (x : ByteArray × Int) W, J pre W → OK (pre ++ [x]) → YieldAt Fence.wide m Try.prog l #[.string x.1, .int .i64 x.2] W fun e W' => (e = .returned (.bool true) ∧ J (pre ++ [x]) W' ∧ KpM n₁ M W W') ∨ (e = .returned (.bool false) ∧ Jx (pre ++ [x]) W'))
    (wI wB : World) (hkB : Kept wB wI) (hnB : wB.heap.size ≤ n₁) (hM : ∀ k, k < wB.heap.size → ¬ M k) (sk kp : ByteArray → Bool)
    (hsk : ∀ q W, Stnd wI n₁ M W → Calls Try.prog 76 #[.string q] W fun e W' => e = .returned (.bool (sk q)) ∧ Below W.heap.size W W')
    (hkp : ∀ q W, Stnd wI n₁ M W → Calls Try.prog 77 #[.string q] W fun e W' => e = .returned (.bool (kp q)) ∧ Below W.heap.size W W')
    (tb : Nat) (root : Nd) (ht : Tr wB tb root) (bt bs bk : Nat) (W : World) (hc : Closed W bt bs bk tb) (hst : Stnd wI n₁ M W) (hnW : n₁ ≤ W.heap.size) (hJ0 : J [] W) (hNN : OK (ovr sk kp ⟨#[]⟩ root)) :
    Calls Try.prog 117 #[.func (.yield l) #[] #[], ptr bt, ptr bs, ptr bk] W fun e W' => (∃ v, e = .returned v) ∧ ((∃ ys, ys = ovr sk kp ⟨#[]⟩ root ∧ J ys W') ∨ (∃ pre, pre <+: ovr sk kp ⟨#[]⟩ root ∧ Jx pre W')) := by
  obtain ⟨h1, h2, h3⟩ := hc
  have c1 : W.cell? ⟨bt, 0, none⟩ = some (.pointer (some ⟨tb, 0, none⟩)) := by rw [blk_cell h1]; rfl
  have c2 : W.cell? ⟨bs, 0, none⟩ = some (.func (.func 76) #[] #[]) := by rw [blk_cell h2]; rfl
  have c3 : W.cell? ⟨bk, 0, none⟩ = some (.func (.func 77) #[] #[]) := by rw [blk_cell h3]; rfl
  have hkW : Kept wB W := hst.kept hkB hnB hM
  have q1 := Aside0.mk (fun W1 (h : Below W.heap.size W W1) => rootC W1 tb root _ ((ht.at_.keep hkW).keep (Kept.of h)))
  have q2 : Aside0 (∀ W1, Below W.heap.size W W1 → Calls Try.prog 118 #[nodeV root.b ⟨#[]⟩, .func (.func 76) #[] #[], .func (.func 77) #[] #[], .func (.yield l) #[] #[]] W1 fun e W' => ∃ b, e = .returned (.bool b) ∧ Aside0 ((∃ ys, ys = ovr sk kp ⟨#[]⟩ root ∧ J ys W') ∨ (∃ pre, pre <+: ovr sk kp ⟨#[]⟩ root ∧ Jx pre W'))) := ⟨fun W1 h => by
    have q := callsIn_wide.1 (over_in l n₁ OK hcl M J Jx hJ hY wI wB hkB hnB hM sk kp hsk hkp (nsz root) root 3 ⟨#[]⟩ 3999999999999 [] W1 (Nat.le_refl _) ht.at_.root ht.fine.ok ht.vals ht.fine.fits (by show 0 + _ < _; omega) (hst.kp (KpM.of h)) (Nat.le_trans hnW h.size) (abide hJ hJ0 h) (by simpa using hNN))
    refine q.mono ?_
    rintro e W' (⟨rfl, h1, h2⟩ | ⟨rfl, q, h1, h2⟩)
    · exact ⟨true, rfl, ⟨.inl ⟨_, rfl, by simpa using h1⟩⟩⟩
    · exact ⟨false, rfl, ⟨.inr ⟨q, h1, by simpa using h2⟩⟩⟩⟩
  have HB0 := Aside0.mk (below_drewA (Below.refl W.heap.size W))
  clear hkW hsk hkp ht h1 h2 h3 hst hnW hJ0 hNN hJ hY hkB hnB hM
  unfold nodeV ptr at q1 q2
  unfold ptr
  go_enter Try.func117, Try.ntmps117
  have HBn := HB0
  go_region_with (first
    | (go_at_call 42; refine (q1.out _ HBn.out).mono ?_; rintro e W1 ⟨rfl, B1⟩; have d2 := (Kept.of B1).cell c2; have d3 := (Kept.of B1).cell c3; have n0_ := Aside0.mk (belowAt HBn.out B1); clear HBn; have HBn := n0_; clear n0_ B1)
    | (go_at_call 118; refine (q2.out _ HBn.out).mono ?_; rintro e W2 ⟨b, rfl, HF⟩))
  all_goals
    refine bodyPost_end (results_none rfl _ _ _) rfl ?_
    exact ⟨⟨_, rfl⟩, HF.out⟩
end Go.Proofs.Ytjhgknagmiekeaa.VOA
set_option linter.unusedVariables false
set_option linter.unusedSimpArgs false
namespace Go.Proofs.Ytjhgknagmiekeaa.VA
open Go.RowKit Go.Lib Go.Proofs Go.Proofs.Ytjhgknagmiekeaa.T Go.Proofs.Ytjhgknagmiekeaa.V Go.Proofs.Ytjhgknagmiekeaa.VOA
open Go.Proofs.YtjhgknagmiekeaaW.PrintWords hiding blk_cell
theorem seq (w : World) (n NN n₁ : Nat) (M : Nat → Prop) (wB : World) (hkB : Kept wB w) (hnB : wB.heap.size ≤ n₁) (hnw : n₁ ≤ w.heap.size) (hM : ∀ k, k < wB.heap.size → ¬ M k)
  (tb : Nat) (root : Nd) (ht : Tr wB tb root) (bt bs bk : Nat) (hc : Closed w bt bs bk tb) (hNN : (ovr (fun _ => false) (fun _ => true) ⟨#[]⟩ root).length ≤ NN) :
  SeqStopsK Fence.wide n Try.prog 117 #[ptr bt, ptr bs, ptr bk] (fun x : ByteArray × Int => #[.string x.1, .int .i64 x.2]) (KpM n₁ M) (fun ys => ys = ovr (fun _ => false) (fun _ => true) ⟨#[]⟩ root) (fun ys => ys <+: ovr (fun _ => false) (fun _ => true) ⟨#[]⟩ root) NN w := by
 intro l J Jx W hw hJ hJx hY hJ0
 have hk : Kept w W := Kept.of hw
 have hc2 : Closed W bt bs bk tb := ⟨hk.at hc.1, hk.at hc.2.1, hk.at hc.2.2⟩
 refine callsIn_wide.2 (walked_calls l n₁ (fun ys => ys.length ≤ NN) (fun a b h => by rw [List.length_append] at h; omega) M J Jx (abd_of hJ) (fun m pre x W1 h1 h2 => yieldDepth m (hY pre x W1 h1 (by rw [List.length_append, List.length_singleton] at h2; omega))) W wB (hkB.trans hk (Nat.le_trans hnB hnw)) hnB hM (fun _ => false) (fun _ => true)
  (fun q W1 h1 => neverC q W1) (fun q W1 h1 => alwaysC q W1) tb root ht bt bs bk W hc2 (Stnd.refl W n₁ M) (Nat.le_trans hnw hw.size) hJ0 hNN)
end Go.Proofs.Ytjhgknagmiekeaa.VA
set_option linter.unusedVariables false
set_option linter.unusedSimpArgs false
namespace Go.Proofs.Ytjhgknagmiekeaa.N
open Go.RowKit Go.Proofs.Ytjhgknagmiekeaa.K Go.Proofs.YtjhgknagmiekeaaW.PrintWords Go.Proofs.YtjhgknagmiekeaaW.PrintLast
open Go.Proofs.Ytjhgknagmiekeaa.T (Nd Lf Ent ents entss All valT findT IntVals Ok Oks mem_all all_rise Fine Tr)
open Go.Proofs.Ytjhgknagmiekeaa.V (valI ovr ovrs ownE ovr_eq pre skU kpU skF kpF skL)
theorem ovr_of {root : Nd} {xs : List (ByteArray × Int)} (hg : T.Good root) (h : (All root).map ey = xs.map ex) (sk kp : List UInt8 → Bool) (hsk : ∀ q r, sk q = true → kp (q ++ r) = false) :
    ovr (fun q => sk (T.L q)) (fun q => kp (T.L q)) ⟨#[]⟩ root = xs.filter (fun x => kp (T.L x.1)) := by
  have e := ovr_all sk kp hsk root ⟨#[]⟩ [] (by
    have := hg.top
    have : T.L root.label = [] := List.eq_nil_of_length_eq_zero (by rw [T.L_len, this])
    rw [this]; rfl)
  rw [show ents [] root = All root from rfl, h, List.filter_map] at e
  refine (List.map_inj_right (fun x y => ex_inj)).1 (e.trans ?_)
  rfl
theorem pre_iff (a b : List UInt8) : pre a b = true ↔ b <+: a := by unfold pre; exact List.isPrefixOf_iff_prefix
theorem pre_false (a b : List UInt8) : pre a b = false ↔ ¬ b <+: a := by rw [← Bool.not_eq_true, pre_iff]
theorem hskA : ∀ q r : List UInt8, (fun _ => false : List UInt8 → Bool) q = true → (fun _ => true : List UInt8 → Bool) (q ++ r) = false := fun q r h => by cases h
theorem hskU (p : List UInt8) : ∀ q r, skU p q = true → kpU p (q ++ r) = false := fun q r h => by
  unfold skU at h
  unfold kpU
  rw [Bool.and_eq_true, Bool.not_eq_true', Bool.not_eq_true', pre_false, pre_false] at h
  rw [pre_false]
  intro h2
  rcases List.prefix_or_prefix_of_prefix h2 (List.prefix_append q r) with h3 | h3
  · exact h.1 h3
  · exact h.2 h3
def plc (xs : List ByteArray) (p : ByteArray → Bool) : List Nat := (List.range xs.length).filter (fun i => p (gd xs i))
end Go.Proofs.Ytjhgknagmiekeaa.N
