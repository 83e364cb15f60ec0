/- joined: V5 V6U V7 V8 V15 F2 TP13 N13 N11 N6 -/
import Derived.Test.YtjhgknagmiekeaaJX10
import Derived.Test.YtjhgknagmiekeaaJX12
import Derived.Laws.Cover1
import Derived.Test.YtjhgknagmiekeaaJX11
import Derived.Maps.AppendAt
import Derived.Deep.RegionHeld3
import Derived.Test.YtjhgknagmiekeaaJX5
import Derived.Test.YtjhgknagmiekeaaJX4
set_option linter.unusedVariables false
set_option linter.unusedSimpArgs false
namespace Go.Proofs.Ytjhgknagmiekeaa.V
open Go.RowKit Go.Lib Go.Proofs Go.Proofs.Ytjhgknagmiekeaa.T Go.Proofs.Ytjhgknagmiekeaa.K
open Go.Proofs.YtjhgknagmiekeaaW.PrintWords hiding blk_cell
def pre (a b : List UInt8) : Bool := b.isPrefixOf a
theorem pre_ext (a : ByteArray) (b : ByteArray) (h : b.size ≤ a.size) : ((a.extract 0 b.size).toList == b.toList) = pre (L a) (L b) := by
  unfold pre
  rw [Lib.toList_data, Lib.toList_data, ByteArray.data_extract, Array.toList_extract]
  rw [Bool.eq_iff_iff, beq_iff_eq, List.isPrefixOf_iff_prefix, List.prefix_iff_eq_take]
  have e : (L b).length = b.size := L_len b
  rw [e]
  show (a.data.toList.extract 0 b.size) = b.data.toList ↔ L b = (L a).take b.size
  rw [List.extract_eq_take_drop]
  simp only [Nat.sub_zero, List.drop_zero]
  exact eq_comm
theorem pre_short (a : ByteArray) (b : ByteArray) (h : a.size < b.size) : pre (L a) (L b) = false := by
  unfold pre
  rw [Bool.eq_false_iff]
  intro h2
  have := (List.isPrefixOf_iff_prefix.1 h2).length_le
  rw [L_len, L_len] at this
  omega
theorem pre_f (a b : ByteArray) : stringslite_HasPrefix.f a b = some (pre (L a) (L b)) := by
  unfold stringslite_HasPrefix.f
  by_cases h : (a.size : Int) ≥ (b.size : Int)
  · rw [if_pos h, if_pos (by omega), if_pos (by omega), Int.toNat_natCast, pre_ext a b (by omega)]
  · rw [if_neg h, pre_short a b (by omega)]
theorem hpC (a b : ByteArray) (W : World) : Calls Try.prog 73 #[.string a, .string b] W fun e W' => e = .returned (.bool (pre (L a) (L b))) ∧ Below W.heap.size W W' :=
  (strings_HasPrefix.calls a b _ W (by unfold strings_HasPrefix.f; rw [pre_f]; rfl)).mono fun e w' h => ⟨h.1, (Qt.of0 h.2).below _⟩
def skU (p q : List UInt8) : Bool := !pre q p && !pre p q
def kpU (p q : List UInt8) : Bool := pre q p
def skF (p q : List UInt8) : Bool := decide (q < p) && !pre p q
def kpF (p q : List UInt8) : Bool := !decide (q < p)
def skL (p q : List UInt8) : Bool := !pre p q
abbrev Bx (W : World) (bp : Nat) (p : ByteArray) : Prop := W.heap[bp]? = some (.cells #[.string p] 9 (0, 0))
set_option maxHeartbeats 4000000 in
set_option maxRecDepth 100000 in
theorem kpUC (q p : ByteArray) (bp : Nat) (W : World) (hb : Bx W bp p) : Calls Try.prog 74 #[.string q, ptr bp] W fun e W' => e = .returned (.bool (kpU (L p) (L q))) ∧ Below W.heap.size W W' := by
  have c1 : W.cell? ⟨bp, 0, none⟩ = some (.string p) := by rw [blk_cell hb]; rfl
  clear hb
  have qq := Aside0.mk (hpC q p W)
  unfold ptr
  go_enter Try.func74, Try.ntmps74
  go_wp2_with (go_at_call 73; refine qq.out.mono ?_)
  rintro e w' ⟨rfl, HB⟩
  have H := Aside0.mk HB
  clear HB qq
  go_wp2_with fail
  go_ret
  exact ⟨rfl, H.out⟩
set_option maxHeartbeats 4000000 in
set_option maxRecDepth 100000 in
theorem skUC (q p : ByteArray) (bp : Nat) (W : World) (hb : Bx W bp p) : Calls Try.prog 72 #[.string q, ptr bp] W fun e W' => e = .returned (.bool (skU (L p) (L q))) ∧ Below W.heap.size W W' := by
  have c1 : W.cell? ⟨bp, 0, none⟩ = some (.string p) := by rw [blk_cell hb]; rfl
  clear hb
  have q1 := Aside0.mk (hpC q p W)
  unfold ptr
  go_enter Try.func72, Try.ntmps72
  go_wp2_with (go_at_call 73; refine q1.out.mono ?_)
  rintro e w1 ⟨rfl, HB⟩
  have H := Aside0.mk HB
  have q2 := Aside0.mk (hpC p q w1)
  have c2 := (Kept.of HB).cell c1
  obtain ⟨t, et⟩ : ∃ t, pre (L q) (L p) = t := ⟨_, rfl⟩
  rw [et]
  have HT := Aside0.mk et
  clear HB q1 et
  go_wp2_with (go_at_call 73; refine q2.out.mono ?_)
  case isFalse =>
    have hh : ¬ t = true := by assumption
    rintro e w2 ⟨rfl, HB2⟩
    have H2 := Aside0.mk HB2
    clear HB2 q2
    go_wp2_with fail
    go_ret
    refine ⟨?_, belowAt H.out H2.out⟩
    unfold skU
    rw [HT.out, (Bool.not_eq_true _).mp hh]
    rfl
  have hh : t = true := by assumption
  go_ret
  refine ⟨?_, H.out⟩
  unfold skU
  rw [HT.out, hh]
  rfl
end Go.Proofs.Ytjhgknagmiekeaa.V
set_option linter.unusedVariables false
set_option linter.unusedSimpArgs false
namespace Go.Proofs.Ytjhgknagmiekeaa.VU
open Go.RowKit Go.Lib Go.Proofs Go.Proofs.Ytjhgknagmiekeaa.T Go.Proofs.Ytjhgknagmiekeaa.V Go.Proofs.Ytjhgknagmiekeaa.VOU
open Go.Proofs.YtjhgknagmiekeaaW.PrintWords hiding blk_cell
theorem seq (w : World) (n NN n₁ : Nat) (M : Nat → Prop) (wB : World) (hkB : Kept wB w) (hnB : wB.heap.size ≤ n₁) (hnw : n₁ ≤ w.heap.size) (hM : ∀ k, k < wB.heap.size → ¬ M k)
    (tb : Nat) (root : Nd) (ht : Tr wB tb root) (bp : Nat) (bt bs bk : Nat) (hc : Closed w bp bt bs bk tb) (p : ByteArray) (hp : Bx w bp p) (hbp : bp < n₁) (hMp : ¬ M bp) (hNN : (ovr (fun q => skU (L p) (L q)) (fun q => kpU (L p) (L q)) ⟨#[]⟩ root).length ≤ NN) :
    SeqStopsK Fence.wide n Try.prog 117 #[ptr bt, ptr bs, ptr bk] (fun x : ByteArray × Int => #[.string x.1, .int .i64 x.2]) (KpM n₁ M) (fun ys => ys = ovr (fun q => skU (L p) (L q)) (fun q => kpU (L p) (L q)) ⟨#[]⟩ root) (fun ys => ys <+: ovr (fun q => skU (L p) (L q)) (fun q => kpU (L p) (L q)) ⟨#[]⟩ root) NN w := by
  intro l J Jx W hw hJ hJx hY hJ0
  have hk : Kept w W := Kept.of hw
  have hc2 : Closed W bp bt bs bk tb := ⟨hk.at hc.1, hk.at hc.2.1, hk.at hc.2.2⟩
  have hbx : ∀ W1, Stnd W n₁ M W1 → Bx W1 bp p := fun W1 h => h bp _ (hk.at hp) hbp hMp
  refine callsIn_wide.2 (walked_calls bp l n₁ (fun ys => ys.length ≤ NN) (fun a b h => by rw [List.length_append] at h; omega) M J Jx (abd_of hJ) (fun m pre x W1 h1 h2 => yieldDepth m (hY pre x W1 h1 (by rw [List.length_append, List.length_singleton] at h2; omega))) W wB (hkB.trans hk (Nat.le_trans hnB hnw)) hnB hM (fun q => skU (L p) (L q)) (fun q => kpU (L p) (L q))
    (fun q W1 h1 => skUC q p bp W1 (hbx W1 h1)) (fun q W1 h1 => kpUC q p bp W1 (hbx W1 h1)) tb root ht bt bs bk W hc2 (Stnd.refl W n₁ M) (Nat.le_trans hnw hw.size) hJ0 hNN)
end Go.Proofs.Ytjhgknagmiekeaa.VU
set_option linter.unusedVariables false
set_option linter.unusedSimpArgs false
namespace Go.Proofs.Ytjhgknagmiekeaa.V
open Go.RowKit Go.Lib Go.Proofs Go.Shelf Go.Proofs.Ytjhgknagmiekeaa.T
open Go.Proofs.YtjhgknagmiekeaaW.PrintWords hiding blk_cell
attribute [local go_sem] Oper.semAt_some
end Go.Proofs.Ytjhgknagmiekeaa.V
set_option linter.unusedVariables false
set_option linter.unusedSimpArgs false
namespace Go.Proofs.Ytjhgknagmiekeaa.V
open Go.Proofs.Ytjhgknagmiekeaa.VOU (below_drewA)
open Go.RowKit Go.Lib Go.Proofs Go.Shelf
open Go.Proofs.Ytjhgknagmiekeaa.T Go.Proofs.Ytjhgknagmiekeaa.N Go.Proofs.Ytjhgknagmiekeaa.K
open Go.Proofs.YtjhgknagmiekeaaW.PrintWords hiding blk_cell
structure Far (bm : Nat) (W W' : World) : Prop where
  box : ∃ v0 v1 v2 v3 v4 : Value, W.heap[bm]? = some (.cells #[v0, v1, v2, v3, v4] 28 (0, 0)) ∧ ∀ v ∈ [v0, v1, v2, v3, v4], ∀ p, v ≠ .pointer p
  same : ∀ k, k ≠ bm → k < W.heap.size → W'.heap[k]? = W.heap[k]?
theorem Far.at {bm : Nat} {W W' : World} (h : Far bm W W') {b : Nat} {cs : Array Value} {t : TypeId} {fr : Nat × Nat} (hv : W.heap[b]? = some (.cells cs t fr)) (ht : t ≠ 28) : W'.heap[b]? = some (.cells cs t fr) := by
  refine (h.same b (fun e => ?_) (Array.getElem?_eq_some_iff.1 hv).1).trans hv
  obtain ⟨v0, v1, v2, v3, v4, hb, -⟩ := h.box
  subst e
  rw [hb] at hv
  injection hv with h1
  injection h1 with _ h2 _
  exact ht h2.symm
theorem Far.cell {bm : Nat} {W W' : World} (h : Far bm W W') {a : Addr} {p : Option Addr} (hv : W.cell? a = some (.pointer p)) : W'.cell? a = some (.pointer p) := by
  refine (World.cell?_of_block (h.same a.block (fun e => ?_) (World.block_lt_of_cell? W a hv))).trans hv
  obtain ⟨v0, v1, v2, v3, v4, hb, hp⟩ := h.box
  rw [← e] at hb
  have : ∃ v ∈ [v0, v1, v2, v3, v4], v = .pointer p := by
    unfold World.cell? at hv
    rw [hb] at hv
    have h3 : a.spot = none ∧ [v0, v1, v2, v3, v4][a.off]? = some (.pointer p) := by simpa using hv
    exact ⟨_, List.mem_of_getElem? h3.2, rfl⟩
  obtain ⟨v, h1, h2⟩ := this
  exact hp v h1 p h2
theorem far_row {bm : Nat} {W W' : World} (h : Far bm W W') {v : Value} {ks : List Nd} (hr : Row W v (ptrs ks)) : Row W' v (ptrs ks) := by
  rcases hr with hr | ⟨ad, c, hv, hr⟩
  · exact .inl hr
  · refine .inr ⟨ad, c, hv, fun i hi => ?_⟩
    obtain ⟨h1, cs, fr, h2⟩ := hr i hi
    have e : (ptrs ks)[i] = ptr (ks[i]'(by simpa [ptrs] using hi)).b := by simp [ptrs]
    rw [e] at h1 ⊢
    exact ⟨h.cell h1, cs, fr, h.at h2 (by decide)⟩
theorem far_leaf {bm : Nat} {W W' : World} (h : Far bm W W') {o : Option Lf} (hl : LfAt W o) : LfAt W' o := fun l e => h.at (hl l e) (by decide)
mutual
theorem far_nd {bm : Nat} {W W' : World} (h : Far bm W W') : ∀ t : Nd, NdAt W t → NdAt W' t
  | .mk b label leaf kids mark, hn => by
    unfold NdAt at hn ⊢
    obtain ⟨⟨kv, h1, h2⟩, h3, h4, h5⟩ := hn
    exact ⟨⟨kv, h.at h1 (by decide), far_row h h2⟩, far_leaf h h3, far_nds h kids h4, h5⟩
theorem far_nds {bm : Nat} {W W' : World} (h : Far bm W W') : ∀ ks : List Nd, NdsAt W ks → NdsAt W' ks
  | [], _ => by unfold NdsAt; trivial
  | n :: r, hn => by
    unfold NdsAt at hn ⊢
    exact ⟨far_nd h n hn.1, far_nds h r hn.2⟩
end
theorem far_tr {bm : Nat} {W W' : World} (h : Far bm W W') {tb : Nat} {root : Nd} (ht : Tr W tb root) : Tr W' tb root := ⟨⟨h.at ht.at_.blk (by decide), far_nd h root ht.at_.root⟩, ht.fine, ht.vals⟩
theorem set_at {W : World} {b : Nat} {cs : Array Value} {t : TypeId} {fr : Nat × Nat} (h : W.heap[b]? = some (.cells cs t fr)) (j : Nat) (v : Value) : (W.setCell ⟨b, j, none⟩ v).heap[b]? = some (.cells (cs.setIfInBounds j v) t fr) := by
  obtain ⟨hlt, hk⟩ := Array.getElem?_eq_some_iff.1 h
  show (W.heap.modify b _)[b]? = _
  rw [Array.getElem?_eq_getElem (by rw [Array.size_modify]; exact hlt), Array.getElem_modify_self, hk]
  rfl
theorem set_far (W : World) (b j : Nat) (v : Value) (k : Nat) (h : k ≠ b) : (W.setCell ⟨b, j, none⟩ v).heap[k]? = W.heap[k]? := Below.heap_setCell _ _ _ k h
def set5 (W : World) (b : Nat) (v0 v1 v2 v3 v4 : Value) : World := ((((W.setCell ⟨b, 0, none⟩ v0).setCell ⟨b, 1, none⟩ v1).setCell ⟨b, 2, none⟩ v2).setCell ⟨b, 3, none⟩ v3).setCell ⟨b, 4, none⟩ v4
theorem set5_at {W : World} {b : Nat} {x0 x1 x2 x3 x4 : Value} {t : TypeId} (h : W.heap[b]? = some (.cells #[x0, x1, x2, x3, x4] t (0, 0))) (v0 v1 v2 v3 v4 : Value) : (set5 W b v0 v1 v2 v3 v4).heap[b]? = some (.cells #[v0, v1, v2, v3, v4] t (0, 0)) :=
  set_at (set_at (set_at (set_at (set_at h 0 v0) 1 v1) 2 v2) 3 v3) 4 v4
theorem set5_far (W : World) (b : Nat) (v0 v1 v2 v3 v4 : Value) (k : Nat) (h : k ≠ b) : (set5 W b v0 v1 v2 v3 v4).heap[k]? = W.heap[k]? := by
  unfold set5
  rw [set_far _ _ _ _ _ h, set_far _ _ _ _ _ h, set_far _ _ _ _ _ h, set_far _ _ _ _ _ h, set_far _ _ _ _ _ h]
theorem set5_below {n : Nat} {w W : World} {b : Nat} (hb : Below n w W) (hn : n ≤ b) (v0 v1 v2 v3 v4 : Value) : Below n w (set5 W b v0 v1 v2 v3 v4) :=
  ((((hb.setCell (p := ⟨b, 0, none⟩) hn v0).setCell (p := ⟨b, 1, none⟩) hn v1).setCell (p := ⟨b, 2, none⟩) hn v2).setCell (p := ⟨b, 3, none⟩) hn v3).setCell (p := ⟨b, 4, none⟩) hn v4
end Go.Proofs.Ytjhgknagmiekeaa.V
set_option linter.unusedVariables false
set_option linter.unusedSimpArgs false
namespace Go.Proofs.Ytjhgknagmiekeaa.V
open Go.RowKit Go.Lib Go.Proofs Go.Shelf
open Go.Proofs.Ytjhgknagmiekeaa.T
open Go.Proofs.YtjhgknagmiekeaaW.PrintWords hiding blk_cell
def TreeTy (t : TypeId) : Prop := t = 58 ∨ t = 117 ∨ t = 124 ∨ t = 127
structure FarB (X : Nat → Prop) (W W' : World) : Prop where
  off : ∀ k, X k → ∀ cs t fr, W.heap[k]? = some (.cells cs t fr) → ¬ TreeTy t
  same : ∀ k, ¬ X k → k < W.heap.size → W'.heap[k]? = W.heap[k]?
theorem FarB.at {X : Nat → Prop} {W W' : World} (h : FarB X W W') {b : Nat} {cs : Array Value} {t : TypeId} {fr : Nat × Nat} (hv : W.heap[b]? = some (.cells cs t fr)) (ht : TreeTy t) : W'.heap[b]? = some (.cells cs t fr) :=
  (h.same b (fun e => h.off b e _ _ _ hv ht) (Array.getElem?_eq_some_iff.1 hv).1).trans hv
theorem FarB.trans {X : Nat → Prop} {A B C : World} (h : FarB X A B) (k : FarB (fun _ => False) B C) : FarB X A C := ⟨h.off, fun j h1 h2 => by
  have e := h.same j h1 h2
  have h3 : j < B.heap.size := by
    have h4 : A.heap[j]? = some A.heap[j] := Array.getElem?_eq_getElem h2
    rw [h4] at e
    exact (Array.getElem?_eq_some_iff.1 e).1
  exact (k.same j (fun x => x) h3).trans e⟩
theorem farB_row {X : Nat → Prop} {W W' : World} (h : FarB X W W') {v : Value} {ks : List Nd} (hr : Row W v (ptrs ks)) : Row W' v (ptrs ks) := by
  rcases hr with hr | ⟨ad, c, hv, hr⟩
  · exact .inl hr
  · refine .inr ⟨ad, c, hv, fun i hi => ?_⟩
    obtain ⟨h1, cs, fr, h2⟩ := hr i hi
    have h3 := h.at h2 (.inl rfl)
    have eb : (ad.add i).block = ad.block := by unfold Addr.add; split <;> rfl
    exact ⟨(World.cell?_of_block (by rw [eb]; exact h3.trans h2.symm) : W'.cell? (ad.add i) = W.cell? (ad.add i)).trans h1, cs, fr, h3⟩
theorem farB_leaf {X : Nat → Prop} {W W' : World} (h : FarB X W W') {o : Option Lf} (hl : LfAt W o) : LfAt W' o := fun l e => h.at (hl l e) (.inr (.inr (.inr rfl)))
mutual
theorem farB_nd {X : Nat → Prop} {W W' : World} (h : FarB X W W') : ∀ t : Nd, NdAt W t → NdAt W' t
  | .mk b label leaf kids mark, hn => by
    unfold NdAt at hn ⊢
    obtain ⟨⟨kv, h1, h2⟩, h3, h4, h5⟩ := hn
    exact ⟨⟨kv, h.at h1 (.inr (.inl rfl)), farB_row h h2⟩, farB_leaf h h3, farB_nds h kids h4, h5⟩
theorem farB_nds {X : Nat → Prop} {W W' : World} (h : FarB X W W') : ∀ ks : List Nd, NdsAt W ks → NdsAt W' ks
  | [], _ => by unfold NdsAt; trivial
  | n :: r, hn => by
    unfold NdsAt at hn ⊢
    exact ⟨farB_nd h n hn.1, farB_nds h r hn.2⟩
end
end Go.Proofs.Ytjhgknagmiekeaa.V
set_option linter.unusedVariables false
set_option linter.unusedSimpArgs false
namespace Go.Proofs.Ytjhgknagmiekeaa.F
open Go.RowKit Go.Lib Go.Proofs Go.ChangeMaps
open Go.Proofs.Ytjhgknagmiekeaa.T
open Go.Proofs.YtjhgknagmiekeaaW.PrintWords hiding blk_cell Kept
open Go.Proofs.Ytjhgknagmiekeaa.V (FarB farB_nd farB_nds)
theorem blk_cell {w : World} {g : Nat} {t : TypeId} {cs : Array Value} (h : w.heap[g]? = some (.cells cs t (0, 0))) (i : Nat) : w.cell? ⟨g, i, none⟩ = cs[i]? := Go.Proofs.YtjhgknagmiekeaaW.PrintWords.blk_cell h i
theorem bls_cells {w : World} : ∀ {b : Nat} (n : Nd), NdAt w n → b ∈ bls n → ∃ cs t, w.heap[b]? = some (.cells cs t (0, 0)) := by
  intro b n
  induction hN : cntN n using Nat.strongRecOn generalizing n with
  | ind N ih =>
    intro hn hb
    rw [bls_eq, List.mem_cons] at hb
    obtain ⟨kv, h1, h2, h3, h4⟩ := hn.parts
    rcases hb with rfl | hb
    · exact ⟨_, _, h1⟩
    · obtain ⟨k, hk, hb⟩ := mem_blss.1 hb
      refine ih (cntN k) ?_ k rfl (h4.mem k hk) hb
      rw [← hN, cntN_eq n]
      have : ∀ ks : List Nd, k ∈ ks → cntN k ≤ cntNs ks := fun ks => by
        induction ks with
        | nil => intro h; cases h
        | cons a r ihr =>
          intro h
          rw [cntNs]
          rcases List.mem_cons.1 h with rfl | h
          · omega
          · have := ihr h; omega
      have := this n.kids hk
      omega
theorem MapP.imp {w : World} {mb n : Nat} {K K' : Nat → Prop} (h : MapP w mb n K) (hk : ∀ b, K b ↔ K' b) : MapP w mb n K' := by
  obtain ⟨es, clock, hb, h1, h2⟩ := h.ex
  exact ⟨es, clock, hb, h1, fun b => (hk b).symm.trans (h2 b)⟩
theorem MapP.off {w : World} {mb n : Nat} {K : Nat → Prop} (h : MapP w mb n K) {cs : Array Value} {t : TypeId} {fr : Nat × Nat} {b : Nat} (hb : w.heap[b]? = some (.cells cs t fr)) : b ≠ mb := fun e => by
  obtain ⟨es, clock, hm, -⟩ := h.ex
  rw [e, hm] at hb
  cases hb
theorem below_grown {w w' : World} {row : Option Nat} (h : Below w.heap.size w w') : w.grownBy w' row := ⟨h.os, h.tape, h.output, h.size, fun i hi _ => h.block i hi⟩
end Go.Proofs.Ytjhgknagmiekeaa.F
set_option linter.unusedVariables false
set_option linter.unusedSimpArgs false
namespace Go.Proofs.Ytjhgknagmiekeaa.T
def lastI (ks : List ByteArray) : Nat → List UInt8 → Option Nat
  | 0, _ => none
  | n + 1, r => if r = L (ks.getD n ⟨#[]⟩) then some n else lastI ks n r
def numV (o : Option Nat) : Option Value := o.map fun i => .int .i64 (i : Int)
end Go.Proofs.Ytjhgknagmiekeaa.T
set_option linter.unusedVariables false
set_option linter.unusedSimpArgs false
namespace Go.Proofs.Ytjhgknagmiekeaa.N
open Go.RowKit Go.Proofs.Ytjhgknagmiekeaa.K Go.Proofs.YtjhgknagmiekeaaW.PrintWords Go.Proofs.YtjhgknagmiekeaaW.PrintLast
def lcp : List UInt8 → List UInt8 → List UInt8
  | a :: x, b :: y => if a = b then a :: lcp x y else []
  | _, _ => []
theorem lcp_take : ∀ (x y : List UInt8) (m : Nat), m ≤ x.length → m ≤ y.length → (∀ j, j < m → x[j]? = y[j]?) → (m < x.length → m < y.length → x[m]? ≠ y[m]?) → x.take m = lcp x y
  | [], y, m, h1, h2, h3, h4 => by simp [lcp]
  | a :: x, [], m, h1, h2, h3, h4 => by simp at h2; simp [h2, lcp]
  | a :: x, b :: y, 0, h1, h2, h3, h4 => by
    have := h4 (by simp) (by simp)
    simp at this
    simp [lcp, this]
  | a :: x, b :: y, m + 1, h1, h2, h3, h4 => by
    have h0 := h3 0 (by omega)
    simp at h0
    subst h0
    rw [lcp, if_pos rfl, List.take_succ_cons, lcp_take x y m (by simpa using h1) (by simpa using h2) (fun j hj => by simpa using h3 (j + 1) (by omega)) (fun g1 g2 => by simpa using h4 (by simpa using g1) (by simpa using g2))]
theorem lcp_pre : ∀ (p x y : List UInt8), lcp (p ++ x) (p ++ y) = p ++ lcp x y
  | [], x, y => rfl
  | a :: p, x, y => by rw [List.cons_append, List.cons_append, lcp, if_pos rfl, lcp_pre p x y]; rfl
theorem lcp_fork (p : List UInt8) (a b : UInt8) (x y : List UInt8) (h : a ≠ b) : lcp (p ++ a :: x) (p ++ b :: y) = p := by
  rw [lcp_pre, lcp, if_neg h, List.append_nil]
theorem lcp_cases : ∀ (x y : List UInt8), lcp x y = x ∨ lcp x y = y ∨ ∃ a b s t, a ≠ b ∧ x = lcp x y ++ a :: s ∧ y = lcp x y ++ b :: t
  | [], y => .inl (by cases y <;> rfl)
  | a :: x, [] => .inr (.inl rfl)
  | a :: x, b :: y => by
    rw [lcp]
    by_cases h : a = b
    · subst h
      rw [if_pos rfl]
      rcases lcp_cases x y with h | h | ⟨c, d, s, t, h1, h2, h3⟩
      · exact .inl (by rw [h])
      · exact .inr (.inl (by rw [h]))
      · exact .inr (.inr ⟨c, d, s, t, h1, by rw [List.cons_append, ← h2], by rw [List.cons_append, ← h3]⟩)
    · rw [if_neg h]
      exact .inr (.inr ⟨a, b, x, y, h, rfl, rfl⟩)
theorem bt_get (s : ByteArray) (j : Nat) (h : j < s.size) : ∃ b, (T.L s)[j]? = some b ∧ bt s j = (b.toNat : Int) := by
  obtain ⟨b, h1, h2⟩ := bt_drop s j h
  refine ⟨b, ?_, h2⟩
  have e : (s.data.toList.drop j)[0]? = some b := by rw [h1]; rfl
  rw [List.getElem?_drop, Nat.add_zero] at e
  exact e
theorem common_lcp {a b : ByteArray} {m : Nat} (h1 : m ≤ a.size) (h2 : m ≤ b.size) (h3 : ∀ j : Nat, j < m → bt a j = bt b j) (h4 : m < a.size → m < b.size → bt a m ≠ bt b m) : T.L (a.extract 0 m) = lcp (T.L a) (T.L b) := by
  rw [T.L_head]
  refine lcp_take _ _ m (by rw [T.L_len]; exact h1) (by rw [T.L_len]; exact h2) (fun j hj => ?_) (fun g1 g2 => ?_)
  · obtain ⟨x, e1, e2⟩ := bt_get a j (by omega)
    obtain ⟨y, e3, e4⟩ := bt_get b j (by omega)
    have := h3 j hj
    rw [e2, e4] at this
    rw [e1, e3]
    congr 1
    exact UInt8.toNat_inj.1 (by omega)
  · rw [T.L_len] at g1 g2
    obtain ⟨x, e1, e2⟩ := bt_get a m g1
    obtain ⟨y, e3, e4⟩ := bt_get b m g2
    have := h4 g1 g2
    rw [e2, e4] at this
    rw [e1, e3]
    intro e
    injection e with e
    rw [e] at this
    exact this rfl
theorem rise_putIn {l : List ByteArray} {n : Nat} {b : Bool} {a : ByteArray} (hr : Rise l) (hc : Cut l a n n) (hb : b = true ↔ a ∈ l) (hb1 : b = true → n < l.length ∧ gd l n = a) : Rise (putIn l n b a) := by
  cases b with
  | true => exact hr
  | false => exact rise_put (b := false) hr hc hb1 hb
theorem with_ex2 (l : List ByteArray) (a : ByteArray) (hlen : l.length < 8796093022208) (hs : Sml l) (hr : Rise l) : ∃ r : List ByteArray, Ev (fun k => musterref03_with.f k l a) r ∧ r.length ≤ l.length + 1 ∧ Rise r ∧ ∀ x, x ∈ r ↔ x ∈ l ∨ x = a := by
  obtain ⟨n, b, h1, h2, h3, h4⟩ := find_ex l a (by omega) hs
  obtain ⟨n', b', w1, w2, w3, w4⟩ := with_ex l a hlen hs
  obtain ⟨c1, c2⟩ := w4 hr
  refine ⟨putIn l n' b' a, w2, putIn_len l n' b' a w1, ?_, mem_putIn w1 w3⟩
  refine rise_putIn hr c1 c2 (fun e => ?_)
  have hm := c2.1 e
  obtain ⟨j, hj, ej⟩ := List.getElem_of_mem hm
  have hjn : j = n' := by
    rw [← gd_get hj] at ej
    rcases Nat.lt_trichotomy j n' with h | h | h
    · have := c1.1 j h
      rw [ej] at this
      exact absurd this (T.blt_irrefl _)
    · exact h
    · have h6 := hr.lt h hj
      rw [ej] at h6
      exact absurd h6 (c1.2 n' (Nat.le_refl _) (by omega))
  subst hjn
  exact ⟨hj, by rw [gd_get hj, ej]⟩
def PathOf (keys : List ByteArray) (i : Nat) (q : List UInt8) : Prop := q = [] ∨ (∃ j, j < i ∧ q = T.L (gd keys j)) ∨ ∃ j, j + 1 < i ∧ q = lcp (T.L (gd keys j)) (T.L (gd keys (j + 1)))
theorem paths_ex2 (keys : List ByteArray) (hlen : keys.length < 1000000000000) (hs : Sml keys) : ∃ r, Ev (fun k => musterref03_Paths.f k keys) r ∧ r.length ≤ 1 + 2 * keys.length ∧ Sml r ∧ 1 ≤ r.length ∧ Rise r ∧ ∀ x, x ∈ r ↔ PathOf keys keys.length (T.L x) := by
  have key : ∀ d i : Nat, keys.length - i = d → i ≤ keys.length → ∀ p : List ByteArray, p.length ≤ 1 + 2 * i → 1 ≤ p.length → Sml p → Rise p → (∀ x, x ∈ p ↔ PathOf keys i (T.L x)) → ∃ r, Ev (fun k => musterref03_Paths.l0 k keys p (i : Int)) r ∧ r.length ≤ 1 + 2 * keys.length ∧ Sml r ∧ 1 ≤ r.length ∧ Rise r ∧ ∀ x, x ∈ r ↔ PathOf keys keys.length (T.L x) := by
    intro d
    induction d with
    | zero =>
      intro i hd hi p hp h1 hsp hr hm
      have e : i = keys.length := by omega
      subst e
      refine ⟨p, Ev.step (f := fun k => some p) (fun k => ?_) (Ev.now _), by omega, hsp, h1, hr, hm⟩
      simp only [musterref03_Paths.l0]
      rw [if_neg (by omega)]
    | succ d ih =>
      intro i hd hi p hp h1 hsp hr hm
      have hlt : i < keys.length := by omega
      have hki := hs _ (gd_mem hlt)
      by_cases h0 : 0 < i
      · have hkp := hs _ (gd_mem (show i - 1 < keys.length by omega))
        obtain ⟨m, c1, c2, c3, c4, c5⟩ := common_ex (gd keys (i - 1)) (gd keys i) hkp
        have hlcp := common_lcp c1 c2 c4 c5
        obtain ⟨r1, w2, l1, w3, w4⟩ := with_ex2 p ((gd keys (i - 1)).extract 0 m) (by omega) hsp hr
        have s1 : Sml r1 := fun x hx => by
          rcases (w4 x).1 hx with h | h
          · exact hsp x h
          · rw [h, ext_size _ _ c1]; omega
        obtain ⟨r2, v2, l2, v3, v4⟩ := with_ex2 r1 (gd keys i) (by omega) s1 w3
        have s2 : Sml r2 := fun x hx => by
          rcases (v4 x).1 hx with h | h
          · exact s1 x h
          · rw [h]; exact hki
        have g2 : 1 ≤ r2.length := by
          have : gd keys i ∈ r2 := (v4 _).2 (.inr rfl)
          exact List.length_pos_of_mem this
        obtain ⟨r, q1, q2, q3, q4, q5, q6⟩ := ih (i + 1) (by omega) (by omega) r2 (by omega) g2 s2 v3 (fun x => by
          rw [v4, w4, hm]
          unfold PathOf
          constructor
          · rintro (((h | ⟨j, h, e⟩ | ⟨j, h, e⟩) | h) | h)
            · exact .inl h
            · exact .inr (.inl ⟨j, by omega, e⟩)
            · exact .inr (.inr ⟨j, by omega, e⟩)
            · refine .inr (.inr ⟨i - 1, by omega, ?_⟩)
              rw [h, hlcp, show i - 1 + 1 = i by omega]
            · exact .inr (.inl ⟨i, by omega, by rw [h]⟩)
          · rintro (h | ⟨j, h, e⟩ | ⟨j, h, e⟩)
            · exact .inl (.inl (.inl h))
            · rcases Nat.lt_or_ge j i with h9 | h9
              · exact .inl (.inl (.inr (.inl ⟨j, h9, e⟩)))
              · have : j = i := by omega
                subst this
                exact .inr (T.L_inj e)
            · rcases Nat.lt_or_ge (j + 1) i with h9 | h9
              · exact .inl (.inl (.inr (.inr ⟨j, h9, e⟩)))
              · have : j = i - 1 := by omega
                subst this
                refine .inl (.inr (T.L_inj ?_))
                rw [e, hlcp, show i - 1 + 1 = i by omega])
        refine ⟨r, ?_, q2, q3, q4, q5, q6⟩
        refine Ev.step (f := fun k => (musterref03_Common.f k (gd keys (i - 1)) (gd keys i)).bind fun c => (musterref03_with.f k p c).bind fun t => (musterref03_with.f k t (gd keys i)).bind fun t2 => musterref03_Paths.l0 k keys t2 ((i + 1 : Nat) : Int)) (fun k => ?_) (Ev.bind c3 (Ev.bind w2 (Ev.bind v2 q1)))
        simp only [musterref03_Paths.l0]
        rw [if_pos (by omega), if_pos (by omega), wsub i h0 (by omega), if_pos (by omega), if_pos (by omega), if_pos (by omega), rdOf_gd, rdOf_gd, wadd i (by omega)]
      · have h00 : i = 0 := by omega
        obtain ⟨r2, v2, l2, v3, v4⟩ := with_ex2 p (gd keys i) (by omega) hsp hr
        have s2 : Sml r2 := fun x hx => by
          rcases (v4 x).1 hx with h | h
          · exact hsp x h
          · rw [h]; exact hki
        have g2 : 1 ≤ r2.length := by
          have : gd keys i ∈ r2 := (v4 _).2 (.inr rfl)
          exact List.length_pos_of_mem this
        obtain ⟨r, q1, q2, q3, q4, q5, q6⟩ := ih (i + 1) (by omega) (by omega) r2 (by omega) g2 s2 v3 (fun x => by
          rw [v4, hm]
          unfold PathOf
          constructor
          · rintro ((h | ⟨j, h, e⟩ | ⟨j, h, e⟩) | h)
            · exact .inl h
            · omega
            · omega
            · exact .inr (.inl ⟨i, by omega, by rw [h]⟩)
          · rintro (h | ⟨j, h, e⟩ | ⟨j, h, e⟩)
            · exact .inl (.inl h)
            · have : j = i := by omega
              subst this
              exact .inr (T.L_inj e)
            · omega)
        refine ⟨r, ?_, q2, q3, q4, q5, q6⟩
        refine Ev.step (f := fun k => (musterref03_with.f k p (gd keys i)).bind fun t2 => musterref03_Paths.l0 k keys t2 ((i + 1 : Nat) : Int)) (fun k => ?_) (Ev.bind v2 q1)
        simp only [musterref03_Paths.l0]
        rw [if_pos (by omega), if_neg (by omega), if_pos (by omega), rdOf_gd, wadd i (by omega)]
  exact key keys.length 0 (by omega) (by omega) [⟨#[]⟩] (by simp) (by simp) (fun x hx => by
    rw [List.mem_singleton] at hx; subst hx; decide) (by unfold Rise; simp) (fun x => by
    rw [List.mem_singleton]
    unfold PathOf
    constructor
    · intro h; exact .inl (by rw [h])
    · rintro (h | ⟨j, h, e⟩ | ⟨j, h, e⟩)
      · exact T.L_inj h
      · omega
      · omega)
theorem fork_near {keys : List ByteArray} (hr : Rise keys) (r : List UInt8) : ∀ (d i j : Nat) (a b : UInt8) (s t : List UInt8), j - i = d → i < j → j < keys.length → a ≠ b → T.L (gd keys i) = r ++ a :: s → T.L (gd keys j) = r ++ b :: t → ∃ m, m + 1 < keys.length ∧ r = lcp (T.L (gd keys m)) (T.L (gd keys (m + 1))) := by
  intro d
  induction d with
  | zero => intro i j a b s t hd hij; omega
  | succ d ih =>
    intro i j a b s t hd hij hj hab e1 e2
    by_cases hn : i + 1 = j
    · subst hn
      exact ⟨i, hj, by rw [e1, e2, lcp_fork r a b s t hab]⟩
    · have h1 := hr.lt (show i < i + 1 by omega) (show i + 1 < keys.length by omega)
      have h2 := hr.lt (show i + 1 < j by omega) hj
      rw [e1] at h1
      rw [e2] at h2
      obtain ⟨c, u, ec⟩ : ∃ c u, T.L (gd keys (i + 1)) = r ++ c :: u := by
        generalize T.L (gd keys (i + 1)) = z at h1 h2
        clear ih e1 e2 hd hij hj hn
        induction r generalizing z with
        | nil =>
          cases z with
          | nil => exact absurd h1 (by simp)
          | cons c u => exact ⟨c, u, rfl⟩
        | cons x r ihr =>
          cases z with
          | nil => exact absurd h1 (by simp)
          | cons c u =>
            rw [List.cons_append, List.cons_lt_cons_iff] at h1 h2
            have hx : x = c := by
              rcases h1 with h1 | h1
              · rcases h2 with h2 | h2
                · rw [UInt8.lt_iff_toNat_lt] at h1 h2; omega
                · rw [← h2.1, UInt8.lt_iff_toNat_lt] at h1; omega
              · exact h1.1
            subst hx
            have h1' : r ++ a :: s < u := by
              rcases h1 with h1 | h1
              · rw [UInt8.lt_iff_toNat_lt] at h1; omega
              · exact h1.2
            have h2' : u < r ++ b :: t := by
              rcases h2 with h2 | h2
              · rw [UInt8.lt_iff_toNat_lt] at h2; omega
              · exact h2.2
            obtain ⟨c, v, e⟩ := ihr u h1' h2'
            exact ⟨c, v, by rw [e]; rfl⟩
      by_cases hc : a = c
      · subst hc
        exact ih (i + 1) j a b u t (by omega) (by omega) hj hab ec e2
      · exact ⟨i, by omega, by rw [e1, ec, lcp_fork r a c s u hc]⟩
end Go.Proofs.Ytjhgknagmiekeaa.N
set_option linter.unusedVariables false
namespace Go.Proofs.Ytjhgknagmiekeaa.N
open Go.RowKit Go.Proofs.Ytjhgknagmiekeaa.K Go.Proofs.YtjhgknagmiekeaaW.PrintWords Go.Proofs.YtjhgknagmiekeaaW.PrintLast
open Go.Proofs.Ytjhgknagmiekeaa.T (Nd Lf Ent All valT findT IntVals mem_all all_rise Fine Tr)
open Go.Proofs.Ytjhgknagmiekeaa.V (valI ovr)
def cutAt {α : Type} (l : List α) (n : Nat) : List α := l.take n ++ l.drop (n + 1)
theorem cutAt_len {α : Type} (l : List α) (n : Nat) (h : n < l.length) : (cutAt l n).length = l.length - 1 := by
  unfold cutAt
  rw [List.length_append, List.length_take, List.length_drop]
  omega
theorem zip_cutAt {α β : Type} (l : List α) (m : List β) (n : Nat) (h : l.length = m.length) : (cutAt l n).zip (cutAt m n) = cutAt (l.zip m) n := by
  unfold cutAt
  rw [List.zip_append (by rw [List.length_take, List.length_take, h])]
  simp only [List.zip, List.take_zipWith, List.drop_zipWith]
theorem cutAt_sub {α : Type} (l : List α) (n : Nat) : (cutAt l n).Sublist l := by
  unfold cutAt
  have h : (l.drop (n + 1)).Sublist (l.drop n) := by
    rw [← List.drop_drop]
    exact List.drop_sublist _ _
  have h2 := (List.Sublist.refl (l.take n)).append h
  rwa [List.take_append_drop] at h2
theorem rise_cut {keys : List ByteArray} (hr : Rise keys) (n : Nat) : Rise (cutAt keys n) := List.Pairwise.sublist ((cutAt_sub keys n).map T.L) hr
theorem mem_cut {z : List (ByteArray × Int)} {n : Nat} {x0 : ByteArray × Int} (hr : z.Pairwise (fun a b => T.L a.1 < T.L b.1)) (hn : z[n]? = some x0) (x : ByteArray × Int) : x ∈ cutAt z n ↔ x ∈ z ∧ x.1 ≠ x0.1 := by
  obtain ⟨hlt, he⟩ := List.getElem?_eq_some_iff.1 hn
  have hz : z = z.take n ++ x0 :: z.drop (n + 1) := by
    rw [← he, ← List.drop_eq_getElem_cons hlt, List.take_append_drop]
  have hr2 := hr
  rw [hz, List.pairwise_append] at hr2
  obtain ⟨-, h2, h3⟩ := hr2
  obtain ⟨h4, -⟩ := List.pairwise_cons.1 h2
  unfold cutAt
  rw [List.mem_append]
  constructor
  · rintro (h | h)
    · refine ⟨List.mem_of_mem_take h, fun e => ?_⟩
      have := h3 x h x0 (by simp)
      rw [e] at this
      exact T.blt_irrefl _ this
    · refine ⟨List.mem_of_mem_drop h, fun e => ?_⟩
      have := h4 x h
      rw [e] at this
      exact T.blt_irrefl _ this
  · rintro ⟨h, hne⟩
    rw [hz, List.mem_append, List.mem_cons] at h
    rcases h with h | rfl | h
    · exact .inl h
    · exact absurd rfl hne
    · exact .inr h
end Go.Proofs.Ytjhgknagmiekeaa.N
set_option linter.unusedVariables false
set_option linter.unusedSimpArgs false
namespace Go.Proofs.Ytjhgknagmiekeaa.N
open Go.RowKit Go.Proofs.Ytjhgknagmiekeaa.K Go.Proofs.YtjhgknagmiekeaaW.PrintWords Go.Proofs.YtjhgknagmiekeaaW.PrintLast
open Go.Proofs.Ytjhgknagmiekeaa.T (Nd Lf Ent ents entss All valT findT IntVals Ok Oks mem_all all_rise Fine Tr)
open Go.Proofs.Ytjhgknagmiekeaa.V (valI ovr ovrs ownE ovr_eq pre skU kpU skF kpF skL)
theorem pre_iff (a b : List UInt8) : pre a b = true ↔ b <+: a := by unfold pre; exact List.isPrefixOf_iff_prefix
theorem pre_false (a b : List UInt8) : pre a b = false ↔ ¬ b <+: a := by rw [← Bool.not_eq_true, pre_iff]
end Go.Proofs.Ytjhgknagmiekeaa.N
