/- joined: V10g V2F V3F V4F V6F N8 V10 V11 -/
import Derived.Test.YtjhgknagmiekeaaJF15
import Derived.Test.YtjhgknagmiekeaaJF18
import Derived.Stop.RegionWithIn
import Derived.RangeFuncBox
import Derived.Test.YtjhgknagmiekeaaJF8
import Derived.Deep.RegionHeld3
import Derived.Test.YtjhgknagmiekeaaJF14
import Derived.Test.YtjhgknagmiekeaaJF2
import Derived.Test.YtjhgknagmiekeaaRows
import Derived.Test.YtjhgknagmiekeaaJF4
import Derived.Deep.Slices
import Derived.Deep.Fields
import Derived.ChangeSame
import Derived.SizedLaws
import Derived.ProofKit
set_option linter.unusedVariables false
set_option linter.unusedSimpArgs false
namespace Go.Proofs.Ytjhgknagmiekeaa.V
open Go.Proofs.Ytjhgknagmiekeaa.VU (below_drewA)
open Go.RowKit Go.Lib Go.Proofs Go.Shelf
open Go.Proofs.Ytjhgknagmiekeaa.T Go.Proofs.Ytjhgknagmiekeaa.N Go.Proofs.Ytjhgknagmiekeaa.K
open Go.Proofs.YtjhgknagmiekeaaW.PrintWords hiding blk_cell
theorem own_weak {w : World} {b b' : Nat} {e : TypeId} {size : Nat} {v : Value} {n : Nat} {xs : List Value} (h : w.ownsRow b e size v n xs) (hb : b' ≤ b) : w.ownsRow b' e size v n xs := by
  refine ⟨h.1, ?_⟩
  rcases h.2 with h2 | ⟨g, cap, cur, h1, h2, h3⟩
  · exact .inl h2
  · exact .inr ⟨g, cap, cur, h1, Nat.le_trans hb h2, h3⟩
theorem appended2 {W w1 : World} {n₁ n₀ B : Nat} {t e : TypeId} {size : Nat} {v v' : Value} {k m : Nat} {xs ys : List Value} {tmp : Obj} {M : Nat → Prop}
    (hv : Boxed W B t v) (hte : t ≠ e) (ht : t ≠ 60) (he : e ≠ 60) (hrow : W.ownsRow n₁ e size v k xs) (hn₁ : n₁ ≤ W.heap.size) (hn₀ : n₀ ≤ n₁) (hB : n₀ ≤ B) (hM : M B)
    (hown' : w1.ownsRow n₁ e size v' m ys) (hgrow : (W.alloc tmp).grownBy w1 v.ownBlock) :
    Boxed w1 B t v ∧ Boxed (w1.setCell ⟨B, 0, none⟩ v') B t v' ∧ (w1.setCell ⟨B, 0, none⟩ v').ownsRow n₁ e size v' m ys ∧ KeepsOthers W (w1.setCell ⟨B, 0, none⟩ v') ∧ Below n₀ W (w1.setCell ⟨B, 0, none⟩ v') ∧ KpM n₁ M W (w1.setCell ⟨B, 0, none⟩ v') ∧ (∀ k, k < n₁ → k ≠ B → (w1.setCell ⟨B, 0, none⟩ v').heap[k]? = W.heap[k]?) := by
  obtain ⟨a1, a2, a3, a4, a5⟩ := hv.appended hte (own_weak hrow hn₀) (Nat.le_trans hn₀ hn₁) hB (own_weak hown' hn₀) hgrow
  have hne : ∀ k, k < n₁ → some k ≠ v.ownBlock := fun k hk e9 => by
    rcases hrow.2 with ⟨rfl, _⟩ | ⟨g, cap, cur, rfl, hb, _, _⟩
    · simp [Value.ownBlock] at e9
    · obtain rfl : k = g := by simpa [Value.ownBlock] using e9
      omega
  have hlow : ∀ k, k < n₁ → k ≠ B → (w1.setCell ⟨B, 0, none⟩ v').heap[k]? = W.heap[k]? := fun k hk hkB => by
    rw [Below.heap_setCell _ _ _ k hkB]
    exact (hgrow.block k (by rw [World.size_alloc]; omega) (hne k hk)).trans (Below.heap_alloc _ _ _ (by omega))
  refine ⟨a1, a2, hown'.kept (grownBy_setCell' w1 B v') (.inr (a1.not_row hte hown').symm), a4, a5, ⟨a5.size, fun k o hk h1 h2 => ?_, fun k cs fr hk => ?_⟩, hlow⟩
  · exact (hlow k h1 (fun e9 => h2 (by rw [e9]; exact hM))).trans hk
  · have hkB : k ≠ B := fun e9 => by
      subst e9
      rw [show W.heap[k]? = _ from hv] at hk
      injection hk with h1
      injection h1 with _ h2 _
      exact ht h2
    have hlt := (Array.getElem?_eq_some_iff.1 hk).1
    rw [Below.heap_setCell _ _ _ k hkB]
    refine (hgrow.block k (by rw [World.size_alloc]; omega) (fun e9 => ?_)).trans ((Below.heap_alloc _ _ _ (by omega)).trans hk)
    rcases hrow.2 with ⟨rfl, _⟩ | ⟨g, cap, cur, rfl, hb, hgb, _⟩
    · simp [Value.ownBlock] at e9
    · obtain rfl : k = g := by simpa [Value.ownBlock] using e9
      rw [hk] at hgb
      injection hgb with h1
      injection h1 with _ h2 _
      exact he h2.symm
theorem blk_own {β : Type} (B : Nat) (cs : Array Value) (t : TypeId) (fr : Nat × Nat) : Own (fun (_ : β) W => W.heap[B]? = some (.cells cs t fr)) := fun s X Y row hs hg hrow =>
  (hg.block B (Array.getElem?_eq_some_iff.1 hs).1 (fun e' => by obtain ⟨o, ho, hc⟩ := hrow B e'.symm; rw [hs] at ho; cases ho; cases hc)).trans hs
def rowv (l : List (ByteArray × Int)) : List Value := l.flatMap (fun x => [.string x.1, .int .i64 x.2])
theorem rowv_snoc (l : List (ByteArray × Int)) (x : ByteArray × Int) : rowv (l ++ [x]) = rowv l ++ [.string x.1, .int .i64 x.2] := by simp [rowv]
abbrev mkE (x : ByteArray × Int) : S35 := ⟨x.1, x.2⟩
theorem cell_two_new (w : World) (x y : Value) (t : TypeId) : ∀ j u, [x, y][j]? = some u → (w.alloc (.cells #[x, y] t)).cell? ((⟨w.heap.size, 0, none⟩ : Addr).add j) = some u := by
  intro j u hj
  have h := World.alloc_heap_new w (.cells #[x, y] t)
  match j, hj with
  | 0, hj => cases hj; show World.cell? _ ⟨_, 0, none⟩ = _; rw [blk_cell h]; rfl
  | 1, hj => cases hj; show World.cell? _ ⟨_, 1, none⟩ = _; rw [blk_cell h]; rfl
  | j + 2, hj => cases hj
theorem rowv_drop : ∀ (l : List (ByteArray × Int)) (j : Nat) (x : ByteArray × Int), l[j]? = some x → ((rowv l).drop (j * 2)).take 2 = [.string x.1, .int .i64 x.2]
  | [], j, x, h => by cases h
  | y :: l, 0, x, h => by cases h; rfl
  | y :: l, j + 1, x, h => by
    rw [show (j + 1) * 2 = j * 2 + 2 from by omega]
    exact rowv_drop l j x (by simpa using h)
theorem rowv_len (l : List (ByteArray × Int)) : (rowv l).length = l.length * 2 := by
  induction l with
  | nil => rfl
  | cons x l ih => rw [show rowv (x :: l) = .string x.1 :: .int .i64 x.2 :: rowv l from rfl, List.length_cons, List.length_cons, ih, List.length_cons]; omega
theorem rowv_reps (l : List (ByteArray × Int)) (w : World) : Reps (k35.K w) 2 (l.map mkE) (rowv l) := by
  refine ⟨by rw [rowv_len, List.length_map], fun j p hp => ?_⟩
  rw [List.getElem?_map] at hp
  obtain ⟨x, hx, rfl⟩ := Option.map_eq_some_iff.1 hp
  rw [rowv_drop l j x hx]
  exact k35_mk w (mkE x)
theorem own_got {w : World} {base : Nat} {v : Value} {l : List (ByteArray × Int)} (h : w.ownsRow base 35 2 v l.length (rowv l)) : ∃ A c, v = .slice A (l.map mkE).length c ∧ (l.map mkE).length ≤ c ∧ EntAt w A (l.map mkE) := by
  obtain ⟨A, c, e, hr⟩ := own_reads_row h (rowv_reps l w) (by rw [List.length_map])
  refine ⟨A, c, by rw [List.length_map]; exact e, ?_, by show ReadsRow _ _ _ _ _ _; rw [List.length_map]; exact hr⟩
  rw [List.length_map]
  rcases h.2 with ⟨h1, h2⟩ | ⟨g, cap, cur, h1, h2, h3, h4, h5⟩
  · omega
  · rw [e] at h1
    injection h1 with _ _ h9
    omega
theorem info35 : (Try.prog.info? 35).map (fun i => (i.zero, i.size, i.bytes)) = some (some (.agg #[.string ⟨#[]⟩, .int .i64 0]), 2, 24) := by kernel_rfl
end Go.Proofs.Ytjhgknagmiekeaa.V
set_option linter.unusedVariables false
set_option linter.unusedSimpArgs false
namespace Go.Proofs.Ytjhgknagmiekeaa.VF
open Go.RowKit Go.Lib Go.Proofs Go.Proofs.YtjhgknagmiekeaaW.PrintWords Go.Proofs.Ytjhgknagmiekeaa.T Go.Proofs.Ytjhgknagmiekeaa.V
attribute [local go_sem] Oper.semAt_some
def Post (n₁ : Nat) (M : Nat → Prop) (J Jx : List (ByteArray × Int) → World → Prop) (pre xs : List (ByteArray × Int)) (W : World) (e : Ending) (W' : World) : Prop :=
  (e = .returned (.bool true) ∧ J (pre ++ xs) W' ∧ KpM n₁ M W W') ∨ (e = .returned (.bool false) ∧ ∃ q, q <+: xs ∧ Jx (pre ++ q) W')
set_option maxRecDepth 100000 in
set_option maxHeartbeats 4000000 in
theorem skip_in (bp : Nat) (l n₁ NN : Nat) (M : Nat → Prop) (J Jx : List (ByteArray × Int) → World → Prop) (hJ : Abd J) (wI : World) (sk kp : ByteArray → Bool)
    (hsk : ∀ q W, Stnd wI n₁ M W → Calls Try.prog 78 #[.string q, .pointer (some ⟨bp, 0, none⟩)] W fun e W' => e = .returned (.bool (sk q)) ∧ Below W.heap.size W W') (m : Nat) (n : Nd) (p : ByteArray) (pre : List (ByteArray × Int)) (W : World)
    (hst : Stnd wI n₁ M W) (hJ0 : J pre W) (hs : sk p = true) :
    CallsIn Fence.wide m Try.prog 118 #[nodeV n.b p, .func (.func 78) #[] #[.pointer (some ⟨bp, 0, none⟩)], .func (.func 79) #[] #[.pointer (some ⟨bp, 0, none⟩)], .func (.yield l) #[] #[]] W (Post n₁ M J Jx pre (ovr sk kp p n) W) := by
  have hdd : ∀ k : Nat, (Fence.wide.depth.isSome = true → 1 ≤ k) := fun k h => by cases h
  have HB0 := Aside0.mk ((Below.refl W.heap.size W).alloc (Nat.le_refl _) (.cells #[.pointer (some ⟨n.b, 0, none⟩), .string p] 60))
  have q1 := Aside0.mk (fun W1 => pathC W1 n.b p)
  have HK := Aside0.mk (fun W1 (h : Below W.heap.size W W1) => hsk p W1 (hst.kp (KpM.of h)))
  rw [hs] at HK
  have e0 : ovr sk kp p n = [] := by rw [ovr_eq, hs]; rfl
  rw [e0]
  have HJ := Aside0.mk (And.intro hJ hJ0)
  clear hJ hst hJ0 hs e0 hsk
  unfold nodeV ptr at q1 ⊢
  refine callsIn_of_wp Try.func118 rfl trivial ?_ rfl
  simp only [Try.ntmps118, List.size_toArray, List.length_cons, List.length_nil, Nat.reduceAdd, Nat.reduceSub, Array.replicate_succ, Array.replicate_zero, List.push_toArray, List.append_toArray, List.nil_append, List.cons_append]
  gi_wp2_with (refine ⟨trivial, hdd _, ?_⟩; gi_at_call 94; refine (callsIn_wide.2 (q1.out _)).mono ?_)
  rintro e W1 ⟨rfl, B1⟩
  have HB1 := Aside0.mk (belowAt HB0.out B1)
  have q2 := Aside0.mk (HK.out W1 HB1.out)
  clear B1 q1 HK
  gi_wp2_with (refine ⟨trivial, hdd _, ?_⟩; gi_at_call 78; refine (callsIn_wide.2 q2.out).mono ?_)
  rintro e W2 ⟨rfl, B2⟩
  have HB2 := Aside0.mk (belowAt HB1.out B2)
  clear B2 q2
  gi_wp2
  go_ret
  exact .inl ⟨rfl, by rw [List.append_nil]; exact abide HJ.out.1 HJ.out.2 HB2.out, KpM.of HB2.out⟩
end Go.Proofs.Ytjhgknagmiekeaa.VF
set_option linter.unusedVariables false
set_option linter.unusedSimpArgs false
namespace Go.Proofs.Ytjhgknagmiekeaa.VF
open Go.RowKit Go.Lib Go.Proofs Go.Proofs.Ytjhgknagmiekeaa.T Go.Proofs.Ytjhgknagmiekeaa.V
open Go.Proofs.YtjhgknagmiekeaaW.PrintWords hiding blk_cell
attribute [local go_sem] Oper.semAt_some
theorem skip94 {K : Prop} (h : K) : Fence.wide.fn 94 ∧ K := ⟨trivial, h⟩
theorem rowForm {w : World} {base n : Nat} {v : Value} {ps : List Value} (h : w.ownsRow base 60 2 v n ps) : ∃ A c, v = .slice A n c ∧ True := by
  rcases h.2 with ⟨rfl, rfl⟩ | ⟨g, cap, cur, rfl, _⟩
  · exact ⟨none, 0, rfl, trivial⟩
  · exact ⟨_, _, rfl, trivial⟩
theorem ownsNode {w : World} {base n : Nat} {A : Option Addr} {c : Nat} {ps : List Value} (h : w.ownsRow base 60 2 (.slice A n c) n ps) (hn : 0 < n) : ∃ g cap cur, (A = some ⟨g, 0, none⟩ ∧ c = cap) ∧ base ≤ g ∧ w.heap[g]? = some (.cells cur 60 (0, 0)) ∧ ∀ j, j < n * 2 → cur[j]? = ps[j]? := by
  rcases h.2 with ⟨_, h0⟩ | ⟨g, cap, cur, e, hb, hg, hnc, hcm, hcs, ht⟩
  · omega
  · injection e with e1 _ e3
    refine ⟨g, cap, cur, ⟨e1, e3⟩, hb, hg, fun j hj => ?_⟩
    have e := List.getElem?_take_of_lt (l := cur.toList) hj
    rw [ht] at e
    rw [← Array.getElem?_toList]
    exact e.symm
theorem ownsRow_kp {w w' : World} {n₁ : Nat} {M : Nat → Prop} {base n : Nat} {v : Value} {ps : List Value} (h : w.ownsRow base 60 2 v n ps) (k : KpM n₁ M w w') : w'.ownsRow base 60 2 v n ps := by
  refine ⟨h.1, ?_⟩
  rcases h.2 with h0 | ⟨g, cap, cur, rfl, hb, hg, rest⟩
  · exact .inl h0
  · exact .inr ⟨g, cap, cur, rfl, hb, k.node g cur _ hg, rest⟩
set_option maxRecDepth 100000 in
set_option maxHeartbeats 8000000 in
theorem deep_in (bp : Nat) (l n₁ NN : Nat) (M : Nat → Prop) (J Jx : List (ByteArray × Int) → World → Prop) (hJ : Abd J)
    (hY : ∀ m pre (x : ByteArray × Int) W, J pre W → pre.length < NN → YieldAt Fence.wide m Try.prog l #[.string x.1, .int .i64 x.2] W fun e W' => (e = .returned (.bool true) ∧ J (pre ++ [x]) W' ∧ KpM n₁ M W W') ∨ (e = .returned (.bool false) ∧ Jx (pre ++ [x]) W'))
    (wI wB : World) (hkB : Kept wB wI) (hnB : wB.heap.size ≤ n₁) (hM : ∀ k, k < wB.heap.size → ¬ M k) (sk kp : ByteArray → Bool)
    (hsk : ∀ q W, Stnd wI n₁ M W → Calls Try.prog 78 #[.string q, .pointer (some ⟨bp, 0, none⟩)] W fun e W' => e = .returned (.bool (sk q)) ∧ Below W.heap.size W W')
    (hkp : ∀ q W, Stnd wI n₁ M W → Calls Try.prog 79 #[.string q, .pointer (some ⟨bp, 0, none⟩)] W fun e W' => e = .returned (.bool (kp q)) ∧ Below W.heap.size W W') (m : Nat) (n : Nd) (p : ByteArray) (pre : List (ByteArray × Int)) (W : World)
    (hn : NdAt wB n) (ho : Ok n) (hv : ∀ l, n.leaf = some l → ∃ v, l.val = .int .i64 v) (hp : ∀ k ∈ n.kids, p.size + k.label.size < 9000000000000000000)
    (hst : Stnd wI n₁ M W) (hnW : n₁ ≤ W.heap.size) (hJ0 : J pre W) (hN : pre.length + (ovr sk kp p n).length ≤ NN) (hs : sk p = false)
    (IH : ∀ i (hi : i < n.kids.length) pre' W', Stnd wI n₁ M W' → n₁ ≤ W'.heap.size → J pre' W' → pre'.length + (ovr sk kp (p ++ n.kids[i].label) n.kids[i]).length ≤ NN →
      CallsIn Fence.wide (m - 1) Try.prog 118 #[nodeV n.kids[i].b (p ++ n.kids[i].label), .func (.func 78) #[] #[.pointer (some ⟨bp, 0, none⟩)], .func (.func 79) #[] #[.pointer (some ⟨bp, 0, none⟩)], .func (.yield l) #[] #[]] W' (Post n₁ M J Jx pre' (ovr sk kp (p ++ n.kids[i].label) n.kids[i]) W')) :
    CallsIn Fence.wide m Try.prog 118 #[nodeV n.b p, .func (.func 78) #[] #[.pointer (some ⟨bp, 0, none⟩)], .func (.func 79) #[] #[.pointer (some ⟨bp, 0, none⟩)], .func (.yield l) #[] #[]] W (Post n₁ M J Jx pre (ovr sk kp p n) W) := by
  have hdd : ∀ k : Nat, (Fence.wide.depth.isSome = true → 1 ≤ k) := fun k h => by cases h
  have HB0 := Aside0.mk ((Below.refl W.heap.size W).alloc (Nat.le_refl _) (.cells #[.pointer (some ⟨n.b, 0, none⟩), .string p] 60))
  have hx0 := heap_alloc_new W (.cells #[.pointer (some ⟨n.b, 0, none⟩), .string p] 60)
  have q1 := Aside0.mk (fun W1 => pathC W1 n.b p)
  have qs := Aside0.mk (fun W1 (h : Stnd wI n₁ M W1) => hsk p W1 h)
  rw [hs] at qs
  have qp := Aside0.mk (fun W1 (h : Stnd wI n₁ M W1) => hkp p W1 h)
  have HkB := Aside0.mk (And.intro hkB (And.intro hnB hM))
  have HN := Aside0.mk (And.intro hn (And.intro ho (And.intro hp hv)))
  have HS0 := Aside0.mk hst
  have HnW := Aside0.mk hnW
  have HJa := Aside0.mk hJ
  have HJ0 := Aside0.mk hJ0
  have HY := Aside0.mk hY
  have HNN := Aside0.mk hN
  have HSk := Aside0.mk hs
  have HIH := Aside0.mk IH
  have hfew := ho.few
  obtain ⟨len, elen⟩ : ∃ len, n.kids.length = len := ⟨_, rfl⟩
  have HLen := Aside0.mk elen
  have hl256 : len ≤ 256 := by omega
  have HX0 := Aside0.mk hx0
  have HStd := Aside0.mk (fun W1 (h : Below W.heap.size W W1) => hst.kp (KpM.of h))
  have hbox : ∀ W1, Below (W.alloc (.cells #[.pointer (some ⟨n.b, 0, none⟩), .string p] 60)).heap.size (W.alloc (.cells #[.pointer (some ⟨n.b, 0, none⟩), .string p] 60)) W1 → W1.heap[W.heap.size]? = some (.cells #[.pointer (some ⟨n.b, 0, none⟩), .string p] 60 (0, 0)) := fun W1 h => (Kept.of h).at hx0
  have HBox := Aside0.mk hbox
  clear hkB hnB hM hn ho hp hv hst hnW hJ hJ0 hY hN hs IH hfew elen hx0 hbox hsk hkp
  unfold nodeV ptr at q1 ⊢
  refine callsIn_of_wp Try.func118 rfl trivial ?_ rfl
  simp only [Try.ntmps118, List.size_toArray, List.length_cons, List.length_nil, Nat.reduceAdd, Nat.reduceSub, Array.replicate_succ, Array.replicate_zero, List.push_toArray, List.append_toArray, List.nil_append, List.cons_append]
  gi_wp2_with (refine ⟨trivial, hdd _, ?_⟩; gi_at_call 94; refine (callsIn_wide.2 (q1.out _)).mono ?_)
  rintro e W1 ⟨rfl, B1⟩
  have HA1 := Aside0.mk B1
  have q2 := Aside0.mk (qs.out W1 (HStd.out W1 (belowAt HB0.out B1)))
  clear B1 qs
  gi_wp2_with (refine ⟨trivial, hdd _, ?_⟩; gi_at_call 78; refine (callsIn_wide.2 q2.out).mono ?_)
  rintro e W2 ⟨rfl, B2⟩
  have HA2 := Aside0.mk (belowAt HA1.out B2)
  have hb2 := HBox.out W2 HA2.out
  have b20 : W2.cell? ⟨W.heap.size, 0, none⟩ = some (.pointer (some ⟨n.b, 0, none⟩)) := by rw [blk_cell hb2]; rfl
  have b21 : W2.cell? ⟨W.heap.size, 1, none⟩ = some (.string p) := by rw [blk_cell hb2]; rfl
  have HS2 := Aside0.mk (HStd.out W2 (belowAt HB0.out HA2.out))
  have q3 := Aside0.mk (valueC W2 n p (NdAt.keep (HS2.out.kept HkB.out.1 HkB.out.2.1 HkB.out.2.2) n HN.out.1))
  clear B2 q2 hb2 HA1
  cases hlf : n.leaf with
  | none =>
    rw [hlf] at q3
    have HLf := Aside0.mk hlf
    unfold lookV nodeV ptr at q3
    clear hlf
    gi_wp2_with (refine ⟨trivial, hdd _, ?_⟩; gi_at_call 93; refine (callsIn_wide.2 q3.out).mono ?_)
    rintro e W3 ⟨rfl, B3⟩
    have HA3 := Aside0.mk (belowAt HA2.out B3)
    have hb3 := HBox.out W3 HA3.out
    have b30 : W3.cell? ⟨W.heap.size, 0, none⟩ = some (.pointer (some ⟨n.b, 0, none⟩)) := by rw [blk_cell hb3]; rfl
    have b31 : W3.cell? ⟨W.heap.size, 1, none⟩ = some (.string p) := by rw [blk_cell hb3]; rfl
    clear B3 q3 hb3 b20 b21
    gi_wp2
    repeat (first | (refine ⟨fun _ h => (by cases h), ?_⟩; gi_wp2) | ((with_reducible refine skip94 ?_); gi_wp2))
    have HSt := Aside0.mk (HStd.out W3 (belowAt HB0.out HA3.out))
    have HKp := Aside0.mk (KpM.of (n₁ := n₁) (M := M) (belowAt HB0.out HA3.out))
    have HJc : Aside0 (J (pre ++ ownE kp p n.leaf) W3) := ⟨by rw [HLf.out]; show J (pre ++ []) W3; rw [List.append_nil]; exact abide HJa.out HJ0.out (belowAt HB0.out HA3.out)⟩
    have HK := Aside0.mk (HSt.out.kept HkB.out.1 HkB.out.2.1 HkB.out.2.2)
    have qk := Aside0.mk (kidsO W3 n p (NdAt.keep HK.out n HN.out.1) HN.out.2.1 HN.out.2.2.1)
    unfold nodeV ptr at qk
    gi_wp2_with (refine ⟨trivial, hdd _, ?_⟩; gi_at_call 95; refine (callsIn_wide.2 qk.out).mono ?_)
    rintro e Wd ⟨v, rfl, ho, Bd⟩
    obtain ⟨A, c, ev, hrow⟩ := rowForm ho
    rw [HLen.out] at ho ev
    subst ev
    have HRow := Aside0.mk ho
    have HSd := Aside0.mk (HSt.out.kp (KpM.of Bd))
    have HKd := Aside0.mk (HKp.out.trans (KpM.of Bd))
    have HJd := Aside0.mk (abide HJa.out HJc.out Bd)
    have HWd := Aside0.mk (Nat.le_trans HnW.out (HKp.out.trans (KpM.of Bd)).size)
    clear ho hrow Bd qk HK HSt HKp HJc
    gi_wp2
    gi_loopw [12, 40] (fun v12 v40 wr => ∃ j : Nat, v40 = .int .i64 (j : Int) ∧ Aside0 (j ≤ len) ∧ Aside0 (J (pre ++ (ownE kp p n.leaf ++ ovrs sk kp p (n.kids.take j))) wr) ∧ Aside0 (Stnd wI n₁ M wr) ∧ Aside0 (KpM n₁ M W wr) ∧ Aside0 (wr.ownsRow (W3.heap.size + 1) 60 2 (.slice A len c) len (flatK p n.kids)))
      (fun v12 v40 wr => len - (RowKit.intOf v40).toNat)
    case atStart => exact ⟨0, rfl, ⟨Nat.zero_le _⟩, ⟨by simpa [ovrs] using HJd.out⟩, HSd, HKd, HRow⟩
    case round =>
      obtain ⟨j, rfl, HI, HJr, HSr, HKr, HRr⟩ := hrel
      by_cases hlt : j < len
      · have hj' : j < n.kids.length := by rw [HLen.out]; exact hlt
        obtain ⟨g, cap, cur, eg, hgb, hgg, hgc⟩ := ownsNode HRr.out (by omega)
        obtain ⟨rfl, rfl⟩ := eg
        have hf := flatK_get p n.kids j hj'
        have hn2 : j * 2 + 1 < len * 2 := by omega
        have c0 : wr.cell? ⟨g, j * 2, none⟩ = some (.pointer (some ⟨n.kids[j].b, 0, none⟩)) := by rw [blk_cell hgg, hgc (j * 2) (by omega), hf.1]; rfl
        have c1 : wr.cell? ⟨g, j * 2 + 1, none⟩ = some (.string (p ++ n.kids[j].label)) := by rw [blk_cell hgg, hgc (j * 2 + 1) hn2, hf.2]
        have hB2 := (Below.refl wr.heap.size wr).alloc (Nat.le_refl _) (.cells #[.pointer (some ⟨n.kids[j].b, 0, none⟩), .string (p ++ n.kids[j].label)] 60)
        have HB2 := Aside0.mk hB2
        have epre : ovr sk kp p n = ownE kp p n.leaf ++ ovrs sk kp p n.kids := by rw [ovr_eq, HSk.out]; rfl
        have hpt := ovrs_take sk kp p n.kids j hj'
        have hpp := ovrs_pre sk kp p n.kids (j + 1)
        have hNN : (pre ++ (ownE kp p n.leaf ++ ovrs sk kp p (n.kids.take j))).length + (ovr sk kp (p ++ n.kids[j].label) n.kids[j]).length ≤ NN := by
          have h1 := HNN.out
          rw [epre] at h1
          have h2 := hpp.length_le
          rw [hpt] at h2
          simp only [List.length_append] at h1 h2 ⊢
          omega
        have q9 := Aside0.mk (HIH.out j hj' _ _ (HSr.out.kp (KpM.of hB2)) (Nat.le_trans (Nat.le_trans HnW.out HKr.out.size) hB2.size) (abide HJa.out HJr.out hB2) hNN)
        have HPT := Aside0.mk (And.intro epre (And.intro hpt hpp))
        obtain ⟨kb, ekb⟩ : ∃ kb, n.kids[j].b = kb := ⟨_, rfl⟩
        obtain ⟨kp2, ekp⟩ : ∃ kp2, p ++ n.kids[j].label = kp2 := ⟨_, rfl⟩
        have HOv := Aside0.mk (show ovr sk kp (p ++ n.kids[j].label) n.kids[j] = ovr sk kp kp2 n.kids[j] by rw [ekp])
        rw [ekb, ekp] at q9 HB2
        rw [ekb] at c0
        rw [ekp] at c1
        have hltI : (j : Int) < (len : Int) := by omega
        have ew : wrap64 ((j : Int) + 1) = (j : Int) + 1 := by unfold wrap64; omega
        clear hf hn2 hgb hgg hgc hB2 epre hpt hpp hNN ekb ekp
        unfold nodeV ptr at q9
        gi_wp2_with (refine ⟨trivial, hdd _, ?_⟩; gi_at_call 118; refine q9.out.mono ?_)
        rintro e Wz (⟨rfl, hjz, hkz⟩ | ⟨rfl, q, hq, hxz⟩)
        · have HZ := Aside0.mk (And.intro hjz hkz)
          clear hjz hkz q9
          gi_wp2
          go_roundw
          case rel =>
            have hk2 := (KpM.of HB2.out).trans HZ.out.2
            refine ⟨j + 1, by simp, ⟨hlt⟩, ⟨?_⟩, ⟨HSr.out.kp hk2⟩, ⟨HKr.out.trans hk2⟩, ⟨ownsRow_kp HRr.out hk2⟩⟩
            have h1 := HZ.out.1
            rw [List.append_assoc, List.append_assoc, ← HOv.out, ← HPT.out.2.1] at h1
            exact h1
          case measure => simp [RowKit.intOf]; (try rw [ew]); omega
        · have HZ := Aside0.mk (And.intro hq hxz)
          clear hq hxz q9
          gi_wp2
          go_ret
          refine .inr ⟨rfl, ownE kp p n.leaf ++ ovrs sk kp p (n.kids.take j) ++ q, ?_, ?_⟩
          · rw [HPT.out.1, List.append_assoc]
            refine (List.prefix_append_right_inj _).2 (List.IsPrefix.trans ?_ HPT.out.2.2)
            rw [HPT.out.2.1, HOv.out]
            exact (List.prefix_append_right_inj _).2 HZ.out.1
          · rw [← List.append_assoc]; exact HZ.out.2
      · have hjl : j = len := by have := HI.out; omega
        subst hjl
        gi_wp2
        go_ret
        refine .inl ⟨rfl, ?_, HKr.out⟩
        have h1 := HJr.out
        rw [List.take_of_length_le (by rw [HLen.out]; exact Nat.le_refl _)] at h1
        rw [ovr_eq, HSk.out]
        exact h1
  | some lf =>
    obtain ⟨v, hvv⟩ := HN.out.2.2.2 lf hlf
    rw [hlf] at q3
    unfold lookV at q3
    simp only [hvv] at q3
    have HLf := Aside0.mk hlf
    have HVal := Aside0.mk hvv
    unfold nodeV ptr at q3
    clear hlf hvv
    cases hkpp : kp p with
    | false =>
      have HKpp := Aside0.mk hkpp
      clear hkpp
      gi_wp2_with (refine ⟨trivial, hdd _, ?_⟩; gi_at_call 93; refine (callsIn_wide.2 q3.out).mono ?_)
      rintro e W3 ⟨rfl, B3⟩
      have HA3 := Aside0.mk (belowAt HA2.out B3)
      have hb3 := HBox.out W3 HA3.out
      have b30 : W3.cell? ⟨W.heap.size, 0, none⟩ = some (.pointer (some ⟨n.b, 0, none⟩)) := by rw [blk_cell hb3]; rfl
      have b31 : W3.cell? ⟨W.heap.size, 1, none⟩ = some (.string p) := by rw [blk_cell hb3]; rfl
      clear B3 q3 hb3 b20 b21
      gi_wp2_with (refine ⟨trivial, hdd _, ?_⟩; gi_at_call 94; refine (callsIn_wide.2 (q1.out _)).mono ?_)
      rintro e W4 ⟨rfl, B4⟩
      have HA4 := Aside0.mk (belowAt HA3.out B4)
      have q4 := Aside0.mk (qp.out W4 (HStd.out W4 (belowAt HB0.out HA4.out)))
      rw [HKpp.out] at q4
      clear B4
      gi_wp2_with (refine ⟨trivial, hdd _, ?_⟩; gi_at_call 79; refine (callsIn_wide.2 q4.out).mono ?_)
      rintro e W5 ⟨rfl, B5⟩
      have HA5 := Aside0.mk (belowAt HA4.out B5)
      have hb5 := HBox.out W5 HA5.out
      have b50 : W5.cell? ⟨W.heap.size, 0, none⟩ = some (.pointer (some ⟨n.b, 0, none⟩)) := by rw [blk_cell hb5]; rfl
      have b51 : W5.cell? ⟨W.heap.size, 1, none⟩ = some (.string p) := by rw [blk_cell hb5]; rfl
      clear B5 q4 hb5 b30 b31
      gi_wp2
      repeat (first | (refine ⟨fun _ h => (by cases h), ?_⟩; gi_wp2) | ((with_reducible refine skip94 ?_); gi_wp2))
      have HSt := Aside0.mk (HStd.out W5 (belowAt HB0.out HA5.out))
      have HKp := Aside0.mk (KpM.of (n₁ := n₁) (M := M) (belowAt HB0.out HA5.out))
      have HJc : Aside0 (J (pre ++ ownE kp p n.leaf) W5) := ⟨by rw [HLf.out]; show J (pre ++ (if kp p = true then [(p, valI lf.val)] else [])) W5; rw [HKpp.out]; show J (pre ++ []) W5; rw [List.append_nil]; exact abide HJa.out HJ0.out (belowAt HB0.out HA5.out)⟩
      have HK := Aside0.mk (HSt.out.kept HkB.out.1 HkB.out.2.1 HkB.out.2.2)
      have qk := Aside0.mk (kidsO W5 n p (NdAt.keep HK.out n HN.out.1) HN.out.2.1 HN.out.2.2.1)
      unfold nodeV ptr at qk
      gi_wp2_with (refine ⟨trivial, hdd _, ?_⟩; gi_at_call 95; refine (callsIn_wide.2 qk.out).mono ?_)
      rintro e Wd ⟨v, rfl, ho, Bd⟩
      obtain ⟨A, c, ev, hrow⟩ := rowForm ho
      rw [HLen.out] at ho ev
      subst ev
      have HRow := Aside0.mk ho
      have HSd := Aside0.mk (HSt.out.kp (KpM.of Bd))
      have HKd := Aside0.mk (HKp.out.trans (KpM.of Bd))
      have HJd := Aside0.mk (abide HJa.out HJc.out Bd)
      have HWd := Aside0.mk (Nat.le_trans HnW.out (HKp.out.trans (KpM.of Bd)).size)
      clear ho hrow Bd qk HK HSt HKp HJc
      gi_wp2
      gi_loopw [12, 40] (fun v12 v40 wr => ∃ j : Nat, v40 = .int .i64 (j : Int) ∧ Aside0 (j ≤ len) ∧ Aside0 (J (pre ++ (ownE kp p n.leaf ++ ovrs sk kp p (n.kids.take j))) wr) ∧ Aside0 (Stnd wI n₁ M wr) ∧ Aside0 (KpM n₁ M W wr) ∧ Aside0 (wr.ownsRow (W5.heap.size + 1) 60 2 (.slice A len c) len (flatK p n.kids)))
        (fun v12 v40 wr => len - (RowKit.intOf v40).toNat)
      case atStart => exact ⟨0, rfl, ⟨Nat.zero_le _⟩, ⟨by simpa [ovrs] using HJd.out⟩, HSd, HKd, HRow⟩
      case round =>
        obtain ⟨j, rfl, HI, HJr, HSr, HKr, HRr⟩ := hrel
        by_cases hlt : j < len
        · have hj' : j < n.kids.length := by rw [HLen.out]; exact hlt
          obtain ⟨g, cap, cur, eg, hgb, hgg, hgc⟩ := ownsNode HRr.out (by omega)
          obtain ⟨rfl, rfl⟩ := eg
          have hf := flatK_get p n.kids j hj'
          have hn2 : j * 2 + 1 < len * 2 := by omega
          have c0 : wr.cell? ⟨g, j * 2, none⟩ = some (.pointer (some ⟨n.kids[j].b, 0, none⟩)) := by rw [blk_cell hgg, hgc (j * 2) (by omega), hf.1]; rfl
          have c1 : wr.cell? ⟨g, j * 2 + 1, none⟩ = some (.string (p ++ n.kids[j].label)) := by rw [blk_cell hgg, hgc (j * 2 + 1) hn2, hf.2]
          have hB2 := (Below.refl wr.heap.size wr).alloc (Nat.le_refl _) (.cells #[.pointer (some ⟨n.kids[j].b, 0, none⟩), .string (p ++ n.kids[j].label)] 60)
          have HB2 := Aside0.mk hB2
          have epre : ovr sk kp p n = ownE kp p n.leaf ++ ovrs sk kp p n.kids := by rw [ovr_eq, HSk.out]; rfl
          have hpt := ovrs_take sk kp p n.kids j hj'
          have hpp := ovrs_pre sk kp p n.kids (j + 1)
          have hNN : (pre ++ (ownE kp p n.leaf ++ ovrs sk kp p (n.kids.take j))).length + (ovr sk kp (p ++ n.kids[j].label) n.kids[j]).length ≤ NN := by
            have h1 := HNN.out
            rw [epre] at h1
            have h2 := hpp.length_le
            rw [hpt] at h2
            simp only [List.length_append] at h1 h2 ⊢
            omega
          have q9 := Aside0.mk (HIH.out j hj' _ _ (HSr.out.kp (KpM.of hB2)) (Nat.le_trans (Nat.le_trans HnW.out HKr.out.size) hB2.size) (abide HJa.out HJr.out hB2) hNN)
          have HPT := Aside0.mk (And.intro epre (And.intro hpt hpp))
          obtain ⟨kb, ekb⟩ : ∃ kb, n.kids[j].b = kb := ⟨_, rfl⟩
          obtain ⟨kp2, ekp⟩ : ∃ kp2, p ++ n.kids[j].label = kp2 := ⟨_, rfl⟩
          have HOv := Aside0.mk (show ovr sk kp (p ++ n.kids[j].label) n.kids[j] = ovr sk kp kp2 n.kids[j] by rw [ekp])
          rw [ekb, ekp] at q9 HB2
          rw [ekb] at c0
          rw [ekp] at c1
          have hltI : (j : Int) < (len : Int) := by omega
          have ew : wrap64 ((j : Int) + 1) = (j : Int) + 1 := by unfold wrap64; omega
          clear hf hn2 hgb hgg hgc hB2 epre hpt hpp hNN ekb ekp
          unfold nodeV ptr at q9
          gi_wp2_with (refine ⟨trivial, hdd _, ?_⟩; gi_at_call 118; refine q9.out.mono ?_)
          rintro e Wz (⟨rfl, hjz, hkz⟩ | ⟨rfl, q, hq, hxz⟩)
          · have HZ := Aside0.mk (And.intro hjz hkz)
            clear hjz hkz q9
            gi_wp2
            go_roundw
            case rel =>
              have hk2 := (KpM.of HB2.out).trans HZ.out.2
              refine ⟨j + 1, by simp, ⟨hlt⟩, ⟨?_⟩, ⟨HSr.out.kp hk2⟩, ⟨HKr.out.trans hk2⟩, ⟨ownsRow_kp HRr.out hk2⟩⟩
              have h1 := HZ.out.1
              rw [List.append_assoc, List.append_assoc, ← HOv.out, ← HPT.out.2.1] at h1
              exact h1
            case measure => simp [RowKit.intOf]; (try rw [ew]); omega
          · have HZ := Aside0.mk (And.intro hq hxz)
            clear hq hxz q9
            gi_wp2
            go_ret
            refine .inr ⟨rfl, ownE kp p n.leaf ++ ovrs sk kp p (n.kids.take j) ++ q, ?_, ?_⟩
            · rw [HPT.out.1, List.append_assoc]
              refine (List.prefix_append_right_inj _).2 (List.IsPrefix.trans ?_ HPT.out.2.2)
              rw [HPT.out.2.1, HOv.out]
              exact (List.prefix_append_right_inj _).2 HZ.out.1
            · rw [← List.append_assoc]; exact HZ.out.2
        · have hjl : j = len := by have := HI.out; omega
          subst hjl
          gi_wp2
          go_ret
          refine .inl ⟨rfl, ?_, HKr.out⟩
          have h1 := HJr.out
          rw [List.take_of_length_le (by rw [HLen.out]; exact Nat.le_refl _)] at h1
          rw [ovr_eq, HSk.out]
          exact h1
    | true =>
      have HKpp := Aside0.mk hkpp
      have eown : ownE kp p n.leaf = [(p, v)] := by rw [HLf.out]; show (if kp p = true then [(p, valI lf.val)] else []) = _; rw [hkpp, HVal.out]; rfl
      have HOwn := Aside0.mk eown
      have hlen1 : pre.length < NN := by
        have h1 := HNN.out
        rw [ovr_eq, HSk.out, eown] at h1
        simp at h1
        omega
      have HL1 := Aside0.mk hlen1
      clear hkpp eown hlen1
      gi_wp2_with (refine ⟨trivial, hdd _, ?_⟩; gi_at_call 93; refine (callsIn_wide.2 q3.out).mono ?_)
      rintro e W3 ⟨rfl, B3⟩
      have HA3 := Aside0.mk (belowAt HA2.out B3)
      have hb3 := HBox.out W3 HA3.out
      have b30 : W3.cell? ⟨W.heap.size, 0, none⟩ = some (.pointer (some ⟨n.b, 0, none⟩)) := by rw [blk_cell hb3]; rfl
      have b31 : W3.cell? ⟨W.heap.size, 1, none⟩ = some (.string p) := by rw [blk_cell hb3]; rfl
      clear B3 q3 hb3 b20 b21
      gi_wp2_with (refine ⟨trivial, hdd _, ?_⟩; gi_at_call 94; refine (callsIn_wide.2 (q1.out _)).mono ?_)
      rintro e W4 ⟨rfl, B4⟩
      have HA4 := Aside0.mk (belowAt HA3.out B4)
      have q4 := Aside0.mk (qp.out W4 (HStd.out W4 (belowAt HB0.out HA4.out)))
      rw [HKpp.out] at q4
      clear B4
      gi_wp2_with (refine ⟨trivial, hdd _, ?_⟩; gi_at_call 79; refine (callsIn_wide.2 q4.out).mono ?_)
      rintro e W5 ⟨rfl, B5⟩
      have HA5 := Aside0.mk (belowAt HA4.out B5)
      have hb5 := HBox.out W5 HA5.out
      have b50 : W5.cell? ⟨W.heap.size, 0, none⟩ = some (.pointer (some ⟨n.b, 0, none⟩)) := by rw [blk_cell hb5]; rfl
      have b51 : W5.cell? ⟨W.heap.size, 1, none⟩ = some (.string p) := by rw [blk_cell hb5]; rfl
      clear B5 q4 hb5 b30 b31
      gi_wp2_with (refine ⟨trivial, hdd _, ?_⟩; gi_at_call 94; refine (callsIn_wide.2 (q1.out _)).mono ?_)
      rintro e W6 ⟨rfl, B6⟩
      have HA6 := Aside0.mk (belowAt HA5.out B6)
      have hb6 := HBox.out W6 HA6.out
      have hy0 := HY.out (m - 1) pre (p, v) W6 (abide HJa.out HJ0.out (belowAt HB0.out HA6.out)) HL1.out
      obtain ⟨fn, tmps, assign, body, hy, hR⟩ := hy0
      dsimp only at hy
      have HR := Aside0.mk hR
      have HB6 := Aside0.mk hb6
      clear B6 hb6 hR b50 b51 q1
      gi_wp2
      refine ⟨hdd _, ?_⟩
      refine HR.out.mono ?_
      rintro e W7 (⟨rfl, hJ7, hk7⟩ | ⟨rfl, hx7⟩)
      · have hb7 := hk7.node _ _ _ HB6.out
        have b70 : W7.cell? ⟨W.heap.size, 0, none⟩ = some (.pointer (some ⟨n.b, 0, none⟩)) := by rw [blk_cell hb7]; rfl
        have b71 : W7.cell? ⟨W.heap.size, 1, none⟩ = some (.string p) := by rw [blk_cell hb7]; rfl
        have HSt := Aside0.mk ((HStd.out W6 (belowAt HB0.out HA6.out)).kp hk7)
        have HKp := Aside0.mk ((KpM.of (n₁ := n₁) (M := M) (belowAt HB0.out HA6.out)).trans hk7)
        have HJc : Aside0 (J (pre ++ ownE kp p n.leaf) W7) := ⟨by rw [HOwn.out]; exact hJ7⟩
        clear hJ7 hk7 hb7 HR hy
        gi_wp2
        have HK := Aside0.mk (HSt.out.kept HkB.out.1 HkB.out.2.1 HkB.out.2.2)
        have qk := Aside0.mk (kidsO W7 n p (NdAt.keep HK.out n HN.out.1) HN.out.2.1 HN.out.2.2.1)
        unfold nodeV ptr at qk
        gi_wp2_with (refine ⟨trivial, hdd _, ?_⟩; gi_at_call 95; refine (callsIn_wide.2 qk.out).mono ?_)
        rintro e Wd ⟨v, rfl, ho, Bd⟩
        obtain ⟨A, c, ev, hrow⟩ := rowForm ho
        rw [HLen.out] at ho ev
        subst ev
        have HRow := Aside0.mk ho
        have HSd := Aside0.mk (HSt.out.kp (KpM.of Bd))
        have HKd := Aside0.mk (HKp.out.trans (KpM.of Bd))
        have HJd := Aside0.mk (abide HJa.out HJc.out Bd)
        have HWd := Aside0.mk (Nat.le_trans HnW.out (HKp.out.trans (KpM.of Bd)).size)
        clear ho hrow Bd qk HK HSt HKp HJc
        gi_wp2
        gi_loopw [12, 40] (fun v12 v40 wr => ∃ j : Nat, v40 = .int .i64 (j : Int) ∧ Aside0 (j ≤ len) ∧ Aside0 (J (pre ++ (ownE kp p n.leaf ++ ovrs sk kp p (n.kids.take j))) wr) ∧ Aside0 (Stnd wI n₁ M wr) ∧ Aside0 (KpM n₁ M W wr) ∧ Aside0 (wr.ownsRow (W7.heap.size + 1) 60 2 (.slice A len c) len (flatK p n.kids)))
          (fun v12 v40 wr => len - (RowKit.intOf v40).toNat)
        case atStart => exact ⟨0, rfl, ⟨Nat.zero_le _⟩, ⟨by simpa [ovrs] using HJd.out⟩, HSd, HKd, HRow⟩
        case round =>
          obtain ⟨j, rfl, HI, HJr, HSr, HKr, HRr⟩ := hrel
          by_cases hlt : j < len
          · have hj' : j < n.kids.length := by rw [HLen.out]; exact hlt
            obtain ⟨g, cap, cur, eg, hgb, hgg, hgc⟩ := ownsNode HRr.out (by omega)
            obtain ⟨rfl, rfl⟩ := eg
            have hf := flatK_get p n.kids j hj'
            have hn2 : j * 2 + 1 < len * 2 := by omega
            have c0 : wr.cell? ⟨g, j * 2, none⟩ = some (.pointer (some ⟨n.kids[j].b, 0, none⟩)) := by rw [blk_cell hgg, hgc (j * 2) (by omega), hf.1]; rfl
            have c1 : wr.cell? ⟨g, j * 2 + 1, none⟩ = some (.string (p ++ n.kids[j].label)) := by rw [blk_cell hgg, hgc (j * 2 + 1) hn2, hf.2]
            have hB2 := (Below.refl wr.heap.size wr).alloc (Nat.le_refl _) (.cells #[.pointer (some ⟨n.kids[j].b, 0, none⟩), .string (p ++ n.kids[j].label)] 60)
            have HB2 := Aside0.mk hB2
            have epre : ovr sk kp p n = ownE kp p n.leaf ++ ovrs sk kp p n.kids := by rw [ovr_eq, HSk.out]; rfl
            have hpt := ovrs_take sk kp p n.kids j hj'
            have hpp := ovrs_pre sk kp p n.kids (j + 1)
            have hNN : (pre ++ (ownE kp p n.leaf ++ ovrs sk kp p (n.kids.take j))).length + (ovr sk kp (p ++ n.kids[j].label) n.kids[j]).length ≤ NN := by
              have h1 := HNN.out
              rw [epre] at h1
              have h2 := hpp.length_le
              rw [hpt] at h2
              simp only [List.length_append] at h1 h2 ⊢
              omega
            have q9 := Aside0.mk (HIH.out j hj' _ _ (HSr.out.kp (KpM.of hB2)) (Nat.le_trans (Nat.le_trans HnW.out HKr.out.size) hB2.size) (abide HJa.out HJr.out hB2) hNN)
            have HPT := Aside0.mk (And.intro epre (And.intro hpt hpp))
            obtain ⟨kb, ekb⟩ : ∃ kb, n.kids[j].b = kb := ⟨_, rfl⟩
            obtain ⟨kp2, ekp⟩ : ∃ kp2, p ++ n.kids[j].label = kp2 := ⟨_, rfl⟩
            have HOv := Aside0.mk (show ovr sk kp (p ++ n.kids[j].label) n.kids[j] = ovr sk kp kp2 n.kids[j] by rw [ekp])
            rw [ekb, ekp] at q9 HB2
            rw [ekb] at c0
            rw [ekp] at c1
            have hltI : (j : Int) < (len : Int) := by omega
            have ew : wrap64 ((j : Int) + 1) = (j : Int) + 1 := by unfold wrap64; omega
            clear hf hn2 hgb hgg hgc hB2 epre hpt hpp hNN ekb ekp
            unfold nodeV ptr at q9
            gi_wp2_with (refine ⟨trivial, hdd _, ?_⟩; gi_at_call 118; refine q9.out.mono ?_)
            rintro e Wz (⟨rfl, hjz, hkz⟩ | ⟨rfl, q, hq, hxz⟩)
            · have HZ := Aside0.mk (And.intro hjz hkz)
              clear hjz hkz q9
              gi_wp2
              go_roundw
              case rel =>
                have hk2 := (KpM.of HB2.out).trans HZ.out.2
                refine ⟨j + 1, by simp, ⟨hlt⟩, ⟨?_⟩, ⟨HSr.out.kp hk2⟩, ⟨HKr.out.trans hk2⟩, ⟨ownsRow_kp HRr.out hk2⟩⟩
                have h1 := HZ.out.1
                rw [List.append_assoc, List.append_assoc, ← HOv.out, ← HPT.out.2.1] at h1
                exact h1
              case measure => simp [RowKit.intOf]; (try rw [ew]); omega
            · have HZ := Aside0.mk (And.intro hq hxz)
              clear hq hxz q9
              gi_wp2
              go_ret
              refine .inr ⟨rfl, ownE kp p n.leaf ++ ovrs sk kp p (n.kids.take j) ++ q, ?_, ?_⟩
              · rw [HPT.out.1, List.append_assoc]
                refine (List.prefix_append_right_inj _).2 (List.IsPrefix.trans ?_ HPT.out.2.2)
                rw [HPT.out.2.1, HOv.out]
                exact (List.prefix_append_right_inj _).2 HZ.out.1
              · rw [← List.append_assoc]; exact HZ.out.2
          · have hjl : j = len := by have := HI.out; omega
            subst hjl
            gi_wp2
            go_ret
            refine .inl ⟨rfl, ?_, HKr.out⟩
            have h1 := HJr.out
            rw [List.take_of_length_le (by rw [HLen.out]; exact Nat.le_refl _)] at h1
            rw [ovr_eq, HSk.out]
            exact h1
      · have HX := Aside0.mk hx7
        clear hx7 HR hy
        gi_wp2
        go_ret
        refine .inr ⟨rfl, [(p, v)], ?_, HX.out⟩
        rw [ovr_eq, HSk.out, HOwn.out]
        exact List.prefix_append _ _
end Go.Proofs.Ytjhgknagmiekeaa.VF
set_option linter.unusedVariables false
set_option linter.unusedSimpArgs false
namespace Go.Proofs.Ytjhgknagmiekeaa.VF
open Go.RowKit Go.Lib Go.Proofs Go.Proofs.Ytjhgknagmiekeaa.T Go.Proofs.Ytjhgknagmiekeaa.V
open Go.Proofs.YtjhgknagmiekeaaW.PrintWords hiding blk_cell
theorem over_in (bp : Nat) (l n₁ NN : Nat) (M : Nat → Prop) (J Jx : List (ByteArray × Int) → World → Prop) (hJ : Abd J)
    (hY : ∀ m pre (x : ByteArray × Int) W, J pre W → pre.length < NN → YieldAt Fence.wide m Try.prog l #[.string x.1, .int .i64 x.2] W fun e W' => (e = .returned (.bool true) ∧ J (pre ++ [x]) W' ∧ KpM n₁ M W W') ∨ (e = .returned (.bool false) ∧ Jx (pre ++ [x]) W'))
    (wI wB : World) (hkB : Kept wB wI) (hnB : wB.heap.size ≤ n₁) (hM : ∀ k, k < wB.heap.size → ¬ M k) (sk kp : ByteArray → Bool)
    (hsk : ∀ q W, Stnd wI n₁ M W → Calls Try.prog 78 #[.string q, .pointer (some ⟨bp, 0, none⟩)] W fun e W' => e = .returned (.bool (sk q)) ∧ Below W.heap.size W W')
    (hkp : ∀ q W, Stnd wI n₁ M W → Calls Try.prog 79 #[.string q, .pointer (some ⟨bp, 0, none⟩)] W fun e W' => e = .returned (.bool (kp q)) ∧ Below W.heap.size W W') :
    ∀ (N : Nat) (n : Nd) (m : Nat) (p : ByteArray) (B : Nat) (pre : List (ByteArray × Int)) (W : World), nsz n ≤ N → NdAt wB n → Ok n → IntVals n → Fits n B → p.size + (B - n.label.size) < 9000000000000000000 →
      Stnd wI n₁ M W → n₁ ≤ W.heap.size → J pre W → pre.length + (ovr sk kp p n).length ≤ NN →
      CallsIn Fence.wide m Try.prog 118 #[nodeV n.b p, .func (.func 78) #[] #[.pointer (some ⟨bp, 0, none⟩)], .func (.func 79) #[] #[.pointer (some ⟨bp, 0, none⟩)], .func (.yield l) #[] #[]] W (Post n₁ M J Jx pre (ovr sk kp p n) W) := by
  intro N
  induction N with
  | zero =>
    intro n m p B pre W hN
    cases n with
    | mk _ _ _ ks _ => exfalso; unfold nsz at hN; omega
  | succ N ih =>
    intro n m p B pre W hN hn ho hv hf hB hst hnW hJ0 hNN
    have hfa : ∀ k ∈ n.kids, k.label.size ≤ B - n.label.size ∧ Fits k (B - n.label.size) := fun k hk => by
      have h1 := hf.parts.2.mem k hk
      exact ⟨h1.parts.1, h1⟩
    cases hs : sk p with
    | true => exact skip_in bp l n₁ NN M J Jx hJ wI sk kp hsk m n p pre W hst hJ0 hs
    | false =>
      refine deep_in bp l n₁ NN M J Jx hJ hY wI wB hkB hnB hM sk kp hsk hkp m n p pre W hn ho (fun l hl => ?_) (fun k hk => by have := (hfa k hk).1; omega) hst hnW hJ0 hNN hs (fun i hi pre' W' h1 h2 h3 h4 => ?_)
      · exact hv [] l (by rw [findT_nil]; exact hl)
      · have hka : n.kids[i] ∈ n.kids := List.getElem_mem _
        have hsz := nsz_kid hka
        have hfk := hfa _ hka
        refine ih n.kids[i] (m - 1) _ (B - n.label.size) pre' W' (by omega) (hn.parts.choose_spec.2.2.2.mem _ hka) (ho.parts.2.2.get _ hka) (fun r l e => hv (L n.kids[i].label ++ r) l (by rw [findT_kid ho hka]; exact e)) hfk.2 ?_ h1 h2 h3 h4
        rw [ByteArray.size_append]
        have := hfk.1
        omega
theorem below_drewA {B : Nat} {w w' : World} (h : Below B w w') : Below B w w'.drew := ⟨h.os, h.tape, h.output, h.size, h.block⟩
def Closed (w : World) (bp : Nat) (bt bs bk tb : Nat) : Prop := w.heap[bt]? = some (.cells #[ptr tb] 24 (0, 0)) ∧ w.heap[bs]? = some (.cells #[.func (.func 78) #[] #[.pointer (some ⟨bp, 0, none⟩)]] 110 (0, 0)) ∧ w.heap[bk]? = some (.cells #[.func (.func 79) #[] #[.pointer (some ⟨bp, 0, none⟩)]] 110 (0, 0))
set_option maxHeartbeats 4000000 in
set_option maxRecDepth 100000 in
theorem walked_calls (bp : Nat) (l n₁ NN : Nat) (M : Nat → Prop) (J Jx : List (ByteArray × Int) → World → Prop) (hJ : Abd J)
    (hY : ∀ m pre (x : ByteArray × Int) W, J pre W → pre.length < NN → YieldAt Fence.wide m Try.prog l #[.string x.1, .int .i64 x.2] W fun e W' => (e = .returned (.bool true) ∧ J (pre ++ [x]) W' ∧ KpM n₁ M W W') ∨ (e = .returned (.bool false) ∧ Jx (pre ++ [x]) W'))
    (wI wB : World) (hkB : Kept wB wI) (hnB : wB.heap.size ≤ n₁) (hM : ∀ k, k < wB.heap.size → ¬ M k) (sk kp : ByteArray → Bool)
    (hsk : ∀ q W, Stnd wI n₁ M W → Calls Try.prog 78 #[.string q, .pointer (some ⟨bp, 0, none⟩)] W fun e W' => e = .returned (.bool (sk q)) ∧ Below W.heap.size W W')
    (hkp : ∀ q W, Stnd wI n₁ M W → Calls Try.prog 79 #[.string q, .pointer (some ⟨bp, 0, none⟩)] W fun e W' => e = .returned (.bool (kp q)) ∧ Below W.heap.size W W')
    (tb : Nat) (root : Nd) (ht : Tr wB tb root) (bt bs bk : Nat) (W : World) (hc : Closed W bp bt bs bk tb) (hst : Stnd wI n₁ M W) (hnW : n₁ ≤ W.heap.size) (hJ0 : J [] W) (hNN : (ovr sk kp ⟨#[]⟩ root).length ≤ NN) :
    Calls Try.prog 117 #[.func (.yield l) #[] #[], ptr bt, ptr bs, ptr bk] W fun e W' => (∃ v, e = .returned v) ∧ ((∃ ys, ys = ovr sk kp ⟨#[]⟩ root ∧ J ys W') ∨ (∃ pre, pre <+: ovr sk kp ⟨#[]⟩ root ∧ Jx pre W')) := by
  obtain ⟨h1, h2, h3⟩ := hc
  have c1 : W.cell? ⟨bt, 0, none⟩ = some (.pointer (some ⟨tb, 0, none⟩)) := by rw [blk_cell h1]; rfl
  have c2 : W.cell? ⟨bs, 0, none⟩ = some (.func (.func 78) #[] #[.pointer (some ⟨bp, 0, none⟩)]) := by rw [blk_cell h2]; rfl
  have c3 : W.cell? ⟨bk, 0, none⟩ = some (.func (.func 79) #[] #[.pointer (some ⟨bp, 0, none⟩)]) := by rw [blk_cell h3]; rfl
  have hkW : Kept wB W := hst.kept hkB hnB hM
  have q1 := Aside0.mk (fun W1 (h : Below W.heap.size W W1) => rootC W1 tb root _ ((ht.at_.keep hkW).keep (Kept.of h)))
  have q2 : Aside0 (∀ W1, Below W.heap.size W W1 → Calls Try.prog 118 #[nodeV root.b ⟨#[]⟩, .func (.func 78) #[] #[.pointer (some ⟨bp, 0, none⟩)], .func (.func 79) #[] #[.pointer (some ⟨bp, 0, none⟩)], .func (.yield l) #[] #[]] W1 fun e W' => ∃ b, e = .returned (.bool b) ∧ Aside0 ((∃ ys, ys = ovr sk kp ⟨#[]⟩ root ∧ J ys W') ∨ (∃ pre, pre <+: ovr sk kp ⟨#[]⟩ root ∧ Jx pre W'))) := ⟨fun W1 h => by
    have q := callsIn_wide.1 (over_in bp l n₁ NN M J Jx hJ hY wI wB hkB hnB hM sk kp hsk hkp (nsz root) root 3 ⟨#[]⟩ 3999999999999 [] W1 (Nat.le_refl _) ht.at_.root ht.fine.ok ht.vals ht.fine.fits (by show 0 + _ < _; omega) (hst.kp (KpM.of h)) (Nat.le_trans hnW h.size) (abide hJ hJ0 h) (by simpa using hNN))
    refine q.mono ?_
    rintro e W' (⟨rfl, h1, h2⟩ | ⟨rfl, q, h1, h2⟩)
    · exact ⟨true, rfl, ⟨.inl ⟨_, rfl, by simpa using h1⟩⟩⟩
    · exact ⟨false, rfl, ⟨.inr ⟨q, h1, by simpa using h2⟩⟩⟩⟩
  have HB0 := Aside0.mk (below_drewA (Below.refl W.heap.size W))
  clear hkW hsk hkp ht h1 h2 h3 hst hnW hJ0 hNN hJ hY hkB hnB hM
  unfold nodeV ptr at q1 q2
  unfold ptr
  go_enter Try.func117, Try.ntmps117
  have HBn := HB0
  go_region_with (first
    | (go_at_call 42; refine (q1.out _ HBn.out).mono ?_; rintro e W1 ⟨rfl, B1⟩; have d2 := (Kept.of B1).cell c2; have d3 := (Kept.of B1).cell c3; have n0_ := Aside0.mk (belowAt HBn.out B1); clear HBn; have HBn := n0_; clear n0_ B1)
    | (go_at_call 118; refine (q2.out _ HBn.out).mono ?_; rintro e W2 ⟨b, rfl, HF⟩))
  all_goals
    refine bodyPost_end (results_none rfl _ _ _) rfl ?_
    exact ⟨⟨_, rfl⟩, HF.out⟩
end Go.Proofs.Ytjhgknagmiekeaa.VF
set_option linter.unusedVariables false
set_option linter.unusedSimpArgs false
namespace Go.Proofs.Ytjhgknagmiekeaa.VF
open Go.RowKit Go.Lib Go.Proofs Go.Proofs.Ytjhgknagmiekeaa.T Go.Proofs.Ytjhgknagmiekeaa.V
open Go.Proofs.YtjhgknagmiekeaaW.PrintWords hiding blk_cell
theorem seq (w : World) (n NN n₁ : Nat) (M : Nat → Prop) (wB : World) (hkB : Kept wB w) (hnB : wB.heap.size ≤ n₁) (hnw : n₁ ≤ w.heap.size) (hM : ∀ k, k < wB.heap.size → ¬ M k)
    (tb : Nat) (root : Nd) (ht : Tr wB tb root) (bp : Nat) (bt bs bk : Nat) (hc : Closed w bp bt bs bk tb) (p : ByteArray) (hp : Bx w bp p) (hbp : bp < n₁) (hMp : ¬ M bp) (hNN : (ovr (fun q => skF (L p) (L q)) (fun q => kpF (L p) (L q)) ⟨#[]⟩ root).length ≤ NN) :
    SeqStopsK Fence.wide n Try.prog 117 #[ptr bt, ptr bs, ptr bk] (fun x : ByteArray × Int => #[.string x.1, .int .i64 x.2]) (KpM n₁ M) (fun ys => ys = ovr (fun q => skF (L p) (L q)) (fun q => kpF (L p) (L q)) ⟨#[]⟩ root) (fun ys => ys <+: ovr (fun q => skF (L p) (L q)) (fun q => kpF (L p) (L q)) ⟨#[]⟩ root) NN w := by
  intro l J Jx W hw hJ hJx hY hJ0
  have hk : Kept w W := Kept.of hw
  have hc2 : Closed W bp bt bs bk tb := ⟨hk.at hc.1, hk.at hc.2.1, hk.at hc.2.2⟩
  have hbx : ∀ W1, Stnd W n₁ M W1 → Bx W1 bp p := fun W1 h => h bp _ (hk.at hp) hbp hMp
  refine callsIn_wide.2 (walked_calls bp l n₁ NN M J Jx (abd_of hJ) (fun m pre x W1 h1 h2 => yieldDepth m (hY pre x W1 h1 h2)) W wB (hkB.trans hk (Nat.le_trans hnB hnw)) hnB hM (fun q => skF (L p) (L q)) (fun q => kpF (L p) (L q))
    (fun q W1 h1 => skFC q p bp W1 (hbx W1 h1)) (fun q W1 h1 => kpFC q p bp W1 (hbx W1 h1)) tb root ht bt bs bk W hc2 (Stnd.refl W n₁ M) (Nat.le_trans hnw hw.size) hJ0 hNN)
end Go.Proofs.Ytjhgknagmiekeaa.VF
set_option linter.unusedVariables false
set_option linter.unusedSimpArgs false
namespace Go.Proofs.Ytjhgknagmiekeaa.N
open Go.RowKit Go.Proofs.Ytjhgknagmiekeaa.K Go.Proofs.YtjhgknagmiekeaaW.PrintWords Go.Proofs.YtjhgknagmiekeaaW.PrintLast
open Go.Proofs.Ytjhgknagmiekeaa.V (kpF kpU)
def PlAt (w : World) (v : Value) (idx : List Nat) : Prop := SlI w v (ints idx)
theorem PlAt.below {w w' : World} {v : Value} {idx : List Nat} (h : PlAt w v idx) (hb : Below w.heap.size w w') : PlAt w' v idx := SlI.below h hb
theorem fromRtC (w : World) (t : Rt) (h : Rok t) (hl : t.ks.length < 100000000000) (v0 v1 v2 v3 v4 : Value) (hm : RtAt w t v0 v1 v2 v3 v4) (lo : ByteArray) :
    Calls Try.prog 28 #[.agg #[v0, v1, v2, v3, v4], .string lo] w fun e w' => ∃ A n c, e = .returned (.slice A n c) ∧ PlAt w' (.slice A n c) (plc t.ks (fun k => kpF (T.L lo) (T.L k))) ∧ Below w.heap.size w w' := by
  obtain ⟨k, hk⟩ := (from_ev t h hl lo).rounds
  obtain ⟨⟨A0, c0, rfl, p0, q0⟩, ⟨A1, c1, rfl, p1, q1⟩, ⟨A2, c2, rfl, p2, q2⟩, ⟨A3, c3, rfl, p3, q3⟩, ⟨A4, c4, rfl, p4, q4⟩⟩ := hm
  refine (musterref04_From.calls k A0 c0 t.ks A1 c1 t.vs A2 c2 t.ls A3 c3 t.ps A4 c4 t.ms lo _ w q0 p0 q1 p1 q2 p2 q3 p3 q4 p4 hk).mono ?_
  rintro e w' ⟨v, rfl, hr, hb⟩
  obtain ⟨A, c, rfl, h1, h2⟩ := Kd.R_reads hr
  exact ⟨A, _, c, rfl, ⟨A, c, rfl, h1, h2⟩, hb⟩
def GoAt (w : World) (v : Value) (l : List S35) : Prop := ∃ A c, v = .slice A l.length c ∧ l.length ≤ c ∧ Kd.C k35 w A l.length l
theorem GoAt.below {w w' : World} {v : Value} {l : List S35} (h : GoAt w v l) (hb : Below w.heap.size w w') : GoAt w' v l := by
  obtain ⟨A, c, h1, h2, h3⟩ := h
  exact ⟨A, c, h1, h2, Kd.C_below h3 hb⟩
theorem theseC (w : World) (t : Rt) (h : Rok t) (v0 v1 v2 v3 v4 : Value) (hm : RtAt w t v0 v1 v2 v3 v4) (idx : List Nat) (hi : ∀ i ∈ idx, i < t.ks.length) (hl : idx.length < 100000000000) (g : Value) (hg : GoAt w g (atPl t idx)) (pv : Value) (hp : PlAt w pv idx) :
    Calls Try.prog 23 #[g, .agg #[v0, v1, v2, v3, v4], pv] w fun e w' => e = .returned (.bool true) ∧ Below w.heap.size w w' := by
  obtain ⟨k, hk⟩ := (these_ev t h idx hi hl).rounds
  obtain ⟨⟨A0, c0, rfl, p0, q0⟩, ⟨A1, c1, rfl, p1, q1⟩, ⟨A2, c2, rfl, p2, q2⟩, ⟨A3, c3, rfl, p3, q3⟩, ⟨A4, c4, rfl, p4, q4⟩⟩ := hm
  obtain ⟨A, c, rfl, h1, h2⟩ := hg
  obtain ⟨B, d, rfl, h3, h4⟩ := hp
  exact musterlaw04_these.calls k A c (atPl t idx) A0 c0 t.ks A1 c1 t.vs A2 c2 t.ls A3 c3 t.ps A4 c4 t.ms B d (ints idx) true w h2 h1 q0 p0 q1 p1 q2 p2 q3 p3 q4 p4 h4 h3 hk
theorem plc_len (xs : List ByteArray) (p : ByteArray → Bool) : (plc xs p).length ≤ xs.length := upto_le xs p xs.length
end Go.Proofs.Ytjhgknagmiekeaa.N
set_option linter.unusedVariables false
set_option linter.unusedSimpArgs false
namespace Go.Proofs.Ytjhgknagmiekeaa.V
open Go.Proofs.Ytjhgknagmiekeaa.VU (below_drewA)
open Go.RowKit Go.Lib Go.Proofs Go.Shelf
open Go.Proofs.Ytjhgknagmiekeaa.T Go.Proofs.Ytjhgknagmiekeaa.N Go.Proofs.Ytjhgknagmiekeaa.K
open Go.Proofs.YtjhgknagmiekeaaW.PrintWords hiding blk_cell
attribute [local go_sem] Oper.semAt_some
set_option maxRecDepth 100000 in
set_option maxHeartbeats 4000000 in
theorem fromLaw (A : Option Addr) (c : Nat) (l : List S35) (lo : ByteArray) (w : World) (hl : EntAt w A l) (hc : l.length ≤ c) (hlen : l.length < 10000000000) (hs : ∀ e ∈ l, e.f0.size < 4000000000000) :
    Calls Try.prog 5 #[.slice A l.length c, .string lo] w fun e w' => e = .returned (.bool true) ∧ Below w.heap.size w w' := by
  refine callsIn_wide.1 (show CallsIn Fence.wide 9 Try.prog 5 _ w _ from ?_)
  have qa := Aside0.mk (show CallsIn Fence.wide 8 Try.prog 20 _ w _ from callsIn_wide.2 (aliveC w))
  have qb := Aside0.mk (fun w1 (h : Below w.heap.size w w1) => show CallsIn Fence.wide 8 Try.prog 21 _ w1 _ from callsIn_wide.2 (builtC A c l w1 (Kd.C_below hl h) hc hlen hs))
  have qf := Aside0.mk (fun w1 tb => show CallsIn Fence.wide 8 Try.prog 27 _ w1 _ from callsIn_wide.2 (fromC tb lo w1))
  have HN := Aside0.mk hlen
  clear hl hc hlen hs
  unfold ptr at qb qf
  have hnf := funcNil
  refine callsIn_of_wp_marks Try.func5 rfl trivial ?_ rfl
  simp only [Try.ntmps5, List.size_toArray, List.length_cons, List.length_nil, Nat.reduceAdd, Nat.reduceSub, Array.replicate_succ, Array.replicate_zero, List.push_toArray, List.append_toArray, List.nil_append, List.cons_append]
  gi_wp2_with (first
    | (refine ⟨trivial, ?_⟩; gi_at_call 20; refine qa.out.mono ?_; rintro e w0 ⟨rfl, hb0⟩; have HB0 := Aside0.mk hb0; clear hb0)
    | (refine ⟨trivial, ?_⟩; gi_at_call 21; refine (qb.out _ HB0.out).mono ?_; rintro e w1 ⟨tb, root, t, v0, v1, v2, v3, v4, rfl, ht, hk, ha, hr, hl, hv, hb⟩; obtain ⟨⟨A0, n0, c0, rfl⟩, ⟨A1, n1, c1, rfl⟩, ⟨A2, n2, c2, rfl⟩, ⟨A3, n3, c3, rfl⟩, ⟨A4, n4, c4, rfl⟩⟩ := hr.forms; have H1 := Aside0.mk (And.intro ht (And.intro hk (And.intro ha (And.intro hr (And.intro hl hb))))); clear ht hk ha hr hl hv hb)
    | (refine ⟨trivial, ?_⟩; gi_at_call 27; refine (qf.out _ _).mono ?_; rintro e w2 ⟨bp, bt, bs, bk, rfl, h0, h1, h2, h3, h4, h5⟩; have H2 := Aside0.mk (And.intro h0 (And.intro h1 (And.intro h2 (And.intro h3 (And.intro h4 h5))))); clear h0 h1 h2 h3 h4 h5))
  clear qa qb qf hnf
  obtain ⟨h0, h1, h2, h3, h4, h5⟩ := H2.out
  simp only [World.size_alloc] at h0 h5
  have hsz2 : w1.heap.size + 1 + 1 ≤ w2.heap.size := by have := h5.size; simp only [World.size_alloc] at this; exact this
  have bG : Boxed w2 (w1.heap.size + 1) 22 (.slice none 0 0) := (h5.block _ (by omega)).trans (by have := World.alloc_heap_new (w1.alloc (Obj.cells #[Value.slice A0 n0 c0, Value.slice A1 n1 c1, Value.slice A2 n2 c2, Value.slice A3 n3 c3, Value.slice A4 n4 c4] 28)) (Obj.cells #[.slice none 0 0] 22); rwa [World.size_alloc] at this)
  have bM : w2.heap[w1.heap.size]? = some (.cells #[.slice A0 n0 c0, .slice A1 n1 c1, .slice A2 n2 c2, .slice A3 n3 c3, .slice A4 n4 c4] 28 (0, 0)) := (h5.block _ (by omega)).trans ((Below.heap_alloc _ _ _ (by simp)).trans (World.alloc_heap_new w1 _))
  have hB0 : Below w1.heap.size w1 w2 := (((Below.refl _ w1).alloc (Nat.le_refl _) _).alloc (by simp) _).trans (h5.mono (by omega))
  have ht := H1.out.1
  have hf := ht.fine.toGood
  have hov := ovr_eqs hf H1.out.2.2.1 (skF (L lo)) (kpF (L lo)) (hskF _)
  obtain ⟨NN, hNN⟩ : ∃ NN, (ovr (fun q => skF (L lo) (L q)) (fun q => kpF (L lo) (L q)) ⟨#[]⟩ root).length = NN := ⟨_, rfl⟩
  have hNl : NN ≤ t.ks.length := by
    rw [← hNN, hov]
    refine Nat.le_trans (List.length_filter_le _ _) ?_
    rw [List.length_zip]
    omega
  have hNs : NN < 10000000000 := by have := H1.out.2.2.2.2.1; have := HN.out; omega
  obtain ⟨i0, hi, hz0, hz1, hz2⟩ := info_parts info35
  have hml : 10000000000 ≤ maxLen := by decide
  refine wpIn_rangeFunc_ownG rfl (by decide) (gf := 117) (lb := #[ptr bt, ptr bs, ptr bk]) rfl trivial (enters_of Try.func117 (by kernel_rfl) rfl)
    (VF.seq w2 8 NN w2.heap.size (fun k => k = w1.heap.size + 1) w1 (Kept.of hB0) (by omega) (Nat.le_refl _) (fun k hk e => by omega) tb root ht bp bt bs bk ⟨h2, h3, h4⟩ lo h1 (Array.getElem?_eq_some_iff.1 h1).1 (fun e => by omega) (Nat.le_of_eq hNN))
    kpT (kpB (Nat.le_refl _)) (Below.refl _ _) (fun _ => rfl)
    (fun pre W => (∃ v, Boxed W (w1.heap.size + 1) 22 v ∧ W.ownsRow w2.heap.size 35 2 v pre.length (rowv pre) ∧ True) ∧ (W.heap[w1.heap.size]? = some (.cells #[.slice A0 n0 c0, .slice A1 n1 c1, .slice A2 n2 c2, .slice A3 n3 c3, .slice A4 n4 c4] 28 (0, 0)) ∧ Below w1.heap.size w1 W ∧ w2.heap.size ≤ W.heap.size))
    (fun _ _ _ => False)
    (OwnFrom.and (Own.from (holdsRow_own w2.heap.size (w1.heap.size + 1) 22 35 2 (fun pre : List (ByteArray × Int) => pre.length) rowv (fun _ _ => True)) _) (OwnFrom.and (Own.from (blk_own _ _ _ _) _) (OwnFrom.and (ownFrom_below (Nat.le_refl _) (by omega)) (fun s X Y row hs hg hr => Nat.le_trans hs hg.size))))
    (fun _ _ _ _ _ hs _ _ => hs)
    ⟨⟨_, bG, World.ownsRow_nil _ _ _ _, trivial⟩, bM, hB0, Nat.le_refl _⟩
    (fun x => { tmps := #[.slice A l.length c, .string lo, undef, undef, .bool false, .pointer (some ⟨tb, 0, none⟩), .pointer (some ⟨w1.heap.size, 0, none⟩), .pointer (some ⟨(w1.heap.size + 1), 0, none⟩), .func (.func 117) #[] #[.pointer (some ⟨bt, 0, none⟩), .pointer (some ⟨bs, 0, none⟩), .pointer (some ⟨bk, 0, none⟩)], .string x.1, .int .i64 x.2, .bool true, .bool false, .tuple #[.pointer (some ⟨tb, 0, none⟩), .agg #[.slice A0 n0 c0, .slice A1 n1 c1, .slice A2 n2 c2, .slice A3 n3 c3, .slice A4 n4 c4]], .slice A l.length c, .tuple #[.pointer (some ⟨tb, 0, none⟩), .agg #[.slice A0 n0 c0, .slice A1 n1 c1, .slice A2 n2 c2, .slice A3 n3 c3, .slice A4 n4 c4]], .pointer (some ⟨tb, 0, none⟩), .agg #[.slice A0 n0 c0, .slice A1 n1 c1, .slice A2 n2 c2, .slice A3 n3 c3, .slice A4 n4 c4], .pointer (some ⟨tb, 0, none⟩), .bool false, .pointer (some ⟨tb, 0, none⟩), .string lo, .func (.func 117) #[] #[.pointer (some ⟨bt, 0, none⟩), .pointer (some ⟨bs, 0, none⟩), .pointer (some ⟨bk, 0, none⟩)], .func (.func 117) #[] #[.pointer (some ⟨bt, 0, none⟩), .pointer (some ⟨bs, 0, none⟩), .pointer (some ⟨bk, 0, none⟩)], .bool false, .func (.func 117) #[] #[.pointer (some ⟨bt, 0, none⟩), .pointer (some ⟨bs, 0, none⟩), .pointer (some ⟨bk, 0, none⟩)], .string x.1, .int .i64 x.2, undef, undef, undef, undef, undef, undef, undef, undef, undef, undef, undef, undef], defers := [] }) ?assign ?body ?done ?stop
  case assign =>
    intro l x W K hK
    gi_wp2
    exact hK
  case body =>
    rintro l pre x W ⟨⟨v, hv, hrow, -⟩, hbm, hB, hW⟩ hlt
    have hc := hv.cell
    gi_wp2_with (gi_at_builtin; refine wpListIn_append_own _ rfl _ _ 22 rfl w2.heap.size 35 i0 (.agg #[.string ⟨#[]⟩, .int .i64 0]) 2 24 Try.underlying22 hi hz0 hz1 hz2 rfl (by decide) _ _ _ rfl (hrow.alloc _) ⟨W.heap.size, 0, none⟩ 1 1 [.string x.1, .int .i64 x.2] rfl rfl (cell_two_new _ _ _ _) (by simp [Value.oneCell']) (by omega) (by omega) (by simp; omega) ?_; intro v' w1' hown' hgrow _; obtain ⟨g', cap', rfl⟩ := ownsRow_succ hown'; obtain ⟨hv1, hv2, hr2, hk2, hb2, hkp, hlow⟩ := appended2 (n₀ := w1.heap.size) (M := fun k => k = w1.heap.size + 1) hv (by decide) (by decide) (by decide) hrow hW (by omega) (by omega) rfl hown' hgrow; have hc1 := hv1.cell; have hf1 := hv1.frozen)
    exact ⟨hk2.from _, hkp, ⟨⟨_, hv2, by rw [List.length_append, rowv_snoc]; exact hr2, trivial⟩, (hlow _ (by omega) (by omega)).trans hbm, hB.trans hb2, Nat.le_trans hW hb2.size⟩⟩
  case done =>
    rintro D ys W hD e9 ⟨⟨v, hv, hrow, -⟩, hbm, hB, hW⟩ hK
    obtain ⟨Ag, cg, rfl, hg1, hg2⟩ := own_got hrow
    have hgot : GoAt W (.slice Ag (ys.map mkE).length cg) (atPl t (plc t.ks (fun k => kpF (L lo) (L k)))) := by
      rw [← got_eq t H1.out.2.1, ← hov, ← e9]
      exact ⟨Ag, cg, rfl, hg1, hg2⟩
    obtain ⟨ng, eng⟩ : ∃ ng, (ys.map mkE).length = ng := ⟨_, rfl⟩
    rw [eng] at hgot hv
    have hl8 : t.ks.length < 100000000000 := by have := H1.out.2.2.2.2.1; have := HN.out; omega
    have hrt := H1.out.2.2.2.1.below hB
    have q1 := Aside0.mk (fun W1 (h : Below W.heap.size W W1) => show CallsIn Fence.wide 8 Try.prog 28 _ W1 _ from callsIn_wide.2 (fromRtC W1 t H1.out.2.1 hl8 _ _ _ _ _ (hrt.below h) lo))
    have q2 := Aside0.mk (fun W1 (h : Below W.heap.size W W1) pv (hp : PlAt W1 pv (plc t.ks (fun k => kpF (L lo) (L k)))) => show CallsIn Fence.wide 8 Try.prog 23 _ W1 _ from callsIn_wide.2 (theseC W1 t H1.out.2.1 _ _ _ _ _ (hrt.below h) (plc t.ks (fun k => kpF (L lo) (L k))) (fun i hi => plc_mem hi) (by have := plc_len t.ks (fun k => kpF (L lo) (L k)); omega) _ (hgot.below h) pv hp))
    have g0 := hv.cell
    have m0 : W.cell? ⟨w1.heap.size, 0, none⟩ = some (.slice A0 n0 c0) := by rw [blk_cell hbm]; rfl
    have m1 : W.cell? ⟨w1.heap.size, 1, none⟩ = some (.slice A1 n1 c1) := by rw [blk_cell hbm]; rfl
    have m2 : W.cell? ⟨w1.heap.size, 2, none⟩ = some (.slice A2 n2 c2) := by rw [blk_cell hbm]; rfl
    have m3 : W.cell? ⟨w1.heap.size, 3, none⟩ = some (.slice A3 n3 c3) := by rw [blk_cell hbm]; rfl
    have m4 : W.cell? ⟨w1.heap.size, 4, none⟩ = some (.slice A4 n4 c4) := by rw [blk_cell hbm]; rfl
    have HBn := Aside0.mk (below_drewA (Below.refl W.heap.size W))
    have HEND := Aside0.mk (And.intro hD (And.intro hK (And.intro hB hW)))
    clear hD hK hB hW hrt hgot hl8 hv hbm hg1 hg2 hrow eng hov hf ht hB0 bM bG h5 h4 h3 h2 h1 h0 hz2 hz1 hz0 hi
    gi_wp2_with fail
    first | (gi_region_with (first
      | (refine ⟨trivial, ?_⟩; gi_at_call 28; refine (q1.out _ HBn.out).mono ?_; rintro e W1 ⟨Ap, np, cp, rfl, hp, B1⟩; have d0 := (Kept.of B1).cell g0; have x0 := (Kept.of B1).cell m0; have x1 := (Kept.of B1).cell m1; have x2 := (Kept.of B1).cell m2; have x3 := (Kept.of B1).cell m3; have x4 := (Kept.of B1).cell m4; have HP := Aside0.mk hp; have n0_ := Aside0.mk (belowAt HBn.out B1); clear hp HBn; have HBn := n0_; clear n0_ B1)
      | (refine ⟨trivial, ?_⟩; gi_at_call 23; refine (q2.out _ HBn.out _ HP.out).mono ?_; rintro e W2 ⟨rfl, B2⟩; have n0_ := Aside0.mk (belowAt HBn.out B2); clear HBn; have HBn := n0_; clear n0_ B2))) | fail
    all_goals (
      gi_wp2_with fail
      have hK3 := (HBn.out.block D (Array.getElem?_eq_some_iff.1 HEND.out.2.1).1).trans HEND.out.2.1
      refine ⟨by simp, .inl ⟨_, _, rfl, run_takeDeferred hK3, ?_⟩⟩
      exact ⟨_, results_tmp rfl _ _ _, rfl, (belowAt (belowAt (belowAt HB0.out H1.out.2.2.2.2.2) HEND.out.2.2.1) HBn.out).trans (belowK_b (w := w2) (by have h1 := HB0.out.size; have h2 := H1.out.2.2.2.2.2.size; omega) _ D _ _ HEND.out.1 hK3 rfl rfl)⟩)
  case stop =>
    rintro D c pre W _ _ h _
    exact h.elim
end Go.Proofs.Ytjhgknagmiekeaa.V
set_option linter.unusedVariables false
set_option linter.unusedSimpArgs false
namespace Go.Proofs.Ytjhgknagmiekeaa.R
open Go.ChangeShapes Go.WideShapes Go.Deep Go.RowKit
open Go.Proofs.YtjhgknagmiekeaaW.PrintWords Go.Proofs.Ytjhgknagmiekeaa.K
section
variable {H : Type} {enc : TypeId × Value → H} {P : Program} {w : World} {base : Nat} {spare : Nat → Bool} {held : Bool}
theorem open_slice_fields {t e : TypeId} {fs : Array Field} {fuel : Nat} {cs : List Value} {x : DataW H × List MemPlace} (ht : P.underlying t = some (.slice e)) (he : P.underlying e = some (.struct fs))
    (hone : oneCellFields P fs = true) (hC : P.cellsOf e = fs.size) (h : DataW.trod enc P w base spare held fuel t cs = some x) :
    (cs = [.slice none 0 0] ∧ x = (.nil, [])) ∨
    ∃ (a : Addr) (len cap m : Nat) (D : Nat → DataW H) (Pl : Nat → List MemPlace), cs = [.slice (some a) len cap] ∧ base ≤ a.block ∧ len ≤ cap ∧ cap ≤ maxLen ∧ m = (if spare a.block then cap else len) ∧
      x = (.slice ((List.range len).map D) ((List.range (m - len)).map fun j => D (len + j)), MemPlace.row a (m * fs.size) ++ (List.range m).flatMap Pl) ∧
      ∀ i, i < m → ∃ (ys : List (DataW H × List MemPlace)) (n : Nat), D i = .agg (ys.map (·.1)) ∧ Pl i = ys.flatMap (·.2) ∧ ys.length = fs.size ∧
        ∀ (j : Nat) (f : Field), fs[j]? = some f → ∃ (v : Value) (y : DataW H × List MemPlace), w.cell? (a.add (i * fs.size + j)) = some v ∧ ys[j]? = some y ∧ DataW.trod enc P w base spare held n f.type [v] = some y := by
  rcases open_slice ht h with h0 | ⟨a, len, cap, m, n, D, Pl, hcs, hb, hl, hm, hmm, hx, hi⟩
  · exact .inl h0
  · refine .inr ⟨a, len, cap, m, D, Pl, hcs, hb, hl, hm, hmm, by rw [hC] at hx; exact hx, fun i him => ?_⟩
    obtain ⟨cs', hc, ht'⟩ := hi i him
    rw [hC] at hc
    obtain ⟨ys, n', hn', hy, hlen, hyl, hf⟩ := DataW.trod_struct he ht'
    obtain ⟨_, hcl, hat⟩ := World.cells?_some hc
    simp only [Prod.mk.injEq] at hy
    refine ⟨ys, n', hy.1, hy.2, hyl, fun j f hj => ?_⟩
    obtain ⟨ho, hk⟩ := hone_of hone j f hj
    have hjl : j < fs.size := (Array.getElem?_eq_some_iff.1 hj).1
    have hcell := hat j hjl
    have hv : cs'[j]? = some (cs'[j]'(by omega)) := List.getElem?_eq_getElem (by omega)
    have h1 := hf j f hj
    rw [ho, hk] at h1
    have hone' : (cs'.drop j).take 1 = [cs'[j]'(by omega)] := by
      rw [List.drop_eq_getElem_cons (by omega)]
      rfl
    rw [hone'] at h1
    have hys : ys[j]? = some (ys[j]'(by omega)) := List.getElem?_eq_getElem (by omega)
    refine ⟨_, _, ?_, hys, h1.trans hys⟩
    rw [← Go.Deep.add_add, hcell, hv]
end
def dE {H : Type} (p : S35) : DataW H := .agg [.lit (.string p.f0.data.toList), .lit (.int .i64 p.f1)]
theorem open_entries {H : Type} {enc : TypeId × Value → H} {W : World} {base : Nat} {spare : Nat → Bool} {held : Bool} {a : Option Addr} {len cap : Nat} {d : DataW H} {ps : List MemPlace}
    (h : DataW.Trod enc Try.prog W base spare held 22 (.slice a len cap) d ps) :
    ∃ l : List S35, len = l.length ∧ l.length ≤ cap ∧ Kd.C k35 W a l.length l ∧ ((d = .nil ∧ l = []) ∨ ∃ sp, d = .slice (l.map dE) sp) := by
  obtain ⟨fuel, hf⟩ := h
  rcases open_slice_fields (fs := #[_, _]) Try.underlying22 Try.underlying35 (by kernel_rfl) (by kernel_rfl) hf with ⟨hcs, hx⟩ | ⟨ad, len', cap', m, D, Pl, hcs, _, hl, hm, hmm, hx, hi⟩
  · simp [Value.cells] at hcs
    obtain ⟨rfl, rfl, rfl⟩ := hcs
    obtain ⟨rfl, _⟩ := Prod.mk.inj hx
    exact ⟨[], rfl, by simp, Kd.C_nil k35 W, .inl ⟨rfl, rfl⟩⟩
  · simp [Value.cells] at hcs
    obtain ⟨rfl, rfl, rfl⟩ := hcs
    obtain ⟨hx, _⟩ := Prod.mk.inj hx
    subst hx
    have hlm : len ≤ m := by rw [hmm]; split; exact hl; exact Nat.le_refl _
    have each : ∀ i : Nat, ∃ p : S35, i < len → D i = dE p ∧ W.cell? (ad.add (i * 2)) = some (.string p.f0) ∧ W.cell? (ad.add (i * 2 + 1)) = some (.int .i64 p.f1) := by
      intro i
      by_cases hil : i < len
      · obtain ⟨ys, n, hD, _, hyl, hj⟩ := hi i (by omega)
        obtain ⟨v0, y0, c0, e0, t0⟩ := hj 0 _ rfl
        obtain ⟨v1, y1, c1, e1, t1⟩ := hj 1 _ rfl
        obtain ⟨s0, q0, r0, w0⟩ := DataW.trod_string Try.underlying9 t0
        obtain ⟨n1, q1, r1, w1⟩ := DataW.trod_int Try.underlying3 t1
        simp only [List.cons.injEq, and_true] at q0 q1
        subst q0 q1 r0 r1
        refine ⟨⟨s0, n1⟩, fun _ => ⟨?_, c0, c1⟩⟩
        have hys : ys = [(.lit (.string s0.data.toList), []), (.lit (.int .i64 n1), [])] := by
          match ys, hyl, e0, e1 with
          | [a, b], _, e0, e1 => simp at e0 e1; rw [e0, e1]
        rw [hD, hys]
        rfl
      · exact ⟨⟨⟨#[]⟩, 0⟩, fun h => absurd h hil⟩
    obtain ⟨g, hg⟩ := Classical.axiomOfChoice each
    refine ⟨(List.range len).map g, by simp, by simpa using hl, ?_, .inr ⟨(List.range (m - len)).map fun j => D (len + j), ?_⟩⟩
    · have hlen : ((List.range len).map g).length = len := by simp
      rw [hlen]
      refine ⟨hlen, by unfold maxLen at hm; omega, fun _ => ⟨ad, rfl, fun j p hp => ?_⟩⟩
      have hj : j < len := by have := (List.getElem?_eq_some_iff.1 hp).1; rw [hlen] at this; exact this
      have hpe : p = g j := by
        rw [List.getElem?_map, List.getElem?_range hj] at hp
        simpa using hp.symm
      subst hpe
      obtain ⟨_, c0, c1⟩ := hg j hj
      refine ⟨_, rfl, k35_mk W (g j), fun i u hu => ?_⟩
      match i, hu with
      | 0, hu => simp at hu; subst hu; exact c0
      | 1, hu => simp at hu; subst hu; exact c1
    · congr 1
      rw [List.map_map]
      apply List.map_congr_left
      intro j hj
      exact (hg j (List.mem_range.1 hj)).1
def wt : List S35 → Nat
  | [] => 0
  | p :: ps => p.f0.size + 1 + wt ps
theorem wt_bulk {H : Type} (l : List S35) : wt l ≤ Rows.uptoBulkAll (l.map (dE (H := H))) := by
  induction l with
  | nil => exact Nat.zero_le _
  | cons p ps ih =>
    have e : p.f0.data.toList.length = p.f0.size := T.L_len _
    simp only [List.map_cons, Rows.uptoBulkAll, wt, dE, Rows.uptoBulk, e]
    omega
theorem wt_of {H : Type} {d : DataW H} {l : List S35} (h : (d = .nil ∧ l = []) ∨ ∃ sp, d = .slice (l.map dE) sp) : wt l ≤ Rows.uptoBulk d := by
  rcases h with ⟨rfl, rfl⟩ | ⟨sp, rfl⟩
  · exact Nat.zero_le _
  · have := wt_bulk (H := H) l
    simp only [Rows.uptoBulk]
    omega
theorem wt_len : ∀ (l : List S35), l.length ≤ wt l
  | [] => Nat.zero_le _
  | p :: ps => by have := wt_len ps; simp only [List.length_cons, wt]; omega
theorem wt_mem : ∀ (l : List S35) (p : S35), p ∈ l → p.f0.size ≤ wt l
  | q :: l, p, h => by
    simp only [wt]
    rcases List.mem_cons.1 h with e | e
    · rw [e]; omega
    · have := wt_mem l p e; omega
end Go.Proofs.Ytjhgknagmiekeaa.R
