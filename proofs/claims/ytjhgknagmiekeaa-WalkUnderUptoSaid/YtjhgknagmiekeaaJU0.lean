/- joined: V10g N8 V12 V11, and of N7 what the other claim left out -/
import Derived.Test.YtjhgknagmiekeaaJF15
import Derived.Test.YtjhgknagmiekeaaJF18
import Derived.Stop.RegionWithIn
import Derived.RangeFuncBox
import Derived.Test.YtjhgknagmiekeaaJF8
import Derived.Deep.RegionHeld3
import Derived.Test.YtjhgknagmiekeaaJF14
import Derived.Test.YtjhgknagmiekeaaJF2
import Derived.Test.YtjhgknagmiekeaaRows
import Derived.Test.YtjhgknagmiekeaaJF4
import Derived.Deep.Slices
import Derived.Deep.Fields
import Derived.ChangeSame
import Derived.SizedLaws
import Derived.ProofKit
import Derived.Test.YtjhgknagmiekeaaJF16
import Derived.Test.YtjhgknagmiekeaaJF17
set_option linter.unusedVariables false
set_option linter.unusedSimpArgs false
namespace Go.Proofs.Ytjhgknagmiekeaa.N
open Go.RowKit Go.Proofs.Ytjhgknagmiekeaa.K Go.Proofs.YtjhgknagmiekeaaW.PrintWords Go.Proofs.YtjhgknagmiekeaaW.PrintLast
open Go.Proofs.Ytjhgknagmiekeaa.V (valI ovr ovrs ownE ovr_eq pre skU kpU skF kpF skL)

theorem starts_pre (a b : ByteArray) : musterref01_Starts.f a b = some (pre (T.L a) (T.L b)) := V.pre_f a b
theorem under_ev (t : Rt) (h : Rok t) (hl : t.ks.length < 100000000000) (p : ByteArray) : Ev (fun k => musterref04_Under.f k t.ks t.vs t.ls t.ps t.ms p) (ints (plc t.ks (fun k => kpU (T.L p) (T.L k)))) := by
  have key : ∀ d i : Nat, t.ks.length - i = d → i ≤ t.ks.length → Ev (fun k => musterref04_Under.l0 k p (ints (upto t.ks (fun k => kpU (T.L p) (T.L k)) i)) t.ks (t.ks.length : Int) (i : Int)) (ints (plc t.ks (fun k => kpU (T.L p) (T.L k)))) := by
    intro d
    induction d with
    | zero =>
      intro i hd hi
      have e : i = t.ks.length := by omega
      subst e
      refine Ev.step (f := fun k => some (ints (plc t.ks (fun k => kpU (T.L p) (T.L k))))) (fun k => ?_) (Ev.now _)
      simp only [musterref04_Under.l0]
      rw [if_neg (by omega)]
      rfl
    | succ d ih =>
      intro i hd hi
      have hlt : i < t.ks.length := by omega
      have hi2 := ih (i + 1) (by omega) (by omega)
      have hul := upto_le t.ks (fun k => kpU (T.L p) (T.L k)) i
      refine Ev.step (fun k => ?_) hi2
      simp only [musterref04_Under.l0]
      rw [if_pos (by omega), if_pos (by omega), if_pos (by omega), rdOf_gd, wadd i (by omega), starts_pre, Option.bind_some, upto_succ]
      by_cases hb : pre (T.L (gd t.ks i)) (T.L p) = true
      · have e : kpU (T.L p) (T.L (gd t.ks i)) = true := hb
        rw [if_pos hb, if_pos e, if_pos (by rw [List.length_map]; omega), ints, ints, List.map_append]
        rfl
      · have e : ¬ kpU (T.L p) (T.L (gd t.ks i)) = true := hb
        rw [if_neg hb, if_neg e]
  exact key t.ks.length 0 (by omega) (by omega)
end Go.Proofs.Ytjhgknagmiekeaa.N
set_option linter.unusedVariables false
set_option linter.unusedSimpArgs false
namespace Go.Proofs.Ytjhgknagmiekeaa.V
open Go.Proofs.Ytjhgknagmiekeaa.VU (below_drewA)
open Go.RowKit Go.Lib Go.Proofs Go.Shelf
open Go.Proofs.Ytjhgknagmiekeaa.T Go.Proofs.Ytjhgknagmiekeaa.N Go.Proofs.Ytjhgknagmiekeaa.K
open Go.Proofs.YtjhgknagmiekeaaW.PrintWords hiding blk_cell
theorem own_weak {w : World} {b b' : Nat} {e : TypeId} {size : Nat} {v : Value} {n : Nat} {xs : List Value} (h : w.ownsRow b e size v n xs) (hb : b' ≤ b) : w.ownsRow b' e size v n xs := by
  refine ⟨h.1, ?_⟩
  rcases h.2 with h2 | ⟨g, cap, cur, h1, h2, h3⟩
  · exact .inl h2
  · exact .inr ⟨g, cap, cur, h1, Nat.le_trans hb h2, h3⟩
theorem appended2 {W w1 : World} {n₁ n₀ B : Nat} {t e : TypeId} {size : Nat} {v v' : Value} {k m : Nat} {xs ys : List Value} {tmp : Obj} {M : Nat → Prop}
    (hv : Boxed W B t v) (hte : t ≠ e) (ht : t ≠ 60) (he : e ≠ 60) (hrow : W.ownsRow n₁ e size v k xs) (hn₁ : n₁ ≤ W.heap.size) (hn₀ : n₀ ≤ n₁) (hB : n₀ ≤ B) (hM : M B)
    (hown' : w1.ownsRow n₁ e size v' m ys) (hgrow : (W.alloc tmp).grownBy w1 v.ownBlock) :
    Boxed w1 B t v ∧ Boxed (w1.setCell ⟨B, 0, none⟩ v') B t v' ∧ (w1.setCell ⟨B, 0, none⟩ v').ownsRow n₁ e size v' m ys ∧ KeepsOthers W (w1.setCell ⟨B, 0, none⟩ v') ∧ Below n₀ W (w1.setCell ⟨B, 0, none⟩ v') ∧ KpM n₁ M W (w1.setCell ⟨B, 0, none⟩ v') ∧ (∀ k, k < n₁ → k ≠ B → (w1.setCell ⟨B, 0, none⟩ v').heap[k]? = W.heap[k]?) := by
  obtain ⟨a1, a2, a3, a4, a5⟩ := hv.appended hte (own_weak hrow hn₀) (Nat.le_trans hn₀ hn₁) hB (own_weak hown' hn₀) hgrow
  have hne : ∀ k, k < n₁ → some k ≠ v.ownBlock := fun k hk e9 => by
    rcases hrow.2 with ⟨rfl, _⟩ | ⟨g, cap, cur, rfl, hb, _, _⟩
    · simp [Value.ownBlock] at e9
    · obtain rfl : k = g := by simpa [Value.ownBlock] using e9
      omega
  have hlow : ∀ k, k < n₁ → k ≠ B → (w1.setCell ⟨B, 0, none⟩ v').heap[k]? = W.heap[k]? := fun k hk hkB => by
    rw [Below.heap_setCell _ _ _ k hkB]
    exact (hgrow.block k (by rw [World.size_alloc]; omega) (hne k hk)).trans (Below.heap_alloc _ _ _ (by omega))
  refine ⟨a1, a2, hown'.kept (grownBy_setCell' w1 B v') (.inr (a1.not_row hte hown').symm), a4, a5, ⟨a5.size, fun k o hk h1 h2 => ?_, fun k cs fr hk => ?_⟩, hlow⟩
  · exact (hlow k h1 (fun e9 => h2 (by rw [e9]; exact hM))).trans hk
  · have hkB : k ≠ B := fun e9 => by
      subst e9
      rw [show W.heap[k]? = _ from hv] at hk
      injection hk with h1
      injection h1 with _ h2 _
      exact ht h2
    have hlt := (Array.getElem?_eq_some_iff.1 hk).1
    rw [Below.heap_setCell _ _ _ k hkB]
    refine (hgrow.block k (by rw [World.size_alloc]; omega) (fun e9 => ?_)).trans ((Below.heap_alloc _ _ _ (by omega)).trans hk)
    rcases hrow.2 with ⟨rfl, _⟩ | ⟨g, cap, cur, rfl, hb, hgb, _⟩
    · simp [Value.ownBlock] at e9
    · obtain rfl : k = g := by simpa [Value.ownBlock] using e9
      rw [hk] at hgb
      injection hgb with h1
      injection h1 with _ h2 _
      exact he h2.symm
/-- what a block of cells holds is the body's own -/
theorem blk_own {β : Type} (B : Nat) (cs : Array Value) (t : TypeId) (fr : Nat × Nat) : Own (fun (_ : β) W => W.heap[B]? = some (.cells cs t fr)) := fun s X Y row hs hg hrow =>
  (hg.block B (Array.getElem?_eq_some_iff.1 hs).1 (fun e' => by obtain ⟨o, ho, hc⟩ := hrow B e'.symm; rw [hs] at ho; cases ho; cases hc)).trans hs
def rowv (l : List (ByteArray × Int)) : List Value := l.flatMap (fun x => [.string x.1, .int .i64 x.2])
theorem rowv_snoc (l : List (ByteArray × Int)) (x : ByteArray × Int) : rowv (l ++ [x]) = rowv l ++ [.string x.1, .int .i64 x.2] := by simp [rowv]
abbrev mkE (x : ByteArray × Int) : S35 := ⟨x.1, x.2⟩
theorem cell_two_new (w : World) (x y : Value) (t : TypeId) : ∀ j u, [x, y][j]? = some u → (w.alloc (.cells #[x, y] t)).cell? ((⟨w.heap.size, 0, none⟩ : Addr).add j) = some u := by
  intro j u hj
  have h := World.alloc_heap_new w (.cells #[x, y] t)
  match j, hj with
  | 0, hj => cases hj; show World.cell? _ ⟨_, 0, none⟩ = _; rw [blk_cell h]; rfl
  | 1, hj => cases hj; show World.cell? _ ⟨_, 1, none⟩ = _; rw [blk_cell h]; rfl
  | j + 2, hj => cases hj
theorem rowv_drop : ∀ (l : List (ByteArray × Int)) (j : Nat) (x : ByteArray × Int), l[j]? = some x → ((rowv l).drop (j * 2)).take 2 = [.string x.1, .int .i64 x.2]
  | [], j, x, h => by cases h
  | y :: l, 0, x, h => by cases h; rfl
  | y :: l, j + 1, x, h => by
    rw [show (j + 1) * 2 = j * 2 + 2 from by omega]
    exact rowv_drop l j x (by simpa using h)
theorem rowv_len (l : List (ByteArray × Int)) : (rowv l).length = l.length * 2 := by
  induction l with
  | nil => rfl
  | cons x l ih => rw [show rowv (x :: l) = .string x.1 :: .int .i64 x.2 :: rowv l from rfl, List.length_cons, List.length_cons, ih, List.length_cons]; omega
theorem rowv_reps (l : List (ByteArray × Int)) (w : World) : Reps (k35.K w) 2 (l.map mkE) (rowv l) := by
  refine ⟨by rw [rowv_len, List.length_map], fun j p hp => ?_⟩
  rw [List.getElem?_map] at hp
  obtain ⟨x, hx, rfl⟩ := Option.map_eq_some_iff.1 hp
  rw [rowv_drop l j x hx]
  exact k35_mk w (mkE x)
theorem own_got {w : World} {base : Nat} {v : Value} {l : List (ByteArray × Int)} (h : w.ownsRow base 35 2 v l.length (rowv l)) : ∃ A c, v = .slice A (l.map mkE).length c ∧ (l.map mkE).length ≤ c ∧ EntAt w A (l.map mkE) := by
  obtain ⟨A, c, e, hr⟩ := own_reads_row h (rowv_reps l w) (by rw [List.length_map])
  refine ⟨A, c, by rw [List.length_map]; exact e, ?_, by show ReadsRow _ _ _ _ _ _; rw [List.length_map]; exact hr⟩
  rw [List.length_map]
  rcases h.2 with ⟨h1, h2⟩ | ⟨g, cap, cur, h1, h2, h3, h4, h5⟩
  · omega
  · rw [e] at h1
    injection h1 with _ _ h9
    omega
theorem info35 : (Try.prog.info? 35).map (fun i => (i.zero, i.size, i.bytes)) = some (some (.agg #[.string ⟨#[]⟩, .int .i64 0]), 2, 24) := by kernel_rfl
end Go.Proofs.Ytjhgknagmiekeaa.V
set_option linter.unusedVariables false
set_option linter.unusedSimpArgs false
namespace Go.Proofs.Ytjhgknagmiekeaa.N
open Go.RowKit Go.Proofs.Ytjhgknagmiekeaa.K Go.Proofs.YtjhgknagmiekeaaW.PrintWords Go.Proofs.YtjhgknagmiekeaaW.PrintLast
open Go.Proofs.Ytjhgknagmiekeaa.V (kpF kpU)
/-- the places, in memory -/
def PlAt (w : World) (v : Value) (idx : List Nat) : Prop := SlI w v (ints idx)
theorem PlAt.below {w w' : World} {v : Value} {idx : List Nat} (h : PlAt w v idx) (hb : Below w.heap.size w w') : PlAt w' v idx := SlI.below h hb
theorem fromRtC (w : World) (t : Rt) (h : Rok t) (hl : t.ks.length < 100000000000) (v0 v1 v2 v3 v4 : Value) (hm : RtAt w t v0 v1 v2 v3 v4) (lo : ByteArray) :
    Calls Try.prog 28 #[.agg #[v0, v1, v2, v3, v4], .string lo] w fun e w' => ∃ A n c, e = .returned (.slice A n c) ∧ PlAt w' (.slice A n c) (plc t.ks (fun k => kpF (T.L lo) (T.L k))) ∧ Below w.heap.size w w' := by
  obtain ⟨k, hk⟩ := (from_ev t h hl lo).rounds
  obtain ⟨⟨A0, c0, rfl, p0, q0⟩, ⟨A1, c1, rfl, p1, q1⟩, ⟨A2, c2, rfl, p2, q2⟩, ⟨A3, c3, rfl, p3, q3⟩, ⟨A4, c4, rfl, p4, q4⟩⟩ := hm
  refine (musterref04_From.calls k A0 c0 t.ks A1 c1 t.vs A2 c2 t.ls A3 c3 t.ps A4 c4 t.ms lo _ w q0 p0 q1 p1 q2 p2 q3 p3 q4 p4 hk).mono ?_
  rintro e w' ⟨v, rfl, hr, hb⟩
  obtain ⟨A, c, rfl, h1, h2⟩ := Kd.R_reads hr
  exact ⟨A, _, c, rfl, ⟨A, c, rfl, h1, h2⟩, hb⟩
theorem underRtC (w : World) (t : Rt) (h : Rok t) (hl : t.ks.length < 100000000000) (v0 v1 v2 v3 v4 : Value) (hm : RtAt w t v0 v1 v2 v3 v4) (p : ByteArray) :
    Calls Try.prog 24 #[.agg #[v0, v1, v2, v3, v4], .string p] w fun e w' => ∃ A n c, e = .returned (.slice A n c) ∧ PlAt w' (.slice A n c) (plc t.ks (fun k => kpU (T.L p) (T.L k))) ∧ Below w.heap.size w w' := by
  obtain ⟨k, hk⟩ := (under_ev t h hl p).rounds
  obtain ⟨⟨A0, c0, rfl, p0, q0⟩, ⟨A1, c1, rfl, p1, q1⟩, ⟨A2, c2, rfl, p2, q2⟩, ⟨A3, c3, rfl, p3, q3⟩, ⟨A4, c4, rfl, p4, q4⟩⟩ := hm
  refine (musterref04_Under.calls k A0 c0 t.ks A1 c1 t.vs A2 c2 t.ls A3 c3 t.ps A4 c4 t.ms p _ w q0 p0 q1 p1 q2 p2 q3 p3 q4 p4 hk).mono ?_
  rintro e w' ⟨v, rfl, hr, hb⟩
  obtain ⟨A, c, rfl, h1, h2⟩ := Kd.R_reads hr
  exact ⟨A, _, c, rfl, ⟨A, c, rfl, h1, h2⟩, hb⟩
/-- the entries got, in memory -/
def GoAt (w : World) (v : Value) (l : List S35) : Prop := ∃ A c, v = .slice A l.length c ∧ l.length ≤ c ∧ Kd.C k35 w A l.length l
theorem GoAt.below {w w' : World} {v : Value} {l : List S35} (h : GoAt w v l) (hb : Below w.heap.size w w') : GoAt w' v l := by
  obtain ⟨A, c, h1, h2, h3⟩ := h
  exact ⟨A, c, h1, h2, Kd.C_below h3 hb⟩
theorem theseC (w : World) (t : Rt) (h : Rok t) (v0 v1 v2 v3 v4 : Value) (hm : RtAt w t v0 v1 v2 v3 v4) (idx : List Nat) (hi : ∀ i ∈ idx, i < t.ks.length) (hl : idx.length < 100000000000) (g : Value) (hg : GoAt w g (atPl t idx)) (pv : Value) (hp : PlAt w pv idx) :
    Calls Try.prog 23 #[g, .agg #[v0, v1, v2, v3, v4], pv] w fun e w' => e = .returned (.bool true) ∧ Below w.heap.size w w' := by
  obtain ⟨k, hk⟩ := (these_ev t h idx hi hl).rounds
  obtain ⟨⟨A0, c0, rfl, p0, q0⟩, ⟨A1, c1, rfl, p1, q1⟩, ⟨A2, c2, rfl, p2, q2⟩, ⟨A3, c3, rfl, p3, q3⟩, ⟨A4, c4, rfl, p4, q4⟩⟩ := hm
  obtain ⟨A, c, rfl, h1, h2⟩ := hg
  obtain ⟨B, d, rfl, h3, h4⟩ := hp
  exact musterlaw04_these.calls k A c (atPl t idx) A0 c0 t.ks A1 c1 t.vs A2 c2 t.ls A3 c3 t.ps A4 c4 t.ms B d (ints idx) true w h2 h1 q0 p0 q1 p1 q2 p2 q3 p3 q4 p4 h4 h3 hk
theorem plc_len (xs : List ByteArray) (p : ByteArray → Bool) : (plc xs p).length ≤ xs.length := upto_le xs p xs.length
end Go.Proofs.Ytjhgknagmiekeaa.N
set_option linter.unusedVariables false
set_option linter.unusedSimpArgs false
namespace Go.Proofs.Ytjhgknagmiekeaa.V
open Go.Proofs.Ytjhgknagmiekeaa.VU (below_drewA)
open Go.RowKit Go.Lib Go.Proofs Go.Shelf
open Go.Proofs.Ytjhgknagmiekeaa.T Go.Proofs.Ytjhgknagmiekeaa.N Go.Proofs.Ytjhgknagmiekeaa.K
open Go.Proofs.YtjhgknagmiekeaaW.PrintWords hiding blk_cell
attribute [local go_sem] Oper.semAt_some
set_option maxRecDepth 100000 in
set_option maxHeartbeats 16000000 in
theorem underLaw (A : Option Addr) (c : Nat) (l : List S35) (lo : ByteArray) (w : World) (hl : EntAt w A l) (hc : l.length ≤ c) (hlen : l.length < 10000000000) (hs : ∀ e ∈ l, e.f0.size < 4000000000000) :
    Calls Try.prog 3 #[.slice A l.length c, .string lo] w fun e w' => e = .returned (.bool true) ∧ Below w.heap.size w w' := by
  refine callsIn_wide.1 (show CallsIn Fence.wide 9 Try.prog 3 _ w _ from ?_)
  have qa := Aside0.mk (show CallsIn Fence.wide 8 Try.prog 20 _ w _ from callsIn_wide.2 (aliveC w))
  have qb := Aside0.mk (fun w1 (h : Below w.heap.size w w1) => show CallsIn Fence.wide 8 Try.prog 21 _ w1 _ from callsIn_wide.2 (builtC A c l w1 (Kd.C_below hl h) hc hlen hs))
  have qf := Aside0.mk (fun w1 tb => show CallsIn Fence.wide 8 Try.prog 22 _ w1 _ from callsIn_wide.2 (underC tb lo w1))
  have HN := Aside0.mk hlen
  clear hl hc hlen hs
  unfold ptr at qb qf
  have hnf := funcNil
  refine callsIn_of_wp_marks Try.func3 rfl trivial ?_ rfl
  simp only [Try.ntmps3, List.size_toArray, List.length_cons, List.length_nil, Nat.reduceAdd, Nat.reduceSub, Array.replicate_succ, Array.replicate_zero, List.push_toArray, List.append_toArray, List.nil_append, List.cons_append]
  gi_wp2_with (first
    | (refine ⟨trivial, ?_⟩; gi_at_call 20; refine qa.out.mono ?_; rintro e w0 ⟨rfl, hb0⟩; have HB0 := Aside0.mk hb0; clear hb0)
    | (refine ⟨trivial, ?_⟩; gi_at_call 21; refine (qb.out _ HB0.out).mono ?_; rintro e w1 ⟨tb, root, t, v0, v1, v2, v3, v4, rfl, ht, hk, ha, hr, hl, hv, hb⟩; obtain ⟨⟨A0, n0, c0, rfl⟩, ⟨A1, n1, c1, rfl⟩, ⟨A2, n2, c2, rfl⟩, ⟨A3, n3, c3, rfl⟩, ⟨A4, n4, c4, rfl⟩⟩ := hr.forms; have H1 := Aside0.mk (And.intro ht (And.intro hk (And.intro ha (And.intro hr (And.intro hl hb))))); clear ht hk ha hr hl hv hb)
    | (refine ⟨trivial, ?_⟩; gi_at_call 22; refine (qf.out _ _).mono ?_; rintro e w2 ⟨bp, bt, bs, bk, rfl, h0, h1, h2, h3, h4, h5⟩; have H2 := Aside0.mk (And.intro h0 (And.intro h1 (And.intro h2 (And.intro h3 (And.intro h4 h5))))); clear h0 h1 h2 h3 h4 h5))
  clear qa qb qf hnf
  obtain ⟨h0, h1, h2, h3, h4, h5⟩ := H2.out
  simp only [World.size_alloc] at h0 h5
  have hsz2 : w1.heap.size + 1 + 1 ≤ w2.heap.size := by have := h5.size; simp only [World.size_alloc] at this; exact this
  have bG : Boxed w2 (w1.heap.size + 1) 22 (.slice none 0 0) := (h5.block _ (by omega)).trans (by have := World.alloc_heap_new (w1.alloc (Obj.cells #[Value.slice A0 n0 c0, Value.slice A1 n1 c1, Value.slice A2 n2 c2, Value.slice A3 n3 c3, Value.slice A4 n4 c4] 28)) (Obj.cells #[.slice none 0 0] 22); rwa [World.size_alloc] at this)
  have bM : w2.heap[w1.heap.size]? = some (.cells #[.slice A0 n0 c0, .slice A1 n1 c1, .slice A2 n2 c2, .slice A3 n3 c3, .slice A4 n4 c4] 28 (0, 0)) := (h5.block _ (by omega)).trans ((Below.heap_alloc _ _ _ (by simp)).trans (World.alloc_heap_new w1 _))
  have hB0 : Below w1.heap.size w1 w2 := (((Below.refl _ w1).alloc (Nat.le_refl _) _).alloc (by simp) _).trans (h5.mono (by omega))
  have ht := H1.out.1
  have hf := ht.fine.toGood
  have hov := ovr_eqs hf H1.out.2.2.1 (skU (L lo)) (kpU (L lo)) (hskU _)
  obtain ⟨NN, hNN⟩ : ∃ NN, (ovr (fun q => skU (L lo) (L q)) (fun q => kpU (L lo) (L q)) ⟨#[]⟩ root).length = NN := ⟨_, rfl⟩
  have hNl : NN ≤ t.ks.length := by
    rw [← hNN, hov]
    refine Nat.le_trans (List.length_filter_le _ _) ?_
    rw [List.length_zip]
    omega
  have hNs : NN < 10000000000 := by have := H1.out.2.2.2.2.1; have := HN.out; omega
  obtain ⟨i0, hi, hz0, hz1, hz2⟩ := info_parts info35
  have hml : 10000000000 ≤ maxLen := by decide
  refine wpIn_rangeFunc_ownG rfl (by decide) (gf := 117) (lb := #[ptr bt, ptr bs, ptr bk]) rfl trivial (enters_of Try.func117 (by kernel_rfl) rfl)
    (VU.seq w2 8 NN w2.heap.size (fun k => k = w1.heap.size + 1) w1 (Kept.of hB0) (by omega) (Nat.le_refl _) (fun k hk e => by omega) tb root ht bp bt bs bk ⟨h2, h3, h4⟩ lo h1 (Array.getElem?_eq_some_iff.1 h1).1 (fun e => by omega) (Nat.le_of_eq hNN))
    kpT (kpB (Nat.le_refl _)) (Below.refl _ _) (fun _ => rfl)
    (fun pre W => (∃ v, Boxed W (w1.heap.size + 1) 22 v ∧ W.ownsRow w2.heap.size 35 2 v pre.length (rowv pre) ∧ True) ∧ (W.heap[w1.heap.size]? = some (.cells #[.slice A0 n0 c0, .slice A1 n1 c1, .slice A2 n2 c2, .slice A3 n3 c3, .slice A4 n4 c4] 28 (0, 0)) ∧ Below w1.heap.size w1 W ∧ w2.heap.size ≤ W.heap.size))
    (fun _ _ _ => False)
    (OwnFrom.and (Own.from (holdsRow_own w2.heap.size (w1.heap.size + 1) 22 35 2 (fun pre : List (ByteArray × Int) => pre.length) rowv (fun _ _ => True)) _) (OwnFrom.and (Own.from (blk_own _ _ _ _) _) (OwnFrom.and (ownFrom_below (Nat.le_refl _) (by omega)) (fun s X Y row hs hg hr => Nat.le_trans hs hg.size))))
    (fun _ _ _ _ _ hs _ _ => hs)
    ⟨⟨_, bG, World.ownsRow_nil _ _ _ _, trivial⟩, bM, hB0, Nat.le_refl _⟩
    (fun x => { tmps := #[.slice A l.length c, .string lo, undef, undef, .bool false, .pointer (some ⟨tb, 0, none⟩), .pointer (some ⟨w1.heap.size, 0, none⟩), .pointer (some ⟨(w1.heap.size + 1), 0, none⟩), .func (.func 117) #[] #[.pointer (some ⟨bt, 0, none⟩), .pointer (some ⟨bs, 0, none⟩), .pointer (some ⟨bk, 0, none⟩)], .string x.1, .int .i64 x.2, .bool true, .bool false, .tuple #[.pointer (some ⟨tb, 0, none⟩), .agg #[.slice A0 n0 c0, .slice A1 n1 c1, .slice A2 n2 c2, .slice A3 n3 c3, .slice A4 n4 c4]], .slice A l.length c, .tuple #[.pointer (some ⟨tb, 0, none⟩), .agg #[.slice A0 n0 c0, .slice A1 n1 c1, .slice A2 n2 c2, .slice A3 n3 c3, .slice A4 n4 c4]], .pointer (some ⟨tb, 0, none⟩), .agg #[.slice A0 n0 c0, .slice A1 n1 c1, .slice A2 n2 c2, .slice A3 n3 c3, .slice A4 n4 c4], .pointer (some ⟨tb, 0, none⟩), .bool false, .pointer (some ⟨tb, 0, none⟩), .string lo, .func (.func 117) #[] #[.pointer (some ⟨bt, 0, none⟩), .pointer (some ⟨bs, 0, none⟩), .pointer (some ⟨bk, 0, none⟩)], .func (.func 117) #[] #[.pointer (some ⟨bt, 0, none⟩), .pointer (some ⟨bs, 0, none⟩), .pointer (some ⟨bk, 0, none⟩)], .bool false, .func (.func 117) #[] #[.pointer (some ⟨bt, 0, none⟩), .pointer (some ⟨bs, 0, none⟩), .pointer (some ⟨bk, 0, none⟩)], .string x.1, .int .i64 x.2, undef, undef, undef, undef, undef, undef, undef, undef, undef, undef, undef, undef, undef, undef, undef, undef, undef, undef, undef, undef], defers := [] }) ?assign ?body ?done ?stop
  case assign =>
    intro l x W K hK
    gi_wp2
    exact hK
  case body =>
    rintro l pre x W ⟨⟨v, hv, hrow, -⟩, hbm, hB, hW⟩ hlt
    have hc := hv.cell
    gi_wp2_with (gi_at_builtin; refine wpListIn_append_own _ rfl _ _ 22 rfl w2.heap.size 35 i0 (.agg #[.string ⟨#[]⟩, .int .i64 0]) 2 24 Try.underlying22 hi hz0 hz1 hz2 rfl (by decide) _ _ _ rfl (hrow.alloc _) ⟨W.heap.size, 0, none⟩ 1 1 [.string x.1, .int .i64 x.2] rfl rfl (cell_two_new _ _ _ _) (by simp [Value.oneCell']) (by omega) (by omega) (by simp; omega) ?_; intro v' w1' hown' hgrow _; obtain ⟨g', cap', rfl⟩ := ownsRow_succ hown'; obtain ⟨hv1, hv2, hr2, hk2, hb2, hkp, hlow⟩ := appended2 (n₀ := w1.heap.size) (M := fun k => k = w1.heap.size + 1) hv (by decide) (by decide) (by decide) hrow hW (by omega) (by omega) rfl hown' hgrow; have hc1 := hv1.cell; have hf1 := hv1.frozen)
    exact ⟨hk2.from _, hkp, ⟨⟨_, hv2, by rw [List.length_append, rowv_snoc]; exact hr2, trivial⟩, (hlow _ (by omega) (by omega)).trans hbm, hB.trans hb2, Nat.le_trans hW hb2.size⟩⟩
  case done =>
    rintro D ys W hD e9 ⟨⟨v, hv, hrow, -⟩, hbm, hB, hW⟩ hK
    obtain ⟨Ag, cg, rfl, hg1, hg2⟩ := own_got hrow
    have hgot : GoAt W (.slice Ag (ys.map mkE).length cg) (atPl t (plc t.ks (fun k => kpU (L lo) (L k)))) := by
      rw [← got_eq t H1.out.2.1, ← hov, ← e9]
      exact ⟨Ag, cg, rfl, hg1, hg2⟩
    have eng : (ys.map mkE).length = NN := by rw [List.length_map, e9, hNN]
    rw [eng] at hgot hv
    have q3 := Aside0.mk (fun W1 (h : Below W.heap.size W W1) => show CallsIn Fence.wide 8 Try.prog 25 _ W1 _ from callsIn_wide.2 (countC tb root lo W1 ((ht.keep (Kept.of hB)).keep (Kept.of h)) NN hNN (by omega)))
    unfold ptr at q3
    have hl8 : t.ks.length < 100000000000 := by have := H1.out.2.2.2.2.1; have := HN.out; omega
    have hrt := H1.out.2.2.2.1.below hB
    have q1 := Aside0.mk (fun W1 (h : Below W.heap.size W W1) => show CallsIn Fence.wide 8 Try.prog 24 _ W1 _ from callsIn_wide.2 (underRtC W1 t H1.out.2.1 hl8 _ _ _ _ _ (hrt.below h) lo))
    have q2 := Aside0.mk (fun W1 (h : Below W.heap.size W W1) pv (hp : PlAt W1 pv (plc t.ks (fun k => kpU (L lo) (L k)))) => show CallsIn Fence.wide 8 Try.prog 23 _ W1 _ from callsIn_wide.2 (theseC W1 t H1.out.2.1 _ _ _ _ _ (hrt.below h) (plc t.ks (fun k => kpU (L lo) (L k))) (fun i hi => plc_mem hi) (by have := plc_len t.ks (fun k => kpU (L lo) (L k)); omega) _ (hgot.below h) pv hp))
    have g0 := hv.cell
    have m0 : W.cell? ⟨w1.heap.size, 0, none⟩ = some (.slice A0 n0 c0) := by rw [blk_cell hbm]; rfl
    have m1 : W.cell? ⟨w1.heap.size, 1, none⟩ = some (.slice A1 n1 c1) := by rw [blk_cell hbm]; rfl
    have m2 : W.cell? ⟨w1.heap.size, 2, none⟩ = some (.slice A2 n2 c2) := by rw [blk_cell hbm]; rfl
    have m3 : W.cell? ⟨w1.heap.size, 3, none⟩ = some (.slice A3 n3 c3) := by rw [blk_cell hbm]; rfl
    have m4 : W.cell? ⟨w1.heap.size, 4, none⟩ = some (.slice A4 n4 c4) := by rw [blk_cell hbm]; rfl
    have HBn := Aside0.mk (below_drewA (Below.refl W.heap.size W))
    have HEND := Aside0.mk (And.intro hD (And.intro hK (And.intro hB hW)))
    clear hD hK hB hW hrt hgot hl8 hv hbm hg1 hg2 hrow eng hov hf ht hB0 bM bG h5 h4 h3 h2 h1 h0 hz2 hz1 hz0 hi
    gi_wp2_with fail
    refine Code.wpIn_mono NoPanic.imp ?_
    first | (gi_region_with (first
      | (refine ⟨trivial, ?_⟩; gi_at_call 24; refine (q1.out _ HBn.out).mono ?_; rintro e W1 ⟨Ap, np, cp, rfl, hp, B1⟩; have d0 := (Kept.of B1).cell g0; have x0 := (Kept.of B1).cell m0; have x1 := (Kept.of B1).cell m1; have x2 := (Kept.of B1).cell m2; have x3 := (Kept.of B1).cell m3; have x4 := (Kept.of B1).cell m4; have HP := Aside0.mk hp; have n0_ := Aside0.mk (belowAt HBn.out B1); clear hp HBn; have HBn := n0_; clear n0_ B1)
      | (refine ⟨trivial, ?_⟩; gi_at_call 23; refine (q2.out _ HBn.out _ HP.out).mono ?_; rintro e W2 ⟨rfl, B2⟩; have y0 := (Kept.of B2).cell d0; have n0_ := Aside0.mk (belowAt HBn.out B2); clear HBn; have HBn := n0_; clear n0_ B2)
      | (refine ⟨trivial, ?_⟩; gi_at_call 25; refine (q3.out _ HBn.out).mono ?_; rintro e W3 ⟨rfl, B3⟩; have z0 := (Kept.of B3).cell y0; have n0_ := Aside0.mk (belowAt HBn.out B3); clear HBn; have HBn := n0_; clear n0_ B3))) | fail
    all_goals (
      refine NoPanic.normal ?_
      gi_wp2_with fail
      have hK3 := (HBn.out.block D (Array.getElem?_eq_some_iff.1 HEND.out.2.1).1).trans HEND.out.2.1
      refine ⟨by simp, .inl ⟨_, _, rfl, run_takeDeferred hK3, ?_⟩⟩
      exact ⟨_, results_tmp rfl _ _ _, rfl, (belowAt (belowAt (belowAt HB0.out H1.out.2.2.2.2.2) HEND.out.2.2.1) HBn.out).trans (belowK_b (w := w2) (by have h1 := HB0.out.size; have h2 := H1.out.2.2.2.2.2.size; omega) _ D _ _ HEND.out.1 hK3 rfl rfl)⟩)
  case stop =>
    rintro D c pre W _ _ h _
    exact h.elim
end Go.Proofs.Ytjhgknagmiekeaa.V
set_option linter.unusedVariables false
set_option linter.unusedSimpArgs false
namespace Go.Proofs.Ytjhgknagmiekeaa.R
open Go.ChangeShapes Go.WideShapes Go.Deep Go.RowKit
open Go.Proofs.YtjhgknagmiekeaaW.PrintWords Go.Proofs.Ytjhgknagmiekeaa.K

section
variable {H : Type} {enc : TypeId × Value → H} {P : Program} {w : World} {base : Nat} {spare : Nat → Bool} {held : Bool}
theorem open_slice_fields {t e : TypeId} {fs : Array Field} {fuel : Nat} {cs : List Value} {x : DataW H × List MemPlace} (ht : P.underlying t = some (.slice e)) (he : P.underlying e = some (.struct fs))
    (hone : oneCellFields P fs = true) (hC : P.cellsOf e = fs.size) (h : DataW.trod enc P w base spare held fuel t cs = some x) :
    (cs = [.slice none 0 0] ∧ x = (.nil, [])) ∨
    ∃ (a : Addr) (len cap m : Nat) (D : Nat → DataW H) (Pl : Nat → List MemPlace), cs = [.slice (some a) len cap] ∧ base ≤ a.block ∧ len ≤ cap ∧ cap ≤ maxLen ∧ m = (if spare a.block then cap else len) ∧
      x = (.slice ((List.range len).map D) ((List.range (m - len)).map fun j => D (len + j)), MemPlace.row a (m * fs.size) ++ (List.range m).flatMap Pl) ∧
      ∀ i, i < m → ∃ (ys : List (DataW H × List MemPlace)) (n : Nat), D i = .agg (ys.map (·.1)) ∧ Pl i = ys.flatMap (·.2) ∧ ys.length = fs.size ∧
        ∀ (j : Nat) (f : Field), fs[j]? = some f → ∃ (v : Value) (y : DataW H × List MemPlace), w.cell? (a.add (i * fs.size + j)) = some v ∧ ys[j]? = some y ∧ DataW.trod enc P w base spare held n f.type [v] = some y := by
  rcases open_slice ht h with h0 | ⟨a, len, cap, m, n, D, Pl, hcs, hb, hl, hm, hmm, hx, hi⟩
  · exact .inl h0
  · refine .inr ⟨a, len, cap, m, D, Pl, hcs, hb, hl, hm, hmm, by rw [hC] at hx; exact hx, fun i him => ?_⟩
    obtain ⟨cs', hc, ht'⟩ := hi i him
    rw [hC] at hc
    obtain ⟨ys, n', hn', hy, hlen, hyl, hf⟩ := DataW.trod_struct he ht'
    obtain ⟨_, hcl, hat⟩ := World.cells?_some hc
    simp only [Prod.mk.injEq] at hy
    refine ⟨ys, n', hy.1, hy.2, hyl, fun j f hj => ?_⟩
    obtain ⟨ho, hk⟩ := hone_of hone j f hj
    have hjl : j < fs.size := (Array.getElem?_eq_some_iff.1 hj).1
    have hcell := hat j hjl
    have hv : cs'[j]? = some (cs'[j]'(by omega)) := List.getElem?_eq_getElem (by omega)
    have h1 := hf j f hj
    rw [ho, hk] at h1
    have hone' : (cs'.drop j).take 1 = [cs'[j]'(by omega)] := by
      rw [List.drop_eq_getElem_cons (by omega)]
      rfl
    rw [hone'] at h1
    have hys : ys[j]? = some (ys[j]'(by omega)) := List.getElem?_eq_getElem (by omega)
    refine ⟨_, _, ?_, hys, h1.trans hys⟩
    rw [← Go.Deep.add_add, hcell, hv]
end


/-- how an entry reads -/
def dE {H : Type} (p : S35) : DataW H := .agg [.lit (.string p.f0.data.toList), .lit (.int .i64 p.f1)]
theorem open_entries {H : Type} {enc : TypeId × Value → H} {W : World} {base : Nat} {spare : Nat → Bool} {held : Bool} {a : Option Addr} {len cap : Nat} {d : DataW H} {ps : List MemPlace}
    (h : DataW.Trod enc Try.prog W base spare held 22 (.slice a len cap) d ps) :
    ∃ l : List S35, len = l.length ∧ l.length ≤ cap ∧ Kd.C k35 W a l.length l ∧ ((d = .nil ∧ l = []) ∨ ∃ sp, d = .slice (l.map dE) sp) := by
  obtain ⟨fuel, hf⟩ := h
  rcases open_slice_fields (fs := #[_, _]) Try.underlying22 Try.underlying35 (by kernel_rfl) (by kernel_rfl) hf with ⟨hcs, hx⟩ | ⟨ad, len', cap', m, D, Pl, hcs, _, hl, hm, hmm, hx, hi⟩
  · simp [Value.cells] at hcs
    obtain ⟨rfl, rfl, rfl⟩ := hcs
    obtain ⟨rfl, _⟩ := Prod.mk.inj hx
    exact ⟨[], rfl, by simp, Kd.C_nil k35 W, .inl ⟨rfl, rfl⟩⟩
  · simp [Value.cells] at hcs
    obtain ⟨rfl, rfl, rfl⟩ := hcs
    obtain ⟨hx, _⟩ := Prod.mk.inj hx
    subst hx
    have hlm : len ≤ m := by rw [hmm]; split; exact hl; exact Nat.le_refl _
    have each : ∀ i : Nat, ∃ p : S35, i < len → D i = dE p ∧ W.cell? (ad.add (i * 2)) = some (.string p.f0) ∧ W.cell? (ad.add (i * 2 + 1)) = some (.int .i64 p.f1) := by
      intro i
      by_cases hil : i < len
      · obtain ⟨ys, n, hD, _, hyl, hj⟩ := hi i (by omega)
        obtain ⟨v0, y0, c0, e0, t0⟩ := hj 0 _ rfl
        obtain ⟨v1, y1, c1, e1, t1⟩ := hj 1 _ rfl
        obtain ⟨s0, q0, r0, w0⟩ := DataW.trod_string Try.underlying9 t0
        obtain ⟨n1, q1, r1, w1⟩ := DataW.trod_int Try.underlying3 t1
        simp only [List.cons.injEq, and_true] at q0 q1
        subst q0 q1 r0 r1
        refine ⟨⟨s0, n1⟩, fun _ => ⟨?_, c0, c1⟩⟩
        have hys : ys = [(.lit (.string s0.data.toList), []), (.lit (.int .i64 n1), [])] := by
          match ys, hyl, e0, e1 with
          | [a, b], _, e0, e1 => simp at e0 e1; rw [e0, e1]
        rw [hD, hys]
        rfl
      · exact ⟨⟨⟨#[]⟩, 0⟩, fun h => absurd h hil⟩
    obtain ⟨g, hg⟩ := Classical.axiomOfChoice each
    refine ⟨(List.range len).map g, by simp, by simpa using hl, ?_, .inr ⟨(List.range (m - len)).map fun j => D (len + j), ?_⟩⟩
    · have hlen : ((List.range len).map g).length = len := by simp
      rw [hlen]
      refine ⟨hlen, by unfold maxLen at hm; omega, fun _ => ⟨ad, rfl, fun j p hp => ?_⟩⟩
      have hj : j < len := by have := (List.getElem?_eq_some_iff.1 hp).1; rw [hlen] at this; exact this
      have hpe : p = g j := by
        rw [List.getElem?_map, List.getElem?_range hj] at hp
        simpa using hp.symm
      subst hpe
      obtain ⟨_, c0, c1⟩ := hg j hj
      refine ⟨_, rfl, k35_mk W (g j), fun i u hu => ?_⟩
      match i, hu with
      | 0, hu => simp at hu; subst hu; exact c0
      | 1, hu => simp at hu; subst hu; exact c1
    · congr 1
      rw [List.map_map]
      apply List.map_congr_left
      intro j hj
      exact (hg j (List.mem_range.1 hj)).1

/-! ### the bulk -/
def wt : List S35 → Nat
  | [] => 0
  | p :: ps => p.f0.size + 1 + wt ps
theorem wt_bulk {H : Type} (l : List S35) : wt l ≤ Rows.uptoBulkAll (l.map (dE (H := H))) := by
  induction l with
  | nil => exact Nat.zero_le _
  | cons p ps ih =>
    have e : p.f0.data.toList.length = p.f0.size := T.L_len _
    simp only [List.map_cons, Rows.uptoBulkAll, wt, dE, Rows.uptoBulk, e]
    omega
theorem wt_of {H : Type} {d : DataW H} {l : List S35} (h : (d = .nil ∧ l = []) ∨ ∃ sp, d = .slice (l.map dE) sp) : wt l ≤ Rows.uptoBulk d := by
  rcases h with ⟨rfl, rfl⟩ | ⟨sp, rfl⟩
  · exact Nat.zero_le _
  · have := wt_bulk (H := H) l
    simp only [Rows.uptoBulk]
    omega
theorem wt_len : ∀ (l : List S35), l.length ≤ wt l
  | [] => Nat.zero_le _
  | p :: ps => by have := wt_len ps; simp only [List.length_cons, wt]; omega
theorem wt_mem : ∀ (l : List S35) (p : S35), p ∈ l → p.f0.size ≤ wt l
  | q :: l, p, h => by
    simp only [wt]
    rcases List.mem_cons.1 h with e | e
    · rw [e]; omega
    · have := wt_mem l p e; omega
end Go.Proofs.Ytjhgknagmiekeaa.R
