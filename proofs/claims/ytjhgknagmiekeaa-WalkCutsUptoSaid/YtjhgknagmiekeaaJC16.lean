/- joined: V9 -/
import Derived.Test.YtjhgknagmiekeaaJC15
set_option linter.unusedVariables false
set_option linter.unusedSimpArgs false
namespace Go.Proofs.Ytjhgknagmiekeaa.V
open Go.Proofs.Ytjhgknagmiekeaa.VOU (below_drewA)
open Go.RowKit Go.Lib Go.Proofs Go.Shelf
open Go.Proofs.Ytjhgknagmiekeaa.T Go.Proofs.Ytjhgknagmiekeaa.N Go.Proofs.Ytjhgknagmiekeaa.K
open Go.Proofs.YtjhgknagmiekeaaW.PrintWords hiding blk_cell
attribute [local go_sem] Oper.semAt_some
def twoE : List S35 := [⟨⟨#[98]⟩, 2⟩, ⟨⟨#[97]⟩, 1⟩]
def twoX : List (ByteArray × Int) := [(⟨#[97]⟩, 1), (⟨#[98]⟩, 2)]
theorem two_at (w : World) (t : TypeId) : EntAt (w.alloc (.cells #[.string ⟨#[98]⟩, .int .i64 2, .string ⟨#[97]⟩, .int .i64 1] t)) (some ⟨w.heap.size, 0, none⟩) twoE := by
  have h := World.alloc_heap_new w (.cells #[.string ⟨#[98]⟩, .int .i64 2, .string ⟨#[97]⟩, .int .i64 1] t)
  refine ⟨rfl, by decide, fun _ => ⟨_, rfl, fun j p hp => ?_⟩⟩
  match j, hp with
  | 0, hp =>
    cases hp
    refine ⟨_, rfl, k35_mk _ _, fun i u hu => ?_⟩
    match i, hu with
    | 0, hu => cases hu; show World.cell? _ ⟨_, 0, none⟩ = _; rw [blk_cell h]; rfl
    | 1, hu => cases hu; show World.cell? _ ⟨_, 1, none⟩ = _; rw [blk_cell h]; rfl
    | i + 2, hu => cases hu
  | 1, hp =>
    cases hp
    refine ⟨_, rfl, k35_mk _ _, fun i u hu => ?_⟩
    match i, hu with
    | 0, hu => cases hu; show World.cell? _ ⟨_, 2, none⟩ = _; rw [blk_cell h]; rfl
    | 1, hu => cases hu; show World.cell? _ ⟨_, 3, none⟩ = _; rw [blk_cell h]; rfl
    | i + 2, hu => cases hu
  | j + 2, hp => cases hp
theorem two_all {root : Nd} (hf : Fine root) (hi : IntVals root) (hv : ∀ r, valT root r = lastE twoE r) : (All root).map ey = twoX.map ex := by
  refine sorted_ext (lt := fun a b : Kv => a.1 < b.1) (fun x => blt_irrefl _) (fun x y z => blt_trans) _ _ ?_ ?_ (fun x => ?_)
  · rw [List.pairwise_map]
    exact all_rise hf.toGood
  · have e : twoX.map ex = [([97], 1), ([98], 2)] := rfl
    rw [e]
    simp
    decide
  · obtain ⟨q, x⟩ := x
    rw [mem_ey hf.toGood hi, hv, show twoX.map ex = [([97], 1), ([98], 2)] from rfl]
    have e : lastE twoE q = if q = [97] then some (.int .i64 1) else if q = [98] then some (.int .i64 2) else none := rfl
    rw [e]
    simp only [List.mem_cons, List.not_mem_nil, or_false, Prod.mk.injEq]
    by_cases h1 : q = [97]
    · subst h1
      rw [if_pos rfl]
      constructor
      · intro h
        injection h with h
        injection h with _ h
        exact .inl ⟨rfl, h.symm⟩
      · rintro (⟨-, rfl⟩ | ⟨h, -⟩)
        · rfl
        · exact absurd h (by decide)
    · rw [if_neg h1]
      by_cases h2 : q = [98]
      · subst h2
        rw [if_pos rfl]
        constructor
        · intro h
          injection h with h
          injection h with _ h
          exact .inr ⟨rfl, h.symm⟩
        · rintro (⟨h, -⟩ | ⟨-, rfl⟩)
          · exact absurd h (by decide)
          · rfl
      · rw [if_neg h2]
        constructor
        · intro h; cases h
        · rintro (⟨h, -⟩ | ⟨h, -⟩)
          · exact absurd h h1
          · exact absurd h h2
def sumW (l : List (ByteArray × Int)) : Int := l.foldl (fun s x => wrap64 (wrap64 (10 * s) + x.2)) 0
theorem sumW_snoc (l : List (ByteArray × Int)) (x : ByteArray × Int) : sumW (l ++ [x]) = wrap64 (wrap64 (10 * sumW l) + x.2) := by unfold sumW; rw [List.foldl_append]; rfl
theorem funcNil (fn : Fn) (a c : Array Value) (w : World) : Sem.run Try.prog (binOp BinOp.eql 32 (.func fn a c) .nilFunc) w = .ok (.bool false) w := by kernel_rfl
set_option maxRecDepth 100000 in
set_option maxHeartbeats 4000000 in
theorem aliveC (w : World) : Calls Try.prog 20 #[] w fun e w' => e = .returned (.bool true) ∧ Below w.heap.size w w' := by
  refine callsIn_wide.1 (show CallsIn Fence.wide 9 Try.prog 20 _ w _ from ?_)
  have q := Aside0.mk (fun w1 A (h : EntAt w1 A twoE) => show CallsIn Fence.wide 8 Try.prog 21 _ w1 _ from callsIn_wide.2 (builtC A 2 twoE w1 h (by decide) (by decide) (by decide)))
  have q2 := Aside0.mk (fun w1 tb => show CallsIn Fence.wide 8 Try.prog 26 _ w1 _ from callsIn_wide.2 (allC tb w1))
  unfold ptr at q q2
  have hnf := funcNil
  refine callsIn_of_wp_marks Try.func20 rfl trivial ?_ rfl
  simp only [Try.ntmps20, List.size_toArray, List.length_cons, List.length_nil, Nat.reduceAdd, Nat.reduceSub, Array.replicate_succ, Array.replicate_zero, List.push_toArray, List.append_toArray, List.nil_append, List.cons_append]
  gi_wp2_with (first
    | (refine ⟨trivial, ?_⟩; gi_at_call 21; refine (q.out _ _ (two_at _ _)).mono ?_; rintro e w1 ⟨tb, root, t, v0, v1, v2, v3, v4, rfl, ht, hk, ha, hr, hl, hv, hb⟩; obtain ⟨⟨A0, n0, c0, rfl⟩, ⟨A1, n1, c1, rfl⟩, ⟨A2, n2, c2, rfl⟩, ⟨A3, n3, c3, rfl⟩, ⟨A4, n4, c4, rfl⟩⟩ := hr.forms; have H1 := Aside0.mk (And.intro ht (And.intro hv hb)); clear ht hk ha hr hl hv hb)
    | (refine ⟨trivial, ?_⟩; gi_at_call 26; refine (q2.out _ _).mono ?_; rintro e w2 ⟨bt, bs, bk, rfl, h2, h3, h4, h5⟩))
  clear q q2 hnf
  have hb := H1.out.2.2
  rw [World.size_alloc] at hb
  have hsz1 : w.heap.size + 1 ≤ w1.heap.size := by have := hb.size; rwa [World.size_alloc] at this
  have hbw : Below w.heap.size w w1 := ((Below.refl _ w).alloc (Nat.le_refl _) _).trans (hb.mono (by omega))
  simp only [World.size_alloc] at h5
  have hsz2 : w1.heap.size + 1 + 1 ≤ w2.heap.size := by have := h5.size; simp only [World.size_alloc] at this; exact this
  have bC : Boxed w2 (w1.heap.size + 1) 3 (.int .i64 0) := (h5.block _ (by omega)).trans (by have := World.alloc_heap_new (w1.alloc (Obj.cells #[Value.slice A0 n0 c0, Value.slice A1 n1 c1, Value.slice A2 n2 c2, Value.slice A3 n3 c3, Value.slice A4 n4 c4] 28)) (Obj.cells #[.int .i64 0] 3); rwa [World.size_alloc] at this)
  have hB0 : Below w1.heap.size w1 w2 := (((Below.refl _ w1).alloc (Nat.le_refl _) _).alloc (by simp) _).trans (h5.mono (by omega))
  have ht := H1.out.1
  have hall := two_all ht.fine ht.vals H1.out.2.1
  have hov : ovr (fun _ => false) (fun _ => true) ⟨#[]⟩ root = twoX := (ovr_of ht.fine.toGood hall (fun _ => false) (fun _ => true) hskA).trans (by decide)
  have hcn := Aside0.mk (fun W (h : Tr W tb root) => show CallsIn Fence.wide 8 Try.prog 25 _ W _ from callsIn_wide.2 (countC tb root ⟨#[97]⟩ W h 1 (by
    rw [ovr_of ht.fine.toGood hall (skU (L ⟨#[97]⟩)) (kpU (L ⟨#[97]⟩)) (hskU _)]
    decide) (by decide)))
  unfold ptr at hcn
  refine wpIn_rangeFunc_ownG rfl (by decide) (gf := 117) (lb := #[ptr bt, ptr bs, ptr bk]) rfl trivial (enters_of Try.func117 (by kernel_rfl) rfl)
    (VA.seq w2 8 2 w2.heap.size (fun k => k = w1.heap.size + 1) w1 (Kept.of hB0) (by omega) (Nat.le_refl _) (fun k hk e => by omega) tb root ht bt bs bk ⟨h2, h3, h4⟩ (by rw [hov]; decide))
    kpT (kpB (Nat.le_refl _)) (Below.refl _ _) (fun _ => rfl)
    (fun pre W => Boxed W (w1.heap.size + 1) 3 (.int .i64 (sumW pre)) ∧ Below w1.heap.size w1 W)
    (fun _ _ _ => False)
    (OwnFrom.and (Own.from (boxed_own (w1.heap.size + 1) 3 (fun pre : List (ByteArray × Int) => .int .i64 (sumW pre))) _) (ownFrom_below (Nat.le_refl _) (by omega)))
    (fun _ _ _ _ _ hs _ _ => hs)
    ⟨bC, hB0⟩
    (fun x => { tmps := #[.bool false, .pointer (some ⟨tb, 0, none⟩), .pointer (some ⟨w1.heap.size, 0, none⟩), .pointer (some ⟨(w1.heap.size + 1), 0, none⟩), .func (.func 117) #[] #[.pointer (some ⟨bt, 0, none⟩), .pointer (some ⟨bs, 0, none⟩), .pointer (some ⟨bk, 0, none⟩)], undef, .int .i64 x.2, .tuple #[.pointer (some ⟨tb, 0, none⟩), .agg #[.slice A0 n0 c0, .slice A1 n1 c1, .slice A2 n2 c2, .slice A3 n3 c3, .slice A4 n4 c4]], .agg #[.string { data := #[98] }, .int .i64 2], .agg #[.string { data := #[97] }, .int .i64 1], .slice (some ⟨w.heap.size, 0, none⟩) 2 2, .tuple #[.pointer (some ⟨tb, 0, none⟩), .agg #[.slice A0 n0 c0, .slice A1 n1 c1, .slice A2 n2 c2, .slice A3 n3 c3, .slice A4 n4 c4]], .pointer (some ⟨tb, 0, none⟩), .agg #[.slice A0 n0 c0, .slice A1 n1 c1, .slice A2 n2 c2, .slice A3 n3 c3, .slice A4 n4 c4], .pointer (some ⟨tb, 0, none⟩), .bool false, .pointer (some ⟨tb, 0, none⟩), .func (.func 117) #[] #[.pointer (some ⟨bt, 0, none⟩), .pointer (some ⟨bs, 0, none⟩), .pointer (some ⟨bk, 0, none⟩)], .func (.func 117) #[] #[.pointer (some ⟨bt, 0, none⟩), .pointer (some ⟨bs, 0, none⟩), .pointer (some ⟨bk, 0, none⟩)], .bool false, .func (.func 117) #[] #[.pointer (some ⟨bt, 0, none⟩), .pointer (some ⟨bs, 0, none⟩), .pointer (some ⟨bk, 0, none⟩)], .string x.1, .int .i64 x.2, undef, undef, undef, undef, undef, undef, undef, undef, undef, undef, undef], defers := [] }) ?assign ?body ?done ?stop
  case assign =>
    intro l x W K hK
    gi_wp2
    exact hK
  case body =>
    rintro l pre x W ⟨hv, hB⟩ hlt
    have hc := hv.cell
    have hf := hv.frozen
    gi_wp2
    refine ⟨(KeepsOthers.setCell _ _ _).from _, KpM.setBox (M := fun k => k = w1.heap.size + 1) hv (by decide) rfl _, ?_, hB.setCell (p := ⟨w1.heap.size + 1, 0, none⟩) (by show w1.heap.size ≤ w1.heap.size + 1; omega) _⟩
    rw [sumW_snoc]
    exact hv.set _
  case done =>
    rintro D ys W hD e9 ⟨hv, hB⟩ hK
    rw [e9, hov, show sumW twoX = 12 from by unfold sumW twoX; simp [wrap64]] at hv
    have hc := hv.cell
    gi_wp2_with (refine ⟨trivial, ?_⟩; gi_at_call 25; refine (hcn.out _ (ht.keep (Kept.of hB))).mono ?_; rintro e w3 ⟨rfl, hb3⟩)
    have hK3 := (hb3.block D (Array.getElem?_eq_some_iff.1 hK).1).trans hK
    refine ⟨by simp, .inl ⟨_, _, rfl, run_takeDeferred hK3, ?_⟩⟩
    exact ⟨_, results_tmp rfl _ _ _, rfl, (belowAt (hbw.trans (hB.mono (by omega))) hb3).trans (belowK_b (w := w2) (by omega) w3 D _ _ hD hK3 rfl rfl)⟩
  case stop =>
    rintro D c pre W _ _ h _
    exact h.elim
end Go.Proofs.Ytjhgknagmiekeaa.V
