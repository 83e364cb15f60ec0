/- joined: V9 V15 V14h -/
import Derived.Test.YtjhgknagmiekeaaJL14
set_option linter.unusedVariables false
set_option linter.unusedSimpArgs false
namespace Go.Proofs.Ytjhgknagmiekeaa.V
open Go.Proofs.Ytjhgknagmiekeaa.VU (below_drewA)
open Go.RowKit Go.Lib Go.Proofs Go.Shelf
open Go.Proofs.Ytjhgknagmiekeaa.T Go.Proofs.Ytjhgknagmiekeaa.N Go.Proofs.Ytjhgknagmiekeaa.K
open Go.Proofs.YtjhgknagmiekeaaW.PrintWords hiding blk_cell
attribute [local go_sem] Oper.semAt_some
def twoE : List S35 := [⟨⟨#[98]⟩, 2⟩, ⟨⟨#[97]⟩, 1⟩]
def twoX : List (ByteArray × Int) := [(⟨#[97]⟩, 1), (⟨#[98]⟩, 2)]
theorem two_at (w : World) (t : TypeId) : EntAt (w.alloc (.cells #[.string ⟨#[98]⟩, .int .i64 2, .string ⟨#[97]⟩, .int .i64 1] t)) (some ⟨w.heap.size, 0, none⟩) twoE := by
  have h := World.alloc_heap_new w (.cells #[.string ⟨#[98]⟩, .int .i64 2, .string ⟨#[97]⟩, .int .i64 1] t)
  refine ⟨rfl, by decide, fun _ => ⟨_, rfl, fun j p hp => ?_⟩⟩
  match j, hp with
  | 0, hp =>
    cases hp
    refine ⟨_, rfl, k35_mk _ _, fun i u hu => ?_⟩
    match i, hu with
    | 0, hu => cases hu; show World.cell? _ ⟨_, 0, none⟩ = _; rw [blk_cell h]; rfl
    | 1, hu => cases hu; show World.cell? _ ⟨_, 1, none⟩ = _; rw [blk_cell h]; rfl
    | i + 2, hu => cases hu
  | 1, hp =>
    cases hp
    refine ⟨_, rfl, k35_mk _ _, fun i u hu => ?_⟩
    match i, hu with
    | 0, hu => cases hu; show World.cell? _ ⟨_, 2, none⟩ = _; rw [blk_cell h]; rfl
    | 1, hu => cases hu; show World.cell? _ ⟨_, 3, none⟩ = _; rw [blk_cell h]; rfl
    | i + 2, hu => cases hu
  | j + 2, hp => cases hp
theorem two_all {root : Nd} (hf : Fine root) (hi : IntVals root) (hv : ∀ r, valT root r = lastE twoE r) : (All root).map ey = twoX.map ex := by
  refine sorted_ext (lt := fun a b : Kv => a.1 < b.1) (fun x => blt_irrefl _) (fun x y z => blt_trans) _ _ ?_ ?_ (fun x => ?_)
  · rw [List.pairwise_map]
    exact all_rise hf.toGood
  · have e : twoX.map ex = [([97], 1), ([98], 2)] := rfl
    rw [e]
    simp
    decide
  · obtain ⟨q, x⟩ := x
    rw [mem_ey hf.toGood hi, hv, show twoX.map ex = [([97], 1), ([98], 2)] from rfl]
    have e : lastE twoE q = if q = [97] then some (.int .i64 1) else if q = [98] then some (.int .i64 2) else none := rfl
    rw [e]
    simp only [List.mem_cons, List.not_mem_nil, or_false, Prod.mk.injEq]
    by_cases h1 : q = [97]
    · subst h1
      rw [if_pos rfl]
      constructor
      · intro h
        injection h with h
        injection h with _ h
        exact .inl ⟨rfl, h.symm⟩
      · rintro (⟨-, rfl⟩ | ⟨h, -⟩)
        · rfl
        · exact absurd h (by decide)
    · rw [if_neg h1]
      by_cases h2 : q = [98]
      · subst h2
        rw [if_pos rfl]
        constructor
        · intro h
          injection h with h
          injection h with _ h
          exact .inr ⟨rfl, h.symm⟩
        · rintro (⟨h, -⟩ | ⟨-, rfl⟩)
          · exact absurd h (by decide)
          · rfl
      · rw [if_neg h2]
        constructor
        · intro h; cases h
        · rintro (⟨h, -⟩ | ⟨h, -⟩)
          · exact absurd h h1
          · exact absurd h h2
def sumW (l : List (ByteArray × Int)) : Int := l.foldl (fun s x => wrap64 (wrap64 (10 * s) + x.2)) 0
theorem sumW_snoc (l : List (ByteArray × Int)) (x : ByteArray × Int) : sumW (l ++ [x]) = wrap64 (wrap64 (10 * sumW l) + x.2) := by unfold sumW; rw [List.foldl_append]; rfl
theorem funcNil (fn : Fn) (a c : Array Value) (w : World) : Sem.run Try.prog (binOp BinOp.eql 32 (.func fn a c) .nilFunc) w = .ok (.bool false) w := by kernel_rfl
set_option maxRecDepth 100000 in
set_option maxHeartbeats 4000000 in
theorem aliveC (w : World) : Calls Try.prog 20 #[] w fun e w' => e = .returned (.bool true) ∧ Below w.heap.size w w' := by
  refine callsIn_wide.1 (show CallsIn Fence.wide 9 Try.prog 20 _ w _ from ?_)
  have q := Aside0.mk (fun w1 A (h : EntAt w1 A twoE) => show CallsIn Fence.wide 8 Try.prog 21 _ w1 _ from callsIn_wide.2 (builtC A 2 twoE w1 h (by decide) (by decide) (by decide)))
  have q2 := Aside0.mk (fun w1 tb => show CallsIn Fence.wide 8 Try.prog 26 _ w1 _ from callsIn_wide.2 (allC tb w1))
  unfold ptr at q q2
  have hnf := funcNil
  refine callsIn_of_wp_marks Try.func20 rfl trivial ?_ rfl
  simp only [Try.ntmps20, List.size_toArray, List.length_cons, List.length_nil, Nat.reduceAdd, Nat.reduceSub, Array.replicate_succ, Array.replicate_zero, List.push_toArray, List.append_toArray, List.nil_append, List.cons_append]
  gi_wp2_with (first
    | (refine ⟨trivial, ?_⟩; gi_at_call 21; refine (q.out _ _ (two_at _ _)).mono ?_; rintro e w1 ⟨tb, root, t, v0, v1, v2, v3, v4, rfl, ht, hk, ha, hr, hl, hv, hb⟩; obtain ⟨⟨A0, n0, c0, rfl⟩, ⟨A1, n1, c1, rfl⟩, ⟨A2, n2, c2, rfl⟩, ⟨A3, n3, c3, rfl⟩, ⟨A4, n4, c4, rfl⟩⟩ := hr.forms; have H1 := Aside0.mk (And.intro ht (And.intro hv hb)); clear ht hk ha hr hl hv hb)
    | (refine ⟨trivial, ?_⟩; gi_at_call 26; refine (q2.out _ _).mono ?_; rintro e w2 ⟨bt, bs, bk, rfl, h2, h3, h4, h5⟩))
  clear q q2 hnf
  have hb := H1.out.2.2
  rw [World.size_alloc] at hb
  have hsz1 : w.heap.size + 1 ≤ w1.heap.size := by have := hb.size; rwa [World.size_alloc] at this
  have hbw : Below w.heap.size w w1 := ((Below.refl _ w).alloc (Nat.le_refl _) _).trans (hb.mono (by omega))
  simp only [World.size_alloc] at h5
  have hsz2 : w1.heap.size + 1 + 1 ≤ w2.heap.size := by have := h5.size; simp only [World.size_alloc] at this; exact this
  have bC : Boxed w2 (w1.heap.size + 1) 3 (.int .i64 0) := (h5.block _ (by omega)).trans (by have := World.alloc_heap_new (w1.alloc (Obj.cells #[Value.slice A0 n0 c0, Value.slice A1 n1 c1, Value.slice A2 n2 c2, Value.slice A3 n3 c3, Value.slice A4 n4 c4] 28)) (Obj.cells #[.int .i64 0] 3); rwa [World.size_alloc] at this)
  have hB0 : Below w1.heap.size w1 w2 := (((Below.refl _ w1).alloc (Nat.le_refl _) _).alloc (by simp) _).trans (h5.mono (by omega))
  have ht := H1.out.1
  have hall := two_all ht.fine ht.vals H1.out.2.1
  have hov : ovr (fun _ => false) (fun _ => true) ⟨#[]⟩ root = twoX := (ovr_of ht.fine.toGood hall (fun _ => false) (fun _ => true) hskA).trans (by decide)
  have hcn := Aside0.mk (fun W (h : Tr W tb root) => show CallsIn Fence.wide 8 Try.prog 25 _ W _ from callsIn_wide.2 (countC tb root ⟨#[97]⟩ W h 1 (by
    rw [ovr_of ht.fine.toGood hall (skU (L ⟨#[97]⟩)) (kpU (L ⟨#[97]⟩)) (hskU _)]
    decide) (by decide)))
  unfold ptr at hcn
  refine wpIn_rangeFunc_ownG rfl (by decide) (gf := 117) (lb := #[ptr bt, ptr bs, ptr bk]) rfl trivial (enters_of Try.func117 (by kernel_rfl) rfl)
    (VA.seq w2 8 2 w2.heap.size (fun k => k = w1.heap.size + 1) w1 (Kept.of hB0) (by omega) (Nat.le_refl _) (fun k hk e => by omega) tb root ht bt bs bk ⟨h2, h3, h4⟩ (by rw [hov]; decide))
    kpT (kpB (Nat.le_refl _)) (Below.refl _ _) (fun _ => rfl)
    (fun pre W => Boxed W (w1.heap.size + 1) 3 (.int .i64 (sumW pre)) ∧ Below w1.heap.size w1 W)
    (fun _ _ _ => False)
    (OwnFrom.and (Own.from (boxed_own (w1.heap.size + 1) 3 (fun pre : List (ByteArray × Int) => .int .i64 (sumW pre))) _) (ownFrom_below (Nat.le_refl _) (by omega)))
    (fun _ _ _ _ _ hs _ _ => hs)
    ⟨bC, hB0⟩
    (fun x => { tmps := #[.bool false, .pointer (some ⟨tb, 0, none⟩), .pointer (some ⟨w1.heap.size, 0, none⟩), .pointer (some ⟨(w1.heap.size + 1), 0, none⟩), .func (.func 117) #[] #[.pointer (some ⟨bt, 0, none⟩), .pointer (some ⟨bs, 0, none⟩), .pointer (some ⟨bk, 0, none⟩)], undef, .int .i64 x.2, .tuple #[.pointer (some ⟨tb, 0, none⟩), .agg #[.slice A0 n0 c0, .slice A1 n1 c1, .slice A2 n2 c2, .slice A3 n3 c3, .slice A4 n4 c4]], .agg #[.string { data := #[98] }, .int .i64 2], .agg #[.string { data := #[97] }, .int .i64 1], .slice (some ⟨w.heap.size, 0, none⟩) 2 2, .tuple #[.pointer (some ⟨tb, 0, none⟩), .agg #[.slice A0 n0 c0, .slice A1 n1 c1, .slice A2 n2 c2, .slice A3 n3 c3, .slice A4 n4 c4]], .pointer (some ⟨tb, 0, none⟩), .agg #[.slice A0 n0 c0, .slice A1 n1 c1, .slice A2 n2 c2, .slice A3 n3 c3, .slice A4 n4 c4], .pointer (some ⟨tb, 0, none⟩), .bool false, .pointer (some ⟨tb, 0, none⟩), .func (.func 117) #[] #[.pointer (some ⟨bt, 0, none⟩), .pointer (some ⟨bs, 0, none⟩), .pointer (some ⟨bk, 0, none⟩)], .func (.func 117) #[] #[.pointer (some ⟨bt, 0, none⟩), .pointer (some ⟨bs, 0, none⟩), .pointer (some ⟨bk, 0, none⟩)], .bool false, .func (.func 117) #[] #[.pointer (some ⟨bt, 0, none⟩), .pointer (some ⟨bs, 0, none⟩), .pointer (some ⟨bk, 0, none⟩)], .string x.1, .int .i64 x.2, undef, undef, undef, undef, undef, undef, undef, undef, undef, undef, undef], defers := [] }) ?assign ?body ?done ?stop
  case assign =>
    intro l x W K hK
    gi_wp2
    exact hK
  case body =>
    rintro l pre x W ⟨hv, hB⟩ hlt
    have hc := hv.cell
    have hf := hv.frozen
    gi_wp2
    refine ⟨(KeepsOthers.setCell _ _ _).from _, KpM.setBox (M := fun k => k = w1.heap.size + 1) hv (by decide) rfl _, ?_, hB.setCell (p := ⟨w1.heap.size + 1, 0, none⟩) (by show w1.heap.size ≤ w1.heap.size + 1; omega) _⟩
    rw [sumW_snoc]
    exact hv.set _
  case done =>
    rintro D ys W hD e9 ⟨hv, hB⟩ hK
    rw [e9, hov, show sumW twoX = 12 from by unfold sumW twoX; simp [wrap64]] at hv
    have hc := hv.cell
    gi_wp2_with (refine ⟨trivial, ?_⟩; gi_at_call 25; refine (hcn.out _ (ht.keep (Kept.of hB))).mono ?_; rintro e w3 ⟨rfl, hb3⟩)
    have hK3 := (hb3.block D (Array.getElem?_eq_some_iff.1 hK).1).trans hK
    refine ⟨by simp, .inl ⟨_, _, rfl, run_takeDeferred hK3, ?_⟩⟩
    exact ⟨_, results_tmp rfl _ _ _, rfl, (belowAt (hbw.trans (hB.mono (by omega))) hb3).trans (belowK_b (w := w2) (by omega) w3 D _ _ hD hK3 rfl rfl)⟩
  case stop =>
    rintro D c pre W _ _ h _
    exact h.elim
end Go.Proofs.Ytjhgknagmiekeaa.V
set_option linter.unusedVariables false
set_option linter.unusedSimpArgs false
namespace Go.Proofs.Ytjhgknagmiekeaa.V
open Go.RowKit Go.Lib Go.Proofs Go.Shelf
open Go.Proofs.Ytjhgknagmiekeaa.T
open Go.Proofs.YtjhgknagmiekeaaW.PrintWords hiding blk_cell
structure FarB (X : Nat → Prop) (W W' : World) : Prop where
  off : ∀ k, X k → ∀ cs t fr, W.heap[k]? = some (.cells cs t fr) → (t ≠ 117 ∧ t ≠ 124 ∧ t ≠ 127) ∧ ∀ (j : Nat) (b : Nat), cs[j]? = some (ptr b) → ∀ cs' fr', W.heap[b]? ≠ some (.cells cs' 117 fr')
  same : ∀ k, ¬ X k → k < W.heap.size → W'.heap[k]? = W.heap[k]?
theorem FarB.at {X : Nat → Prop} {W W' : World} (h : FarB X W W') {b : Nat} {cs : Array Value} {t : TypeId} {fr : Nat × Nat} (hv : W.heap[b]? = some (.cells cs t fr)) (ht : t = 117 ∨ t = 124 ∨ t = 127) : W'.heap[b]? = some (.cells cs t fr) := by
  refine (h.same b (fun e => ?_) (Array.getElem?_eq_some_iff.1 hv).1).trans hv
  obtain ⟨⟨h1, h2, h3⟩, -⟩ := h.off b e _ _ _ hv
  rcases ht with rfl | rfl | rfl
  · exact h1 rfl
  · exact h2 rfl
  · exact h3 rfl
theorem FarB.kid {X : Nat → Prop} {W W' : World} (h : FarB X W W') {a : Addr} {b : Nat} (hv : W.cell? a = some (ptr b)) {cs : Array Value} {fr : Nat × Nat} (hb : W.heap[b]? = some (.cells cs 117 fr)) : W'.cell? a = some (ptr b) := by
  refine (World.cell?_of_block (h.same a.block (fun e => ?_) (World.block_lt_of_cell? W a hv))).trans hv
  unfold World.cell? at hv
  cases ho : W.heap[a.block]? with
  | none => rw [ho] at hv; cases hv
  | some o =>
    rw [ho] at hv
    cases o with
    | cells cs0 t0 fr0 =>
      have h3 : a.spot = none ∧ cs0[a.off]? = some (ptr b) := by simpa using hv
      exact (h.off a.block e _ _ _ ho).2 _ _ h3.2 _ _ hb
    | _ => cases hv
theorem nd_blk {W : World} : ∀ {n : Nd}, NdAt W n → ∃ cs fr, W.heap[n.b]? = some (.cells cs 117 fr)
  | .mk b label leaf kids mark, hn => by
    unfold NdAt at hn
    obtain ⟨⟨kv, h1, h2⟩, h3, h4, h5⟩ := hn
    exact ⟨_, _, h1⟩
theorem farB_row {X : Nat → Prop} {W W' : World} (h : FarB X W W') {v : Value} {ks : List Nd} (hk : ∀ k ∈ ks, NdAt W k) (hr : Row W v (ptrs ks)) : Row W' v (ptrs ks) := by
  rcases hr with hr | ⟨ad, c, hv, hr⟩
  · exact .inl hr
  · refine .inr ⟨ad, c, hv, fun i hi => ?_⟩
    have h1 := hr i hi
    have hi' : i < ks.length := by simpa [ptrs] using hi
    have e : (ptrs ks)[i] = ptr (ks[i]'hi').b := by simp [ptrs]
    rw [e] at h1 ⊢
    obtain ⟨cs, fr, hb⟩ := nd_blk (hk _ (List.getElem_mem hi'))
    exact h.kid h1 hb
theorem farB_leaf {X : Nat → Prop} {W W' : World} (h : FarB X W W') {o : Option Lf} (hl : LfAt W o) : LfAt W' o := fun l e => h.at (hl l e) (.inr (.inr rfl))
mutual
theorem farB_nd {X : Nat → Prop} {W W' : World} (h : FarB X W W') : ∀ t : Nd, NdAt W t → NdAt W' t
  | .mk b label leaf kids mark, hn => by
    unfold NdAt at hn ⊢
    obtain ⟨⟨kv, h1, h2⟩, h3, h4, h5⟩ := hn
    exact ⟨⟨kv, h.at h1 (.inl rfl), farB_row h (fun k hk => h4.mem k hk) h2⟩, farB_leaf h h3, farB_nds h kids h4, h5⟩
theorem farB_nds {X : Nat → Prop} {W W' : World} (h : FarB X W W') : ∀ ks : List Nd, NdsAt W ks → NdsAt W' ks
  | [], _ => by unfold NdsAt; trivial
  | n :: r, hn => by
    unfold NdsAt at hn ⊢
    exact ⟨farB_nd h n hn.1, farB_nds h r hn.2⟩
end
theorem farB_tr {X : Nat → Prop} {W W' : World} (h : FarB X W W') {tb : Nat} {root : Nd} (ht : Tr W tb root) : Tr W' tb root := ⟨⟨h.at ht.at_.blk (.inr (.inl rfl)), farB_nd h root ht.at_.root⟩, ht.fine, ht.vals⟩
theorem farB_box {W : World} {B : Nat} {t : TypeId} {v : Value} (hv : Boxed W B t v) (ht : t ≠ 117 ∧ t ≠ 124 ∧ t ≠ 127) (hp : ∀ b, v = ptr b → ∀ cs' fr', W.heap[b]? ≠ some (.cells cs' 117 fr')) (v' : Value) : FarB (fun k => k = B) W (W.setCell ⟨B, 0, none⟩ v') := by
  refine ⟨fun k hk cs t' fr h => ?_, fun k hk h1 => Below.heap_setCell _ _ _ k hk⟩
  subst hk
  rw [show W.heap[k]? = _ from hv] at h
  cases h
  refine ⟨ht, fun j b hj cs' fr' => hp b ?_ cs' fr'⟩
  match j, hj with
  | 0, hj => exact Option.some.inj hj
end Go.Proofs.Ytjhgknagmiekeaa.V
set_option linter.unusedVariables false
set_option linter.unusedSimpArgs false
namespace Go.Proofs.Ytjhgknagmiekeaa.V
open Go.RowKit Go.Lib Go.Proofs Go.Shelf
open Go.Proofs.Ytjhgknagmiekeaa.T Go.Proofs.Ytjhgknagmiekeaa.N Go.Proofs.Ytjhgknagmiekeaa.K
open Go.Proofs.YtjhgknagmiekeaaW.PrintWords hiding blk_cell
theorem str_set {W : World} {B : Nat} {t : TypeId} {v : Value} (hv : Boxed W B t v) (hn : ∀ s, v ≠ .string s) (v' : Value) {a : Addr} {s : ByteArray} (h : W.cell? a = some (.string s)) : (W.setCell ⟨B, 0, none⟩ v').cell? a = some (.string s) := by
  refine (World.cell?_of_block (Below.heap_setCell _ _ _ _ (fun e => ?_))).trans h
  unfold World.cell? at h
  rw [e, show W.heap[B]? = _ from hv] at h
  have h3 : a.spot = none ∧ #[v][a.off]? = some (.string s) := by simpa using h
  have : v = .string s := by
    match ho : a.off, h3.2 with
    | 0, h4 => simpa [ho] using h4
    | n + 1, h4 => simp [ho] at h4
  exact hn s this
theorem slS_set {W : World} {B : Nat} {t : TypeId} {v : Value} (hv : Boxed W B t v) (hn : ∀ s, v ≠ .string s) (v' : Value) {x : Value} {xs : List ByteArray} (h : SlS W x xs) : SlS (W.setCell ⟨B, 0, none⟩ v') x xs := by
  obtain ⟨A, c, h1, h2, h3⟩ := h
  refine ⟨A, c, h1, h2, ?_⟩
  obtain ⟨k1, k2, k3⟩ := h3
  refine ⟨k1, k2, fun hp => ?_⟩
  obtain ⟨ad, e, hc⟩ := k3 hp
  refine ⟨ad, e, fun j p hj => ?_⟩
  obtain ⟨cs, g1, g2, g3⟩ := hc j p hj
  refine ⟨cs, g1, g2, fun i u hu => ?_⟩
  have g4 := g3 i u hu
  have g5 : cs = [.string p] := g2
  subst g5
  match i, hu with
  | 0, hu => cases hu; exact str_set hv hn v' g4
theorem slS_at {w : World} {v : Value} {ks : List ByteArray} (h : SlS w v ks) (i : Nat) (hi : i < ks.length) : ∃ ad c, v = .slice (some ad) ks.length c ∧ ks.length ≤ c ∧ w.cell? (ad.add i) = some (.string (gd ks i)) := by
  obtain ⟨A, c, h1, h2, k1, k2, k3⟩ := h
  obtain ⟨ad, e, hc⟩ := k3 (by omega)
  obtain ⟨cs, g1, g2, g3⟩ := hc i _ (List.getElem?_eq_getElem hi)
  have g5 : cs = [.string ks[i]] := g2
  subst g5
  have g4 := g3 0 _ rfl
  have e1 : i * 1 + 0 = i := by omega
  rw [show i * Kd.string.sz + 0 = i from e1] at g4
  rw [gd_get hi]
  exact ⟨ad, c, by rw [h1, e], h2, g4⟩
def PK (ks : List ByteArray) (pre : List (ByteArray × Int)) : Prop := pre.length ≤ ks.length ∧ pre.map (·.1) = ks.take pre.length
theorem pk_nil (ks : List ByteArray) : PK ks [] := ⟨Nat.zero_le _, rfl⟩
theorem pk_snoc {ks : List ByteArray} {pre : List (ByteArray × Int)} {x : ByteArray × Int} (h : PK ks pre) (hl : pre.length < ks.length) (hx : x.1 = gd ks pre.length) : PK ks (pre ++ [x]) := by
  refine ⟨by rw [List.length_append, List.length_singleton]; omega, ?_⟩
  rw [List.map_append, h.2, List.length_append, List.length_singleton, List.take_add_one, List.getElem?_eq_getElem hl]
  rw [gd_get hl] at hx
  simp [hx]
theorem pk_not {ks : List ByteArray} {pre : List (ByteArray × Int)} {x : ByteArray × Int} (h : ¬ (pre.length < ks.length ∧ x.1 = gd ks pre.length)) : ¬ PK ks (pre ++ [x]) := fun ⟨h1, h2⟩ => by
  rw [List.length_append, List.length_singleton] at h1 h2
  refine h ⟨by omega, ?_⟩
  have h3 := congrArg (fun l => l[pre.length]?) h2
  simp only [List.map_append, List.map_cons, List.map_nil] at h3
  have h5 : (ks.take (pre.length + 1))[pre.length]? = ks[pre.length]? := List.getElem?_take_of_lt (by omega)
  have h6 : ks[pre.length]? = some (ks[pre.length]'(by omega)) := List.getElem?_eq_getElem (by omega)
  rw [List.getElem?_append_right (by simp), List.length_map, Nat.sub_self, h5, h6] at h3
  rw [gd_get (by omega)]
  exact Option.some.inj h3
theorem pk_pre {ks : List ByteArray} {vs : List Int} (hv : vs.length = ks.length) {pre : List (ByteArray × Int)} (h : pre <+: ks.zip vs) : PK ks pre := by
  have h1 := h.length_le
  rw [List.length_zip] at h1
  refine ⟨by omega, ?_⟩
  have e : pre = (ks.zip vs).take pre.length := List.prefix_iff_eq_take.1 h
  have e2 : (ks.zip vs).map (·.1) = ks := by
    rw [List.map_fst_zip]
    omega
  conv => lhs; rw [e]
  rw [List.map_take, e2]
theorem all_eq {root : Nd} {t : Rt} (hg : T.Good root) (h : Agree root t) : ovr (fun _ => false) (fun _ => true) ⟨#[]⟩ root = t.ks.zip t.vs := by
  have e := ovr_eqs hg h (fun _ => false) (fun _ => true) hskA
  rw [e]
  exact List.filter_eq_self.2 (fun _ _ => rfl)
theorem beq_yes {a b : ByteArray} (h : a = b) : (a.toList == b.toList) = true := by rw [h]; simp
theorem beq_no {a b : ByteArray} (h : ¬ a = b) : (a.toList == b.toList) = false := by
  rw [beq_eq_false_iff_ne]
  intro e
  rw [Lib.toList_data, Lib.toList_data] at e
  exact h (by cases a; cases b; congr 1; exact Array.toList_inj.1 e)
theorem kpM_own {β : Type} {n₁ B : Nat} {M : Nat → Prop} {W0 : World} (h1 : n₁ ≤ B) (h0 : W0.heap.size ≤ B) : OwnFrom B (fun (_ : β) W => KpM n₁ M W0 W) := fun s X Y row hs hg hr => by
  have key : ∀ (k : Nat) (o : Obj), k < B → X.heap[k]? = some o → Y.heap[k]? = some o := fun k o hk h => (hg.block k (Array.getElem?_eq_some_iff.1 h).1 (fun e => by have := (hr k e.symm).1; omega)).trans h
  refine ⟨Nat.le_trans hs.size hg.size, fun k o hk h1' h2 => key k o (by omega) (hs.low k o hk h1' h2), fun k cs fr hk => key k _ ?_ (hs.node k cs fr hk)⟩
  have := (Array.getElem?_eq_some_iff.1 hk).1
  omega
theorem KpM.setNew {n₁ b : Nat} {M : Nat → Prop} {W Z : World} (h : KpM n₁ M W Z) (v : Value) (hb : W.heap.size ≤ b) : KpM n₁ M W (Z.setCell ⟨b, 0, none⟩ v) := by
  have key : ∀ (k : Nat) (o : Obj), W.heap[k]? = some o → Z.heap[k]? = some o → (Z.setCell ⟨b, 0, none⟩ v).heap[k]? = some o := fun k o h1 h2 => by
    have := (Array.getElem?_eq_some_iff.1 h1).1
    rw [Below.heap_setCell _ _ _ k (by show k ≠ b; omega)]
    exact h2
  exact ⟨Nat.le_trans h.size (grownBy_setCell' Z b v).size, fun k o h1 h2 h3 => key k o h1 (h.low k o h1 h2 h3), fun k cs fr h1 => key k _ h1 (h.node k cs fr h1)⟩
end Go.Proofs.Ytjhgknagmiekeaa.V
