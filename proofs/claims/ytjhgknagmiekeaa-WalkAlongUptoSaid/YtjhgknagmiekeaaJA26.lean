/- joined: N9 V13 V11 -/
import Derived.Test.YtjhgknagmiekeaaJA24
import Derived.Test.YtjhgknagmiekeaaJA25
import Derived.Test.YtjhgknagmiekeaaJA22
import Derived.Test.YtjhgknagmiekeaaJA2
import Derived.Laws.StructEq
import Derived.Test.YtjhgknagmiekeaaJA3
import Derived.Test.YtjhgknagmiekeaaRows
import Derived.Test.YtjhgknagmiekeaaJA5
import Derived.Deep.Slices
import Derived.Deep.Fields
import Derived.ChangeSame
import Derived.SizedLaws
import Derived.ProofKit
set_option linter.unusedVariables false
set_option linter.unusedSimpArgs false
namespace Go.Proofs.Ytjhgknagmiekeaa.N
open Go.RowKit Go.Proofs.Ytjhgknagmiekeaa.K Go.Proofs.YtjhgknagmiekeaaW.PrintWords Go.Proofs.YtjhgknagmiekeaaW.PrintLast
open Go.Proofs.Ytjhgknagmiekeaa.T (Nd Lf Ent All valT findT IntVals Fine Tr longN)
open Go.Proofs.Ytjhgknagmiekeaa.V (valI ovr ovrs pre skL)
theorem starts_preB (a b : ByteArray) : B.musterref01_Starts.f a b = some (pre (T.L a) (T.L b)) := V.pre_f a b
theorem along_ev (t : Rt) (h : Rok t) (hl : t.ks.length < 100000000000) (p : ByteArray) : Ev (fun k => B.musterref04_Along.f k t.ks t.vs t.ls t.ps t.ms p) (ints (plc t.ks (fun k => pre (T.L p) (T.L k)))) := by
  have key : ∀ d i : Nat, t.ks.length - i = d → i ≤ t.ks.length → Ev (fun k => B.musterref04_Along.l0 k p (ints (upto t.ks (fun k => pre (T.L p) (T.L k)) i)) t.ks (t.ks.length : Int) (i : Int)) (ints (plc t.ks (fun k => pre (T.L p) (T.L k)))) := by
    intro d
    induction d with
    | zero =>
      intro i hd hi
      have e : i = t.ks.length := by omega
      subst e
      refine Ev.step (f := fun k => some (ints (plc t.ks (fun k => pre (T.L p) (T.L k))))) (fun k => ?_) (Ev.now _)
      simp only [B.musterref04_Along.l0]
      rw [if_neg (by omega)]
      rfl
    | succ d ih =>
      intro i hd hi
      have hlt : i < t.ks.length := by omega
      have hi2 := ih (i + 1) (by omega) (by omega)
      have hul := upto_le t.ks (fun k => pre (T.L p) (T.L k)) i
      refine Ev.step (fun k => ?_) hi2
      simp only [B.musterref04_Along.l0]
      rw [if_pos (by omega), if_pos (by omega), if_pos (by omega), rdOf_gd, wadd i (by omega), starts_preB, Option.bind_some, upto_succ]
      by_cases hb : pre (T.L p) (T.L (gd t.ks i)) = true
      · rw [if_pos hb, if_pos hb, if_pos (by rw [List.length_map]; omega), ints, ints, List.map_append]
        rfl
      · rw [if_neg hb, if_neg hb]
  exact key t.ks.length 0 (by omega) (by omega)
theorem alongRtC (w : World) (t : Rt) (h : Rok t) (hl : t.ks.length < 100000000000) (v0 v1 v2 v3 v4 : Value) (hm : RtAt w t v0 v1 v2 v3 v4) (p : ByteArray) :
    Calls Try.prog 34 #[.agg #[v0, v1, v2, v3, v4], .string p] w fun e w' => ∃ A n c, e = .returned (.slice A n c) ∧ PlAt w' (.slice A n c) (plc t.ks (fun k => pre (T.L p) (T.L k))) ∧ Below w.heap.size w w' := by
  obtain ⟨k, hk⟩ := (along_ev t h hl p).rounds
  obtain ⟨⟨A0, c0, rfl, p0, q0⟩, ⟨A1, c1, rfl, p1, q1⟩, ⟨A2, c2, rfl, p2, q2⟩, ⟨A3, c3, rfl, p3, q3⟩, ⟨A4, c4, rfl, p4, q4⟩⟩ := hm
  refine (B.musterref04_Along.calls k A0 c0 t.ks A1 c1 t.vs A2 c2 t.ls A3 c3 t.ps A4 c4 t.ms p _ w q0 p0 q1 p1 q2 p2 q3 p3 q4 p4 hk).mono ?_
  rintro e w' ⟨v, rfl, hr, hb⟩
  obtain ⟨A, c, rfl, h1, h2⟩ := Kd.R_reads hr
  exact ⟨A, _, c, rfl, ⟨A, c, rfl, h1, h2⟩, hb⟩
theorem pre_lt {a b c : List UInt8} (ha : a <+: c) (hb : b <+: c) (h : a < b) : a.length < b.length := by
  rcases Nat.lt_or_ge a.length b.length with h1 | h1
  · exact h1
  · exfalso
    have h2 : b <+: a := List.prefix_of_prefix_length_le hb ha h1
    obtain ⟨r, rfl⟩ := h2
    by_cases hr : r = []
    · subst hr
      rw [List.append_nil] at h
      exact T.blt_irrefl _ h
    · exact T.blt_asymm h (T.blt_ext b r hr)
theorem long_last {root : Nd} {t : Rt} (hf : Fine root) (hv : IntVals root) (ht : Rok t) (ha : Agree root t) (k : ByteArray) (l : Lf) (h : longN root k = some l) :
    ∃ (ys : List (ByteArray × Int)) (v : Int), (t.ks.zip t.vs).filter (fun x => pre (T.L k) (T.L x.1)) = ys ++ [(l.key, v)] ∧ l.val = .int .i64 v := by
  have h1 := T.long_eq hf.toGood k
  rw [h] at h1
  rcases h1 with ⟨j, hj, hj2, -, hj3⟩ | ⟨h2, -⟩
  · have hk := hf.toGood.keys _ _ hj2
    obtain ⟨v, ev⟩ := hv _ _ hj2
    obtain ⟨ys, eys⟩ : ∃ ys, (t.ks.zip t.vs).filter (fun x => pre (T.L k) (T.L x.1)) = ys := ⟨_, rfl⟩
    have hin : (l.key, v) ∈ ys := by
      rw [← eys, List.mem_filter]
      refine ⟨?_, ?_⟩
      · have h4 : (T.L l.key, v) ∈ (All root).map ey := (mem_ey hf.toGood hv _ _).2 (by unfold valT; rw [hk, hj2, Option.map_some, ev])
        rw [ha] at h4
        obtain ⟨y, hy, e⟩ := List.mem_map.1 h4
        have : y = (l.key, v) := ex_inj e
        rw [← this]
        exact hy
      · rw [pre_iff, hk]
        exact List.take_prefix _ _
    have hrise : (ys.map ex).Pairwise (fun a b => a.1 < b.1) := by
      rw [← eys]
      have h5 := rise_zip ht.rise ht.v.symm
      rw [List.pairwise_map] at h5 ⊢
      exact h5.sublist List.filter_sublist
    have hmax : ∀ y ∈ ys, ¬ T.L l.key < T.L y.1 := fun y hy hlt => by
      rw [← eys, List.mem_filter] at hy
      have hp := (pre_iff _ _).1 hy.2
      have hp2 : T.L l.key <+: T.L k := by rw [hk]; exact List.take_prefix _ _
      have hlen := pre_lt hp2 hp hlt
      rw [hk, List.length_take, Nat.min_eq_left hj] at hlen
      have h6 := hj3 (T.L y.1).length hlen hp.length_le
      rw [← List.prefix_iff_eq_take.1 hp] at h6
      have h7 : (T.L y.1, y.2) ∈ (All root).map ey := by
        rw [ha]
        exact List.mem_map.2 ⟨y, hy.1, rfl⟩
      have h8 := (mem_ey hf.toGood hv _ _).1 h7
      unfold valT at h8
      rw [h6] at h8
      cases h8
    obtain ⟨zs, z, ez⟩ : ∃ zs z, ys = zs ++ [z] := by
      rcases List.eq_nil_or_concat ys with e | ⟨zs, z, e⟩
      · rw [e] at hin; cases hin
      · exact ⟨zs, z, by rw [e, List.concat_eq_append]⟩
    have hz : z = (l.key, v) := by
      rw [ez, List.mem_append] at hin
      rcases hin with hin | hin
      · exfalso
        rw [ez, List.map_append, List.pairwise_append] at hrise
        have := hrise.2.2 _ (List.mem_map_of_mem hin) (ex z) (by simp)
        exact hmax z (by rw [ez]; simp) this
      · exact (List.mem_singleton.1 hin).symm
    exact ⟨zs, v, by rw [eys, ez, hz], ev⟩
  · cases h2
end Go.Proofs.Ytjhgknagmiekeaa.N
set_option linter.unusedVariables false
set_option linter.unusedSimpArgs false
namespace Go.Proofs.Ytjhgknagmiekeaa.V
open Go.Proofs.Ytjhgknagmiekeaa.VU (below_drewA)
open Go.RowKit Go.Lib Go.Proofs Go.Shelf
open Go.Proofs.Ytjhgknagmiekeaa.T Go.Proofs.Ytjhgknagmiekeaa.N Go.Proofs.Ytjhgknagmiekeaa.K
open Go.Proofs.YtjhgknagmiekeaaW.PrintWords hiding blk_cell
attribute [local go_sem] Oper.semAt_some
set_option maxHeartbeats 4000000 in
set_option maxRecDepth 100000 in
theorem alongC (tb : Nat) (p : ByteArray) (w : World) : Calls Try.prog 32 #[ptr tb, .string p] w fun e w' => ∃ bp bt bs bk, e = .returned (.func (.func 117) #[] #[ptr bt, ptr bs, ptr bk]) ∧ w.heap.size ≤ bp ∧ w'.heap[bp]? = some (.cells #[.string p] 9 (0, 0)) ∧ w'.heap[bt]? = some (.cells #[ptr tb] 24 (0, 0)) ∧ w'.heap[bs]? = some (.cells #[.func (.func 84) #[] #[ptr bp]] 110 (0, 0)) ∧ w'.heap[bk]? = some (.cells #[.func (.func 77) #[] #[]] 110 (0, 0)) ∧ Below w.heap.size w w' := by
  have q := Aside0.mk (fun w1 sa ka => walkedC tb (.func 84) (.func 77) sa ka w1)
  unfold ptr at q ⊢
  go_enter Try.func32, Try.ntmps32
  go_wp2_with (go_at_call 71; refine (q.out _ _ _).mono ?_)
  rintro e w' ⟨bt, bs, bk, rfl, h1, h2, h3, h4⟩
  have H := Aside0.mk (And.intro h1 (And.intro h2 (And.intro h3 h4)))
  clear h1 h2 h3 h4 q
  go_wp2_with fail
  go_ret
  refine ⟨w.heap.size, bt, bs, bk, rfl, Nat.le_refl _, ?_, H.out.1, H.out.2.1, H.out.2.2.1, belowAt ((Below.refl _ w).alloc (Nat.le_refl _) _) H.out.2.2.2⟩
  exact (H.out.2.2.2.block _ (by simp)).trans (World.alloc_heap_new w _)
theorem noUndef {b : Bool} {F : Prop} (h : some undef = some (Value.bool b)) : F := by cases h
section
attribute [local go_sem] Try.underlying35 Try.underlying9 Try.underlying3
theorem eqE (x : ByteArray × Int) (w : World) : Sem.run Try.prog (binOp BinOp.neq 35 (.agg #[.string x.1, .int .i64 x.2]) (.agg #[.string x.1, .int .i64 x.2])) w = .ok (.bool false) w := by
  have h : (Op.equalIn 10000 35 (.agg #[.string x.1, .int .i64 x.2]) (.agg #[.string x.1, .int .i64 x.2])).run Try.prog w = .ok ((x.1.toList == x.1.toList) && (x.2 == x.2)) w :=
    by
      refine eqA_of (d := 9999) Try.underlying35 (by kernel_rfl) ?_
      refine eqf_cons (by rfl) (by go_simp; rfl) (by go_simp; rfl) (by go_simp) ?_
      exact eqf_last (by rfl) (by go_simp; rfl) (by go_simp; rfl) (by go_simp)
  rw [run_neq_struct, h]
  simp
end
set_option maxRecDepth 100000 in
set_option maxHeartbeats 4000000 in
theorem alongLaw (A : Option Addr) (c : Nat) (l : List S35) (lo : ByteArray) (w : World) (hl : EntAt w A l) (hc : l.length ≤ c) (hlen : l.length < 10000000000) (hs : ∀ e ∈ l, e.f0.size < 4000000000000) (hlo : lo.size < 4000000000000) :
    Calls Try.prog 8 #[.slice A l.length c, .string lo] w fun e w' => e = .returned (.bool true) ∧ Below w.heap.size w w' := by
  refine callsIn_wide.1 (show CallsIn Fence.wide 9 Try.prog 8 _ w _ from ?_)
  have qa := Aside0.mk (show CallsIn Fence.wide 8 Try.prog 20 _ w _ from callsIn_wide.2 (aliveC w))
  have qb := Aside0.mk (fun w1 (h : Below w.heap.size w w1) => show CallsIn Fence.wide 8 Try.prog 21 _ w1 _ from callsIn_wide.2 (builtC A c l w1 (Kd.C_below hl h) hc hlen hs))
  have qf := Aside0.mk (fun w1 tb => show CallsIn Fence.wide 8 Try.prog 32 _ w1 _ from callsIn_wide.2 (alongC tb lo w1))
  have HN := Aside0.mk hlen
  clear hl hc hlen hs
  unfold ptr at qb qf
  have hnf := funcNil
  refine callsIn_of_wp_marks Try.func8 rfl trivial ?_ rfl
  simp only [Try.ntmps8, List.size_toArray, List.length_cons, List.length_nil, Nat.reduceAdd, Nat.reduceSub, Array.replicate_succ, Array.replicate_zero, List.push_toArray, List.append_toArray, List.nil_append, List.cons_append]
  gi_wp2_with (first
    | (refine ⟨trivial, ?_⟩; gi_at_call 20; refine qa.out.mono ?_; rintro e w0 ⟨rfl, hb0⟩; have HB0 := Aside0.mk hb0; clear hb0)
    | (refine ⟨trivial, ?_⟩; gi_at_call 21; refine (qb.out _ HB0.out).mono ?_; rintro e w1 ⟨tb, root, t, v0, v1, v2, v3, v4, rfl, ht, hk, ha, hr, hl, hv, hb⟩; obtain ⟨⟨A0, n0, c0, rfl⟩, ⟨A1, n1, c1, rfl⟩, ⟨A2, n2, c2, rfl⟩, ⟨A3, n3, c3, rfl⟩, ⟨A4, n4, c4, rfl⟩⟩ := hr.forms; have H1 := Aside0.mk (And.intro ht (And.intro hk (And.intro ha (And.intro hr (And.intro hl hb))))); clear ht hk ha hr hl hv hb)
    | (refine ⟨trivial, ?_⟩; gi_at_call 32; refine (qf.out _ _).mono ?_; rintro e w2 ⟨bp, bt, bs, bk, rfl, h0, h1, h2, h3, h4, h5⟩; have H2 := Aside0.mk (And.intro h0 (And.intro h1 (And.intro h2 (And.intro h3 (And.intro h4 h5))))); clear h0 h1 h2 h3 h4 h5))
  clear qa qb qf hnf
  obtain ⟨h0, h1, h2, h3, h4, h5⟩ := H2.out
  simp only [World.size_alloc] at h0 h5
  have hsz2 : w1.heap.size + 1 + 1 ≤ w2.heap.size := by have := h5.size; simp only [World.size_alloc] at this; exact this
  have bG : Boxed w2 (w1.heap.size + 1) 22 (.slice none 0 0) := (h5.block _ (by omega)).trans (by have := World.alloc_heap_new (w1.alloc (Obj.cells #[Value.slice A0 n0 c0, Value.slice A1 n1 c1, Value.slice A2 n2 c2, Value.slice A3 n3 c3, Value.slice A4 n4 c4] 28)) (Obj.cells #[.slice none 0 0] 22); rwa [World.size_alloc] at this)
  have bM : w2.heap[w1.heap.size]? = some (.cells #[.slice A0 n0 c0, .slice A1 n1 c1, .slice A2 n2 c2, .slice A3 n3 c3, .slice A4 n4 c4] 28 (0, 0)) := (h5.block _ (by omega)).trans ((Below.heap_alloc _ _ _ (by simp)).trans (World.alloc_heap_new w1 _))
  have hB0 : Below w1.heap.size w1 w2 := (((Below.refl _ w1).alloc (Nat.le_refl _) _).alloc (by simp) _).trans (h5.mono (by omega))
  have ht := H1.out.1
  have hf := ht.fine.toGood
  have hov := (ovr_L (L lo) root ⟨#[]⟩).trans (ovr_eqs hf H1.out.2.2.1 (skL (L lo)) (pre (L lo)) (hskL _))
  obtain ⟨NN, hNN⟩ : ∃ NN, (ovr (fun q => skL (L lo) (L q)) (fun _ => true) ⟨#[]⟩ root).length = NN := ⟨_, rfl⟩
  have hNl : NN ≤ t.ks.length := by
    rw [← hNN, hov]
    refine Nat.le_trans (List.length_filter_le _ _) ?_
    rw [List.length_zip]
    omega
  have hNs : NN < 10000000000 := by have := H1.out.2.2.2.2.1; have := HN.out; omega
  obtain ⟨i0, hi, hz0, hz1, hz2⟩ := info_parts info35
  have hml : 10000000000 ≤ maxLen := by decide
  refine wpIn_rangeFunc_ownG rfl (by decide) (gf := 117) (lb := #[ptr bt, ptr bs, ptr bk]) rfl trivial (enters_of Try.func117 (by kernel_rfl) rfl)
    (VL.seq w2 8 NN w2.heap.size (fun k => k = w1.heap.size + 1) w1 (Kept.of hB0) (by omega) (Nat.le_refl _) (fun k hk e => by omega) tb root ht bp bt bs bk ⟨h2, h3, h4⟩ lo h1 (Array.getElem?_eq_some_iff.1 h1).1 (fun e => by omega) (Nat.le_of_eq hNN))
    kpT (kpB (Nat.le_refl _)) (Below.refl _ _) (fun _ => rfl)
    (fun pre W => (∃ v, Boxed W (w1.heap.size + 1) 22 v ∧ W.ownsRow w2.heap.size 35 2 v pre.length (rowv pre) ∧ True) ∧ (W.heap[w1.heap.size]? = some (.cells #[.slice A0 n0 c0, .slice A1 n1 c1, .slice A2 n2 c2, .slice A3 n3 c3, .slice A4 n4 c4] 28 (0, 0)) ∧ Below w1.heap.size w1 W ∧ w2.heap.size ≤ W.heap.size))
    (fun _ _ _ => False)
    (OwnFrom.and (Own.from (holdsRow_own w2.heap.size (w1.heap.size + 1) 22 35 2 (fun pre : List (ByteArray × Int) => pre.length) rowv (fun _ _ => True)) _) (OwnFrom.and (Own.from (blk_own _ _ _ _) _) (OwnFrom.and (ownFrom_below (Nat.le_refl _) (by omega)) (fun s X Y row hs hg hr => Nat.le_trans hs hg.size))))
    (fun _ _ _ _ _ hs _ _ => hs)
    ⟨⟨_, bG, World.ownsRow_nil _ _ _ _, trivial⟩, bM, hB0, Nat.le_refl _⟩
    (fun x => { tmps := #[.slice A l.length c, .string lo, undef, undef, .bool false, .pointer (some ⟨tb, 0, none⟩), .pointer (some ⟨w1.heap.size, 0, none⟩), .pointer (some ⟨(w1.heap.size + 1), 0, none⟩), .func (.func 117) #[] #[.pointer (some ⟨bt, 0, none⟩), .pointer (some ⟨bs, 0, none⟩), .pointer (some ⟨bk, 0, none⟩)], .string x.1, .int .i64 x.2, undef, undef, undef, .bool true, .bool false, .tuple #[.pointer (some ⟨tb, 0, none⟩), .agg #[.slice A0 n0 c0, .slice A1 n1 c1, .slice A2 n2 c2, .slice A3 n3 c3, .slice A4 n4 c4]], .slice A l.length c, .tuple #[.pointer (some ⟨tb, 0, none⟩), .agg #[.slice A0 n0 c0, .slice A1 n1 c1, .slice A2 n2 c2, .slice A3 n3 c3, .slice A4 n4 c4]], .pointer (some ⟨tb, 0, none⟩), .agg #[.slice A0 n0 c0, .slice A1 n1 c1, .slice A2 n2 c2, .slice A3 n3 c3, .slice A4 n4 c4], .pointer (some ⟨tb, 0, none⟩), .bool false, .pointer (some ⟨tb, 0, none⟩), .string lo, .func (.func 117) #[] #[.pointer (some ⟨bt, 0, none⟩), .pointer (some ⟨bs, 0, none⟩), .pointer (some ⟨bk, 0, none⟩)], .func (.func 117) #[] #[.pointer (some ⟨bt, 0, none⟩), .pointer (some ⟨bs, 0, none⟩), .pointer (some ⟨bk, 0, none⟩)], .bool false, .func (.func 117) #[] #[.pointer (some ⟨bt, 0, none⟩), .pointer (some ⟨bs, 0, none⟩), .pointer (some ⟨bk, 0, none⟩)], .string x.1, .int .i64 x.2, undef, undef, undef, undef, undef, undef, undef, undef, undef, undef, undef, undef, undef, undef, undef, undef, undef, undef, undef, undef, undef, undef, undef, undef, undef, undef, undef, undef, undef, undef, undef, undef, undef, undef, undef, undef, undef], defers := [] }) ?assign ?body ?done ?stop
  case assign =>
    intro l x W K hK
    gi_wp2
    exact hK
  case body =>
    rintro l pre x W ⟨⟨v, hv, hrow, -⟩, hbm, hB, hW⟩ hlt
    have hc := hv.cell
    gi_wp2_with (gi_at_builtin; refine wpListIn_append_own _ rfl _ _ 22 rfl w2.heap.size 35 i0 (.agg #[.string ⟨#[]⟩, .int .i64 0]) 2 24 Try.underlying22 hi hz0 hz1 hz2 rfl (by decide) _ _ _ rfl (hrow.alloc _) ⟨W.heap.size, 0, none⟩ 1 1 [.string x.1, .int .i64 x.2] rfl rfl (cell_two_new _ _ _ _) (by simp [Value.oneCell']) (by omega) (by omega) (by simp; omega) ?_; intro v' w1' hown' hgrow _; obtain ⟨g', cap', rfl⟩ := ownsRow_succ hown'; obtain ⟨hv1, hv2, hr2, hk2, hb2, hkp, hlow⟩ := appended2 (n₀ := w1.heap.size) (M := fun k => k = w1.heap.size + 1) hv (by decide) (by decide) (by decide) hrow hW (by omega) (by omega) rfl hown' hgrow; have hc1 := hv1.cell; have hf1 := hv1.frozen)
    exact ⟨hk2.from _, hkp, ⟨⟨_, hv2, by rw [List.length_append, rowv_snoc]; exact hr2, trivial⟩, (hlow _ (by omega) (by omega)).trans hbm, hB.trans hb2, Nat.le_trans hW hb2.size⟩⟩
  case done =>
    rintro D ys W hD e9 ⟨⟨v, hv, hrow, -⟩, hbm, hB, hW⟩ hK
    obtain ⟨Ag, cg, rfl, hg1, hg2⟩ := own_got hrow
    have hgot : GoAt W (.slice Ag (ys.map mkE).length cg) (atPl t (plc t.ks (fun k => pre (L lo) (L k)))) := by
      rw [← got_eq t H1.out.2.1, ← hov, ← e9]
      exact ⟨Ag, cg, rfl, hg1, hg2⟩

    have hl8 : t.ks.length < 100000000000 := by have := H1.out.2.2.2.2.1; have := HN.out; omega
    have hrt := H1.out.2.2.2.1.below hB
    have hq := treeLongest W tb root _ lo (ht.at_.keep (Kept.of hB)) ht.fine.ok ht.fine.sm ht.fine.top hlo
    cases hln : longN root lo with
    | none =>
      obtain ⟨ng, eng⟩ : ∃ ng, (ys.map mkE).length = ng := ⟨_, rfl⟩
      rw [eng] at hgot hv
      rw [hln] at hq
      have qL := Aside0.mk (show CallsIn Fence.wide 8 Try.prog 33 _ W _ from callsIn_wide.2 hq)
      clear hq eng hln
      unfold toldV ptr at qL
      gi_wp2_with (refine ⟨trivial, ?_⟩; gi_at_call 33; refine qL.out.mono ?_; rintro e W0 ⟨rfl, B0⟩)
      all_goals first | (exact noUndef (by assumption)) | skip

      have hB9 := belowAt hB B0
      have hv0 : Boxed W0 (w1.heap.size + 1) 22 (.slice Ag ng cg) := (B0.block _ hv.lt).trans hv
      have hbm0 := (B0.block _ (Array.getElem?_eq_some_iff.1 hbm).1).trans hbm
      have hK0 := (B0.block _ (Array.getElem?_eq_some_iff.1 hK).1).trans hK
      have hW0 := Nat.le_trans hW B0.size
      have hgot0 := hgot.below B0
      have hrt0 := hrt.below B0
      have q1 := Aside0.mk (fun W1 (h : Below W0.heap.size W0 W1) => show CallsIn Fence.wide 8 Try.prog 34 _ W1 _ from callsIn_wide.2 (alongRtC W1 t H1.out.2.1 hl8 _ _ _ _ _ (hrt0.below h) lo))
      have q2 := Aside0.mk (fun W1 (h : Below W0.heap.size W0 W1) pv (hp : PlAt W1 pv (plc t.ks (fun k => pre (L lo) (L k)))) => show CallsIn Fence.wide 8 Try.prog 23 _ W1 _ from callsIn_wide.2 (theseC W1 t H1.out.2.1 _ _ _ _ _ (hrt0.below h) (plc t.ks (fun k => pre (L lo) (L k))) (fun i hi => plc_mem hi) (by have := plc_len t.ks (fun k => pre (L lo) (L k)); omega) _ (hgot0.below h) pv hp))
      have g0 := hv0.cell
      have m0 : W0.cell? ⟨w1.heap.size, 0, none⟩ = some (.slice A0 n0 c0) := by rw [blk_cell hbm0]; rfl
      have m1 : W0.cell? ⟨w1.heap.size, 1, none⟩ = some (.slice A1 n1 c1) := by rw [blk_cell hbm0]; rfl
      have m2 : W0.cell? ⟨w1.heap.size, 2, none⟩ = some (.slice A2 n2 c2) := by rw [blk_cell hbm0]; rfl
      have m3 : W0.cell? ⟨w1.heap.size, 3, none⟩ = some (.slice A3 n3 c3) := by rw [blk_cell hbm0]; rfl
      have m4 : W0.cell? ⟨w1.heap.size, 4, none⟩ = some (.slice A4 n4 c4) := by rw [blk_cell hbm0]; rfl
      have HBn := Aside0.mk (below_drewA (Below.refl W0.heap.size W0))
      have HEND := Aside0.mk (And.intro hD (And.intro hK0 (And.intro hB9 hW0)))
      clear hD hK hB hW hrt hgot hl8 hv hbm hg1 hg2 hrow hov hf ht hB0 bM bG h5 h4 h3 h2 h1 h0 hz2 hz1 hz0 hi hB9 hv0 hbm0 hK0 hW0 hgot0 hrt0 B0 qL
      first | (gi_region_with (first
        | (refine ⟨trivial, ?_⟩; gi_at_call 34; refine (q1.out _ HBn.out).mono ?_; rintro e W1 ⟨Ap, np, cp, rfl, hp, B1⟩; have d0 := (Kept.of B1).cell g0; have x0 := (Kept.of B1).cell m0; have x1 := (Kept.of B1).cell m1; have x2 := (Kept.of B1).cell m2; have x3 := (Kept.of B1).cell m3; have x4 := (Kept.of B1).cell m4; have HP := Aside0.mk hp; have n0_ := Aside0.mk (belowAt HBn.out B1); clear hp HBn; have HBn := n0_; clear n0_ B1)
        | (refine ⟨trivial, ?_⟩; gi_at_call 23; refine (q2.out _ HBn.out _ HP.out).mono ?_; rintro e W2 ⟨rfl, B2⟩; have n0_ := Aside0.mk (belowAt HBn.out B2); clear HBn; have HBn := n0_; clear n0_ B2))) | fail
      all_goals (
        gi_wp2_with fail
        have hK3 := (HBn.out.block D (Array.getElem?_eq_some_iff.1 HEND.out.2.1).1).trans HEND.out.2.1
        refine ⟨by simp, .inl ⟨_, _, rfl, run_takeDeferred hK3, ?_⟩⟩
        exact ⟨_, results_tmp rfl _ _ _, rfl, (belowAt (belowAt (belowAt HB0.out H1.out.2.2.2.2.2) HEND.out.2.2.1) HBn.out).trans (belowK_b (w := w2) (by have h1 := HB0.out.size; have h2 := H1.out.2.2.2.2.2.size; omega) _ D _ _ HEND.out.1 hK3 rfl rfl)⟩)
    | some lf =>
      obtain ⟨zs, va, ez, eva⟩ := long_last ht.fine ht.vals H1.out.2.1 H1.out.2.2.1 lo lf hln
      have eys : ys = zs ++ [(lf.key, va)] := by rw [e9, hov]; exact ez
      obtain ⟨mg, emg⟩ : ∃ mg, zs.length = mg := ⟨_, rfl⟩
      have eng : (ys.map mkE).length = mg + 1 := by rw [List.length_map, eys, List.length_append, emg]; rfl
      have hmg : mg < 10000000000 := by
        have h9 : ys.length = NN := by rw [e9, hNN]
        rw [List.length_map] at eng
        omega
      obtain ⟨ad, ead, hy0, hy1⟩ := at_T35 hg2 (mg : Int) (by omega) (by omega)
      subst ead
      have hlast : rd_T35 (ys.map mkE) (mg : Int) = mkE (lf.key, va) := by
        rw [eys, ← emg]
        simp [rd_T35, List.getD_eq_getElem?_getD]
      rw [hlast, Int.toNat_natCast] at hy0 hy1
      rw [eng] at hgot hv
      rw [hln] at hq
      obtain ⟨Ag, hAg⟩ : ∃ Ag, some ad = Ag := ⟨_, rfl⟩
      rw [hAg] at hgot hv
      obtain ⟨ng, hng⟩ : ∃ ng, mg + 1 = ng := ⟨_, rfl⟩
      have hm9 : mg = ng - 1 := by omega
      have hn0 : 0 < ng := by omega
      have hnb : ng < 20000000000 := by omega
      rw [hng] at hgot hv
      rw [hm9] at hy0 hy1
      clear hng hm9
      have qL := Aside0.mk (show CallsIn Fence.wide 8 Try.prog 33 _ W _ from callsIn_wide.2 hq)
      rw [show toldV (some lf) = .tuple #[.string lf.key, .int .i64 va, .bool true] from by show Value.tuple #[.string lf.key, lf.val, .bool true] = _; rw [eva]] at qL
      unfold ptr at qL
      clear hq eng hln
      have hneq := eqE (lf.key, va)
      have r9 := hv.cell
      subst hAg
      gi_wp2_with (refine ⟨trivial, ?_⟩; gi_at_call 33; refine qL.out.mono ?_; rintro e W0 ⟨rfl, B0⟩; have z0 := (Kept.of B0).cell hy0; have z1 := (Kept.of B0).cell hy1; have r0 := (Kept.of B0).cell r9)

      have hB9 := belowAt hB B0
      have hv0 : Boxed W0 (w1.heap.size + 1) 22 (.slice (some ad) ng cg) := (B0.block _ hv.lt).trans hv
      have hbm0 := (B0.block _ (Array.getElem?_eq_some_iff.1 hbm).1).trans hbm
      have hK0 := (B0.block _ (Array.getElem?_eq_some_iff.1 hK).1).trans hK
      have hW0 := Nat.le_trans hW B0.size
      have hgot0 := hgot.below B0
      have hrt0 := hrt.below B0
      have q1 := Aside0.mk (fun W1 (h : Below W0.heap.size W0 W1) => show CallsIn Fence.wide 8 Try.prog 34 _ W1 _ from callsIn_wide.2 (alongRtC W1 t H1.out.2.1 hl8 _ _ _ _ _ (hrt0.below h) lo))
      have q2 := Aside0.mk (fun W1 (h : Below W0.heap.size W0 W1) pv (hp : PlAt W1 pv (plc t.ks (fun k => pre (L lo) (L k)))) => show CallsIn Fence.wide 8 Try.prog 23 _ W1 _ from callsIn_wide.2 (theseC W1 t H1.out.2.1 _ _ _ _ _ (hrt0.below h) (plc t.ks (fun k => pre (L lo) (L k))) (fun i hi => plc_mem hi) (by have := plc_len t.ks (fun k => pre (L lo) (L k)); omega) _ (hgot0.below h) pv hp))
      have g0 := hv0.cell
      have m0 : W0.cell? ⟨w1.heap.size, 0, none⟩ = some (.slice A0 n0 c0) := by rw [blk_cell hbm0]; rfl
      have m1 : W0.cell? ⟨w1.heap.size, 1, none⟩ = some (.slice A1 n1 c1) := by rw [blk_cell hbm0]; rfl
      have m2 : W0.cell? ⟨w1.heap.size, 2, none⟩ = some (.slice A2 n2 c2) := by rw [blk_cell hbm0]; rfl
      have m3 : W0.cell? ⟨w1.heap.size, 3, none⟩ = some (.slice A3 n3 c3) := by rw [blk_cell hbm0]; rfl
      have m4 : W0.cell? ⟨w1.heap.size, 4, none⟩ = some (.slice A4 n4 c4) := by rw [blk_cell hbm0]; rfl
      have HBn := Aside0.mk (below_drewA (Below.refl W0.heap.size W0))
      have HEND := Aside0.mk (And.intro hD (And.intro hK0 (And.intro hB9 hW0)))
      clear hD hK hB hW hrt hgot hl8 hv hbm hg1 hg2 hrow hov hf ht hB0 bM bG h5 h4 h3 h2 h1 h0 hz2 hz1 hz0 hi hB9 hv0 hbm0 hK0 hW0 hgot0 hrt0 B0 qL
      first | (gi_region_with (first
        | (refine ⟨trivial, ?_⟩; gi_at_call 34; refine (q1.out _ HBn.out).mono ?_; rintro e W1 ⟨Ap, np, cp, rfl, hp, B1⟩; have d0 := (Kept.of B1).cell g0; have x0 := (Kept.of B1).cell m0; have x1 := (Kept.of B1).cell m1; have x2 := (Kept.of B1).cell m2; have x3 := (Kept.of B1).cell m3; have x4 := (Kept.of B1).cell m4; have HP := Aside0.mk hp; have n0_ := Aside0.mk (belowAt HBn.out B1); clear hp HBn; have HBn := n0_; clear n0_ B1)
        | (refine ⟨trivial, ?_⟩; gi_at_call 23; refine (q2.out _ HBn.out _ HP.out).mono ?_; rintro e W2 ⟨rfl, B2⟩; have n0_ := Aside0.mk (belowAt HBn.out B2); clear HBn; have HBn := n0_; clear n0_ B2))) | fail
      all_goals (
        gi_wp2_with fail
        have hK3 := (HBn.out.block D (Array.getElem?_eq_some_iff.1 HEND.out.2.1).1).trans HEND.out.2.1
        refine ⟨by simp, .inl ⟨_, _, rfl, run_takeDeferred hK3, ?_⟩⟩
        exact ⟨_, results_tmp rfl _ _ _, rfl, (belowAt (belowAt (belowAt HB0.out H1.out.2.2.2.2.2) HEND.out.2.2.1) HBn.out).trans (belowK_b (w := w2) (by have h1 := HB0.out.size; have h2 := H1.out.2.2.2.2.2.size; omega) _ D _ _ HEND.out.1 hK3 rfl rfl)⟩)
  case stop =>
    rintro D c pre W _ _ h _
    exact h.elim
end Go.Proofs.Ytjhgknagmiekeaa.V
set_option linter.unusedVariables false
set_option linter.unusedSimpArgs false
namespace Go.Proofs.Ytjhgknagmiekeaa.R
open Go.ChangeShapes Go.WideShapes Go.Deep Go.RowKit
open Go.Proofs.YtjhgknagmiekeaaW.PrintWords Go.Proofs.Ytjhgknagmiekeaa.K
section
variable {H : Type} {enc : TypeId × Value → H} {P : Program} {w : World} {base : Nat} {spare : Nat → Bool} {held : Bool}
theorem open_slice_fields {t e : TypeId} {fs : Array Field} {fuel : Nat} {cs : List Value} {x : DataW H × List MemPlace} (ht : P.underlying t = some (.slice e)) (he : P.underlying e = some (.struct fs))
    (hone : oneCellFields P fs = true) (hC : P.cellsOf e = fs.size) (h : DataW.trod enc P w base spare held fuel t cs = some x) :
    (cs = [.slice none 0 0] ∧ x = (.nil, [])) ∨
    ∃ (a : Addr) (len cap m : Nat) (D : Nat → DataW H) (Pl : Nat → List MemPlace), cs = [.slice (some a) len cap] ∧ base ≤ a.block ∧ len ≤ cap ∧ cap ≤ maxLen ∧ m = (if spare a.block then cap else len) ∧
      x = (.slice ((List.range len).map D) ((List.range (m - len)).map fun j => D (len + j)), MemPlace.row a (m * fs.size) ++ (List.range m).flatMap Pl) ∧
      ∀ i, i < m → ∃ (ys : List (DataW H × List MemPlace)) (n : Nat), D i = .agg (ys.map (·.1)) ∧ Pl i = ys.flatMap (·.2) ∧ ys.length = fs.size ∧
        ∀ (j : Nat) (f : Field), fs[j]? = some f → ∃ (v : Value) (y : DataW H × List MemPlace), w.cell? (a.add (i * fs.size + j)) = some v ∧ ys[j]? = some y ∧ DataW.trod enc P w base spare held n f.type [v] = some y := by
  rcases open_slice ht h with h0 | ⟨a, len, cap, m, n, D, Pl, hcs, hb, hl, hm, hmm, hx, hi⟩
  · exact .inl h0
  · refine .inr ⟨a, len, cap, m, D, Pl, hcs, hb, hl, hm, hmm, by rw [hC] at hx; exact hx, fun i him => ?_⟩
    obtain ⟨cs', hc, ht'⟩ := hi i him
    rw [hC] at hc
    obtain ⟨ys, n', hn', hy, hlen, hyl, hf⟩ := DataW.trod_struct he ht'
    obtain ⟨_, hcl, hat⟩ := World.cells?_some hc
    simp only [Prod.mk.injEq] at hy
    refine ⟨ys, n', hy.1, hy.2, hyl, fun j f hj => ?_⟩
    obtain ⟨ho, hk⟩ := hone_of hone j f hj
    have hjl : j < fs.size := (Array.getElem?_eq_some_iff.1 hj).1
    have hcell := hat j hjl
    have hv : cs'[j]? = some (cs'[j]'(by omega)) := List.getElem?_eq_getElem (by omega)
    have h1 := hf j f hj
    rw [ho, hk] at h1
    have hone' : (cs'.drop j).take 1 = [cs'[j]'(by omega)] := by
      rw [List.drop_eq_getElem_cons (by omega)]
      rfl
    rw [hone'] at h1
    have hys : ys[j]? = some (ys[j]'(by omega)) := List.getElem?_eq_getElem (by omega)
    refine ⟨_, _, ?_, hys, h1.trans hys⟩
    rw [← Go.Deep.add_add, hcell, hv]
end
def dE {H : Type} (p : S35) : DataW H := .agg [.lit (.string p.f0.data.toList), .lit (.int .i64 p.f1)]
theorem open_entries {H : Type} {enc : TypeId × Value → H} {W : World} {base : Nat} {spare : Nat → Bool} {held : Bool} {a : Option Addr} {len cap : Nat} {d : DataW H} {ps : List MemPlace}
    (h : DataW.Trod enc Try.prog W base spare held 22 (.slice a len cap) d ps) :
    ∃ l : List S35, len = l.length ∧ l.length ≤ cap ∧ Kd.C k35 W a l.length l ∧ ((d = .nil ∧ l = []) ∨ ∃ sp, d = .slice (l.map dE) sp) := by
  obtain ⟨fuel, hf⟩ := h
  rcases open_slice_fields (fs := #[_, _]) Try.underlying22 Try.underlying35 (by kernel_rfl) (by kernel_rfl) hf with ⟨hcs, hx⟩ | ⟨ad, len', cap', m, D, Pl, hcs, _, hl, hm, hmm, hx, hi⟩
  · simp [Value.cells] at hcs
    obtain ⟨rfl, rfl, rfl⟩ := hcs
    obtain ⟨rfl, _⟩ := Prod.mk.inj hx
    exact ⟨[], rfl, by simp, Kd.C_nil k35 W, .inl ⟨rfl, rfl⟩⟩
  · simp [Value.cells] at hcs
    obtain ⟨rfl, rfl, rfl⟩ := hcs
    obtain ⟨hx, _⟩ := Prod.mk.inj hx
    subst hx
    have hlm : len ≤ m := by rw [hmm]; split; exact hl; exact Nat.le_refl _
    have each : ∀ i : Nat, ∃ p : S35, i < len → D i = dE p ∧ W.cell? (ad.add (i * 2)) = some (.string p.f0) ∧ W.cell? (ad.add (i * 2 + 1)) = some (.int .i64 p.f1) := by
      intro i
      by_cases hil : i < len
      · obtain ⟨ys, n, hD, _, hyl, hj⟩ := hi i (by omega)
        obtain ⟨v0, y0, c0, e0, t0⟩ := hj 0 _ rfl
        obtain ⟨v1, y1, c1, e1, t1⟩ := hj 1 _ rfl
        obtain ⟨s0, q0, r0, w0⟩ := DataW.trod_string Try.underlying9 t0
        obtain ⟨n1, q1, r1, w1⟩ := DataW.trod_int Try.underlying3 t1
        simp only [List.cons.injEq, and_true] at q0 q1
        subst q0 q1 r0 r1
        refine ⟨⟨s0, n1⟩, fun _ => ⟨?_, c0, c1⟩⟩
        have hys : ys = [(.lit (.string s0.data.toList), []), (.lit (.int .i64 n1), [])] := by
          match ys, hyl, e0, e1 with
          | [a, b], _, e0, e1 => simp at e0 e1; rw [e0, e1]
        rw [hD, hys]
        rfl
      · exact ⟨⟨⟨#[]⟩, 0⟩, fun h => absurd h hil⟩
    obtain ⟨g, hg⟩ := Classical.axiomOfChoice each
    refine ⟨(List.range len).map g, by simp, by simpa using hl, ?_, .inr ⟨(List.range (m - len)).map fun j => D (len + j), ?_⟩⟩
    · have hlen : ((List.range len).map g).length = len := by simp
      rw [hlen]
      refine ⟨hlen, by unfold maxLen at hm; omega, fun _ => ⟨ad, rfl, fun j p hp => ?_⟩⟩
      have hj : j < len := by have := (List.getElem?_eq_some_iff.1 hp).1; rw [hlen] at this; exact this
      have hpe : p = g j := by
        rw [List.getElem?_map, List.getElem?_range hj] at hp
        simpa using hp.symm
      subst hpe
      obtain ⟨_, c0, c1⟩ := hg j hj
      refine ⟨_, rfl, k35_mk W (g j), fun i u hu => ?_⟩
      match i, hu with
      | 0, hu => simp at hu; subst hu; exact c0
      | 1, hu => simp at hu; subst hu; exact c1
    · congr 1
      rw [List.map_map]
      apply List.map_congr_left
      intro j hj
      exact (hg j (List.mem_range.1 hj)).1
def wt : List S35 → Nat
  | [] => 0
  | p :: ps => p.f0.size + 1 + wt ps
theorem wt_bulk {H : Type} (l : List S35) : wt l ≤ Rows.uptoBulkAll (l.map (dE (H := H))) := by
  induction l with
  | nil => exact Nat.zero_le _
  | cons p ps ih =>
    have e : p.f0.data.toList.length = p.f0.size := T.L_len _
    simp only [List.map_cons, Rows.uptoBulkAll, wt, dE, Rows.uptoBulk, e]
    omega
theorem wt_of {H : Type} {d : DataW H} {l : List S35} (h : (d = .nil ∧ l = []) ∨ ∃ sp, d = .slice (l.map dE) sp) : wt l ≤ Rows.uptoBulk d := by
  rcases h with ⟨rfl, rfl⟩ | ⟨sp, rfl⟩
  · exact Nat.zero_le _
  · have := wt_bulk (H := H) l
    simp only [Rows.uptoBulk]
    omega
theorem wt_len : ∀ (l : List S35), l.length ≤ wt l
  | [] => Nat.zero_le _
  | p :: ps => by have := wt_len ps; simp only [List.length_cons, wt]; omega
theorem wt_mem : ∀ (l : List S35) (p : S35), p ∈ l → p.f0.size ≤ wt l
  | q :: l, p, h => by
    simp only [wt]
    rcases List.mem_cons.1 h with e | e
    · rw [e]; omega
    · have := wt_mem l p e; omega
end Go.Proofs.Ytjhgknagmiekeaa.R
