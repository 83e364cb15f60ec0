/- joined: V26 V11 -/
import Derived.Test.YtjhgknagmiekeaaJC19
import Derived.Test.YtjhgknagmiekeaaJC15
import Derived.Sort.LoopGhostIn
import Derived.RegionIn
import Derived.Laws.IdiomStrings
import Derived.Test.YtjhgknagmiekeaaJC2
import Derived.Test.YtjhgknagmiekeaaRows
import Derived.Test.YtjhgknagmiekeaaJC4
import Derived.Deep.Slices
import Derived.Deep.Fields
import Derived.ChangeSame
import Derived.SizedLaws
import Derived.ProofKit
set_option linter.unusedVariables false
set_option linter.unusedSimpArgs false
namespace Go.Proofs.Ytjhgknagmiekeaa.V
open Go.Proofs.Ytjhgknagmiekeaa.VOU (below_drewA)
open Go.RowKit Go.Lib Go.Proofs Go.Shelf
open Go.Proofs.Ytjhgknagmiekeaa.T Go.Proofs.Ytjhgknagmiekeaa.N Go.Proofs.Ytjhgknagmiekeaa.K
open Go.Proofs.YtjhgknagmiekeaaW.PrintWords hiding blk_cell
attribute [local go_sem] Oper.semAt_some
set_option maxRecDepth 100000 in
set_option maxHeartbeats 8000000 in
theorem cutsLaw (A : Option Addr) (c : Nat) (l : List S35) (a0 b0 : ByteArray) (w : World) (hl : EntAt w A l) (hc : l.length ≤ c) (hlen : l.length < 10000000000) (hs : ∀ e ∈ l, e.f0.size < 4000000000000) (hsa : a0.size < 1000000000000) (hsb : b0.size < 1000000000000) :
    Calls Try.prog 9 #[.slice A l.length c, .string a0, .string b0] w fun e w' => e = .returned (.bool true) ∧ Below w.heap.size w w' := by
  refine callsIn_wide.1 (show CallsIn Fence.wide 9 Try.prog 9 _ w _ from ?_)
  have qa := Aside0.mk (show CallsIn Fence.wide 8 Try.prog 20 _ w _ from callsIn_wide.2 (aliveC w))
  have qb := Aside0.mk (fun w1 (h : Below w.heap.size w w1) => show CallsIn Fence.wide 8 Try.prog 21 _ w1 _ from callsIn_wide.2 (builtC A c l w1 (Kd.C_below hl h) hc hlen hs))
  have HN := Aside0.mk hlen
  have HSZ := Aside0.mk (And.intro hsa hsb)
  clear hl hc hlen hs hsa hsb
  unfold ptr at qb
  have hnf := funcNil1
  refine callsIn_of_wp_marks Try.func9 rfl trivial ?_ rfl
  simp only [Try.ntmps9, List.size_toArray, List.length_cons, List.length_nil, Nat.reduceAdd, Nat.reduceSub, Array.replicate_succ, Array.replicate_zero, List.push_toArray, List.append_toArray, List.nil_append, List.cons_append]
  gi_wp2_with (first
    | (refine ⟨trivial, ?_⟩; gi_at_call 20; refine qa.out.mono ?_; rintro e w0 ⟨rfl, hb0⟩; have HB0 := Aside0.mk hb0; clear hb0)
    | (refine ⟨trivial, ?_⟩; gi_at_call 21; refine (qb.out _ HB0.out).mono ?_; rintro e w1 ⟨tb, root, t, v0, v1, v2, v3, v4, rfl, ht, hk, ha, hr, hl, hv, hb⟩; obtain ⟨⟨A0, n0, c0, rfl⟩, ⟨A1, n1, c1, rfl⟩, ⟨A2, n2, c2, rfl⟩, ⟨A3, n3, c3, rfl⟩, ⟨A4, n4, c4, rfl⟩⟩ := hr.forms; have H1 := Aside0.mk (And.intro ht (And.intro hk (And.intro ha (And.intro hr (And.intro hl (belowAt HB0.out hb)))))); clear ht hk ha hr hl hv hb))
  all_goals (first
    | (have hle := Aside0.mk (show Op.bytesLess a0.toList b0.toList = false from bl_asym (by assumption))
       have HSY := Aside0.mk (And.intro HSZ.out.2 HSZ.out.1)
       clear HSZ
       obtain ⟨lo, e1⟩ : ∃ x, x = b0 := ⟨_, rfl⟩
       obtain ⟨hi, e2⟩ : ∃ x, x = a0 := ⟨_, rfl⟩
       subst e1 e2
       let s34 : Value := .string lo
       let s35 : Value := .string hi
       let s36 : Value := .bool true
       let s37 : Value := .string lo
       let s38 : Value := .string hi)
    | (have hle := Aside0.mk (show Op.bytesLess b0.toList a0.toList = false from by first | assumption | (simp_all; done))
       have HSY := HSZ
       clear HSZ
       obtain ⟨lo, e1⟩ : ∃ x, x = a0 := ⟨_, rfl⟩
       obtain ⟨hi, e2⟩ : ∃ x, x = b0 := ⟨_, rfl⟩
       subst e1 e2
       let s34 : Value := .string hi
       let s35 : Value := .string lo
       let s36 : Value := .bool false
       let s37 : Value := undef
       let s38 : Value := undef))
  all_goals (
    clear qa qb
    have qf1 := Aside0.mk (fun w1 => show CallsIn Fence.wide 8 Try.prog 27 _ w1 _ from callsIn_wide.2 (fromC tb lo w1))
    have qf2 := Aside0.mk (fun w1 => show CallsIn Fence.wide 8 Try.prog 29 _ w1 _ from callsIn_wide.2 ((betweenC tb lo hi w1).mono (R' := fun e w' => ∃ bt bl bh, e = .returned (.func (.func 81) #[] #[ptr bt, ptr bl, ptr bh]) ∧ w'.heap[bt]? = some (.cells #[ptr tb] 24 (0, 0)) ∧ Bx w' bl lo ∧ Bx w' bh hi ∧ Below w1.heap.size w1 w') (fun e w' ⟨h0, h1, h2, h3, h4⟩ => ⟨_, _, _, h0, h1, h2, h3, h4⟩)))
    have qf3 := Aside0.mk (fun w1 => show CallsIn Fence.wide 8 Try.prog 27 _ w1 _ from callsIn_wide.2 (fromC tb hi w1))
    unfold ptr at qf1 qf2 qf3
    refine ⟨trivial, ?_⟩
    gi_at_call 27
    refine (qf1.out _).mono ?_
    rintro e w2 ⟨bp1, bt1, bs1, bk1, rfl, h0, h1, h2, h3, h4, h5⟩
    have H2 := Aside0.mk (And.intro h0 (And.intro h1 (And.intro h2 (And.intro h3 (And.intro h4 h5)))))
    clear h0 h1 h2 h3 h4 h5
    gi_wp2_with fail
    obtain ⟨h0, h1, h2, h3, h4, h5⟩ := H2.out
    simp only [World.size_alloc] at h0 h5
    have hsz2 : w1.heap.size + 1 + 1 + 1 ≤ w2.heap.size := by have := h5.size; simp only [World.size_alloc] at this; exact this
    have hb3 : Below w1.heap.size w1 (((w1.alloc (Obj.cells #[.slice A0 n0 c0, .slice A1 n1 c1, .slice A2 n2 c2, .slice A3 n3 c3, .slice A4 n4 c4] 28)).alloc (Obj.cells #[Value.slice none 0 0] 22)).alloc (Obj.cells #[Value.slice none 0 0] 22)) := (((Below.refl _ w1).alloc (Nat.le_refl _) _).alloc (by simp) _).alloc (by simp; omega) _
    have bW : Boxed w2 (w1.heap.size + 1) 22 (.slice none 0 0) := (h5.block _ (by omega)).trans ((Below.heap_alloc _ _ _ (by simp)).trans (by have := World.alloc_heap_new (w1.alloc (Obj.cells #[Value.slice A0 n0 c0, Value.slice A1 n1 c1, Value.slice A2 n2 c2, Value.slice A3 n3 c3, Value.slice A4 n4 c4] 28)) (Obj.cells #[Value.slice none 0 0] 22); rwa [World.size_alloc] at this))
    have bP : Boxed w2 (w1.heap.size + 1 + 1) 22 (.slice none 0 0) := (h5.block _ (by omega)).trans (by have := World.alloc_heap_new ((w1.alloc (Obj.cells #[Value.slice A0 n0 c0, Value.slice A1 n1 c1, Value.slice A2 n2 c2, Value.slice A3 n3 c3, Value.slice A4 n4 c4] 28)).alloc (Obj.cells #[Value.slice none 0 0] 22)) (Obj.cells #[Value.slice none 0 0] 22); simp only [World.size_alloc] at this; exact this)
    have hB0 : Below w1.heap.size w1 w2 := hb3.trans (h5.mono (by omega))
    have ht := H1.out.1
    have hf := ht.fine.toGood
    have hcut := cuts_eq hf H1.out.2.1 H1.out.2.2.1 hle.out
    obtain ⟨N1, hN1⟩ : ∃ N, (fromL lo root).length = N := ⟨_, rfl⟩
    have hN1l : N1 ≤ t.ks.length := by
      rw [← hN1, show fromL lo root = _ from ovr_eqs hf H1.out.2.2.1 (skF (L lo)) (kpF (L lo)) (hskF _)]
      refine Nat.le_trans (List.length_filter_le _ _) ?_
      rw [List.length_zip]
      omega
    have hNs : N1 < 10000000000 := by have := H1.out.2.2.2.2.1; have := HN.out; omega
    obtain ⟨i0, hi0, hz0, hz1, hz2⟩ := info_parts info35
    have hml : 10000000000 ≤ maxLen := by decide
    have hbp1 : bp1 < w2.heap.size := (Array.getElem?_eq_some_iff.1 h1).1
    refine wpIn_rangeFuncO rfl (by decide) (gf := 117) (lb := #[ptr bt1, ptr bs1, ptr bk1]) rfl trivial (enters_of Try.func117 (by kernel_rfl) rfl)
      (seqO_of (VF.seq w2 8 N1 w2.heap.size (fun k => k = (w1.heap.size + 1)) w1 (Kept.of hB0) (by omega) (Nat.le_refl _) (fun k hk e => by omega) tb root ht bp1 bt1 bs1 bk1 ⟨h2, h3, h4⟩ lo h1 hbp1 (fun e => by omega) (Nat.le_of_eq hN1)))
      (fun h k => kpT h k) (fun W o o' h hc => KpM.putObj W _ o o' (by omega) h hc) (Below.refl _ _) (fun _ => rfl)
      (fun pre W => (∃ v, Boxed W (w1.heap.size + 1) 22 v ∧ W.ownsRow w2.heap.size 35 2 v pre.length (rowv pre)) ∧ (∀ k, k < w2.heap.size → k ≠ (w1.heap.size + 1) → W.heap[k]? = w2.heap[k]?) ∧ Below w1.heap.size w1 W ∧ w2.heap.size ≤ W.heap.size)
      (fun _ _ _ => False) ?hI (fun _ _ _ _ _ hs _ _ => hs) ⟨⟨_, bW, World.ownsRow_nil _ _ _ _⟩, fun _ _ _ => rfl, hB0, Nat.le_refl _⟩ (fun (x : ByteArray × Int) a' (Y : World) => a' = { tmps := #[.slice A l.length c, .string lo, .string hi, undef, undef, undef, .bool false, .pointer (some ⟨tb, 0, none⟩), .pointer (some ⟨w1.heap.size, 0, none⟩), .pointer (some ⟨w1.heap.size + 1, 0, none⟩), .pointer (some ⟨w1.heap.size + 1 + 1, 0, none⟩), .func (.func 117) #[] #[.pointer (some ⟨bt1, 0, none⟩), .pointer (some ⟨bs1, 0, none⟩), .pointer (some ⟨bk1, 0, none⟩)], .string x.1, .int .i64 x.2, undef, undef, undef, undef, undef, undef, undef, undef, undef, undef, undef, .bool true, .bool false, .tuple #[.pointer (some ⟨tb, 0, none⟩), .agg #[.slice A0 n0 c0, .slice A1 n1 c1, .slice A2 n2 c2, .slice A3 n3 c3, .slice A4 n4 c4]], .slice A l.length c, .tuple #[.pointer (some ⟨tb, 0, none⟩), .agg #[.slice A0 n0 c0, .slice A1 n1 c1, .slice A2 n2 c2, .slice A3 n3 c3, .slice A4 n4 c4]], .pointer (some ⟨tb, 0, none⟩), .agg #[.slice A0 n0 c0, .slice A1 n1 c1, .slice A2 n2 c2, .slice A3 n3 c3, .slice A4 n4 c4], .pointer (some ⟨tb, 0, none⟩), .bool false, s34, s35, s36, s37, s38, .pointer (some ⟨tb, 0, none⟩), .string lo, .func (.func 117) #[] #[.pointer (some ⟨bt1, 0, none⟩), .pointer (some ⟨bs1, 0, none⟩), .pointer (some ⟨bk1, 0, none⟩)], .func (.func 117) #[] #[.pointer (some ⟨bt1, 0, none⟩), .pointer (some ⟨bs1, 0, none⟩), .pointer (some ⟨bk1, 0, none⟩)], .bool false, .func (.func 117) #[] #[.pointer (some ⟨bt1, 0, none⟩), .pointer (some ⟨bs1, 0, none⟩), .pointer (some ⟨bk1, 0, none⟩)], .string x.1, .int .i64 x.2, undef, undef, undef, undef, undef, undef, undef, undef, undef, undef, undef, undef, undef, undef, undef, undef, undef, undef, undef, undef, undef, undef, undef, undef, undef, undef, undef, undef, undef, undef, undef, undef, undef, undef, undef, undef, undef, undef, undef, undef, undef, undef, undef, undef, undef, undef, undef, undef, undef, undef, undef, undef, undef, undef, undef, undef, undef, undef, undef, undef, undef, undef, undef, undef, undef, undef, undef, undef, undef, undef, undef, undef, undef, undef, undef, undef, undef, undef, undef, undef, undef], defers := [] }) (fun x a' => ownT_pure _ (fun _ => a' = _)) ?assign ?body ?done ?stop
    case hI => exact OwnT.and (fun s X Y row hs hg hr => (ownT_all (β := Unit) (B := w2.heap.size) (fun v => OwnT.and (ownT_old (w1.heap.size + 1) (fun _ => .cells #[v] 22 (0, 0)) (by omega)) (ownT_row w2.heap.size 35 2 (by decide) v s.length (rowv s)))) () X Y row hs hg hr) (OwnT.and (ownT_olds w2 _) (OwnT.and (ownT_below (Nat.le_refl _) (by omega)) (ownT_size _)))
    case assign =>
      intro l' m' pre x Wa K2 hI hok hK2
      gi_wp2
      exact hK2 _ _ (KeepsU.refl _ _) (KpM.of (Below.refl _ _)) hI rfl
    case body =>
      rintro l' m' pre x a' W hl' hr0 hszW ⟨⟨v, hv, hrow⟩, hold, hB, hW⟩ rfl hlt hok
      have hc := hv.cell
      gi_wp2_with (gi_at_builtin; refine wpListIn_append_own _ rfl _ _ 22 rfl w2.heap.size 35 i0 (.agg #[.string ⟨#[]⟩, .int .i64 0]) 2 24 Try.underlying22 hi0 hz0 hz1 hz2 rfl (by decide) _ _ _ rfl (hrow.alloc _) ⟨W.heap.size, 0, none⟩ 1 1 [.string x.1, .int .i64 x.2] rfl rfl (cell_two_new _ _ _ _) (by simp [Value.oneCell']) (by omega) (by omega) (by simp; omega) ?_; intro v' w1' hown' hgrow _; obtain ⟨g', cap', rfl⟩ := ownsRow_succ hown'; obtain ⟨hv1, hv2, hr2, hk2, hb2, hkp, hlow⟩ := appended2 (n₀ := w1.heap.size) (M := fun k => k = (w1.heap.size + 1)) hv (by decide) (by decide) (by decide) hrow hW (by omega) (by omega) rfl hown' hgrow; have hku := appendedU (B' := w2.heap.size) (by unfold Quiet; decide) (by omega) hv hrow hown' hgrow; have hc1 := hv1.cell; have hf1 := hv1.frozen)
      exact ⟨hku, hkp, ⟨_, hv2, by rw [List.length_append, rowv_snoc]; exact hr2⟩, fun k h1 h2 => (hlow k h1 h2).trans (hold k h1 h2), hB.trans hb2, Nat.le_trans hW hb2.size⟩
    case stop =>
      rintro D cd pre W _ _ h _
      exact h.elim
    case done =>
      rintro D1 ys W1 hD1 e9 ⟨⟨v, hv, hrow⟩, hold, hB, hW⟩ hK1
      have bP1 : Boxed W1 (w1.heap.size + 1 + 1) 22 (.slice none 0 0) := (hold _ (by omega) (by omega)).trans bP
      clear h0 h1 h2 h3 h4 h5 H2 bW bP hbp1 hb3
      have HD1 := Aside0.mk (And.intro hD1 (And.intro hK1 (And.intro e9 (And.intro hv hrow))))
      have HB1 := Aside0.mk (And.intro hB (And.intro hW (And.intro hsz2 hB0)))
      clear hD1 hK1 e9 hv hrow hold hB hW hB0
      gi_wp2_with (refine ⟨trivial, ?_⟩; gi_at_call 29; refine (qf2.out _).mono ?_; rintro e w4 ⟨bt2, bl2, bh2, rfl, h1, h2, h3, h4⟩)
      have hsz4 := h4.size
      have hsz1 := HB1.out.2.1
      have hB4 : Below w1.heap.size w1 w4 := belowAt HB1.out.1 h4
      have bP4 : Boxed w4 (w1.heap.size + 1 + 1) 22 (.slice none 0 0) := (h4.block _ (by omega)).trans bP1
      have hN2 : (fromL lo root).length ≤ N1 := Nat.le_of_eq hN1
      refine wpIn_rangeFuncO rfl (by decide) (gf := 81) (lb := #[ptr bt2, ptr bl2, ptr bh2]) rfl trivial (enters_of Try.func81 (by kernel_rfl) rfl)
        (betweenSeq w4 8 N1 w4.heap.size (fun k => k = (w1.heap.size + 1 + 1)) w1 (Kept.of hB4) (by omega) (Nat.le_refl _) (fun k hk e => by omega) (fun k hk e => by omega) tb root ht bt2 bl2 bh2 lo hi h1 h2 h3 hN2)
        (fun h k => h.trans k) (fun W o o' h hc => KpT.putObj W _ o o' (by omega) h hc) (Below.refl _ _) (fun _ => rfl)
        (fun pre W => (∃ v, Boxed W (w1.heap.size + 1 + 1) 22 v ∧ W.ownsRow w4.heap.size 35 2 v pre.length (rowv pre)) ∧ (∀ k, k < w4.heap.size → k ≠ (w1.heap.size + 1 + 1) → W.heap[k]? = w4.heap[k]?) ∧ Below w1.heap.size w1 W ∧ w4.heap.size ≤ W.heap.size)
        (fun _ _ _ => False) ?hI2 (fun _ _ _ _ _ hs _ _ => hs) ⟨⟨_, bP4, World.ownsRow_nil _ _ _ _⟩, fun _ _ _ => rfl, hB4, Nat.le_refl _⟩ (fun (x : ByteArray × Int) a' (Y : World) => a' = { tmps := #[.slice A l.length c, .string lo, .string hi, undef, undef, undef, .bool false, .pointer (some ⟨tb, 0, none⟩), .pointer (some ⟨w1.heap.size, 0, none⟩), .pointer (some ⟨w1.heap.size + 1, 0, none⟩), .pointer (some ⟨w1.heap.size + 1 + 1, 0, none⟩), .func (.func 117) #[] #[.pointer (some ⟨bt1, 0, none⟩), .pointer (some ⟨bs1, 0, none⟩), .pointer (some ⟨bk1, 0, none⟩)], undef, undef, .func (.func 81) #[] #[.pointer (some ⟨bt2, 0, none⟩), .pointer (some ⟨bl2, 0, none⟩), .pointer (some ⟨bh2, 0, none⟩)], .string x.1, .int .i64 x.2, undef, undef, undef, undef, undef, undef, undef, undef, .bool true, .bool false, .tuple #[.pointer (some ⟨tb, 0, none⟩), .agg #[.slice A0 n0 c0, .slice A1 n1 c1, .slice A2 n2 c2, .slice A3 n3 c3, .slice A4 n4 c4]], .slice A l.length c, .tuple #[.pointer (some ⟨tb, 0, none⟩), .agg #[.slice A0 n0 c0, .slice A1 n1 c1, .slice A2 n2 c2, .slice A3 n3 c3, .slice A4 n4 c4]], .pointer (some ⟨tb, 0, none⟩), .agg #[.slice A0 n0 c0, .slice A1 n1 c1, .slice A2 n2 c2, .slice A3 n3 c3, .slice A4 n4 c4], .pointer (some ⟨tb, 0, none⟩), .bool false, s34, s35, s36, s37, s38, .pointer (some ⟨tb, 0, none⟩), .string lo, .func (.func 117) #[] #[.pointer (some ⟨bt1, 0, none⟩), .pointer (some ⟨bs1, 0, none⟩), .pointer (some ⟨bk1, 0, none⟩)], .func (.func 117) #[] #[.pointer (some ⟨bt1, 0, none⟩), .pointer (some ⟨bs1, 0, none⟩), .pointer (some ⟨bk1, 0, none⟩)], .bool false, .func (.func 117) #[] #[.pointer (some ⟨bt1, 0, none⟩), .pointer (some ⟨bs1, 0, none⟩), .pointer (some ⟨bk1, 0, none⟩)], undef, undef, undef, undef, undef, undef, undef, undef, .pointer (some ⟨tb, 0, none⟩), .string lo, .string hi, .func (.func 81) #[] #[.pointer (some ⟨bt2, 0, none⟩), .pointer (some ⟨bl2, 0, none⟩), .pointer (some ⟨bh2, 0, none⟩)], .func (.func 81) #[] #[.pointer (some ⟨bt2, 0, none⟩), .pointer (some ⟨bl2, 0, none⟩), .pointer (some ⟨bh2, 0, none⟩)], .bool false, .func (.func 81) #[] #[.pointer (some ⟨bt2, 0, none⟩), .pointer (some ⟨bl2, 0, none⟩), .pointer (some ⟨bh2, 0, none⟩)], .string x.1, .int .i64 x.2, undef, undef, undef, undef, undef, undef, undef, undef, undef, undef, undef, undef, undef, undef, undef, undef, undef, undef, undef, undef, undef, undef, undef, undef, undef, undef, undef, undef, undef, undef, undef, undef, undef, undef, undef, undef, undef, undef, undef, undef, undef, undef, undef, undef, undef, undef, undef, undef, undef, undef, undef, undef, undef, undef, undef, undef, undef, undef, undef, undef, undef, undef, undef, undef, undef, undef], defers := [] }) (fun x a' => ownT_pure _ (fun _ => a' = _)) ?assign2 ?body2 ?done2 ?stop2
      case hI2 => exact OwnT.and (fun s X Y row hs hg hr => (ownT_all (β := Unit) (B := w4.heap.size) (fun v => OwnT.and (ownT_old (w1.heap.size + 1 + 1) (fun _ => .cells #[v] 22 (0, 0)) (by omega)) (ownT_row w4.heap.size 35 2 (by decide) v s.length (rowv s)))) () X Y row hs hg hr) (OwnT.and (ownT_olds w4 _) (OwnT.and (ownT_below (Nat.le_refl _) (by omega)) (ownT_size _)))
      case assign2 =>
        intro l' m' pre x Wa K2 hI hok hK2
        gi_wp2
        exact hK2 _ _ (KeepsU.refl _ _) (KpT.of (Below.refl _ _)) hI rfl
      case body2 =>
        rintro l' m' pre x a' W hl' hr0 hszW ⟨⟨v, hv, hrow⟩, hold, hB, hW⟩ rfl hlt hok
        have hc := hv.cell
        gi_wp2_with (gi_at_builtin; refine wpListIn_append_own _ rfl _ _ 22 rfl w4.heap.size 35 i0 (.agg #[.string ⟨#[]⟩, .int .i64 0]) 2 24 Try.underlying22 hi0 hz0 hz1 hz2 rfl (by decide) _ _ _ rfl (hrow.alloc _) ⟨W.heap.size, 0, none⟩ 1 1 [.string x.1, .int .i64 x.2] rfl rfl (cell_two_new _ _ _ _) (by simp [Value.oneCell']) (by omega) (by omega) (by simp; omega) ?_; intro v' w1' hown' hgrow _; obtain ⟨g', cap', rfl⟩ := ownsRow_succ hown'; obtain ⟨hv1, hv2, hr2, hk2, hb2, hkp, hlow⟩ := appended2 (n₀ := w1.heap.size) (M := fun k => k = (w1.heap.size + 1 + 1)) hv (by decide) (by decide) (by decide) hrow hW (by omega) (by omega) rfl hown' hgrow; have hkt := appendedT (n₁ := w4.heap.size) (M := fun k => k = (w1.heap.size + 1 + 1)) (by unfold Quiet; decide) (by unfold Quiet; decide) rfl hv hrow hown' hgrow; have hku := appendedU (B' := w4.heap.size) (by unfold Quiet; decide) (by omega) hv hrow hown' hgrow; have hc1 := hv1.cell; have hf1 := hv1.frozen)
        exact ⟨hku, hkt, ⟨_, hv2, by rw [List.length_append, rowv_snoc]; exact hr2⟩, fun k h1 h2 => (hlow k h1 h2).trans (hold k h1 h2), hB.trans hb2, Nat.le_trans hW hb2.size⟩
      case stop2 =>
        rintro D cd pre W _ _ h _
        exact h.elim
      case done2 =>
        rintro D2 zs W3 hD2 e92 ⟨⟨v2, hv2, hrow2⟩, hold2, hB3, hW3⟩ hK2
        have HD2 := Aside0.mk (And.intro hD2 (And.intro hK2 (And.intro e92 (And.intro hold2 (And.intro h4 h4)))))
        have HB3 := Aside0.mk (And.intro hB3 (And.intro hW3 hB4))
        clear h1 h2 h3 h4 bP1 bP4 hB4 hN2
        clear hD2 hK2 e92 hold2 hB3
        gi_wp2_with (refine ⟨trivial, ?_⟩; gi_at_call 27; refine (qf3.out _).mono ?_; rintro e w5 ⟨bp3, bt3, bs3, bk3, rfl, g0, g1, g2, g3, g4, g5⟩)
        have hsz5 := g5.size
        have bP5 : Boxed w5 (w1.heap.size + 1 + 1) 22 v2 := (g5.block _ (by omega)).trans hv2
        have hrow5 : w5.ownsRow w4.heap.size 35 2 v2 zs.length (rowv zs) := row_keep hrow2 (fun k _ h => g5.block k h)
        have hB5 : Below w1.heap.size w1 w5 := belowAt HB3.out.1 g5
        have hbp3 : bp3 < w5.heap.size := (Array.getElem?_eq_some_iff.1 g1).1
        obtain ⟨M3, hM3⟩ : ∃ M : Nat → Prop, M = fun k => k = (w1.heap.size + 1 + 1) ∨ (w4.heap.size ≤ k ∧ ∃ cs, w5.heap[k]? = some (.cells cs 35 (0, 0))) := ⟨_, rfl⟩
        have m1 : ∀ k, k < w4.heap.size → k ≠ (w1.heap.size + 1 + 1) → ¬ M3 k := by
          intro k h1 h2 h3
          rw [hM3] at h3
          rcases h3 with h3 | h3
          · omega
          · omega
        have m2 : M3 (w1.heap.size + 1 + 1) := by rw [hM3]; exact .inl rfl
        have m3 : ∀ k o, w5.heap[k]? = some o → k ≠ (w1.heap.size + 1 + 1) → (∀ cs, o ≠ .cells cs 35 (0, 0)) → ¬ M3 k := by
          intro k o h1 h2 h3
          rw [hM3]
          rintro (h | ⟨-, cs, h⟩)
          · exact h2 h
          · rw [h1] at h
            exact h3 cs (Option.some.inj h)
        have m4 : ∀ W : World, (∀ k, k < w5.heap.size → ¬ M3 k → W.heap[k]? = w5.heap[k]?) → ∀ j, j < w5.heap.size → w4.heap.size ≤ j → (∃ cs, W.heap[j]? = some (.cells cs 35 (0, 0))) → M3 j := by
          rintro W h j h1 h2 ⟨cs, h3⟩
          by_cases hm : M3 j
          · exact hm
          · rw [hM3]
            exact .inr ⟨h2, cs, by rw [← h j h1 hm]; exact h3⟩
        have hzl : zs.length + (fromL hi root).length = N1 := by rw [HD2.out.2.2.1, ← hN1, hcut, List.length_append]
        have HM3 := Aside0.mk hM3
        clear hM3
        refine wpIn_rangeFuncO rfl (by decide) (gf := 117) (lb := #[ptr bt3, ptr bs3, ptr bk3]) rfl trivial (enters_of Try.func117 (by kernel_rfl) rfl)
          (seqO_of (VF.seq w5 8 (fromL hi root).length w5.heap.size M3 w1 (Kept.of hB5) (by omega) (Nat.le_refl _) (fun k hk => m1 k (by omega) (by omega)) tb root ht bp3 bt3 bs3 bk3 ⟨g2, g3, g4⟩ hi g1 hbp3 (m3 _ _ g1 (by omega) (fun cs e => by cases e)) (Nat.le_refl _)))
          (fun h k => kpT h k) (fun W o o' h hc => KpM.putObj W _ o o' (by omega) h hc) (Below.refl _ _) (fun _ => rfl)
          (fun pre W => (∃ v, Boxed W (w1.heap.size + 1 + 1) 22 v ∧ W.ownsRow w4.heap.size 35 2 v (zs ++ pre).length (rowv (zs ++ pre))) ∧ (∀ k, k < w5.heap.size → ¬ M3 k → W.heap[k]? = w5.heap[k]?) ∧ Below w1.heap.size w1 W ∧ w5.heap.size ≤ W.heap.size)
          (fun _ _ _ => False) ?hI3 (fun _ _ _ _ _ hs _ _ => hs) ⟨⟨_, bP5, by rw [List.append_nil]; exact hrow5⟩, fun _ _ _ => rfl, hB5, Nat.le_refl _⟩ (fun (x : ByteArray × Int) a' (Y : World) => a' = { tmps := #[.slice A l.length c, .string lo, .string hi, undef, undef, undef, .bool false, .pointer (some ⟨tb, 0, none⟩), .pointer (some ⟨w1.heap.size, 0, none⟩), .pointer (some ⟨w1.heap.size + 1, 0, none⟩), .pointer (some ⟨w1.heap.size + 1 + 1, 0, none⟩), .func (.func 117) #[] #[.pointer (some ⟨bt1, 0, none⟩), .pointer (some ⟨bs1, 0, none⟩), .pointer (some ⟨bk1, 0, none⟩)], undef, undef, .func (.func 81) #[] #[.pointer (some ⟨bt2, 0, none⟩), .pointer (some ⟨bl2, 0, none⟩), .pointer (some ⟨bh2, 0, none⟩)], undef, undef, .func (.func 117) #[] #[.pointer (some ⟨bt3, 0, none⟩), .pointer (some ⟨bs3, 0, none⟩), .pointer (some ⟨bk3, 0, none⟩)], .string x.1, .int .i64 x.2, undef, undef, undef, undef, undef, .bool true, .bool false, .tuple #[.pointer (some ⟨tb, 0, none⟩), .agg #[.slice A0 n0 c0, .slice A1 n1 c1, .slice A2 n2 c2, .slice A3 n3 c3, .slice A4 n4 c4]], .slice A l.length c, .tuple #[.pointer (some ⟨tb, 0, none⟩), .agg #[.slice A0 n0 c0, .slice A1 n1 c1, .slice A2 n2 c2, .slice A3 n3 c3, .slice A4 n4 c4]], .pointer (some ⟨tb, 0, none⟩), .agg #[.slice A0 n0 c0, .slice A1 n1 c1, .slice A2 n2 c2, .slice A3 n3 c3, .slice A4 n4 c4], .pointer (some ⟨tb, 0, none⟩), .bool false, s34, s35, s36, s37, s38, .pointer (some ⟨tb, 0, none⟩), .string lo, .func (.func 117) #[] #[.pointer (some ⟨bt1, 0, none⟩), .pointer (some ⟨bs1, 0, none⟩), .pointer (some ⟨bk1, 0, none⟩)], .func (.func 117) #[] #[.pointer (some ⟨bt1, 0, none⟩), .pointer (some ⟨bs1, 0, none⟩), .pointer (some ⟨bk1, 0, none⟩)], .bool false, .func (.func 117) #[] #[.pointer (some ⟨bt1, 0, none⟩), .pointer (some ⟨bs1, 0, none⟩), .pointer (some ⟨bk1, 0, none⟩)], undef, undef, undef, undef, undef, undef, undef, undef, .pointer (some ⟨tb, 0, none⟩), .string lo, .string hi, .func (.func 81) #[] #[.pointer (some ⟨bt2, 0, none⟩), .pointer (some ⟨bl2, 0, none⟩), .pointer (some ⟨bh2, 0, none⟩)], .func (.func 81) #[] #[.pointer (some ⟨bt2, 0, none⟩), .pointer (some ⟨bl2, 0, none⟩), .pointer (some ⟨bh2, 0, none⟩)], .bool false, .func (.func 81) #[] #[.pointer (some ⟨bt2, 0, none⟩), .pointer (some ⟨bl2, 0, none⟩), .pointer (some ⟨bh2, 0, none⟩)], undef, undef, undef, undef, undef, undef, undef, undef, .pointer (some ⟨tb, 0, none⟩), .string hi, .func (.func 117) #[] #[.pointer (some ⟨bt3, 0, none⟩), .pointer (some ⟨bs3, 0, none⟩), .pointer (some ⟨bk3, 0, none⟩)], .func (.func 117) #[] #[.pointer (some ⟨bt3, 0, none⟩), .pointer (some ⟨bs3, 0, none⟩), .pointer (some ⟨bk3, 0, none⟩)], .bool false, .func (.func 117) #[] #[.pointer (some ⟨bt3, 0, none⟩), .pointer (some ⟨bs3, 0, none⟩), .pointer (some ⟨bk3, 0, none⟩)], .string x.1, .int .i64 x.2, undef, undef, undef, undef, undef, undef, undef, undef, undef, undef, undef, undef, undef, undef, undef, undef, undef, undef, undef, undef, undef, undef, undef, undef, undef, undef, undef, undef, undef, undef, undef, undef, undef, undef, undef, undef, undef, undef, undef, undef, undef, undef, undef, undef, undef, undef, undef, undef, undef, undef, undef, undef], defers := [] }) (fun x a' => ownT_pure _ (fun _ => a' = _)) ?assign3 ?body3 ?done3 ?stop3
        case hI3 => exact OwnT.and (fun s X Y row hs hg hr => (ownT_all (β := Unit) (B := w5.heap.size) (fun v => OwnT.and (ownT_old (w1.heap.size + 1 + 1) (fun _ => .cells #[v] 22 (0, 0)) (by omega)) (ownT_row w4.heap.size 35 2 (by decide) v (zs ++ s).length (rowv (zs ++ s))))) () X Y row hs hg hr) (OwnT.and (ownT_oldM w5 _) (OwnT.and (ownT_below (Nat.le_refl _) (by omega)) (ownT_size _)))
        case assign3 =>
          intro l' m' pre x Wa K2 hI hok hK2
          gi_wp2
          exact hK2 _ _ (KeepsU.refl _ _) (KpM.of (Below.refl _ _)) hI rfl
        case body3 =>
          rintro l' m' pre x a' W hl' hr0 hszW ⟨⟨v, hv, hrow⟩, hold, hB, hW⟩ rfl hlt hok
          have hc := hv.cell
          obtain ⟨q, hq⟩ : ∃ q, zs ++ pre = q := ⟨_, rfl⟩
          have hql : q.length < 10000000000 := by rw [← hq, List.length_append]; omega
          rw [hq] at hrow
          gi_wp2_with (gi_at_builtin; refine wpListIn_append_own _ rfl _ _ 22 rfl w4.heap.size 35 i0 (.agg #[.string ⟨#[]⟩, .int .i64 0]) 2 24 Try.underlying22 hi0 hz0 hz1 hz2 rfl (by decide) _ _ _ rfl (hrow.alloc _) ⟨W.heap.size, 0, none⟩ 1 1 [.string x.1, .int .i64 x.2] rfl rfl (cell_two_new _ _ _ _) (by simp [Value.oneCell']) (by omega) (by omega) (by simp; omega) ?_; intro v' w1' hown' hgrow _; obtain ⟨g', cap', rfl⟩ := ownsRow_succ hown'; obtain ⟨hv1, hv2, hr2, hk2, hb2, hkp, hlow⟩ := appended2 (n₀ := w1.heap.size) (M := M3) hv (by decide) (by decide) (by decide) hrow (by omega) (by omega) (by omega) m2 hown' hgrow; have hkm := appendedM (N := w5.heap.size) (by decide) (by decide) hv hrow hown' hgrow m2 (m4 W hold); have hku := appendedU (B' := w5.heap.size) (by unfold Quiet; decide) (by omega) hv hrow hown' hgrow; have hc1 := hv1.cell; have hf1 := hv1.frozen)
          refine ⟨hku, hkm, ⟨_, hv2, ?_⟩, fun k h1 h2 => ?_, hB.trans hb2, Nat.le_trans hW hb2.size⟩
          · rw [← List.append_assoc, hq, List.length_append, rowv_snoc]
            exact hr2
          · have hk9 : k < W.heap.size := by omega
            exact (hkm.low k _ (Array.getElem?_eq_getElem hk9) h1 h2).trans ((Array.getElem?_eq_getElem hk9).symm.trans (hold k h1 h2))
        case stop3 =>
          rintro D cd pre W _ _ h _
          exact h.elim
        case done3 =>
          rintro D3 xs W6 hD3 e93 ⟨⟨v3, hv3, hrow3⟩, hold3, hB6, hW6⟩ hK3
          obtain ⟨hD1, hK1, e9, hv, hrow⟩ := HD1.out
          obtain ⟨hD2, hK2, e92, hold2, h4, -⟩ := HD2.out
          have hys : zs ++ xs = ys := by rw [e92, e93, e9]; exact hcut.symm
          rw [hys] at hrow3
          have chain : ∀ k, k < W1.heap.size → k ≠ (w1.heap.size + 1 + 1) → W6.heap[k]? = W1.heap[k]? := fun k h1 h2 =>
            (hold3 k (by omega) (m1 k (by omega) h2)).trans ((g5.block k (by omega)).trans ((hold2 k (by omega) h2).trans (h4.block k h1)))
          have hv6 : Boxed W6 (w1.heap.size + 1) 22 v := (chain _ (by omega) (by omega)).trans hv
          have hrow6 : W6.ownsRow w2.heap.size 35 2 v ys.length (rowv ys) := row_keep hrow (fun k h1 h2 => chain k h2 (by omega))
          have hK16 : W6.heap[D1]? = some (.deferred (some [])) := (chain D1 (Array.getElem?_eq_some_iff.1 hK1).1 (by omega)).trans hK1
          have hK25 : w5.heap[D2]? = some (.deferred (some [])) := (g5.block D2 (Array.getElem?_eq_some_iff.1 hK2).1).trans hK2
          have hD2l : D2 < W3.heap.size := (Array.getElem?_eq_some_iff.1 hK2).1
          have hD1l : D1 < W1.heap.size := (Array.getElem?_eq_some_iff.1 hK1).1
          have hK26 : W6.heap[D2]? = some (.deferred (some [])) := (hold3 D2 (by omega) (m3 D2 _ hK25 (by omega) (fun cs e => by cases e))).trans hK25
          obtain ⟨Aw, cw, rfl, hw1, hw2⟩ := own_got hrow6
          obtain ⟨Ap, cp, rfl, hp1, hp2⟩ := own_got hrow3
          obtain ⟨ng, eng⟩ : ∃ ng, (ys.map mkE).length = ng := ⟨_, rfl⟩
          have hng : ng < 10000000000 := by rw [← eng, List.length_map, e9, show (ovr (fun q => skF (L lo) (L q)) (fun q => kpF (L lo) (L q)) ⟨#[]⟩ root).length = N1 from hN1]; exact hNs
          rw [eng] at hv6 hv3
          have HEND := Aside0.mk (And.intro hK16 (And.intro hK26 (And.intro hK3 (And.intro hD1 (And.intro hD1l (And.intro hD2 (And.intro hD2l (And.intro hD3 hB6))))))))
          have HENT := Aside0.mk (And.intro hw2 (And.intro hp2 eng))
          have HCE := Aside0.mk (And.intro hv6 hv3)
          have g1' := hv6.cell
          have g2' := hv3.cell
          clear hK16 hK26 hK3 hD1 hD1l hD2 hD2l hD3 hw1 hw2 hp1 hp2 eng hrow6 hrow3 chain hv6 hv3 hys e93 hold3 hK1 e9 hv hrow hK2 e92 hold2 h4 hK25
          clear g0 g1 g2 g3 g4 m1 m2 m3 m4 HM3 hrow5 bP5 hbp3 hzl hv2 hrow2
          gi_wp2_with fail
          refine wpIn_loop_ghost_k (fun k a Z => ∃ (i : Nat) (u20 u90 u91 u92 u93 u94 u95 u96 u97 u98 u99 u100 u101 : Value), a = { tmps := #[.slice A l.length c, .string lo, .string hi, undef, undef, undef, .bool false, .pointer (some ⟨tb, 0, none⟩), .pointer (some ⟨w1.heap.size, 0, none⟩), .pointer (some ⟨w1.heap.size + 1, 0, none⟩), .pointer (some ⟨w1.heap.size + 1 + 1, 0, none⟩), .func (.func 117) #[] #[.pointer (some ⟨bt1, 0, none⟩), .pointer (some ⟨bs1, 0, none⟩), .pointer (some ⟨bk1, 0, none⟩)], undef, undef, .func (.func 81) #[] #[.pointer (some ⟨bt2, 0, none⟩), .pointer (some ⟨bl2, 0, none⟩), .pointer (some ⟨bh2, 0, none⟩)], undef, undef, .func (.func 117) #[] #[.pointer (some ⟨bt3, 0, none⟩), .pointer (some ⟨bs3, 0, none⟩), .pointer (some ⟨bk3, 0, none⟩)], undef, undef, u20, undef, undef, undef, undef, .bool true, .bool false, .tuple #[.pointer (some ⟨tb, 0, none⟩), .agg #[.slice A0 n0 c0, .slice A1 n1 c1, .slice A2 n2 c2, .slice A3 n3 c3, .slice A4 n4 c4]], .slice A l.length c, .tuple #[.pointer (some ⟨tb, 0, none⟩), .agg #[.slice A0 n0 c0, .slice A1 n1 c1, .slice A2 n2 c2, .slice A3 n3 c3, .slice A4 n4 c4]], .pointer (some ⟨tb, 0, none⟩), .agg #[.slice A0 n0 c0, .slice A1 n1 c1, .slice A2 n2 c2, .slice A3 n3 c3, .slice A4 n4 c4], .pointer (some ⟨tb, 0, none⟩), .bool false, s34, s35, s36, s37, s38, .pointer (some ⟨tb, 0, none⟩), .string lo, .func (.func 117) #[] #[.pointer (some ⟨bt1, 0, none⟩), .pointer (some ⟨bs1, 0, none⟩), .pointer (some ⟨bk1, 0, none⟩)], .func (.func 117) #[] #[.pointer (some ⟨bt1, 0, none⟩), .pointer (some ⟨bs1, 0, none⟩), .pointer (some ⟨bk1, 0, none⟩)], .bool false, .func (.func 117) #[] #[.pointer (some ⟨bt1, 0, none⟩), .pointer (some ⟨bs1, 0, none⟩), .pointer (some ⟨bk1, 0, none⟩)], undef, undef, undef, undef, undef, undef, undef, undef, .pointer (some ⟨tb, 0, none⟩), .string lo, .string hi, .func (.func 81) #[] #[.pointer (some ⟨bt2, 0, none⟩), .pointer (some ⟨bl2, 0, none⟩), .pointer (some ⟨bh2, 0, none⟩)], .func (.func 81) #[] #[.pointer (some ⟨bt2, 0, none⟩), .pointer (some ⟨bl2, 0, none⟩), .pointer (some ⟨bh2, 0, none⟩)], .bool false, .func (.func 81) #[] #[.pointer (some ⟨bt2, 0, none⟩), .pointer (some ⟨bl2, 0, none⟩), .pointer (some ⟨bh2, 0, none⟩)], undef, undef, undef, undef, undef, undef, undef, undef, .pointer (some ⟨tb, 0, none⟩), .string hi, .func (.func 117) #[] #[.pointer (some ⟨bt3, 0, none⟩), .pointer (some ⟨bs3, 0, none⟩), .pointer (some ⟨bk3, 0, none⟩)], .func (.func 117) #[] #[.pointer (some ⟨bt3, 0, none⟩), .pointer (some ⟨bs3, 0, none⟩), .pointer (some ⟨bk3, 0, none⟩)], .bool false, .func (.func 117) #[] #[.pointer (some ⟨bt3, 0, none⟩), .pointer (some ⟨bs3, 0, none⟩), .pointer (some ⟨bk3, 0, none⟩)], undef, undef, undef, undef, undef, undef, undef, undef, .slice Aw ng cw, .int .i64 (ng : Int), .slice Ap ng cp, .int .i64 (ng : Int), .bool false, .slice Aw ng cw, .int .i64 (ng : Int), .int .i64 (i : Int), u90, u91, u92, u93, u94, u95, u96, u97, u98, u99, u100, u101, undef, undef, undef, undef, undef, undef, undef, undef, undef, undef, undef, undef, undef, undef, undef, undef, undef, undef, undef, undef, undef, undef, undef, undef, undef, undef], defers := [mk_ D3, mk_ D2, mk_ D1] } ∧ Aside0 (i + k = ng + 1 ∧ i ≤ ng) ∧ Aside0 (Below W6.heap.size W6 Z)) (ng + 1) ⟨0, _, _, _, _, _, _, _, _, _, _, _, _, _, rfl, ⟨by omega, by omega⟩, ⟨Below.refl _ _⟩⟩ ?_
          clear g1' g2'
          rintro k a Z ⟨i, u20, u90, u91, u92, u93, u94, u95, u96, u97, u98, u99, u100, u101, rfl, HI, HZ6⟩ J K hJ hK
          have HJK := Aside0.mk (And.intro hJ hK)
          clear hJ hK
          by_cases hig : i < ng
          · have d1 : decide ((i : Int) < (ng : Int)) = true := by simp; omega
            have HI3 := Aside0.mk (show ((i : Int) + 1) = ((i + 1 : Nat) : Int) ∧ k - 1 < k ∧ i + 1 + (k - 1) = ng + 1 ∧ i + 1 ≤ ng from ⟨by omega, by have := HI.out; omega, by have := HI.out; omega, by omega⟩)
            obtain ⟨adw, ew, x0, x1⟩ := at_T35 (Kd.C_below HENT.out.1 HZ6.out) (i : Int) (by omega) (by have := HENT.out.2.2; omega)
            obtain ⟨adp, ep, y0, y1⟩ := at_T35 (Kd.C_below HENT.out.2.1 HZ6.out) (i : Int) (by omega) (by have := HENT.out.2.2; omega)
            subst ew ep
            have g1' := (Kept.of HZ6.out).cell HCE.out.1.cell
            have g2' := (Kept.of HZ6.out).cell HCE.out.2.cell
            obtain ⟨e, he⟩ : ∃ e : S35, rd_T35 (ys.map mkE) (i : Int) = e := ⟨_, rfl⟩
            rw [he, Int.toNat_natCast] at x0 x1 y0 y1
            have hneq : ∀ w, Sem.run Try.prog (binOp BinOp.neq 35 (.agg #[.string e.f0, .int .i64 e.f1]) (.agg #[.string e.f0, .int .i64 e.f1])) w = .ok (.bool false) w := fun w => eqE (e.f0, e.f1) w
            clear he
            
            gi_wp2_with fail
            gi_region
            gi_wp2_with fail
            obtain ⟨hwr, f1, f2, f3⟩ := HI3.out
            rw [hwr]
            exact HJK.out.2 _ _ (Handed.intro (k - 1) f1 (HJK.out.1 _ _ _ ⟨i + 1, _, _, _, _, _, _, _, _, _, _, _, _, _, rfl, ⟨f2, f3⟩, ⟨below_drewA HZ6.out⟩⟩))
          · have d1 : decide ((i : Int) < (ng : Int)) = false := by simp; omega
            clear HJK HCE HENT
            have hZ : Below w1.heap.size w1 Z := belowAt HEND.out.2.2.2.2.2.2.2.2 HZ6.out
            have qg := Aside0.mk (show CallsIn Fence.wide 8 Try.prog 35 _ Z _ from callsIn_wide.2 (getC Z tb root (ht.keep (Kept.of hZ)) lo (by have := HSY.out.1; omega)))
            have hzn : (t.ks.zip t.vs).length < 10000000000 := by have := H1.out.2.2.2.2.1; have := HN.out; rw [List.length_zip]; omega
            have hcl : ∀ p : ByteArray, (t.ks.zip t.vs).countP (fun x => kpU (L p) (L x.1)) < 10000000000 := fun p => Nat.lt_of_le_of_lt (List.countP_le_length) hzn
            have qc := Aside0.mk (fun w1' (h : Below w1.heap.size w1 w1') p => show CallsIn Fence.wide 8 Try.prog 25 _ w1' _ from callsIn_wide.2 (countC tb root p w1' (ht.keep (Kept.of h)) _ (cnt_eq hf H1.out.2.2.1 p) (by have := hcl p; omega)))
            have HZ := Aside0.mk hZ
            have HCL := Aside0.mk hcl
            have HZN := Aside0.mk hzn
            clear hZ hcl hzn
            rcases hval : valT root (L lo) with _ | vv
            all_goals (
              rw [hval] at qg
              simp only [gotV] at qg
              unfold ptr at qg qc
              gi_wp2_with (refine ⟨trivial, ?_⟩; gi_at_call 35; refine qg.out.mono ?_; rintro e w7 ⟨rfl, hB7⟩)
              clear qg
              have HB7 := Aside0.mk (belowAt HZ.out hB7)
              have HB76 := Aside0.mk (belowAt HZ6.out hB7)
              clear hB7 HZ
              refine wpIn_loop_ghost_k (fun k a Y => ∃ (i : Nat) (s : Int) (u20 u90 u91 u92 u93 u94 u95 u96 u97 u98 u99 u100 u101 u22 u23 u89 u102 u103 u104 u105 u106 u107 u108 u109 u110 u111 u112 u113 u114 u115 u116 u117 u118 u119 u120 u121 u122 : Value), a = { tmps := #[.slice A l.length c, .string lo, .string hi, undef, undef, undef, .bool false, .pointer (some ⟨tb, 0, none⟩), .pointer (some ⟨w1.heap.size, 0, none⟩), .pointer (some ⟨w1.heap.size + 1, 0, none⟩), .pointer (some ⟨w1.heap.size + 1 + 1, 0, none⟩), .func (.func 117) #[] #[.pointer (some ⟨bt1, 0, none⟩), .pointer (some ⟨bs1, 0, none⟩), .pointer (some ⟨bk1, 0, none⟩)], undef, undef, .func (.func 81) #[] #[.pointer (some ⟨bt2, 0, none⟩), .pointer (some ⟨bl2, 0, none⟩), .pointer (some ⟨bh2, 0, none⟩)], undef, undef, .func (.func 117) #[] #[.pointer (some ⟨bt3, 0, none⟩), .pointer (some ⟨bs3, 0, none⟩), .pointer (some ⟨bk3, 0, none⟩)], undef, undef, u20, .int .i64 s, u22, u23, .int .i64 (i : Int), .bool true, .bool false, .tuple #[.pointer (some ⟨tb, 0, none⟩), .agg #[.slice A0 n0 c0, .slice A1 n1 c1, .slice A2 n2 c2, .slice A3 n3 c3, .slice A4 n4 c4]], .slice A l.length c, .tuple #[.pointer (some ⟨tb, 0, none⟩), .agg #[.slice A0 n0 c0, .slice A1 n1 c1, .slice A2 n2 c2, .slice A3 n3 c3, .slice A4 n4 c4]], .pointer (some ⟨tb, 0, none⟩), .agg #[.slice A0 n0 c0, .slice A1 n1 c1, .slice A2 n2 c2, .slice A3 n3 c3, .slice A4 n4 c4], .pointer (some ⟨tb, 0, none⟩), .bool false, s34, s35, s36, s37, s38, .pointer (some ⟨tb, 0, none⟩), .string lo, .func (.func 117) #[] #[.pointer (some ⟨bt1, 0, none⟩), .pointer (some ⟨bs1, 0, none⟩), .pointer (some ⟨bk1, 0, none⟩)], .func (.func 117) #[] #[.pointer (some ⟨bt1, 0, none⟩), .pointer (some ⟨bs1, 0, none⟩), .pointer (some ⟨bk1, 0, none⟩)], .bool false, .func (.func 117) #[] #[.pointer (some ⟨bt1, 0, none⟩), .pointer (some ⟨bs1, 0, none⟩), .pointer (some ⟨bk1, 0, none⟩)], undef, undef, undef, undef, undef, undef, undef, undef, .pointer (some ⟨tb, 0, none⟩), .string lo, .string hi, .func (.func 81) #[] #[.pointer (some ⟨bt2, 0, none⟩), .pointer (some ⟨bl2, 0, none⟩), .pointer (some ⟨bh2, 0, none⟩)], .func (.func 81) #[] #[.pointer (some ⟨bt2, 0, none⟩), .pointer (some ⟨bl2, 0, none⟩), .pointer (some ⟨bh2, 0, none⟩)], .bool false, .func (.func 81) #[] #[.pointer (some ⟨bt2, 0, none⟩), .pointer (some ⟨bl2, 0, none⟩), .pointer (some ⟨bh2, 0, none⟩)], undef, undef, undef, undef, undef, undef, undef, undef, .pointer (some ⟨tb, 0, none⟩), .string hi, .func (.func 117) #[] #[.pointer (some ⟨bt3, 0, none⟩), .pointer (some ⟨bs3, 0, none⟩), .pointer (some ⟨bk3, 0, none⟩)], .func (.func 117) #[] #[.pointer (some ⟨bt3, 0, none⟩), .pointer (some ⟨bs3, 0, none⟩), .pointer (some ⟨bk3, 0, none⟩)], .bool false, .func (.func 117) #[] #[.pointer (some ⟨bt3, 0, none⟩), .pointer (some ⟨bs3, 0, none⟩), .pointer (some ⟨bk3, 0, none⟩)], undef, undef, undef, undef, undef, undef, undef, undef, .slice Aw ng cw, .int .i64 (ng : Int), .slice Ap ng cp, .int .i64 (ng : Int), .bool false, .slice Aw ng cw, .int .i64 (ng : Int), u89, u90, u91, u92, u93, u94, u95, u96, u97, u98, u99, u100, u101, u102, u103, u104, u105, u106, u107, u108, u109, u110, u111, u112, u113, u114, u115, u116, u117, u118, u119, u120, u121, u122, undef, undef, undef, undef, undef], defers := [mk_ D3, mk_ D2, mk_ D1] } ∧ Aside0 (i + k = 257 ∧ i ≤ 256) ∧ Aside0 (s = ((cpN (L lo) i (t.ks.zip t.vs) : Nat) : Int)) ∧ Aside0 (Below w7.heap.size w7 Y)) 257 ⟨0, _, _, _, _, _, _, _, _, _, _, _, _, _, _, _, _, _, _, _, _, _, _, _, _, _, _, _, _, _, _, _, _, _, _, _, _, _, _, rfl, ⟨by omega, by omega⟩, ⟨by first | exact cp0_none hf ht.vals H1.out.2.1 H1.out.2.2.1 hval | exact cp0_some hf ht.vals H1.out.2.1 H1.out.2.2.1 hval⟩, ⟨Below.refl _ _⟩⟩ ?_
              rintro k a Y ⟨i, s, u20, u90, u91, u92, u93, u94, u95, u96, u97, u98, u99, u100, u101, u22, u23, u89, u102, u103, u104, u105, u106, u107, u108, u109, u110, u111, u112, u113, u114, u115, u116, u117, u118, u119, u120, u121, u122, rfl, HI, HS, HY⟩ J K hJ hK
              have HJK := Aside0.mk (And.intro hJ hK)
              clear hJ hK
              by_cases hig : i < 256
              · have HI3 := Aside0.mk (show ((i : Int) + 1) = ((i + 1 : Nat) : Int) ∧ k - 1 < k ∧ i + 1 + (k - 1) = 257 ∧ i + 1 ≤ 256 from ⟨by omega, by have := HI.out; omega, by have := HI.out; omega, by omega⟩)
                obtain ⟨bq, hbq⟩ : ∃ bq : ByteArray, bq = ⟨#[UInt8.ofNat i]⟩ := ⟨_, rfl⟩
                have hbz : bq.size = 1 := by rw [hbq]; rfl
                have hls : ¬ (lo.size + bq.size > 9223372036854775807) := by have := HSY.out.1; omega
                have hconv : Sem.run Try.prog (convert 50 9 (.slice (some ⟨Y.heap.size, 0, none⟩) 1 1)) (Y.alloc (Obj.cells #[.int .u8 (i : Int)] 5)) = .ok (.string bq) (Y.alloc (Obj.cells #[.int .u8 (i : Int)] 5)) := by
                  rw [hbq]
                  refine run_convert_bytes_back _ 50 9 5 ⟨Y.heap.size, 0, none⟩ 1 [UInt8.ofNat i] Try.underlying50 Try.underlying5 Try.underlying9 (fun j hj => ?_)
                  have hj0 : j = 0 := by simpa using hj
                  subst hj0
                  rw [Addr.add_lit, Nat.zero_add, blk_cell (World.alloc_heap_new Y _)]
                  have h256 : i % 256 = i := Nat.mod_eq_of_lt hig
                  simp [h256]
                have hBY : Below w1.heap.size w1 Y := belowAt HB7.out HY.out
                have HYa := Aside0.mk (hBY.alloc hBY.size (Obj.cells #[.int .u8 (i : Int)] 5))
                have HYb := Aside0.mk (HY.out.alloc HY.out.size (Obj.cells #[.int .u8 (i : Int)] 5))
                have HSC := Aside0.mk (cp_succ (t.ks.zip t.vs) lo bq i hig hbq)
                have HSN := Aside0.mk (show wrap64 (s + (((t.ks.zip t.vs).countP (fun x => kpU (L (lo ++ bq)) (L x.1)) : Nat) : Int)) = ((cpN (L lo) (i + 1) (t.ks.zip t.vs) : Nat) : Int) from by
                  have h1 := HCL.out (lo ++ bq)
                  have h2 : cpN (L lo) i (t.ks.zip t.vs) < 10000000000 := Nat.lt_of_le_of_lt List.countP_le_length HZN.out
                  rw [HS.out, HSC.out]
                  unfold wrap64
                  omega)
                clear hBY hbq hbz
                gi_wp2_with (refine ⟨trivial, ?_⟩; gi_at_call 25; refine (qc.out _ HYa.out (lo ++ bq)).mono ?_; rintro e w8 ⟨rfl, hB8⟩; have HB8 := Aside0.mk (belowAt HYb.out hB8); clear hB8)
                obtain ⟨hwr, f1, f2, f3⟩ := HI3.out
                first | rw [hwr] | skip
                exact HJK.out.2 _ _ (Handed.intro (k - 1) f1 (HJK.out.1 _ _ _ ⟨i + 1, _, _, _, _, _, _, _, _, _, _, _, _, _, _, _, _, _, _, _, _, _, _, _, _, _, _, _, _, _, _, _, _, _, _, _, _, _, _, rfl, ⟨f2, f3⟩, HSN, HB8⟩))
              · have HI9 := Aside0.mk (show i = 256 from by have := HI.out; omega)
                have HYc := Aside0.mk (belowAt HB7.out HY.out)
                have hs9 : s = (((t.ks.zip t.vs).countP (fun x => kpU (L lo) (L x.1)) : Nat) : Int) := by rw [HS.out, HI9.out, cp_full]
                clear HS HJK
                subst hs9
                gi_wp2_with (refine ⟨trivial, ?_⟩; gi_at_call 25; refine (qc.out _ HYc.out lo).mono ?_; rintro e w8 ⟨rfl, hB8⟩; have HB8 := Aside0.mk (And.intro (belowAt HYc.out hB8) (belowAt (belowAt HB76.out HY.out) hB8)); clear hB8)
                obtain ⟨k1, k2, k3, d1, d2, d3, d4, d5, -⟩ := HEND.out
                obtain ⟨p1, p2⟩ := HB8.out
                have kk := Kept.of p2
                have hw := H1.out.2.2.2.2.2
                have hww := hw.size
                refine leaves_marks (b := w1.heap.size) [D3, D2, D1] w8 p1.size ?_ ?_ ?_ (fun W' hW' => ?_)
                · intro D hD
                  rcases List.mem_cons.1 hD with rfl | hD
                  · exact kk.at k3
                  · rcases List.mem_cons.1 hD with rfl | hD
                    · exact kk.at k2
                    · rcases List.mem_cons.1 hD with rfl | hD
                      · exact kk.at k1
                      · cases hD
                · simp only [List.nodup_cons, List.mem_cons, List.not_mem_nil, or_false, not_or, not_false_eq_true, List.nodup_nil, and_true]
                  exact ⟨⟨by omega, by omega⟩, by omega⟩
                · intro D hD
                  rcases List.mem_cons.1 hD with rfl | hD
                  · omega
                  · rcases List.mem_cons.1 hD with rfl | hD
                    · omega
                    · rcases List.mem_cons.1 hD with rfl | hD
                      · omega
                      · cases hD
                · exact ⟨_, results_tmp rfl _ _ _, by simp, (hw.trans (p1.mono hww)).trans (hW'.mono hww)⟩))
end Go.Proofs.Ytjhgknagmiekeaa.V
set_option linter.unusedVariables false
set_option linter.unusedSimpArgs false
namespace Go.Proofs.Ytjhgknagmiekeaa.R
open Go.ChangeShapes Go.WideShapes Go.Deep Go.RowKit
open Go.Proofs.YtjhgknagmiekeaaW.PrintWords Go.Proofs.Ytjhgknagmiekeaa.K
section
variable {H : Type} {enc : TypeId × Value → H} {P : Program} {w : World} {base : Nat} {spare : Nat → Bool} {held : Bool}
theorem open_slice_fields {t e : TypeId} {fs : Array Field} {fuel : Nat} {cs : List Value} {x : DataW H × List MemPlace} (ht : P.underlying t = some (.slice e)) (he : P.underlying e = some (.struct fs))
    (hone : oneCellFields P fs = true) (hC : P.cellsOf e = fs.size) (h : DataW.trod enc P w base spare held fuel t cs = some x) :
    (cs = [.slice none 0 0] ∧ x = (.nil, [])) ∨
    ∃ (a : Addr) (len cap m : Nat) (D : Nat → DataW H) (Pl : Nat → List MemPlace), cs = [.slice (some a) len cap] ∧ base ≤ a.block ∧ len ≤ cap ∧ cap ≤ maxLen ∧ m = (if spare a.block then cap else len) ∧
      x = (.slice ((List.range len).map D) ((List.range (m - len)).map fun j => D (len + j)), MemPlace.row a (m * fs.size) ++ (List.range m).flatMap Pl) ∧
      ∀ i, i < m → ∃ (ys : List (DataW H × List MemPlace)) (n : Nat), D i = .agg (ys.map (·.1)) ∧ Pl i = ys.flatMap (·.2) ∧ ys.length = fs.size ∧
        ∀ (j : Nat) (f : Field), fs[j]? = some f → ∃ (v : Value) (y : DataW H × List MemPlace), w.cell? (a.add (i * fs.size + j)) = some v ∧ ys[j]? = some y ∧ DataW.trod enc P w base spare held n f.type [v] = some y := by
  rcases open_slice ht h with h0 | ⟨a, len, cap, m, n, D, Pl, hcs, hb, hl, hm, hmm, hx, hi⟩
  · exact .inl h0
  · refine .inr ⟨a, len, cap, m, D, Pl, hcs, hb, hl, hm, hmm, by rw [hC] at hx; exact hx, fun i him => ?_⟩
    obtain ⟨cs', hc, ht'⟩ := hi i him
    rw [hC] at hc
    obtain ⟨ys, n', hn', hy, hlen, hyl, hf⟩ := DataW.trod_struct he ht'
    obtain ⟨_, hcl, hat⟩ := World.cells?_some hc
    simp only [Prod.mk.injEq] at hy
    refine ⟨ys, n', hy.1, hy.2, hyl, fun j f hj => ?_⟩
    obtain ⟨ho, hk⟩ := hone_of hone j f hj
    have hjl : j < fs.size := (Array.getElem?_eq_some_iff.1 hj).1
    have hcell := hat j hjl
    have hv : cs'[j]? = some (cs'[j]'(by omega)) := List.getElem?_eq_getElem (by omega)
    have h1 := hf j f hj
    rw [ho, hk] at h1
    have hone' : (cs'.drop j).take 1 = [cs'[j]'(by omega)] := by
      rw [List.drop_eq_getElem_cons (by omega)]
      rfl
    rw [hone'] at h1
    have hys : ys[j]? = some (ys[j]'(by omega)) := List.getElem?_eq_getElem (by omega)
    refine ⟨_, _, ?_, hys, h1.trans hys⟩
    rw [← Go.Deep.add_add, hcell, hv]
end
def dE {H : Type} (p : S35) : DataW H := .agg [.lit (.string p.f0.data.toList), .lit (.int .i64 p.f1)]
theorem open_entries {H : Type} {enc : TypeId × Value → H} {W : World} {base : Nat} {spare : Nat → Bool} {held : Bool} {a : Option Addr} {len cap : Nat} {d : DataW H} {ps : List MemPlace}
    (h : DataW.Trod enc Try.prog W base spare held 22 (.slice a len cap) d ps) :
    ∃ l : List S35, len = l.length ∧ l.length ≤ cap ∧ Kd.C k35 W a l.length l ∧ ((d = .nil ∧ l = []) ∨ ∃ sp, d = .slice (l.map dE) sp) := by
  obtain ⟨fuel, hf⟩ := h
  rcases open_slice_fields (fs := #[_, _]) Try.underlying22 Try.underlying35 (by kernel_rfl) (by kernel_rfl) hf with ⟨hcs, hx⟩ | ⟨ad, len', cap', m, D, Pl, hcs, _, hl, hm, hmm, hx, hi⟩
  · simp [Value.cells] at hcs
    obtain ⟨rfl, rfl, rfl⟩ := hcs
    obtain ⟨rfl, _⟩ := Prod.mk.inj hx
    exact ⟨[], rfl, by simp, Kd.C_nil k35 W, .inl ⟨rfl, rfl⟩⟩
  · simp [Value.cells] at hcs
    obtain ⟨rfl, rfl, rfl⟩ := hcs
    obtain ⟨hx, _⟩ := Prod.mk.inj hx
    subst hx
    have hlm : len ≤ m := by rw [hmm]; split; exact hl; exact Nat.le_refl _
    have each : ∀ i : Nat, ∃ p : S35, i < len → D i = dE p ∧ W.cell? (ad.add (i * 2)) = some (.string p.f0) ∧ W.cell? (ad.add (i * 2 + 1)) = some (.int .i64 p.f1) := by
      intro i
      by_cases hil : i < len
      · obtain ⟨ys, n, hD, _, hyl, hj⟩ := hi i (by omega)
        obtain ⟨v0, y0, c0, e0, t0⟩ := hj 0 _ rfl
        obtain ⟨v1, y1, c1, e1, t1⟩ := hj 1 _ rfl
        obtain ⟨s0, q0, r0, w0⟩ := DataW.trod_string Try.underlying9 t0
        obtain ⟨n1, q1, r1, w1⟩ := DataW.trod_int Try.underlying3 t1
        simp only [List.cons.injEq, and_true] at q0 q1
        subst q0 q1 r0 r1
        refine ⟨⟨s0, n1⟩, fun _ => ⟨?_, c0, c1⟩⟩
        have hys : ys = [(.lit (.string s0.data.toList), []), (.lit (.int .i64 n1), [])] := by
          match ys, hyl, e0, e1 with
          | [a, b], _, e0, e1 => simp at e0 e1; rw [e0, e1]
        rw [hD, hys]
        rfl
      · exact ⟨⟨⟨#[]⟩, 0⟩, fun h => absurd h hil⟩
    obtain ⟨g, hg⟩ := Classical.axiomOfChoice each
    refine ⟨(List.range len).map g, by simp, by simpa using hl, ?_, .inr ⟨(List.range (m - len)).map fun j => D (len + j), ?_⟩⟩
    · have hlen : ((List.range len).map g).length = len := by simp
      rw [hlen]
      refine ⟨hlen, by unfold maxLen at hm; omega, fun _ => ⟨ad, rfl, fun j p hp => ?_⟩⟩
      have hj : j < len := by have := (List.getElem?_eq_some_iff.1 hp).1; rw [hlen] at this; exact this
      have hpe : p = g j := by
        rw [List.getElem?_map, List.getElem?_range hj] at hp
        simpa using hp.symm
      subst hpe
      obtain ⟨_, c0, c1⟩ := hg j hj
      refine ⟨_, rfl, k35_mk W (g j), fun i u hu => ?_⟩
      match i, hu with
      | 0, hu => simp at hu; subst hu; exact c0
      | 1, hu => simp at hu; subst hu; exact c1
    · congr 1
      rw [List.map_map]
      apply List.map_congr_left
      intro j hj
      exact (hg j (List.mem_range.1 hj)).1
def wt : List S35 → Nat
  | [] => 0
  | p :: ps => p.f0.size + 1 + wt ps
theorem wt_bulk {H : Type} (l : List S35) : wt l ≤ Rows.uptoBulkAll (l.map (dE (H := H))) := by
  induction l with
  | nil => exact Nat.zero_le _
  | cons p ps ih =>
    have e : p.f0.data.toList.length = p.f0.size := T.L_len _
    simp only [List.map_cons, Rows.uptoBulkAll, wt, dE, Rows.uptoBulk, e]
    omega
theorem wt_of {H : Type} {d : DataW H} {l : List S35} (h : (d = .nil ∧ l = []) ∨ ∃ sp, d = .slice (l.map dE) sp) : wt l ≤ Rows.uptoBulk d := by
  rcases h with ⟨rfl, rfl⟩ | ⟨sp, rfl⟩
  · exact Nat.zero_le _
  · have := wt_bulk (H := H) l
    simp only [Rows.uptoBulk]
    omega
theorem wt_len : ∀ (l : List S35), l.length ≤ wt l
  | [] => Nat.zero_le _
  | p :: ps => by have := wt_len ps; simp only [List.length_cons, wt]; omega
theorem wt_mem : ∀ (l : List S35) (p : S35), p ∈ l → p.f0.size ≤ wt l
  | q :: l, p, h => by
    simp only [wt]
    rcases List.mem_cons.1 h with e | e
    · rw [e]; omega
    · have := wt_mem l p e; omega
end Go.Proofs.Ytjhgknagmiekeaa.R
