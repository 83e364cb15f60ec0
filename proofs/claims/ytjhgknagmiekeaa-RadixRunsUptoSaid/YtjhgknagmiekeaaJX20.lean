/- joined: K96 S3 S4 Q4 Q1 Q5 Q7 F4 F10 Q6 -/
import Derived.Test.YtjhgknagmiekeaaJX2
import Derived.Test.YtjhgknagmiekeaaJX5
import Derived.Test.YtjhgknagmiekeaaJX19
import Derived.Test.YtjhgknagmiekeaaJX15
import Derived.Test.YtjhgknagmiekeaaJX17
import Derived.Deep.RegionHeld3
import Derived.Test.YtjhgknagmiekeaaJX4
import Derived.Test.YtjhgknagmiekeaaJX13
-- Written by a program of this session (wip/tools/printfam.py) out of the translation; hand-proved contracts set in. Lean checks it.
namespace Go.Proofs.Ytjhgknagmiekeaa.K
open Go.RowKit Go.Proofs.YtjhgknagmiekeaaW.PrintWords Go.Proofs.YtjhgknagmiekeaaW.PrintLast Go.Proofs.YtjhgknagmiekeaaW.PrintMore
attribute [local go_sem] max2_int min2_int max_two min_two max_three min_three max_four min_four   -- for this text's walks alone
set_option linter.unusedVariables false
set_option linter.unusedSimpArgs false
end Go.Proofs.Ytjhgknagmiekeaa.K
set_option linter.unusedVariables false
set_option linter.unusedSimpArgs false
namespace Go.Proofs.Ytjhgknagmiekeaa.F
open Go.RowKit Go.Lib Go.Proofs
open Go.Proofs.Ytjhgknagmiekeaa.T
def AtQ (Q : List (List UInt8)) (i : Nat) (p : List UInt8) (n : Nd) : Prop := ∃ R, Q.drop i = (nods p n).map Prod.fst ++ R ∧ ∀ q, R.head? = some q → ¬ (p ++ L n.label) <+: q
theorem AtQ.path {Q : List (List UInt8)} {i : Nat} {p : List UInt8} {n : Nd} (h : AtQ Q i p n) : Q[i]? = some (p ++ L n.label) := by
  obtain ⟨R, h1, -⟩ := h
  have h2 := congrArg List.head? h1
  rw [List.head?_drop, nods_eq] at h2
  exact h2
theorem AtQ.kids {Q : List (List UInt8)} {i : Nat} {p : List UInt8} {n : Nd} (h : AtQ Q i p n) (ho : Ok n) : kg (p ++ L n.label) (Q.drop (i + 1)) (i + 1) none = places (i + 1) n.kids := by
  obtain ⟨R, h1, h2⟩ := h
  have h3 : Q.drop (i + 1) = (nodss (p ++ L n.label) n.kids).map Prod.fst ++ R := by
    have := congrArg (List.drop 1) h1
    rw [List.drop_drop, nods_eq] at this
    rw [this]
    rfl
  rw [h3]
  exact kg_kids (List.prefix_refl _) n.kids R (i + 1) none ho.parts.2.2 ho.parts.1 (fun k hk => ho.parts.2.1 k hk) h2 (fun c hc => by cases hc)
theorem at_kids {Q : List (List UInt8)} {p : List UInt8} : ∀ (ks : List Nd) (j : Nat) (R : List (List UInt8)), Oks ks → (ks.map fb).Pairwise (· < ·) → (∀ k ∈ ks, 0 < k.label.size) → Q.drop j = (nodss p ks).map Prod.fst ++ R → (∀ q, R.head? = some q → ¬ p <+: q) →
    ∀ m (hm : m < ks.length), AtQ Q ((places j ks)[m]'(by rw [places_len]; exact hm)) p ks[m]
  | [], _, _, _, _, _, _, _, m, hm => absurd hm (Nat.not_lt_zero _)
  | k :: r, j, R, ho, hp, hl, hd, hR, m, hm => by
    unfold Oks at ho
    rw [List.map_cons, List.pairwise_cons] at hp
    rw [nodss, List.map_append, List.append_assoc] at hd
    cases m with
    | zero =>
      refine ⟨(nodss p r).map Prod.fst ++ R, hd, fun q hq => ?_⟩
      show ¬ (p ++ L k.label) <+: q
      cases r with
      | nil =>
        rw [nodss] at hq
        exact fun h => hR q hq ((List.prefix_append _ _).trans h)
      | cons k' r' =>
        rw [nodss, nods_eq, List.map_append, List.map_cons, List.cons_append, List.cons_append] at hq
        have e : p ++ L k'.label = q := by simpa using hq
        rw [← e]
        have := apart_pre (p := p) (hl k List.mem_cons_self) (hl k' (by simp)) (fun e => by have := hp.1 (fb k') (by simp); rw [e] at this; exact absurd this (by simp)) []
        rwa [List.append_nil] at this
    | succ m =>
      have hd2 : Q.drop (j + cntN k) = (nodss p r).map Prod.fst ++ R := by
        have h1 := congrArg (List.drop (cntN k)) hd
        rw [List.drop_drop] at h1
        rw [h1]
        have e : cntN k = ((nods p k).map Prod.fst).length := by rw [List.length_map, nods_len]
        rw [e, List.drop_left]
      exact at_kids r (j + cntN k) R ho.2 hp.2 (fun x hx => hl x (List.mem_cons_of_mem _ hx)) hd2 hR m (by simpa using hm)
theorem AtQ.kid {Q : List (List UInt8)} {i : Nat} {p : List UInt8} {n : Nd} (h : AtQ Q i p n) (ho : Ok n) (m : Nat) (hm : m < n.kids.length) : AtQ Q ((places (i + 1) n.kids)[m]'(by rw [places_len]; exact hm)) (p ++ L n.label) n.kids[m] := by
  obtain ⟨R, h1, h2⟩ := h
  have h3 : Q.drop (i + 1) = (nodss (p ++ L n.label) n.kids).map Prod.fst ++ R := by
    have := congrArg (List.drop 1) h1
    rw [List.drop_drop, nods_eq] at this
    rw [this]
    rfl
  exact at_kids n.kids (i + 1) R ho.parts.2.2 ho.parts.1 (fun k hk => ho.parts.2.1 k hk) h3 h2 m hm
end Go.Proofs.Ytjhgknagmiekeaa.F
namespace Go.Proofs.Ytjhgknagmiekeaa.N
open Go.RowKit Go.Lib Go.Proofs
open Go.Proofs.Ytjhgknagmiekeaa.K Go.Proofs.YtjhgknagmiekeaaW.PrintWords Go.Proofs.YtjhgknagmiekeaaW.PrintLast
open Go.Proofs.Ytjhgknagmiekeaa.T (L)
open Go.Proofs.Ytjhgknagmiekeaa.F (kg)
end Go.Proofs.Ytjhgknagmiekeaa.N
set_option linter.unusedVariables false
set_option linter.unusedSimpArgs false
namespace Go.Proofs.Ytjhgknagmiekeaa.N
open Go.RowKit Go.Lib Go.Proofs
open Go.Proofs.Ytjhgknagmiekeaa.K Go.Proofs.YtjhgknagmiekeaaW.PrintLast
open Go.Proofs.YtjhgknagmiekeaaW.PrintWords hiding Kept
open Go.Proofs.Ytjhgknagmiekeaa.T (L Nd Ok Fine IntVals NdAt valT All findT Tr ptr nodeV lookV NodeRow looksOf gotV valueC pathC kidsC Kept)
theorem getRtV (w : World) (t : Rt) (h : Rok t) (hl : t.ks.length < 100000000000) (root : Nd) (hg : T.Good root) (hv : IntVals root) (hag : Agree root t) (v0 v1 v2 v3 v4 : Value) (hm : RtAt w t v0 v1 v2 v3 v4) (a : ByteArray) :
    Calls Try.prog 47 #[.agg #[v0, v1, v2, v3, v4], .string a] w fun e w' => e = .returned (gotV (valT root (L a))) ∧ Below w.heap.size w w' := by
  obtain ⟨n, b, f1, f2, f3, f4⟩ := find_ex t.ks a (by omega) h.sk
  obtain ⟨hc, hb⟩ := f4 h.rise
  have hg2 : Ev (fun k => musterref03_Get.f k t.ks t.vs t.ls t.ps t.ms a) (if b = true then rd t.vs n else 0, b) := by
    unfold musterref03_Get.f
    refine Ev.bind f2 (Ev.congr (fun k => ?_) (Ev.now _))
    cases b with
    | false => rfl
    | true =>
      have := (f3 rfl).1
      have hv := h.v
      simp only [if_true]
      rw [if_pos (by omega), if_pos (by omega)]
  obtain ⟨k, hk⟩ := hg2.rounds
  obtain ⟨⟨A0, c0, rfl, p0, q0⟩, ⟨A1, c1, rfl, p1, q1⟩, ⟨A2, c2, rfl, p2, q2⟩, ⟨A3, c3, rfl, p3, q3⟩, ⟨A4, c4, rfl, p4, q4⟩⟩ := hm
  refine (musterref03_Get.calls k A0 c0 t.ks A1 c1 t.vs A2 c2 t.ls A3 c3 t.ps A4 c4 t.ms a _ _ w q0 p0 q1 p1 q2 p2 q3 p3 q4 p4 hk).mono ?_
  rintro e w' ⟨rfl, hB⟩
  refine ⟨?_, hB⟩
  cases b with
  | true =>
    obtain ⟨h4, h5⟩ := f3 rfl
    rw [← h5, agree_in hg hv h hag h4]
    rfl
  | false =>
    rw [agree_out hg hv h hag (fun hm => by have := hb.2 hm; simp at this)]
    rfl
attribute [local go_sem] Oper.semAt_some
end Go.Proofs.Ytjhgknagmiekeaa.N
set_option linter.unusedVariables false
set_option linter.unusedSimpArgs false
namespace Go.Proofs.Ytjhgknagmiekeaa.N
open Go.RowKit Go.Lib Go.Proofs
open Go.Proofs.Ytjhgknagmiekeaa.K Go.Proofs.YtjhgknagmiekeaaW.PrintLast
open Go.Proofs.YtjhgknagmiekeaaW.PrintWords hiding Kept
open Go.Proofs.Ytjhgknagmiekeaa.T (L Nd Fine IntVals valT findT Tr ptr All gotV toldV longN reachN nodeT)
theorem got_form {root : Nd} (hv : IntVals root) (k : ByteArray) : ∃ (x : Int) (b : Bool), gotV (valT root (L k)) = .tuple #[.int .i64 x, .bool b] := by
  unfold valT
  cases e : findT root (L k) with
  | none => exact ⟨0, false, rfl⟩
  | some l =>
    obtain ⟨v, ev⟩ := hv _ _ e
    exact ⟨v, true, by show Value.tuple #[l.val, .bool true] = _; rw [ev]⟩
theorem told_form {root : Nd} (hf : Fine root) (hv : IntVals root) (k : ByteArray) : ∃ (s : ByteArray) (x : Int) (b : Bool), toldV (longN root k) = .tuple #[.string s, .int .i64 x, .bool b] := by
  rcases T.long_eq hf.toGood k with ⟨j, -, h1, h2, -⟩ | ⟨h1, -⟩
  · obtain ⟨l, el⟩ := Option.ne_none_iff_exists'.1 h2
    rw [el] at h1
    obtain ⟨v, ev⟩ := hv _ _ h1
    exact ⟨l.key, v, true, by rw [el]; show Value.tuple #[.string l.key, l.val, .bool true] = _; rw [ev]⟩
  · exact ⟨⟨#[]⟩, 0, false, by rw [h1]; rfl⟩
theorem ps_small {root : Nd} {t : Rt} (hf : Fine root) (hv : IntVals root) (ht : RokP t) (h : Agree root t) (hs : t.ks.length < 10000000000) : t.ps.length < 1000000000000 := by
  have e1 := F.paths_len hf hv ht h
  have e2 := T.cnt_bound hf
  have e3 : (All root).length = t.ks.length := by
    have := congrArg List.length (show (All root).map ey = _ from h)
    rw [List.length_map, List.length_map, List.length_zip, ht.v, Nat.min_self] at this
    exact this
  omega
def lk12_T : Bool × List (List Nat × List Nat) := (true, [([], []), ([], []), ([0, 1], [0, 1]), ([], []), ([3], [3]), ([], []), ([], []), ([5, 6, 2], [5, 6]), ([4, 7], [4, 7]), ([8], [8]), ([2, 9], [2, 9]), ([10, 7, 0, 1, 2, 3, 4, 5, 6, 7, 8, 9, 10], [10])])
def lk12_B : List Nat := [0, 0, 3, 0, 8, 0, 0, 103, 255, 511, 1023, 2047]
theorem lk12_bits : waitsOk lk12_T.2 lk12_B = true := by kernel_rfl
theorem lk12_tab : rtab .any (opsOf Try.f53 12) = lk12_T := by kernel_rfl
attribute [local go_sem] Oper.semAt_some
set_option maxRecDepth 100000 in
set_option maxHeartbeats 4000000 in
theorem looksC (w : World) (tb : Nat) (root : Nd) (ht : Tr w tb root) (t : Rt) (hok : RokP t) (hag : Agree root t) (v0 v1 v2 v3 v4 : Value) (hm : RtAt w t v0 v1 v2 v3 v4) (a : ByteArray) (ha : a.size < 4000000000000) (hl : t.ks.length < 10000000000) :
    Calls Try.prog 53 #[ptr tb, .agg #[v0, v1, v2, v3, v4], .string a] w fun e w' => e = .returned (.bool true) ∧ Below w.heap.size w w' := by
  have hpl := ps_small ht.fine ht.vals hok hag hl
  obtain ⟨x, ok, egv⟩ := got_form ht.vals a
  obtain ⟨s, y, oy, etv⟩ := told_form ht.fine ht.vals a
  obtain ⟨r1, hr1, k1⟩ := longRtE t hok (by omega) a (by omega)
  obtain ⟨r2, hr2, k2⟩ := reachRtE t hok hpl a (by omega)
  obtain ⟨n2, rfl, hn2, hg2⟩ := reach_agree ht.fine ht.vals hok hag a hr2
  have hra := (T.reach_eq ht.fine.toGood a).1
  have q1 := Aside0.mk (fun W (h : Below w.heap.size w W) => getRtV W t hok.toRok (by omega) root ht.fine.toGood ht.vals hag _ _ _ _ _ (hm.below h) a)
  have q2 := Aside0.mk (fun W (h : Below w.heap.size w W) => T.getC W tb root (ht.keep (T.Kept.of h)) a ha)
  rw [egv] at q1 q2
  have q3 := Aside0.mk (fun W (h : Below w.heap.size w W) => T.treeLongest W tb root _ a (ht.keep (T.Kept.of h)).at_ ht.fine.ok ht.fine.sm ht.fine.top ha)
  rw [etv] at q3
  have q4 := Aside0.mk (fun W (h : Below w.heap.size w W) => k1 W _ _ _ _ _ (hm.below h))
  have q5 := Aside0.mk (fun W (h : Below w.heap.size w W) => T.treeReach W tb root _ a (ht.keep (T.Kept.of h)).at_ ht.fine.ok ht.fine.sm ht.fine.top ha)
  have q6 := Aside0.mk (fun W (h : Below w.heap.size w W) => k2 W _ _ _ _ _ (hm.below h))
  have hla := long_agree ht.fine ht.vals hok.toRok hag a hr1
  rw [etv] at hla
  obtain ⟨⟨A0, N0, c0, e0⟩, ⟨A1, N1, c1, e1⟩, ⟨A2, N2, c2, rfl⟩, ⟨A3, N3, c3, e3⟩, ⟨A4, N4, c4, rfl⟩⟩ := hm.forms
  obtain ⟨A0', c0', e0', -, hC0⟩ := hm.a0
  obtain ⟨A1', c1', e1', -, hC1⟩ := hm.a1
  obtain ⟨A3', c3', e3', -, hC3⟩ := hm.a3
  rw [e0] at e0'; injection e0' with g1 g2 g3; subst g1; subst g2; subst g3
  rw [e1] at e1'; injection e1' with g1 g2 g3; subst g1; subst g2; subst g3
  rw [e3] at e3'; injection e3' with g1 g2 g3; subst g1; subst g2; subst g3
  subst e0; subst e1; subst e3
  obtain ⟨ad3, eA3, hb3, hat3⟩ := str_at hC3 n2 hn2
  rw [hg2] at hat3
  obtain ⟨N3, eN3⟩ : ∃ N3, t.ps.length = N3 := ⟨_, rfl⟩
  have hn2I : (n2 : Int) < (N3 : Int) := by omega
  obtain ⟨rr, err⟩ : ∃ rr, a.extract 0 (reachN root a) = rr := ⟨_, rfl⟩
  rw [err] at hat3 q5
  have HP3 := Aside0.mk (And.intro hb3 hat3)
  obtain ⟨N0, eN0⟩ : ∃ N0, t.ks.length = N0 := ⟨_, rfl⟩
  obtain ⟨N1, eN1⟩ : ∃ N1, t.vs.length = N1 := ⟨_, rfl⟩
  have HLA := Aside0.mk (And.intro hla (And.intro hC0 (And.intro hC1 (And.intro hok.toRok.v (And.intro eN0 eN1)))))
  rw [eN0, eN1, eN3] at q1 q4 q6 ⊢
  subst eA3
  clear hC0 hC1 hC3 hla hr1 hr2 k1 k2 hm hok hag ht hl hpl etv egv hn2 hg2 hra hb3 hat3 eN0 eN1 eN3 err
  unfold ptr at q2 q3 q5 ⊢
  go_enter Try.func53, Try.ntmps53
  have HB0 := Aside0.mk ((Below.refl w.heap.size w).alloc (Nat.le_refl _) (Obj.cells #[.slice A0 N0 c0, .slice A1 N1 c1, .slice A2 N2 c2, .slice (some ad3) N3 c3, .slice A4 N4 c4] 28))
  have HU0 := Aside0.mk (World.alloc_heap_new w (Obj.cells #[.slice A0 N0 c0, .slice A1 N1 c1, .slice A2 N2 c2, .slice (some ad3) N3 c3, .slice A4 N4 c4] 28))
  go_wp2_with fail
  obtain ⟨W0, eW0⟩ : ∃ W0, (w.alloc (Obj.cells #[.slice A0 N0 c0, .slice A1 N1 c1, .slice A2 N2 c2, .slice (some ad3) N3 c3, .slice A4 N4 c4] 28)) = W0 := ⟨_, rfl⟩
  rw [eW0] at HB0 HU0 ⊢
  clear eW0
  have z0 : W0.cell? ⟨w.heap.size, 0, none⟩ = some (.slice A0 N0 c0) := by rw [blk_cell HU0.out]; rfl
  have z1 : W0.cell? ⟨w.heap.size, 1, none⟩ = some (.slice A1 N1 c1) := by rw [blk_cell HU0.out]; rfl
  have z2 : W0.cell? ⟨w.heap.size, 2, none⟩ = some (.slice A2 N2 c2) := by rw [blk_cell HU0.out]; rfl
  have z3 : W0.cell? ⟨w.heap.size, 3, none⟩ = some (.slice (some ad3) N3 c3) := by rw [blk_cell HU0.out]; rfl
  have z4 : W0.cell? ⟨w.heap.size, 4, none⟩ = some (.slice A4 N4 c4) := by rw [blk_cell HU0.out]; rfl
  go_wp2_with fail
  go_at_call 47
  refine (q1.out _ HB0.out).mono ?_
  rintro e w1 ⟨rfl, hb1⟩
  have HB1 := Aside0.mk (T.belowAt HB0.out hb1)
  have HU1 := Aside0.mk ((hb1.block _ (Array.getElem?_eq_some_iff.1 HU0.out).1).trans HU0.out)
  clear hb1 z0 z1 z2 z3 z4 q1 HU0 HB0
  go_wp2_with fail
  go_at_call 35
  refine (q2.out _ HB1.out).mono ?_
  rintro e w2 ⟨rfl, hb2⟩
  have HB2 := Aside0.mk (T.belowAt HB1.out hb2)
  have HU2 := Aside0.mk ((hb2.block _ (Array.getElem?_eq_some_iff.1 HU1.out).1).trans HU1.out)
  clear hb2 q2 HU1 HB1
  go_wp2_with fail
  go_at_call 33
  refine (q3.out _ HB2.out).mono ?_
  rintro e w3 ⟨rfl, hb3⟩
  have HB3 := Aside0.mk (T.belowAt HB2.out hb3)
  have HU3 := Aside0.mk ((hb3.block _ (Array.getElem?_eq_some_iff.1 HU2.out).1).trans HU2.out)
  clear hb3 q3 HU2 HB2
  have z0 : w3.cell? ⟨w.heap.size, 0, none⟩ = some (.slice A0 N0 c0) := by rw [blk_cell HU3.out]; rfl
  have z1 : w3.cell? ⟨w.heap.size, 1, none⟩ = some (.slice A1 N1 c1) := by rw [blk_cell HU3.out]; rfl
  have z2 : w3.cell? ⟨w.heap.size, 2, none⟩ = some (.slice A2 N2 c2) := by rw [blk_cell HU3.out]; rfl
  have z3 : w3.cell? ⟨w.heap.size, 3, none⟩ = some (.slice (some ad3) N3 c3) := by rw [blk_cell HU3.out]; rfl
  have z4 : w3.cell? ⟨w.heap.size, 4, none⟩ = some (.slice A4 N4 c4) := by rw [blk_cell HU3.out]; rfl
  go_wp2_with fail
  go_at_call 102
  refine (q4.out _ HB3.out).mono ?_
  rintro e w4 ⟨rfl, hb4⟩
  have HB4 := Aside0.mk (T.belowAt HB3.out hb4)
  have HU4 := Aside0.mk ((hb4.block _ (Array.getElem?_eq_some_iff.1 HU3.out).1).trans HU3.out)
  clear hb4 z0 z1 z2 z3 z4 q4 HU3 HB3
  have z0 : w4.cell? ⟨w.heap.size, 0, none⟩ = some (.slice A0 N0 c0) := by rw [blk_cell HU4.out]; rfl
  have z1 : w4.cell? ⟨w.heap.size, 1, none⟩ = some (.slice A1 N1 c1) := by rw [blk_cell HU4.out]; rfl
  have z2 : w4.cell? ⟨w.heap.size, 2, none⟩ = some (.slice A2 N2 c2) := by rw [blk_cell HU4.out]; rfl
  have z3 : w4.cell? ⟨w.heap.size, 3, none⟩ = some (.slice (some ad3) N3 c3) := by rw [blk_cell HU4.out]; rfl
  have z4 : w4.cell? ⟨w.heap.size, 4, none⟩ = some (.slice A4 N4 c4) := by rw [blk_cell HU4.out]; rfl
  have xp : w4.cell? (ad3.add n2) = some (.string rr) := HP3.out.2 w4 (HB4.out.block _ HP3.out.1)
  have HBd := Aside0.mk (below_drew HB4.out)
  have HL0 := HLA.out.1
  rcases HL0 with ⟨n, rfl, hn, et⟩ | ⟨rfl, et⟩
  · injection et with et
    injection et with et
    injection et with e1 et
    injection et with e2 et
    injection et with e3 _
    injection e1 with e1
    injection e2 with _ e2
    injection e3 with e3
    obtain ⟨ad0, eA0, hb0, hat0⟩ := str_at HLA.out.2.1 n hn
    obtain ⟨ad1, eA1, hb1, hat1⟩ := int_at HLA.out.2.2.1 n (by rw [HLA.out.2.2.2.1]; exact hn)
    rw [← e1] at hat0
    rw [← e2] at hat1
    subst eA0
    subst eA1
    subst e3
    have p0 := hat0 w4 (HB4.out.block _ hb0)
    have p1 := hat1 w4 (HB4.out.block _ hb1)
    have hnI : ¬ ((n : Int) < 0) := by omega
    have hnN0 : (n : Int) < (N0 : Int) := by have := HLA.out.2.2.2.2.1; omega
    have hnN1 : (n : Int) < (N1 : Int) := by have := HLA.out.2.2.2.2; have := HLA.out.2.2.2.1; omega
    clear HLA hn hat0 hat1 hb0 hb1 e1 e2
    go_wp2_with fail
    clear p0 p1
    refine start_ (n := 12) (S := (fun Z => Z.cell? ⟨w.heap.size, 0, none⟩ = some (.slice (some ad0) N0 c0) ∧ Z.cell? ⟨w.heap.size, 1, none⟩ = some (.slice (some ad1) N1 c1) ∧ Z.cell? ⟨w.heap.size, 2, none⟩ = some (.slice A2 N2 c2) ∧ Z.cell? ⟨w.heap.size, 3, none⟩ = some (.slice (some ad3) N3 c3) ∧ Z.cell? ⟨w.heap.size, 4, none⟩ = some (.slice A4 N4 c4) ∧ Z.cell? (ad3.add n2) = some (.string rr))) (ds := []) #[false, false, false, false, false, false, false, false, false, false, false, false] (by kernel_rfl) rfl rfl ⟨z0, z1, z2, z3, z4, xp⟩ (fun hHeld => ?_); refine with_tabW lk12_tab lk12_bits (fun HT_ HW_ => ?_)
    refine pure_ (i := 0) (N := some 74) (v := ?_) (a' := ?_) #[true, false, false, false, false, false, false, false, false, false, false, false] rfl rfl (any_of HT_.out (by kernel_rfl)) (fun _ _ _ h => h) (Or.inl ⟨by rfl, ?_⟩) ?_ ?_
    rotate_left
    · intro w'
      go_simp
      with_reducible rfl
    rotate_left
    · simp only [Act.put, List.setIfInBounds_toArray, List.set_cons_zero, List.set_cons_succ, i64_w, i32_w]
      rfl
    refine pure_ (i := 1) (N := some 75) (v := ?_) (a' := ?_) #[true, true, false, false, false, false, false, false, false, false, false, false] rfl rfl (any_of HT_.out (by kernel_rfl)) (fun _ _ _ h => h) (Or.inl ⟨by rfl, ?_⟩) ?_ ?_
    rotate_left
    · intro w'
      go_simp
      with_reducible rfl
    rotate_left
    · simp only [Act.put, List.setIfInBounds_toArray, List.set_cons_zero, List.set_cons_succ, i64_w, i32_w]
      rfl
    refine pure_ (i := 3) (N := some 77) (v := ?_) (a' := ?_) #[true, true, false, true, false, false, false, false, false, false, false, false] rfl rfl (any_of HT_.out (by kernel_rfl)) (fun _ _ _ h => h) (Or.inl ⟨by rfl, ?_⟩) ?_ ?_
    rotate_left
    · intro w'
      go_simp
      with_reducible rfl
    rotate_left
    · simp only [Act.put, List.setIfInBounds_toArray, List.set_cons_zero, List.set_cons_succ, i64_w, i32_w]
      rfl
    refine take_ (i := 4) (N := some 78) (v := ?_) (a' := ?_) #[true, true, false, true, true, false, false, false, false, false, false, false] rfl rfl (take_ofW HT_.out HW_.out (by kernel_rfl)) (fun _ _ _ h => h) (Or.inl ⟨by rfl, ?_⟩) hHeld ?_ ?_
    rotate_left
    · rintro w' ⟨s0, s1, s2, s3, s4, s5⟩
      go_simp
      with_reducible rfl
    rotate_left
    · simp only [Act.put, List.setIfInBounds_toArray, List.set_cons_zero, List.set_cons_succ, i64_w, i32_w]
      rfl
    refine take_ (i := 5) (N := some 79) (v := ?_) (a' := ?_) #[true, true, false, true, true, true, false, false, false, false, false, false] rfl rfl (take_ofW HT_.out HW_.out (by kernel_rfl)) (fun _ _ _ h => h) (Or.inl ⟨by rfl, ?_⟩) hHeld ?_ ?_
    rotate_left
    · rintro w' ⟨s0, s1, s2, s3, s4, s5⟩
      go_simp
      with_reducible rfl
    rotate_left
    · simp only [Act.put, List.setIfInBounds_toArray, List.set_cons_zero, List.set_cons_succ, i64_w, i32_w]
      rfl
    refine pure_ (i := 6) (N := some 80) (v := ?_) (a' := ?_) #[true, true, false, true, true, true, true, false, false, false, false, false] rfl rfl (any_of HT_.out (by kernel_rfl)) (fun _ _ _ h => h) (Or.inl ⟨by rfl, ?_⟩) ?_ ?_
    rotate_left
    · intro w'
      go_simp
      with_reducible rfl
    rotate_left
    · simp only [Act.put, List.setIfInBounds_toArray, List.set_cons_zero, List.set_cons_succ, i64_w, i32_w]
      rfl
    refine one_ (i := 2) (N := some 76) #[true, true, true, true, true, true, true, false, false, false, false, false] rfl rfl (one_of HT_.out (by kernel_rfl)) (by decide) (fun K hK => ?_)
    refine goes_ Try.func89 (by kernel_rfl) rfl #[.pointer (some ⟨tb, 0, none⟩), .string a] (by rfl) rfl rfl (by (try simp only [List.map_toArray, List.map_cons, List.map_nil]); first | done | rfl) ?_
    refine (q5.out _ HBd.out).mono ?_
    rintro e w5 ⟨rfl, -, hb5⟩
    have HB5 := Aside0.mk (T.belowAt HBd.out hb5)
    have h1 : (fun Z => Z.cell? ⟨w.heap.size, 0, none⟩ = some (.slice (some ad0) N0 c0) ∧ Z.cell? ⟨w.heap.size, 1, none⟩ = some (.slice (some ad1) N1 c1) ∧ Z.cell? ⟨w.heap.size, 2, none⟩ = some (.slice A2 N2 c2) ∧ Z.cell? ⟨w.heap.size, 3, none⟩ = some (.slice (some ad3) N3 c3) ∧ Z.cell? ⟨w.heap.size, 4, none⟩ = some (.slice A4 N4 c4) ∧ Z.cell? (ad3.add n2) = some (.string rr)) w5 := ⟨(T.Kept.of hb5).cell z0, (T.Kept.of hb5).cell z1, (T.Kept.of hb5).cell z2, (T.Kept.of hb5).cell z3, (T.Kept.of hb5).cell z4, (T.Kept.of hb5).cell xp⟩
    clear hb5
    refine ⟨_, rfl, ?_⟩
    clear hHeld
    refine hK.out _ _ h1 (fun hHeld => ?_)
    clear hK K
    refine norm_ (a' := ?_) ?_ ?_
    rotate_left
    · show Act.put _ (some 76) _ = _
      simp only [Act.put, List.setIfInBounds_toArray, List.set_cons_zero, List.set_cons_succ, i64_w, i32_w]
      rfl
    refine one_ (i := 7) (N := some 81) #[true, true, true, true, true, true, true, true, false, false, false, false] rfl rfl (one_of HT_.out (by kernel_rfl)) (by decide) (fun K hK => ?_)
    refine goes_ Try.func63 (by kernel_rfl) rfl #[.agg #[.slice (some ad0) N0 c0, .slice (some ad1) N1 c1, .slice A2 N2 c2, .slice (some ad3) N3 c3, .slice A4 N4 c4], .string a] (by rfl) rfl rfl (by (try simp only [List.map_toArray, List.map_cons, List.map_nil]); first | done | rfl) ?_
    refine (q6.out _ HB5.out).mono ?_
    rintro e w6 ⟨rfl, hb6⟩
    have HB6 := Aside0.mk (T.belowAt HB5.out hb6)
    have h2 : (fun Z => Z.cell? ⟨w.heap.size, 0, none⟩ = some (.slice (some ad0) N0 c0) ∧ Z.cell? ⟨w.heap.size, 1, none⟩ = some (.slice (some ad1) N1 c1) ∧ Z.cell? ⟨w.heap.size, 2, none⟩ = some (.slice A2 N2 c2) ∧ Z.cell? ⟨w.heap.size, 3, none⟩ = some (.slice (some ad3) N3 c3) ∧ Z.cell? ⟨w.heap.size, 4, none⟩ = some (.slice A4 N4 c4) ∧ Z.cell? (ad3.add n2) = some (.string rr)) w6 := ⟨(T.Kept.of hb6).cell h1.1, (T.Kept.of hb6).cell h1.2.1, (T.Kept.of hb6).cell h1.2.2.1, (T.Kept.of hb6).cell h1.2.2.2.1, (T.Kept.of hb6).cell h1.2.2.2.2.1, (T.Kept.of hb6).cell h1.2.2.2.2.2⟩
    clear hb6
    refine ⟨_, rfl, ?_⟩
    clear hHeld
    refine hK.out _ _ h2 (fun hHeld => ?_)
    clear hK K
    refine norm_ (a' := ?_) ?_ ?_
    rotate_left
    · show Act.put _ (some 81) _ = _
      simp only [Act.put, List.setIfInBounds_toArray, List.set_cons_zero, List.set_cons_succ, i64_w, i32_w]
      rfl
    refine pure_ (i := 8) (N := some 82) (v := ?_) (a' := ?_) #[true, true, true, true, true, true, true, true, true, false, false, false] rfl rfl (any_of HT_.out (by kernel_rfl)) (fun _ _ _ h => h) (Or.inl ⟨by rfl, ?_⟩) ?_ ?_
    rotate_left
    · intro w'
      go_simp
      with_reducible rfl
    rotate_left
    · simp only [Act.put, List.setIfInBounds_toArray, List.set_cons_zero, List.set_cons_succ, i64_w, i32_w]
      rfl
    refine take_ (i := 9) (N := some 83) (v := ?_) (a' := ?_) #[true, true, true, true, true, true, true, true, true, true, false, false] rfl rfl (take_ofW HT_.out HW_.out (by kernel_rfl)) (fun _ _ _ h => h) (Or.inl ⟨by rfl, ?_⟩) hHeld ?_ ?_
    rotate_left
    · rintro w' ⟨s0, s1, s2, s3, s4, s5⟩
      go_simp
      with_reducible rfl
    rotate_left
    · simp only [Act.put, List.setIfInBounds_toArray, List.set_cons_zero, List.set_cons_succ, i64_w, i32_w]
      rfl
    refine pure_ (i := 10) (N := some 84) (v := ?_) (a' := ?_) #[true, true, true, true, true, true, true, true, true, true, true, false] rfl rfl (any_of HT_.out (by kernel_rfl)) (fun _ _ _ h => h) (Or.inl ⟨by rfl, ?_⟩) ?_ ?_
    rotate_left
    · intro w'
      go_simp
      with_reducible rfl
    rotate_left
    · simp only [Act.put, List.setIfInBounds_toArray, List.set_cons_zero, List.set_cons_succ, i64_w, i32_w]
      rfl
    refine pure_ (i := 11) (N := some 6) (v := ?_) (a' := ?_) #[true, true, true, true, true, true, true, true, true, true, true, true] rfl rfl (any_of HT_.out (by kernel_rfl)) (fun _ _ _ h => h) (Or.inl ⟨by rfl, ?_⟩) ?_ ?_
    rotate_left
    · intro w'
      go_simp
      with_reducible rfl
    rotate_left
    · simp only [Act.put, List.setIfInBounds_toArray, List.set_cons_zero, List.set_cons_succ, i64_w, i32_w]
      rfl
    refine done_ (done_of HT_.out (by kernel_rfl)) ?_
    clear hHeld h1 z0 z1 z2 z3 z4 xp q5 q6 HT_ HW_ HBd
    go_wp2_with fail
    go_ret
    exact ⟨rfl, HB6.out⟩
  · injection et with et
    injection et with et
    injection et with e1 et
    injection et with e2 et
    injection et with e3 _
    injection e1 with e1
    injection e2 with _ e2
    injection e3 with e3
    subst e1
    subst e2
    subst e3
    clear HLA
    go_wp2_with fail
    refine start_ (n := 12) (S := (fun Z => Z.cell? ⟨w.heap.size, 0, none⟩ = some (.slice A0 N0 c0) ∧ Z.cell? ⟨w.heap.size, 1, none⟩ = some (.slice A1 N1 c1) ∧ Z.cell? ⟨w.heap.size, 2, none⟩ = some (.slice A2 N2 c2) ∧ Z.cell? ⟨w.heap.size, 3, none⟩ = some (.slice (some ad3) N3 c3) ∧ Z.cell? ⟨w.heap.size, 4, none⟩ = some (.slice A4 N4 c4) ∧ Z.cell? (ad3.add n2) = some (.string rr))) (ds := []) #[false, false, false, false, false, false, false, false, false, false, false, false] (by kernel_rfl) rfl rfl ⟨z0, z1, z2, z3, z4, xp⟩ (fun hHeld => ?_); refine with_tabW lk12_tab lk12_bits (fun HT_ HW_ => ?_)
    refine pure_ (i := 0) (N := some 74) (v := ?_) (a' := ?_) #[true, false, false, false, false, false, false, false, false, false, false, false] rfl rfl (any_of HT_.out (by kernel_rfl)) (fun _ _ _ h => h) (Or.inl ⟨by rfl, ?_⟩) ?_ ?_
    rotate_left
    · intro w'
      go_simp
      with_reducible rfl
    rotate_left
    · simp only [Act.put, List.setIfInBounds_toArray, List.set_cons_zero, List.set_cons_succ, i64_w, i32_w]
      rfl
    refine pure_ (i := 1) (N := some 75) (v := ?_) (a' := ?_) #[true, true, false, false, false, false, false, false, false, false, false, false] rfl rfl (any_of HT_.out (by kernel_rfl)) (fun _ _ _ h => h) (Or.inl ⟨by rfl, ?_⟩) ?_ ?_
    rotate_left
    · intro w'
      go_simp
      with_reducible rfl
    rotate_left
    · simp only [Act.put, List.setIfInBounds_toArray, List.set_cons_zero, List.set_cons_succ, i64_w, i32_w]
      rfl
    refine pure_ (i := 3) (N := some 77) (v := ?_) (a' := ?_) #[true, true, false, true, false, false, false, false, false, false, false, false] rfl rfl (any_of HT_.out (by kernel_rfl)) (fun _ _ _ h => h) (Or.inl ⟨by rfl, ?_⟩) ?_ ?_
    rotate_left
    · intro w'
      go_simp
      with_reducible rfl
    rotate_left
    · simp only [Act.put, List.setIfInBounds_toArray, List.set_cons_zero, List.set_cons_succ, i64_w, i32_w]
      rfl
    refine take_ (i := 4) (N := some 78) (v := ?_) (a' := ?_) #[true, true, false, true, true, false, false, false, false, false, false, false] rfl rfl (take_ofW HT_.out HW_.out (by kernel_rfl)) (fun _ _ _ h => h) (Or.inl ⟨by rfl, ?_⟩) hHeld ?_ ?_
    rotate_left
    · rintro w' ⟨s0, s1, s2, s3, s4, s5⟩
      go_simp
      with_reducible rfl
    rotate_left
    · simp only [Act.put, List.setIfInBounds_toArray, List.set_cons_zero, List.set_cons_succ, i64_w, i32_w]
      rfl
    refine take_ (i := 5) (N := some 79) (v := ?_) (a' := ?_) #[true, true, false, true, true, true, false, false, false, false, false, false] rfl rfl (take_ofW HT_.out HW_.out (by kernel_rfl)) (fun _ _ _ h => h) (Or.inl ⟨by rfl, ?_⟩) hHeld ?_ ?_
    rotate_left
    · rintro w' ⟨s0, s1, s2, s3, s4, s5⟩
      go_simp
      with_reducible rfl
    rotate_left
    · simp only [Act.put, List.setIfInBounds_toArray, List.set_cons_zero, List.set_cons_succ, i64_w, i32_w]
      rfl
    refine pure_ (i := 6) (N := some 80) (v := ?_) (a' := ?_) #[true, true, false, true, true, true, true, false, false, false, false, false] rfl rfl (any_of HT_.out (by kernel_rfl)) (fun _ _ _ h => h) (Or.inl ⟨by rfl, ?_⟩) ?_ ?_
    rotate_left
    · intro w'
      go_simp
      with_reducible rfl
    rotate_left
    · simp only [Act.put, List.setIfInBounds_toArray, List.set_cons_zero, List.set_cons_succ, i64_w, i32_w]
      rfl
    refine one_ (i := 2) (N := some 76) #[true, true, true, true, true, true, true, false, false, false, false, false] rfl rfl (one_of HT_.out (by kernel_rfl)) (by decide) (fun K hK => ?_)
    refine goes_ Try.func89 (by kernel_rfl) rfl #[.pointer (some ⟨tb, 0, none⟩), .string a] (by rfl) rfl rfl (by (try simp only [List.map_toArray, List.map_cons, List.map_nil]); first | done | rfl) ?_
    refine (q5.out _ HBd.out).mono ?_
    rintro e w5 ⟨rfl, -, hb5⟩
    have HB5 := Aside0.mk (T.belowAt HBd.out hb5)
    have h1 : (fun Z => Z.cell? ⟨w.heap.size, 0, none⟩ = some (.slice A0 N0 c0) ∧ Z.cell? ⟨w.heap.size, 1, none⟩ = some (.slice A1 N1 c1) ∧ Z.cell? ⟨w.heap.size, 2, none⟩ = some (.slice A2 N2 c2) ∧ Z.cell? ⟨w.heap.size, 3, none⟩ = some (.slice (some ad3) N3 c3) ∧ Z.cell? ⟨w.heap.size, 4, none⟩ = some (.slice A4 N4 c4) ∧ Z.cell? (ad3.add n2) = some (.string rr)) w5 := ⟨(T.Kept.of hb5).cell z0, (T.Kept.of hb5).cell z1, (T.Kept.of hb5).cell z2, (T.Kept.of hb5).cell z3, (T.Kept.of hb5).cell z4, (T.Kept.of hb5).cell xp⟩
    clear hb5
    refine ⟨_, rfl, ?_⟩
    clear hHeld
    refine hK.out _ _ h1 (fun hHeld => ?_)
    clear hK K
    refine norm_ (a' := ?_) ?_ ?_
    rotate_left
    · show Act.put _ (some 76) _ = _
      simp only [Act.put, List.setIfInBounds_toArray, List.set_cons_zero, List.set_cons_succ, i64_w, i32_w]
      rfl
    refine one_ (i := 7) (N := some 81) #[true, true, true, true, true, true, true, true, false, false, false, false] rfl rfl (one_of HT_.out (by kernel_rfl)) (by decide) (fun K hK => ?_)
    refine goes_ Try.func63 (by kernel_rfl) rfl #[.agg #[.slice A0 N0 c0, .slice A1 N1 c1, .slice A2 N2 c2, .slice (some ad3) N3 c3, .slice A4 N4 c4], .string a] (by rfl) rfl rfl (by (try simp only [List.map_toArray, List.map_cons, List.map_nil]); first | done | rfl) ?_
    refine (q6.out _ HB5.out).mono ?_
    rintro e w6 ⟨rfl, hb6⟩
    have HB6 := Aside0.mk (T.belowAt HB5.out hb6)
    have h2 : (fun Z => Z.cell? ⟨w.heap.size, 0, none⟩ = some (.slice A0 N0 c0) ∧ Z.cell? ⟨w.heap.size, 1, none⟩ = some (.slice A1 N1 c1) ∧ Z.cell? ⟨w.heap.size, 2, none⟩ = some (.slice A2 N2 c2) ∧ Z.cell? ⟨w.heap.size, 3, none⟩ = some (.slice (some ad3) N3 c3) ∧ Z.cell? ⟨w.heap.size, 4, none⟩ = some (.slice A4 N4 c4) ∧ Z.cell? (ad3.add n2) = some (.string rr)) w6 := ⟨(T.Kept.of hb6).cell h1.1, (T.Kept.of hb6).cell h1.2.1, (T.Kept.of hb6).cell h1.2.2.1, (T.Kept.of hb6).cell h1.2.2.2.1, (T.Kept.of hb6).cell h1.2.2.2.2.1, (T.Kept.of hb6).cell h1.2.2.2.2.2⟩
    clear hb6
    refine ⟨_, rfl, ?_⟩
    clear hHeld
    refine hK.out _ _ h2 (fun hHeld => ?_)
    clear hK K
    refine norm_ (a' := ?_) ?_ ?_
    rotate_left
    · show Act.put _ (some 81) _ = _
      simp only [Act.put, List.setIfInBounds_toArray, List.set_cons_zero, List.set_cons_succ, i64_w, i32_w]
      rfl
    refine pure_ (i := 8) (N := some 82) (v := ?_) (a' := ?_) #[true, true, true, true, true, true, true, true, true, false, false, false] rfl rfl (any_of HT_.out (by kernel_rfl)) (fun _ _ _ h => h) (Or.inl ⟨by rfl, ?_⟩) ?_ ?_
    rotate_left
    · intro w'
      go_simp
      with_reducible rfl
    rotate_left
    · simp only [Act.put, List.setIfInBounds_toArray, List.set_cons_zero, List.set_cons_succ, i64_w, i32_w]
      rfl
    refine take_ (i := 9) (N := some 83) (v := ?_) (a' := ?_) #[true, true, true, true, true, true, true, true, true, true, false, false] rfl rfl (take_ofW HT_.out HW_.out (by kernel_rfl)) (fun _ _ _ h => h) (Or.inl ⟨by rfl, ?_⟩) hHeld ?_ ?_
    rotate_left
    · rintro w' ⟨s0, s1, s2, s3, s4, s5⟩
      go_simp
      with_reducible rfl
    rotate_left
    · simp only [Act.put, List.setIfInBounds_toArray, List.set_cons_zero, List.set_cons_succ, i64_w, i32_w]
      rfl
    refine pure_ (i := 10) (N := some 84) (v := ?_) (a' := ?_) #[true, true, true, true, true, true, true, true, true, true, true, false] rfl rfl (any_of HT_.out (by kernel_rfl)) (fun _ _ _ h => h) (Or.inl ⟨by rfl, ?_⟩) ?_ ?_
    rotate_left
    · intro w'
      go_simp
      with_reducible rfl
    rotate_left
    · simp only [Act.put, List.setIfInBounds_toArray, List.set_cons_zero, List.set_cons_succ, i64_w, i32_w]
      rfl
    refine pure_ (i := 11) (N := some 6) (v := ?_) (a' := ?_) #[true, true, true, true, true, true, true, true, true, true, true, true] rfl rfl (any_of HT_.out (by kernel_rfl)) (fun _ _ _ h => h) (Or.inl ⟨by rfl, ?_⟩) ?_ ?_
    rotate_left
    · intro w'
      go_simp
      with_reducible rfl
    rotate_left
    · simp only [Act.put, List.setIfInBounds_toArray, List.set_cons_zero, List.set_cons_succ, i64_w, i32_w]
      rfl
    refine done_ (done_of HT_.out (by kernel_rfl)) ?_
    clear hHeld h1 z0 z1 z2 z3 z4 xp q5 q6 HT_ HW_ HBd
    go_wp2_with fail
    go_ret
    exact ⟨rfl, HB6.out⟩
end Go.Proofs.Ytjhgknagmiekeaa.N
set_option linter.unusedVariables false
set_option linter.unusedSimpArgs false
namespace Go.Proofs.Ytjhgknagmiekeaa.T
open Go.RowKit Go.Lib Go.Proofs
open Go.Proofs.YtjhgknagmiekeaaW.PrintWords hiding blk_cell Kept
theorem ents_ne {n : Nd} (hf : Full n) (hb : Br n) (p : List UInt8) : ents p n ≠ [] := by
  have := cnt_full n p hf hb
  intro e
  rw [e] at this
  simp at this
theorem head_leaf {n : Nd} {l : Lf} (h : n.leaf = some l) (p : List UInt8) : (ents p n).head? = some (p ++ L n.label, l) := by
  rw [ents_eq, h]; rfl
theorem head_kid {n k : Nd} {r : List Nd} (h : n.leaf = none) (hk : n.kids = k :: r) (hf : Full k) (hb : Br k) (p : List UInt8) : (ents p n).head? = (ents (p ++ L n.label) k).head? := by
  rw [ents_eq, h, hk, entss]
  show (ents _ k ++ _).head? = _
  cases e : ents (p ++ L n.label) k with
  | nil => exact absurd e (ents_ne hf hb _)
  | cons a b => rfl
theorem head_none {n : Nd} (h : n.leaf = none) (hk : n.kids = []) (p : List UInt8) : (ents p n).head? = none := by
  rw [ents_eq, h, hk, entss]; rfl
attribute [local go_sem] Oper.semAt_some
set_option maxRecDepth 100000 in
set_option maxHeartbeats 2000000 in
theorem leastC (w : World) (tb : Nat) (root : Nd) (h : Tr w tb root) :
    Calls Try.prog 132 #[ptr tb] w fun e w' => e = .returned (toldV ((All root).head?.map Prod.snd)) ∧ Below w.heap.size w w' := by
  have HT := Aside0.mk h
  have ct : w.cell? ⟨tb, 0, none⟩ = some (.pointer (some ⟨root.b, 0, none⟩)) := by rw [blk_cell h.at_.blk]; rfl
  clear h
  unfold ptr
  go_enter Try.func132, Try.ntmps132
  go_wp2_with fail
  clear ct
  go_loopg [5] (nsz root + 1) (fun kq v5 W => ∃ (n : Nd) (p : List UInt8), v5 = .pointer (some ⟨n.b, 0, none⟩) ∧ Aside0 (kq = nsz n + 1) ∧ Aside0 (NdAt w n ∧ Ok n ∧ Br n ∧ (All root).head?.map Prod.snd = (ents p n).head?.map Prod.snd) ∧ Aside0 (Below w.heap.size w W))
  case atStart => exact ⟨root, [], rfl, ⟨rfl⟩, ⟨HT.out.at_.root, HT.out.fine.ok, HT.out.fine.br, rfl⟩, ⟨Below.refl _ _⟩⟩
  case round =>
    obtain ⟨n, p, rfl, HQ, HN, HW⟩ := hrel
    have hnw := NdAt.keep (Kept.of HW.out) n HN.out.1
    obtain ⟨kv, hb, hrow, hlf, hks⟩ := hnw.parts
    have cl : wr.cell? ⟨n.b, 1, none⟩ = some (leafPtr n.leaf) := by rw [blk_cell hb]; rfl
    have qt := told wr n.leaf hlf
    cases e : n.leaf with
    | some l =>
      rw [e] at cl qt
      have HE := Aside0.mk e
      have qt2 := Aside0.mk qt
      obtain ⟨nb, enb⟩ : ∃ nb, n.b = nb := ⟨_, rfl⟩
      rw [enb] at cl ⊢
      unfold leafPtr ptr at cl qt2
      unfold toldV at qt2
      clear hb hrow hlf hks hnw qt e enb
      go_wp2_with fail
      go_at_call 87
      refine qt2.out.mono ?_
      rintro e w1 ⟨rfl, hq⟩
      go_wp2_with fail
      go_ret3
      refine ⟨?_, belowAt HW.out (hq.below _)⟩
      rw [HN.out.2.2.2, head_leaf HE.out]
      rfl
    | none =>
      obtain ⟨A, c, rfl, hcells⟩ := hrow.open
      have ck : wr.cell? ⟨n.b, 2, none⟩ = some (.slice A (ptrs n.kids).length c) := by rw [blk_cell hb]; rfl
      rw [e] at cl qt
      cases ek : n.kids with
      | nil =>
        rw [ek] at ck
        have HE := Aside0.mk (And.intro e ek)
        have qt2 := Aside0.mk qt
        obtain ⟨nb, enb⟩ : ∃ nb, n.b = nb := ⟨_, rfl⟩
        rw [enb] at cl ck ⊢
        unfold leafPtr at cl qt2
        unfold toldV at qt2
        simp only [ptrs, List.map_nil, List.length_nil] at ck
        clear hb hcells hlf hks hnw qt e ek enb hrow
        go_wp2_with fail
        go_at_call 87
        refine qt2.out.mono ?_
        rintro e w1 ⟨rfl, hq⟩
        go_wp2_with fail
        go_ret3
        refine ⟨?_, belowAt HW.out (hq.below _)⟩
        rw [HN.out.2.2.2, head_none HE.out.1 HE.out.2]
        rfl
      | cons k r =>
        have hkm : k ∈ n.kids := by rw [ek]; exact List.mem_cons_self
        obtain ⟨ad, ea, hk0⟩ := hcells 0 (by rw [ek]; simp [ptrs])
        have hk1 : wr.cell? ad = some (.pointer (some ⟨k.b, 0, none⟩)) := by rw [show ad = ad.add 0 from rfl, hk0]; simp [ptrs, ek, ptr]
        have hlen : ∃ len, (ptrs n.kids).length = len + 1 := ⟨r.length, by rw [ek]; simp [ptrs]⟩
        obtain ⟨len, elen⟩ := hlen
        rw [elen] at ck
        have hbr : Full k ∧ Br k := by
          have := HN.out.2.2.1.parts
          rw [ek] at this
          unfold Brs at this
          exact this.1
        have HE := Aside0.mk (And.intro e (And.intro ek (And.intro hkm hbr)))
        have hfew := HN.out.2.1.few
        have hl256 : len < 1000000 := by have : (ptrs n.kids).length = n.kids.length := by simp [ptrs]
                                         omega
        obtain ⟨nb, enb⟩ : ∃ nb, n.b = nb := ⟨_, rfl⟩
        rw [enb] at cl ck ⊢
        unfold leafPtr at cl
        have hI : (0 : Int) < ((len + 1 : Nat) : Int) := by omega
        subst ea
        clear hb hcells hlf hks hnw qt e ek enb hrow hk0 hkm hbr elen hfew
        go_wp2_with fail
        go_roundg (nsz k + 1)
        case measure => have h1 := HQ.out; have h2 := nsz_kid HE.out.2.2.1; omega
        case rel =>
          refine ⟨k, p ++ L n.label, rfl, ⟨rfl⟩, ⟨HN.out.1.parts.choose_spec.2.2.2.mem _ HE.out.2.2.1, HN.out.2.1.parts.2.2.get _ HE.out.2.2.1, HE.out.2.2.2.2, ?_⟩, HW⟩
          rw [HN.out.2.2.2, head_kid HE.out.1 HE.out.2.1 HE.out.2.2.2.1 HE.out.2.2.2.2]
theorem entss_last (p : List UInt8) : ∀ (ks : List Nd) (h : ks ≠ []), ents p (ks.getLast h) ≠ [] → (entss p ks).getLast? = (ents p (ks.getLast h)).getLast?
  | [], h, _ => absurd rfl h
  | [k], _, _ => by rw [entss, entss, List.append_nil]; rfl
  | k :: k2 :: r, _, hn => by
    have h0 : k2 :: r ≠ [] := by simp
    have e0 : (k :: k2 :: r).getLast (by simp) = (k2 :: r).getLast h0 := List.getLast_cons h0
    rw [e0] at hn
    have h2 := entss_last p (k2 :: r) h0 hn
    rw [entss, List.getLast?_append, h2, e0]
    cases e : (ents p ((k2 :: r).getLast h0)).getLast? with
    | none => exact absurd (List.getLast?_eq_none_iff.1 e) hn
    | some x => rfl
theorem last_kid {n : Nd} (h : n.kids ≠ []) (hb : Brs n.kids) (p : List UInt8) : (ents p n).getLast? = (ents (p ++ L n.label) (n.kids.getLast h)).getLast? := by
  have hfb := hb.mem _ (List.getLast_mem h)
  have hne := ents_ne hfb.1 hfb.2 (p ++ L n.label)
  rw [ents_eq, List.getLast?_append, entss_last _ _ h hne]
  cases e : (ents (p ++ L n.label) (n.kids.getLast h)).getLast? with
  | none => exact absurd (List.getLast?_eq_none_iff.1 e) hne
  | some x => rfl
theorem last_leaf {n : Nd} (h : n.kids = []) (p : List UInt8) : ((ents p n).getLast?).map Prod.snd = n.leaf := by
  rw [ents_eq, h, entss, List.append_nil]
  cases n.leaf <;> rfl
set_option maxRecDepth 100000 in
set_option maxHeartbeats 2000000 in
theorem greatestC (w : World) (tb : Nat) (root : Nd) (h : Tr w tb root) :
    Calls Try.prog 133 #[ptr tb] w fun e w' => e = .returned (toldV ((All root).getLast?.map Prod.snd)) ∧ Below w.heap.size w w' := by
  have HT := Aside0.mk h
  have ct : w.cell? ⟨tb, 0, none⟩ = some (.pointer (some ⟨root.b, 0, none⟩)) := by rw [blk_cell h.at_.blk]; rfl
  clear h
  unfold ptr
  go_enter Try.func133, Try.ntmps133
  go_wp2_with fail
  clear ct
  go_loopg [5] (nsz root + 1) (fun kq v5 W => ∃ (n : Nd) (p : List UInt8), v5 = .pointer (some ⟨n.b, 0, none⟩) ∧ Aside0 (kq = nsz n + 1) ∧ Aside0 (NdAt w n ∧ Ok n ∧ Br n ∧ (All root).getLast?.map Prod.snd = (ents p n).getLast?.map Prod.snd) ∧ Aside0 (Below w.heap.size w W))
  case atStart => exact ⟨root, [], rfl, ⟨rfl⟩, ⟨HT.out.at_.root, HT.out.fine.ok, HT.out.fine.br, rfl⟩, ⟨Below.refl _ _⟩⟩
  case round =>
    obtain ⟨n, p, rfl, HQ, HN, HW⟩ := hrel
    have hnw := NdAt.keep (Kept.of HW.out) n HN.out.1
    obtain ⟨kv, hb, hrow, hlf, hks⟩ := hnw.parts
    have cl : wr.cell? ⟨n.b, 1, none⟩ = some (leafPtr n.leaf) := by rw [blk_cell hb]; rfl
    have qt := told wr n.leaf hlf
    obtain ⟨A, c, rfl, hcells⟩ := hrow.open
    have ck : wr.cell? ⟨n.b, 2, none⟩ = some (.slice A (ptrs n.kids).length c) := by rw [blk_cell hb]; rfl
    by_cases ek : n.kids = []
    · rw [ek] at ck
      have HL := Aside0.mk (show (All root).getLast?.map Prod.snd = n.leaf from HN.out.2.2.2.trans (last_leaf ek p))
      simp only [ptrs, List.map_nil, List.length_nil] at ck
      cases e : n.leaf with
      | some l =>
        rw [e] at cl qt
        have HE := Aside0.mk e
        have qt2 := Aside0.mk qt
        obtain ⟨nb, enb⟩ : ∃ nb, n.b = nb := ⟨_, rfl⟩
        rw [enb] at cl ck ⊢
        unfold leafPtr ptr at cl qt2
        unfold toldV at qt2
        clear hb hcells hlf hks hnw qt ek enb hrow e
        go_wp2_with fail
        go_at_call 87
        refine qt2.out.mono ?_
        rintro e w1 ⟨rfl, hq⟩
        go_wp2_with fail
        go_ret3
        refine ⟨?_, belowAt HW.out (hq.below _)⟩
        rw [HL.out, HE.out]
        rfl
      | none =>
        rw [e] at cl qt
        have HE := Aside0.mk e
        have qt2 := Aside0.mk qt
        obtain ⟨nb, enb⟩ : ∃ nb, n.b = nb := ⟨_, rfl⟩
        rw [enb] at cl ck ⊢
        unfold leafPtr at cl qt2
        unfold toldV at qt2
        clear hb hcells hlf hks hnw qt ek enb hrow e
        go_wp2_with fail
        go_at_call 87
        refine qt2.out.mono ?_
        rintro e w1 ⟨rfl, hq⟩
        go_wp2_with fail
        go_ret3
        refine ⟨?_, belowAt HW.out (hq.below _)⟩
        rw [HL.out, HE.out]
        rfl
    · obtain ⟨len, elen⟩ : ∃ len, n.kids.length = len + 1 := ⟨n.kids.length - 1, by have := List.length_pos_iff.2 ek; omega⟩
      obtain ⟨k, e9⟩ : ∃ k, n.kids.getLast ek = k := ⟨_, rfl⟩
      have hkm : k ∈ n.kids := by rw [← e9]; exact List.getLast_mem ek
      obtain ⟨ad, ea, hk0⟩ := hcells len (by simp [ptrs]; omega)
      have hk1 : wr.cell? (ad.add len) = some (.pointer (some ⟨k.b, 0, none⟩)) := by
        rw [hk0, ← e9, List.getLast_eq_getElem]
        simp [ptrs, ptr, elen]
      have elen2 : (ptrs n.kids).length = len + 1 := by simp [ptrs, elen]
      rw [elen2] at ck
      have hl2 := last_kid ek HN.out.2.2.1.parts p
      rw [e9] at hl2
      have HE := Aside0.mk (And.intro hkm hl2)
      have hfew := HN.out.2.1.few
      have hl256 : len < 1000000 := by omega
      obtain ⟨nb, enb⟩ : ∃ nb, n.b = nb := ⟨_, rfl⟩
      rw [enb] at cl ck ⊢
      have hI : (0 : Int) < ((len + 1 : Nat) : Int) := by omega
      have hI3 : IntKind.wrap .i64 (len : Int) = (len : Int) := Go.wrap_small _ (by omega) (by omega)
      have hI2 : IntKind.wrap .i64 (((len + 1 : Nat) : Int) - 1) = (len : Int) := by rw [show ((len + 1 : Nat) : Int) - 1 = (len : Int) from by omega]; exact hI3
      subst ea
      clear hb hcells hlf hks hnw qt ek enb hrow hk0 hkm elen hfew elen2 hl2 e9 cl
      go_wp2_with fail
      go_region
      go_wp2_with fail
      go_roundg (nsz k + 1)
      case measure => have h1 := HQ.out; have h2 := nsz_kid HE.out.1; omega
      case rel =>
        have hb2 := HN.out.2.2.1.parts.mem _ HE.out.1
        refine ⟨k, p ++ L n.label, rfl, ⟨rfl⟩, ⟨HN.out.1.parts.choose_spec.2.2.2.mem _ HE.out.1, HN.out.2.1.parts.2.2.get _ HE.out.1, hb2.2, ?_⟩, ⟨below_drew HW.out⟩⟩
        rw [HN.out.2.2.2, HE.out.2]
end Go.Proofs.Ytjhgknagmiekeaa.T
set_option linter.unusedVariables false
set_option linter.unusedSimpArgs false
namespace Go.Proofs.Ytjhgknagmiekeaa.N
open Go.RowKit Go.Lib Go.Proofs
open Go.Proofs.Ytjhgknagmiekeaa.K Go.Proofs.YtjhgknagmiekeaaW.PrintLast
open Go.Proofs.YtjhgknagmiekeaaW.PrintWords hiding Kept
open Go.Proofs.Ytjhgknagmiekeaa.T (L Nd Fine IntVals valT findT Tr ptr All gotV toldV)
theorem told_at {root : Nd} {t : Rt} (hf : Fine root) (hv : IntVals root) (ht : Rok t) (h : Agree root t) {i : Nat} (hi : i < t.ks.length) : ∃ q l, (All root)[i]? = some (q, l) ∧ toldV (some l) = .tuple #[.string (gd t.ks i), .int .i64 (rd t.vs i), .bool true] := by
  have e0 : (All root).map ey = (t.ks.zip t.vs).map ex := h
  have hz : i < (t.ks.zip t.vs).length := by rw [List.length_zip, ht.v]; omega
  have hlen := congrArg List.length e0
  rw [List.length_map, List.length_map] at hlen
  have hi2 : i < (All root).length := by omega
  obtain ⟨x, ex1⟩ : ∃ x, (All root)[i] = x := ⟨_, rfl⟩
  obtain ⟨q, l⟩ := x
  refine ⟨q, l, by rw [List.getElem?_eq_getElem hi2, ex1], ?_⟩
  have e1 : ((All root).map ey)[i]? = ((t.ks.zip t.vs).map ex)[i]? := by rw [e0]
  rw [List.getElem?_map, List.getElem?_map, List.getElem?_eq_getElem hi2, List.getElem?_eq_getElem hz, ex1, List.getElem_zip] at e1
  injection e1 with e1
  unfold ey ex at e1
  injection e1 with e2 e3
  dsimp only at e2 e3
  have hm : (q, l) ∈ All root := by rw [← ex1]; exact List.getElem_mem _
  have hfq := (T.mem_all hf.toGood q l).1 hm
  obtain ⟨v, ev⟩ := hv _ _ hfq
  have ek : l.key = gd t.ks i := T.L_inj (by rw [hf.keys _ _ hfq, e2, gd_get hi])
  have hv2 : i < t.vs.length := by rw [ht.v]; exact hi
  rw [ev] at e3
  show Value.tuple #[.string l.key, l.val, .bool true] = _
  rw [ek, ev, show rd t.vs i = t.vs[i] from by simp [rd, List.getD_eq_getElem?_getD, List.getElem?_eq_getElem hv2], ← e3]
  rfl
theorem all_len {root : Nd} {t : Rt} (ht : Rok t) (h : Agree root t) : (All root).length = t.ks.length := by
  have := congrArg List.length (show (All root).map ey = _ from h)
  rw [List.length_map, List.length_map, List.length_zip, ht.v, Nat.min_self] at this
  exact this
mutual
theorem entQ_fit : ∀ (n : Nd) (p : List UInt8) (B : Nat) (x : T.Ent), T.Fits n B → x ∈ T.ents p n → x.1.length ≤ p.length + B
  | .mk b label leaf kids mark, p, B, x, hf, h => by
    have h1 := hf.parts.1
    rw [T.ents, List.mem_append] at h
    have hl : (L label).length = label.size := T.L_len label
    rcases h with h | h
    · obtain ⟨l, -, rfl⟩ := List.mem_map.1 h
      show (p ++ L label).length ≤ _
      rw [List.length_append, hl]
      have : label.size ≤ B := h1
      omega
    · have := entsQ_fit kids (p ++ L label) (B - label.size) x hf.parts.2 h
      rw [List.length_append, hl] at this
      have : label.size ≤ B := h1
      omega
theorem entsQ_fit : ∀ (ks : List Nd) (p : List UInt8) (B : Nat) (x : T.Ent), T.Fitss ks B → x ∈ T.entss p ks → x.1.length ≤ p.length + B
  | [], p, B, x, _, h => by rw [T.entss] at h; cases h
  | k :: r, p, B, x, hf, h => by
    rw [T.entss, List.mem_append] at h
    rcases h with h | h
    · exact entQ_fit k p B x (hf.mem k (by simp)) h
    · exact entsQ_fit r p B x (T.Fitss.of (fun k hk => hf.mem k (by simp [hk]))) h
end
theorem find_size {root : Nd} (hf : Fine root) {k : ByteArray} (h : valT root (L k) ≠ none) : k.size < 4000000000000 := by
  have h1 : findT root (L k) ≠ none := by
    intro e
    exact h (by unfold valT; rw [e]; rfl)
  obtain ⟨l, el⟩ := Option.ne_none_iff_exists'.1 h1
  have h2 := entQ_fit root [] _ (L k, l) hf.fits ((T.mem_all hf.toGood _ _).2 el)
  simp only [T.L_len, List.length_nil] at h2
  omega
set_option maxRecDepth 100000 in
set_option maxHeartbeats 4000000 in
theorem endsC (w : World) (tb : Nat) (root : Nd) (ht : Tr w tb root) (t : Rt) (hok : RokP t) (hag : Agree root t) (v0 v1 v2 v3 v4 : Value) (hm : RtAt w t v0 v1 v2 v3 v4) (hl : t.ks.length < 10000000000) :
    Calls Try.prog 103 #[ptr tb, .agg #[v0, v1, v2, v3, v4]] w fun e w' => e = .returned (.bool true) ∧ Below w.heap.size w w' := by
  have q1 := Aside0.mk (fun W (h : Below w.heap.size w W) => T.leastC W tb root (ht.keep (T.Kept.of h)))
  have q2 := Aside0.mk (fun W (h : Below w.heap.size w W) => T.greatestC W tb root (ht.keep (T.Kept.of h)))
  have hlen := all_len hok.toRok hag
  obtain ⟨⟨A0, N0, c0, e0⟩, ⟨A1, N1, c1, e1⟩, ⟨A2, N2, c2, rfl⟩, ⟨A3, N3, c3, rfl⟩, ⟨A4, N4, c4, rfl⟩⟩ := hm.forms
  obtain ⟨A0', c0', e0', -, hC0⟩ := hm.a0
  obtain ⟨A1', c1', e1', -, hC1⟩ := hm.a1
  rw [e0] at e0'; injection e0' with g1 g2 g3; subst g1; subst g2; subst g3
  rw [e1] at e1'; injection e1' with g1 g2 g3; subst g1; subst g2; subst g3
  subst e0; subst e1
  rw [List.head?_eq_getElem?] at q1
  rw [List.getLast?_eq_getElem?, hlen] at q2
  have hvl := hok.toRok.v
  by_cases hk : t.ks.length = 0
  · have hnil : All root = [] := List.length_eq_zero_iff.1 (by omega)
    rw [hnil] at q1 q2
    rw [hk] at ⊢
    have q3 : Aside0 (∀ W, Below w.heap.size w W → Calls Try.prog 132 #[ptr tb] W fun e w' => e = .returned (.tuple #[.string ⟨#[]⟩, .int .i64 0, .bool false]) ∧ Below W.heap.size W w') := q1
    have q4 : Aside0 (∀ W, Below w.heap.size w W → Calls Try.prog 133 #[ptr tb] W fun e w' => e = .returned (.tuple #[.string ⟨#[]⟩, .int .i64 0, .bool false]) ∧ Below W.heap.size W w') := q2
    clear q1 q2 hC0 hC1 hm ht hok hag hl hlen hvl hk hnil
    unfold ptr at q3 q4 ⊢
    go_enter Try.func103, Try.ntmps103
    have HB0 := Aside0.mk ((Below.refl w.heap.size w).alloc (Nat.le_refl _) (Obj.cells #[.slice A0 0 c0, .slice A1 t.vs.length c1, .slice A2 N2 c2, .slice A3 N3 c3, .slice A4 N4 c4] 28))
    have HU0 := Aside0.mk (World.alloc_heap_new w (Obj.cells #[.slice A0 0 c0, .slice A1 t.vs.length c1, .slice A2 N2 c2, .slice A3 N3 c3, .slice A4 N4 c4] 28))
    go_wp2_with fail
    go_at_call 132
    refine (q3.out _ HB0.out).mono ?_
    rintro e w1 ⟨rfl, hb1⟩
    have HB1 := Aside0.mk (T.belowAt HB0.out hb1)
    have HU1 := Aside0.mk ((hb1.block _ (Array.getElem?_eq_some_iff.1 HU0.out).1).trans HU0.out)
    clear hb1
    go_wp2_with fail
    go_at_call 133
    refine (q4.out _ HB1.out).mono ?_
    rintro e w2 ⟨rfl, hb2⟩
    have HB2 := Aside0.mk (T.belowAt HB1.out hb2)
    have HU2 := Aside0.mk ((hb2.block _ (Array.getElem?_eq_some_iff.1 HU1.out).1).trans HU1.out)
    clear hb2
    have z0 : w2.cell? ⟨w.heap.size, 0, none⟩ = some (.slice A0 0 c0) := by rw [blk_cell HU2.out]; rfl
    have z1 : w2.cell? ⟨w.heap.size, 1, none⟩ = some (.slice A1 t.vs.length c1) := by rw [blk_cell HU2.out]; rfl
    have z2 : w2.cell? ⟨w.heap.size, 2, none⟩ = some (.slice A2 N2 c2) := by rw [blk_cell HU2.out]; rfl
    have z3 : w2.cell? ⟨w.heap.size, 3, none⟩ = some (.slice A3 N3 c3) := by rw [blk_cell HU2.out]; rfl
    have z4 : w2.cell? ⟨w.heap.size, 4, none⟩ = some (.slice A4 N4 c4) := by rw [blk_cell HU2.out]; rfl
    go_wp2_with fail
    go_ret
    exact ⟨rfl, HB2.out⟩
  · obtain ⟨qa, la, ea1, ea2⟩ := told_at ht.fine ht.vals hok.toRok hag (i := 0) (by omega)
    obtain ⟨qb, lb, eb1, eb2⟩ := told_at ht.fine ht.vals hok.toRok hag (i := t.ks.length - 1) (by omega)
    rw [ea1, Option.map_some, show toldV (some (qa, la).2) = _ from ea2] at q1
    rw [eb1, Option.map_some, show toldV (some (qb, lb).2) = _ from eb2] at q2
    obtain ⟨ad0, eA0, hb0, hat0⟩ := str_at hC0 0 (by omega)
    obtain ⟨ad1, eA1, hb1, hat1⟩ := int_at hC1 0 (by omega)
    obtain ⟨ad0', eA0', -, hat0'⟩ := str_at hC0 (t.ks.length - 1) (by omega)
    obtain ⟨ad1', eA1', -, hat1'⟩ := int_at hC1 (t.ks.length - 1) (by omega)
    subst eA0
    subst eA1
    injection eA0' with eA0'
    injection eA1' with eA1'
    subst eA0'
    subst eA1'
    obtain ⟨N, eN⟩ : ∃ N, t.ks.length = N + 1 := ⟨t.ks.length - 1, by omega⟩
    have eN1 : t.vs.length = N + 1 := by omega
    have eN2 : t.ks.length - 1 = N := by omega
    rw [eN2] at q2 hat0' hat1'
    rw [eN, eN1]
    obtain ⟨sa, esa⟩ : ∃ sa, gd t.ks 0 = sa := ⟨_, rfl⟩
    obtain ⟨sb, esb⟩ : ∃ sb, gd t.ks N = sb := ⟨_, rfl⟩
    obtain ⟨xa, exa⟩ : ∃ xa, rd t.vs ((0 : Nat) : Int) = xa := ⟨_, rfl⟩
    obtain ⟨xb, exb⟩ : ∃ xb, rd t.vs (N : Int) = xb := ⟨_, rfl⟩
    rw [esa, exa] at q1
    rw [esb, exb] at q2
    rw [esa] at hat0
    rw [esb] at hat0'
    rw [exa] at hat1
    rw [exb] at hat1'
    have HH := Aside0.mk (And.intro hb0 (And.intro hb1 (And.intro hat0 (And.intro hat1 (And.intro hat0' hat1')))))
    have hN : N < 10000000000 := by omega
    have hNe : ¬ ((N + 1 : Nat) : Int) = 0 := by omega
    have hN0 : (0 : Int) < ((N + 1 : Nat) : Int) := by omega
    have hNN : (N : Int) < ((N + 1 : Nat) : Int) := by omega
    have hNv : IntKind.wrap .i64 (N : Int) = (N : Int) := Go.wrap_small _ (by omega) (by omega)
    have hNw : IntKind.wrap .i64 (((N + 1 : Nat) : Int) - 1) = (N : Int) := by rw [show ((N + 1 : Nat) : Int) - 1 = (N : Int) from by omega]; exact hNv
    clear hC0 hC1 hm ht hok hag hl hlen hvl hk ea1 ea2 eb1 eb2 hb0 hb1 hat0 hat1 hat0' hat1' eN eN1 eN2 esa esb exa exb
    unfold ptr at q1 q2 ⊢
    go_enter Try.func103, Try.ntmps103
    have HB0 := Aside0.mk ((Below.refl w.heap.size w).alloc (Nat.le_refl _) (Obj.cells #[.slice (some ad0) (N + 1) c0, .slice (some ad1) (N + 1) c1, .slice A2 N2 c2, .slice A3 N3 c3, .slice A4 N4 c4] 28))
    have HU0 := Aside0.mk (World.alloc_heap_new w (Obj.cells #[.slice (some ad0) (N + 1) c0, .slice (some ad1) (N + 1) c1, .slice A2 N2 c2, .slice A3 N3 c3, .slice A4 N4 c4] 28))
    go_wp2_with fail
    go_at_call 132
    refine (q1.out _ HB0.out).mono ?_
    rintro e w1 ⟨rfl, hb1⟩
    have HB1 := Aside0.mk (T.belowAt HB0.out hb1)
    have HU1 := Aside0.mk ((hb1.block _ (Array.getElem?_eq_some_iff.1 HU0.out).1).trans HU0.out)
    clear hb1
    go_wp2_with fail
    go_at_call 133
    refine (q2.out _ HB1.out).mono ?_
    rintro e w2 ⟨rfl, hb2⟩
    have HB2 := Aside0.mk (T.belowAt HB1.out hb2)
    have HU2 := Aside0.mk ((hb2.block _ (Array.getElem?_eq_some_iff.1 HU1.out).1).trans HU1.out)
    clear hb2
    have z0 : w2.cell? ⟨w.heap.size, 0, none⟩ = some (.slice (some ad0) (N + 1) c0) := by rw [blk_cell HU2.out]; rfl
    have z1 : w2.cell? ⟨w.heap.size, 1, none⟩ = some (.slice (some ad1) (N + 1) c1) := by rw [blk_cell HU2.out]; rfl
    have z2 : w2.cell? ⟨w.heap.size, 2, none⟩ = some (.slice A2 N2 c2) := by rw [blk_cell HU2.out]; rfl
    have z3 : w2.cell? ⟨w.heap.size, 3, none⟩ = some (.slice A3 N3 c3) := by rw [blk_cell HU2.out]; rfl
    have z4 : w2.cell? ⟨w.heap.size, 4, none⟩ = some (.slice A4 N4 c4) := by rw [blk_cell HU2.out]; rfl
    have p0 : w2.cell? ad0 = some (.string sa) := HH.out.2.2.1 w2 (HB2.out.block _ HH.out.1)
    have p1 : w2.cell? ad1 = some (.int .i64 xa) := HH.out.2.2.2.1 w2 (HB2.out.block _ HH.out.2.1)
    have p2 := HH.out.2.2.2.2.1 w2 (HB2.out.block _ HH.out.1)
    have p3 := HH.out.2.2.2.2.2 w2 (HB2.out.block _ HH.out.2.1)
    go_wp2_with fail
    go_ret
    exact ⟨rfl, HB2.out⟩
end Go.Proofs.Ytjhgknagmiekeaa.N
set_option linter.unusedVariables false
set_option linter.unusedSimpArgs false
namespace Go.Proofs.Ytjhgknagmiekeaa.N
open Go.RowKit Go.Lib Go.Proofs
open Go.Proofs.Ytjhgknagmiekeaa.K Go.Proofs.YtjhgknagmiekeaaW.PrintLast
open Go.Proofs.YtjhgknagmiekeaaW.PrintWords hiding Kept
open Go.Proofs.Ytjhgknagmiekeaa.T (L Nd Fine IntVals valT findT Tr ptr All gotV toldV)
def sm1_T : Bool × List (List Nat × List Nat) := (true, [([], []), ([0], [0]), ([1], [1]), ([2], [2]), ([3, 2, 2], [2, 3]), ([2], [2]), ([5, 2], [2, 5]), ([6, 2], [2, 6]), ([4, 7, 2], [2, 4, 7]), ([2, 8], [2, 8])])
def sm1_B : List Nat := [0, 1, 3, 7, 15, 7, 39, 103, 255, 511]
theorem sm1_bits : waitsOk sm1_T.2 sm1_B = true := by kernel_rfl
theorem sm1_tab : rtab .any (opsOf Try.f54 1) = sm1_T := by kernel_rfl
attribute [local go_sem] Oper.semAt_some
set_option maxRecDepth 100000 in
set_option maxHeartbeats 4000000 in
theorem sameC (w : World) (tb : Nat) (root : Nd) (ht : Tr w tb root) (t : Rt) (hok : RokP t) (hag : Agree root t) (v0 v1 v2 v3 v4 : Value) (hm : RtAt w t v0 v1 v2 v3 v4) (hl : t.ks.length < 10000000000) :
    Calls Try.prog 54 #[ptr tb, .agg #[v0, v1, v2, v3, v4]] w fun e w' => e = .returned (.bool true) ∧ Below w.heap.size w w' := by
  have hlen := all_len hok.toRok hag
  have q1 := Aside0.mk (fun W (h : Below w.heap.size w W) => T.lenC W tb root (ht.keep (T.Kept.of h)))
  rw [hlen] at q1
  have q2 := Aside0.mk (fun W (h : Below w.heap.size w W) j (hj : j < t.ks.length) => by
    have e := agree_in ht.fine.toGood ht.vals hok.toRok hag hj
    have q := T.getC W tb root (ht.keep (T.Kept.of h)) (gd t.ks j) (find_size ht.fine (by rw [e]; simp))
    rw [e] at q
    exact q)
  have q3 := Aside0.mk (fun W (h : Below w.heap.size w W) => endsC W tb root (ht.keep (T.Kept.of h)) t hok hag _ _ _ _ _ (hm.below h) hl)
  obtain ⟨⟨A0, N0, c0, e0⟩, ⟨A1, N1, c1, e1⟩, ⟨A2, N2, c2, rfl⟩, ⟨A3, N3, c3, rfl⟩, ⟨A4, N4, c4, rfl⟩⟩ := hm.forms
  obtain ⟨A0', c0', e0', -, hC0⟩ := hm.a0
  obtain ⟨A1', c1', e1', -, hC1⟩ := hm.a1
  rw [e0] at e0'; injection e0' with g1 g2 g3; subst g1; subst g2; subst g3
  rw [e1] at e1'; injection e1' with g1 g2 g3; subst g1; subst g2; subst g3
  subst e0; subst e1
  have hvl := hok.toRok.v
  obtain ⟨N, eN⟩ : ∃ N, t.ks.length = N := ⟨_, rfl⟩
  have HH := Aside0.mk (And.intro hC0 (And.intro hC1 (And.intro eN hvl)))
  rw [hvl, eN] at q3 ⊢
  rw [eN] at q1 hl
  clear hC0 hC1 hm ht hok hag hlen hvl eN
  unfold ptr at q1 q2 q3 ⊢
  go_enter Try.func54, Try.ntmps54
  have HB0 := Aside0.mk ((Below.refl w.heap.size w).alloc (Nat.le_refl _) (Obj.cells #[.slice A0 N c0, .slice A1 N c1, .slice A2 N2 c2, .slice A3 N3 c3, .slice A4 N4 c4] 28))
  have HU0 := Aside0.mk (World.alloc_heap_new w (Obj.cells #[.slice A0 N c0, .slice A1 N c1, .slice A2 N2 c2, .slice A3 N3 c3, .slice A4 N4 c4] 28))
  go_wp2_with fail
  obtain ⟨W0, eW0⟩ : ∃ W0, (w.alloc (Obj.cells #[.slice A0 N c0, .slice A1 N c1, .slice A2 N2 c2, .slice A3 N3 c3, .slice A4 N4 c4] 28)) = W0 := ⟨_, rfl⟩
  rw [eW0] at HB0 HU0 ⊢
  clear eW0
  have z0 : W0.cell? ⟨w.heap.size, 0, none⟩ = some (.slice A0 N c0) := by rw [blk_cell HU0.out]; rfl
  have z1 : W0.cell? ⟨w.heap.size, 1, none⟩ = some (.slice A1 N c1) := by rw [blk_cell HU0.out]; rfl
  have z2 : W0.cell? ⟨w.heap.size, 2, none⟩ = some (.slice A2 N2 c2) := by rw [blk_cell HU0.out]; rfl
  have z3 : W0.cell? ⟨w.heap.size, 3, none⟩ = some (.slice A3 N3 c3) := by rw [blk_cell HU0.out]; rfl
  have z4 : W0.cell? ⟨w.heap.size, 4, none⟩ = some (.slice A4 N4 c4) := by rw [blk_cell HU0.out]; rfl
  have HBd := Aside0.mk (below_drew HB0.out)
  refine start_ (n := 10) (S := (fun Z => Z.cell? ⟨w.heap.size, 0, none⟩ = some (.slice A0 N c0) ∧ Z.cell? ⟨w.heap.size, 1, none⟩ = some (.slice A1 N c1) ∧ Z.cell? ⟨w.heap.size, 2, none⟩ = some (.slice A2 N2 c2) ∧ Z.cell? ⟨w.heap.size, 3, none⟩ = some (.slice A3 N3 c3) ∧ Z.cell? ⟨w.heap.size, 4, none⟩ = some (.slice A4 N4 c4))) (ds := []) #[false, false, false, false, false, false, false, false, false, false] (by kernel_rfl) rfl rfl ⟨z0, z1, z2, z3, z4⟩ (fun hHeld => ?_); refine with_tabW sm1_tab sm1_bits (fun HT_ HW_ => ?_)
  refine pure_ (i := 0) (N := some 9) (v := ?_) (a' := ?_) #[true, false, false, false, false, false, false, false, false, false] rfl rfl (any_of HT_.out (by kernel_rfl)) (fun _ _ _ h => h) (Or.inl ⟨by rfl, ?_⟩) ?_ ?_
  rotate_left
  · intro w'
    go_simp
    with_reducible rfl
  rotate_left
  · simp only [Act.put, List.setIfInBounds_toArray, List.set_cons_zero, List.set_cons_succ, i64_w, i32_w]
    rfl
  refine pure_ (i := 1) (N := some 10) (v := ?_) (a' := ?_) #[true, true, false, false, false, false, false, false, false, false] rfl rfl (any_of HT_.out (by kernel_rfl)) (fun _ _ _ h => h) (Or.inl ⟨by rfl, ?_⟩) ?_ ?_
  rotate_left
  · intro w'
    go_simp
    with_reducible rfl
  rotate_left
  · simp only [Act.put, List.setIfInBounds_toArray, List.set_cons_zero, List.set_cons_succ, i64_w, i32_w]
    rfl
  refine pure_ (i := 2) (N := some 11) (v := ?_) (a' := ?_) #[true, true, true, false, false, false, false, false, false, false] rfl rfl (any_of HT_.out (by kernel_rfl)) (fun _ _ _ h => h) (Or.inl ⟨by rfl, ?_⟩) ?_ ?_
  rotate_left
  · intro w'
    go_simp
    with_reducible rfl
  rotate_left
  · simp only [Act.put, List.setIfInBounds_toArray, List.set_cons_zero, List.set_cons_succ, i64_w, i32_w]
    rfl
  refine pure_ (i := 3) (N := some 12) (v := ?_) (a' := ?_) #[true, true, true, true, false, false, false, false, false, false] rfl rfl (any_of HT_.out (by kernel_rfl)) (fun _ _ _ h => h) (Or.inl ⟨by rfl, ?_⟩) ?_ ?_
  rotate_left
  · intro w'
    go_simp
    with_reducible rfl
  rotate_left
  · simp only [Act.put, List.setIfInBounds_toArray, List.set_cons_zero, List.set_cons_succ, i64_w, i32_w]
    rfl
  refine pure_ (i := 5) (N := some 14) (v := ?_) (a' := ?_) #[true, true, true, true, false, true, false, false, false, false] rfl rfl (any_of HT_.out (by kernel_rfl)) (fun _ _ _ h => h) (Or.inl ⟨by rfl, ?_⟩) ?_ ?_
  rotate_left
  · intro w'
    go_simp
    with_reducible rfl
  rotate_left
  · simp only [Act.put, List.setIfInBounds_toArray, List.set_cons_zero, List.set_cons_succ, i64_w, i32_w]
    rfl
  refine take_ (i := 6) (N := some 15) (v := ?_) (a' := ?_) #[true, true, true, true, false, true, true, false, false, false] rfl rfl (take_ofW HT_.out HW_.out (by kernel_rfl)) (fun _ _ _ h => h) (Or.inl ⟨by rfl, ?_⟩) hHeld ?_ ?_
  rotate_left
  · rintro w' ⟨s0, s1, s2, s3, s4⟩
    go_simp
    with_reducible rfl
  rotate_left
  · simp only [Act.put, List.setIfInBounds_toArray, List.set_cons_zero, List.set_cons_succ, i64_w, i32_w]
    rfl
  refine pure_ (i := 7) (N := some 16) (v := ?_) (a' := ?_) #[true, true, true, true, false, true, true, true, false, false] rfl rfl (any_of HT_.out (by kernel_rfl)) (fun _ _ _ h => h) (Or.inl ⟨by rfl, ?_⟩) ?_ ?_
  rotate_left
  · intro w'
    go_simp
    with_reducible rfl
  rotate_left
  · simp only [Act.put, List.setIfInBounds_toArray, List.set_cons_zero, List.set_cons_succ, i64_w, i32_w]
    rfl
  refine one_ (i := 4) (N := some 13) #[true, true, true, true, true, true, true, true, false, false] rfl rfl (one_of HT_.out (by kernel_rfl)) (by decide) (fun K hK => ?_)
  refine goes_ Try.func50 (by kernel_rfl) rfl #[.pointer (some ⟨tb, 0, none⟩)] (by rfl) rfl rfl (by (try simp only [List.map_toArray, List.map_cons, List.map_nil]); first | done | rfl) ?_
  refine (q1.out _ HBd.out).mono ?_
  rintro e w1 ⟨rfl, rfl⟩
  refine ⟨_, rfl, ?_⟩
  clear hHeld
  refine hK.out _ _ ⟨z0, z1, z2, z3, z4⟩ (fun hHeld => ?_)
  clear hK K
  refine norm_ (a' := ?_) ?_ ?_
  rotate_left
  · show Act.put _ (some 13) _ = _
    simp only [Act.put, List.setIfInBounds_toArray, List.set_cons_zero, List.set_cons_succ, i64_w, i32_w]
    rfl
  refine pure_ (i := 8) (N := some 17) (v := ?_) (a' := ?_) #[true, true, true, true, true, true, true, true, true, false] rfl rfl (any_of HT_.out (by kernel_rfl)) (fun _ _ _ h => h) (Or.inl ⟨by rfl, ?_⟩) ?_ ?_
  rotate_left
  · intro w'
    go_simp
    with_reducible rfl
  rotate_left
  · simp only [Act.put, List.setIfInBounds_toArray, List.set_cons_zero, List.set_cons_succ, i64_w, i32_w]
    rfl
  refine pure_ (i := 9) (N := some 18) (v := ?_) (a' := ?_) #[true, true, true, true, true, true, true, true, true, true] rfl rfl (any_of HT_.out (by kernel_rfl)) (fun _ _ _ h => h) (Or.inl ⟨by rfl, ?_⟩) ?_ ?_
  rotate_left
  · intro w'
    go_simp
    with_reducible rfl
  rotate_left
  · simp only [Act.put, List.setIfInBounds_toArray, List.set_cons_zero, List.set_cons_succ, i64_w, i32_w]
    rfl
  refine done_ (done_of HT_.out (by kernel_rfl)) ?_
  clear hHeld q1 HT_ HW_
  go_wp2_with fail
  clear z0 z1 z2 z3 z4
  obtain ⟨W1, eW1⟩ : ∃ W1, W0.drew = W1 := ⟨_, rfl⟩
  have HU1 : Aside0 (W1.heap[w.heap.size]? = some (.cells #[.slice A0 N c0, .slice A1 N c1, .slice A2 N2 c2, .slice A3 N3 c3, .slice A4 N4 c4] 28 (0, 0))) := ⟨by rw [← eW1]; exact HU0.out⟩
  rw [eW1] at HBd ⊢
  clear eW1 HU0 HB0
  go_loopg [22] (N + 1) (fun kq v22 W => ∃ j : Nat, v22 = .int .i64 (j : Int) ∧ Aside0 (j + kq = N + 1 ∧ j ≤ N) ∧ Aside0 (Below W1.heap.size W1 W))
  case atStart => exact ⟨0, rfl, ⟨by omega⟩, ⟨Below.refl _ _⟩⟩
  case round =>
    obtain ⟨j, rfl, HI, HB⟩ := hrel
    have HU := Aside0.mk ((HB.out.block _ (Array.getElem?_eq_some_iff.1 HU1.out).1).trans HU1.out)
    have HBW := Aside0.mk (T.belowAt HBd.out HB.out)
    by_cases hj : j < N
    · have hj1 : j < t.ks.length := by rw [HH.out.2.2.1]; exact hj
      have hj2 : j < t.vs.length := by rw [HH.out.2.2.2]; exact hj1
      obtain ⟨ad0, eA0, hb0, hat0⟩ := str_at HH.out.1 j hj1
      obtain ⟨ad1, eA1, hb1, hat1⟩ := int_at HH.out.2.1 j hj2
      have q4 := Aside0.mk (q2.out _ HBW.out j hj1)
      obtain ⟨sj, esj⟩ : ∃ sj, gd t.ks j = sj := ⟨_, rfl⟩
      obtain ⟨xj, exj⟩ : ∃ xj, rd t.vs (j : Int) = xj := ⟨_, rfl⟩
      rw [esj] at hat0 q4
      rw [exj] at hat1 q4
      have p0 := hat0 wr (HBW.out.block _ hb0)
      have HP1 := Aside0.mk (And.intro hb1 hat1)
      have hjI : (j : Int) < (N : Int) := by omega
      unfold gotV at q4
      subst eA0
      subst eA1
      clear hb0 hat0 hb1 hat1 esj exj hj1 hj2
      go_wp2_with fail
      go_at_call 35
      refine q4.out.mono ?_
      rintro e w2 ⟨rfl, hb2⟩
      have HB2 := Aside0.mk (T.belowAt HB.out hb2)
      have HU2 := Aside0.mk ((hb2.block _ (Array.getElem?_eq_some_iff.1 HU.out).1).trans HU.out)
      have p1 := HP1.out.2 w2 ((T.belowAt HBd.out HB2.out).block _ HP1.out.1)
      clear hb2 p0 q4
      have z0 : w2.cell? ⟨w.heap.size, 0, none⟩ = some (.slice (some ad0) N c0) := by rw [blk_cell HU2.out]; rfl
      have z1 : w2.cell? ⟨w.heap.size, 1, none⟩ = some (.slice (some ad1) N c1) := by rw [blk_cell HU2.out]; rfl
      have z2 : w2.cell? ⟨w.heap.size, 2, none⟩ = some (.slice A2 N2 c2) := by rw [blk_cell HU2.out]; rfl
      have z3 : w2.cell? ⟨w.heap.size, 3, none⟩ = some (.slice A3 N3 c3) := by rw [blk_cell HU2.out]; rfl
      have z4 : w2.cell? ⟨w.heap.size, 4, none⟩ = some (.slice A4 N4 c4) := by rw [blk_cell HU2.out]; rfl
      go_wp2_with fail
      go_roundg (N - j)
      case measure => have := HI.out; omega
      case rel => exact ⟨j + 1, by simp, ⟨by have := HI.out; omega⟩, HB2⟩
    · have hin : j = N := by have := HI.out; omega
      subst hin
      have q4 := Aside0.mk (q3.out _ HBW.out)
      have z0 : wr.cell? ⟨w.heap.size, 0, none⟩ = some (.slice A0 j c0) := by rw [blk_cell HU.out]; rfl
      have z1 : wr.cell? ⟨w.heap.size, 1, none⟩ = some (.slice A1 j c1) := by rw [blk_cell HU.out]; rfl
      have z2 : wr.cell? ⟨w.heap.size, 2, none⟩ = some (.slice A2 N2 c2) := by rw [blk_cell HU.out]; rfl
      have z3 : wr.cell? ⟨w.heap.size, 3, none⟩ = some (.slice A3 N3 c3) := by rw [blk_cell HU.out]; rfl
      have z4 : wr.cell? ⟨w.heap.size, 4, none⟩ = some (.slice A4 N4 c4) := by rw [blk_cell HU.out]; rfl
      go_wp2_with fail
      go_at_call 103
      refine q4.out.mono ?_
      rintro e w2 ⟨rfl, hb2⟩
      have HB2 := Aside0.mk (T.belowAt HBW.out hb2)
      clear hb2 q4
      go_wp2_with fail
      go_ret
      exact ⟨rfl, HB2.out⟩
end Go.Proofs.Ytjhgknagmiekeaa.N
set_option linter.unusedVariables false
set_option linter.unusedSimpArgs false
namespace Go.Proofs.Ytjhgknagmiekeaa.F
open Go.RowKit Go.Lib Go.Proofs Go.ChangeMaps
open Go.Proofs.Ytjhgknagmiekeaa.T
open Go.Proofs.YtjhgknagmiekeaaW.PrintWords hiding blk_cell Kept
open Go.Proofs.Ytjhgknagmiekeaa.V (FarB farB_nd farB_nds)
theorem run_store_func {P : Program} {w : World} {a : Addr} {m : Mode} (f : Fn) (x y : Array Value) : (store a (.func f x y) m).run P w = stored P w a (.func f x y) m := run_store P w a _ m rfl
attribute [local go_sem] run_store_func
end Go.Proofs.Ytjhgknagmiekeaa.F
set_option linter.unusedVariables false
set_option linter.unusedSimpArgs false
namespace Go.Proofs.Ytjhgknagmiekeaa.N
open Go.RowKit Go.Lib Go.Proofs
open Go.Proofs.Ytjhgknagmiekeaa.K Go.Proofs.YtjhgknagmiekeaaW.PrintLast
open Go.Proofs.YtjhgknagmiekeaaW.PrintWords hiding Kept
open Go.Proofs.Ytjhgknagmiekeaa.T (L Nd Fine IntVals valT wasV All findT Tr ptr cntF onC)
open Go.Proofs.Ytjhgknagmiekeaa.F (insF delF Anew Kb)
theorem insRtO (Mo : Nat → Prop) (w : World) (t : Rt) (h : RokP t) (v0 v1 v2 v3 v4 : Value) (hm : RtAt w t v0 v1 v2 v3 v4) (a : ByteArray) (v nx : Int) (ha : a.size < 4611686018427387904) (hl : t.ks.length < 100000000000) :
    Calls Try.prog 66 #[.agg #[v0, v1, v2, v3, v4], .string a, .int .i64 v, .int .i64 nx] w fun e w' => ∃ (t' : Rt) (old : Int) (b : Bool) (nx' : Int) (u0 u1 u2 u3 u4 : Value), e = .returned (.tuple #[.agg #[u0, u1, u2, u3, u4], .int .i64 old, .bool b, .int .i64 nx']) ∧ t'.ks.length ≤ t.ks.length + 1 ∧ RokP t' ∧ InsD t t' a v nx nx' old b ∧ Aside0 (RtOff (fun k => Mo k ∧ k < w.heap.size) w' t' u0 u1 u2 u3 u4) ∧ Below w.heap.size w w' := by
  refine (insRtH w t h v0 v1 v2 v3 v4 hm a v nx ha hl).mono ?_
  rintro e w' ⟨t', old, b, nx', u0, u1, u2, u3, u4, rfl, ho, hk2, hd, hl2, hb⟩
  exact ⟨t', old, b, nx', u0, u1, u2, u3, u4, rfl, hl2, hk2, hd, ⟨(rtOff_rob ho).imp (fun k _ h => h.2)⟩, hb⟩
theorem delRtO (Mo : Nat → Prop) (w : World) (t : Rt) (h : RokP t) (v0 v1 v2 v3 v4 : Value) (hm : RtOff Mo w t v0 v1 v2 v3 v4) (a : ByteArray) (nx : Int) (ha : a.size < 4611686018427387904) (hl : t.ks.length < 100000000000) :
    Calls Try.prog 40 #[.agg #[v0, v1, v2, v3, v4], .string a, .int .i64 nx] w fun e w' => ∃ (t' : Rt) (old : Int) (b : Bool) (nx' : Int) (u0 u1 u2 u3 u4 : Value), e = .returned (.tuple #[.agg #[u0, u1, u2, u3, u4], .int .i64 old, .bool b, .int .i64 nx']) ∧ t'.ks.length ≤ t.ks.length + 1 ∧ RokP t' ∧ DelRt t t' a nx nx' old b ∧ Aside0 (RtOff (fun k => Mo k ∧ k < w.heap.size) w' t' u0 u1 u2 u3 u4) ∧ Below w.heap.size w w' := by
  refine (delRtC Mo w t h v0 v1 v2 v3 v4 hm a nx ha hl).mono ?_
  rintro e w' ⟨t', old, b, nx', u0, u1, u2, u3, u4, rfl, ho, hk2, hd, hb⟩
  refine ⟨t', old, b, nx', u0, u1, u2, u3, u4, rfl, ?_, hk2, hd, ⟨ho⟩, hb⟩
  rcases hd with ⟨-, -, rfl, -⟩ | ⟨n, P, M, -, hn, -, -, rfl, -⟩
  · omega
  · show (cutAt t.ks n).length ≤ _
    rw [cutAt_len _ _ hn]; omega
attribute [local go_sem] Oper.semAt_some
end Go.Proofs.Ytjhgknagmiekeaa.N
set_option linter.unusedVariables false
set_option linter.unusedSimpArgs false
namespace Go.Proofs.Ytjhgknagmiekeaa.N
open Go.RowKit Go.Lib Go.Proofs
open Go.Proofs.Ytjhgknagmiekeaa.K Go.Proofs.YtjhgknagmiekeaaW.PrintLast
open Go.Proofs.YtjhgknagmiekeaaW.PrintWords hiding Kept
open Go.Proofs.Ytjhgknagmiekeaa.T (L Nd Fine IntVals valT wasV All findT Tr ptr cntF onC)
open Go.Proofs.Ytjhgknagmiekeaa.F (insF delF Anew Kb)
attribute [local go_sem] Oper.semAt_some
set_option maxRecDepth 100000 in
set_option maxHeartbeats 4000000 in
theorem grownIO (w : World) (tb : Nat) (root : Nd) (ht : Tr w tb root) (t : Rt) (hok : RokP t) (hag : Agree root t) (v0 v1 v2 v3 v4 : Value) (M : Nat → Prop) (hm : RtOff M w t v0 v1 v2 v3 v4) (a : ByteArray) (on v nx : Int) (ha : a.size < 4000000000000) (hl : t.ks.length < 10000000000) (hs : (All root).length < 1000000000000) :
    Calls Try.prog 46 #[ptr tb, .agg #[v0, v1, v2, v3, v4], .agg #[.int .i64 0, .int .i64 on, .string a, .int .i64 v], .int .i64 nx] w fun e w' => ∃ (tb' : Nat) (root' : Nd) (t' : Rt) (old : Int) (b : Bool) (nx' : Int) (u0 u1 u2 u3 u4 : Value), e = .returned (.tuple #[ptr tb', .agg #[u0, u1, u2, u3, u4], .int .i64 nx', .bool true]) ∧ Tr w' tb' root' ∧ Aside0 (RtOff (fun k => M k ∧ k < w.heap.size) w' t' u0 u1 u2 u3 u4) ∧ RokP t' ∧ Agree root' t' ∧ t'.ks.length ≤ t.ks.length + 1 ∧ (All root').length ≤ (All root).length + 1 ∧ Below w.heap.size w w' := by
  have HT := Aside0.mk (And.intro ht (And.intro hok hag))
  have HM := Aside0.mk hm
  have QT := Aside0.mk (fun w1 (hB : Below w.heap.size w w1) => T.insC w1 tb root (ht.keep (T.Kept.of hB)) a v ha (by omega))
  have QD := Aside0.mk (fun w1 (hB : Below w.heap.size w w1) => insRtO (fun k => M k ∨ w.heap.size ≤ k) w1 t hok _ _ _ _ _ (hm.here.below hB) a v nx (by omega) (by omega))
  obtain ⟨⟨A0, N0, c0, rfl⟩, ⟨A1, N1, c1, rfl⟩, ⟨A2, N2, c2, rfl⟩, ⟨A3, N3, c3, rfl⟩, ⟨A4, N4, c4, rfl⟩⟩ := hm.here.forms
  obtain ⟨o, eo⟩ : ∃ o, valT root (L a) = o := ⟨_, rfl⟩
  have HO := Aside0.mk eo
  have HL := Aside0.mk hl
  rw [eo] at QT
  have HF := Aside0.mk (fun tb' => wasV_form tb' o)
  clear ht hok hag hm hs hl eo
  unfold ptr at QT ⊢
  go_enter Try.func46, Try.ntmps46
  have HB0 := Aside0.mk ((((Below.refl w.heap.size w).alloc (Nat.le_refl _) (Obj.cells #[.slice A0 N0 c0, .slice A1 N1 c1, .slice A2 N2 c2, .slice A3 N3 c3, .slice A4 N4 c4] 28)).alloc (by simp) (Obj.cells #[.int .i64 0, .int .i64 on, .string a, .int .i64 v] 67)).alloc (by simp; omega) (Obj.cells #[.slice none 0 0, .slice none 0 0, .slice none 0 0, .slice none 0 0, .slice none 0 0] 28))
  have HU0 : Aside0 ((((w.alloc (Obj.cells #[.slice A0 N0 c0, .slice A1 N1 c1, .slice A2 N2 c2, .slice A3 N3 c3, .slice A4 N4 c4] 28)).alloc (Obj.cells #[.int .i64 0, .int .i64 on, .string a, .int .i64 v] 67)).alloc (Obj.cells #[.slice none 0 0, .slice none 0 0, .slice none 0 0, .slice none 0 0, .slice none 0 0] 28)).heap[w.heap.size]? = some (.cells #[.slice A0 N0 c0, .slice A1 N1 c1, .slice A2 N2 c2, .slice A3 N3 c3, .slice A4 N4 c4] 28 (0, 0)) ∧ (((w.alloc (Obj.cells #[.slice A0 N0 c0, .slice A1 N1 c1, .slice A2 N2 c2, .slice A3 N3 c3, .slice A4 N4 c4] 28)).alloc (Obj.cells #[.int .i64 0, .int .i64 on, .string a, .int .i64 v] 67)).alloc (Obj.cells #[.slice none 0 0, .slice none 0 0, .slice none 0 0, .slice none 0 0, .slice none 0 0] 28)).heap[w.heap.size + 1]? = some (.cells #[.int .i64 0, .int .i64 on, .string a, .int .i64 v] 67 (0, 0)) ∧ (((w.alloc (Obj.cells #[.slice A0 N0 c0, .slice A1 N1 c1, .slice A2 N2 c2, .slice A3 N3 c3, .slice A4 N4 c4] 28)).alloc (Obj.cells #[.int .i64 0, .int .i64 on, .string a, .int .i64 v] 67)).alloc (Obj.cells #[.slice none 0 0, .slice none 0 0, .slice none 0 0, .slice none 0 0, .slice none 0 0] 28)).heap[w.heap.size + 1 + 1]? = some (.cells #[.slice none 0 0, .slice none 0 0, .slice none 0 0, .slice none 0 0, .slice none 0 0] 28 (0, 0))) := ⟨(Below.heap_alloc _ _ _ (by simp; omega)).trans ((Below.heap_alloc _ _ _ (by simp)).trans (World.alloc_heap_new w _)), by
      refine (Below.heap_alloc _ _ _ (by simp)).trans ?_
      have := World.alloc_heap_new (w.alloc (Obj.cells #[.slice A0 N0 c0, .slice A1 N1 c1, .slice A2 N2 c2, .slice A3 N3 c3, .slice A4 N4 c4] 28)) (Obj.cells #[.int .i64 0, .int .i64 on, .string a, .int .i64 v] 67)
      rwa [World.size_alloc] at this, by
      have := World.alloc_heap_new ((w.alloc (Obj.cells #[.slice A0 N0 c0, .slice A1 N1 c1, .slice A2 N2 c2, .slice A3 N3 c3, .slice A4 N4 c4] 28)).alloc (Obj.cells #[.int .i64 0, .int .i64 on, .string a, .int .i64 v] 67)) (Obj.cells #[.slice none 0 0, .slice none 0 0, .slice none 0 0, .slice none 0 0, .slice none 0 0] 28)
      rwa [World.size_alloc, World.size_alloc] at this⟩
  go_wp2_with fail
  go_at_call 43
  refine (QT.out _ HB0.out).mono ?_
  rintro e w1 ⟨tb', root', rfl, ht', hv', hl', hb⟩
  obtain ⟨oa, ob, eab⟩ := HF.out tb'
  rw [eab]
  have HEAB := Aside0.mk eab
  have H1 := Aside0.mk (And.intro ht' (And.intro hv' hl'))
  have bu0 := (hb.block _ (Array.getElem?_eq_some_iff.1 HU0.out.1).1).trans HU0.out.1
  have bu1 := (hb.block _ (Array.getElem?_eq_some_iff.1 HU0.out.2.1).1).trans HU0.out.2.1
  have bu2 := (hb.block _ (Array.getElem?_eq_some_iff.1 HU0.out.2.2).1).trans HU0.out.2.2
  have HB1 := Aside0.mk (T.belowAt HB0.out hb)
  have HU1 := Aside0.mk (And.intro bu0 (And.intro bu1 bu2))
  have m0 : w1.cell? ⟨w.heap.size, 0, none⟩ = some (.slice A0 N0 c0) := by rw [blk_cell bu0]; rfl
  have m1 : w1.cell? ⟨w.heap.size, 1, none⟩ = some (.slice A1 N1 c1) := by rw [blk_cell bu0]; rfl
  have m2 : w1.cell? ⟨w.heap.size, 2, none⟩ = some (.slice A2 N2 c2) := by rw [blk_cell bu0]; rfl
  have m3 : w1.cell? ⟨w.heap.size, 3, none⟩ = some (.slice A3 N3 c3) := by rw [blk_cell bu0]; rfl
  have m4 : w1.cell? ⟨w.heap.size, 4, none⟩ = some (.slice A4 N4 c4) := by rw [blk_cell bu0]; rfl
  have p2 : w1.cell? ⟨w.heap.size + 1, 2, none⟩ = some (.string a) := by rw [blk_cell bu1]; rfl
  have p3 : w1.cell? ⟨w.heap.size + 1, 3, none⟩ = some (.int .i64 v) := by rw [blk_cell bu1]; rfl
  clear QT HF eab ht' hv' hl' hb bu0 bu1 bu2 HU0
  unfold ptr
  go_wp2_with fail
  go_at_call 66
  refine (QD.out _ HB1.out).mono ?_
  rintro e w2 ⟨t', old, b, nx', u0, u1, u2, u3, u4, rfl, ho, hk2, hd, HR, hb⟩
  have HKL := Aside0.mk ho
  obtain ⟨⟨B0, k0, d0, rfl⟩, ⟨B1, k1, d1, rfl⟩, ⟨B2, k2, d2, rfl⟩, ⟨B3, k3, d3, rfl⟩, ⟨B4, k4, d4, rfl⟩⟩ := HR.out.here.forms
  have hwas := was_ins HT.out.1.fine.toGood HT.out.1.vals HT.out.2.1.toRok HT.out.2.2 hd tb'
  rw [HO.out, HEAB.out] at hwas
  injection hwas with hwas
  injection hwas with hwas
  injection hwas with _ hwas
  injection hwas with eoa hwas
  injection hwas with eob _
  injection eob with eob
  subst eoa
  subst eob
  have HB2 := Aside0.mk (T.belowAt HB1.out hb)
  have HU2 := Aside0.mk ((hb.block _ (Array.getElem?_eq_some_iff.1 HU1.out.2.2).1).trans HU1.out.2.2)
  have HTr := Aside0.mk (H1.out.1.keep (T.Kept.of hb))
  have H2 := Aside0.mk (And.intro hk2 hd)
  clear ho hk2 hd hb m0 m1 m2 m3 m4 p2 p3 QD
  obtain ⟨C, eC⟩ : ∃ C, w2.heap.size = C := ⟨_, rfl⟩
  have hC : w.heap.size + 1 + 1 < C := by rw [← eC]; exact (Array.getElem?_eq_some_iff.1 HU2.out).1
  go_upto_region 4 with fail
  obtain ⟨W3, e3⟩ : ∃ W3, w2.alloc (Obj.cells #[.slice B0 k0 d0, .slice B1 k1 d1, .slice B2 k2 d2, .slice B3 k3 d3, .slice B4 k4 d4] 28) = W3 := ⟨_, rfl⟩
  have hu3 : W3.heap[C]? = some (.cells #[.slice B0 k0 d0, .slice B1 k1 d1, .slice B2 k2 d2, .slice B3 k3 d3, .slice B4 k4 d4] 28 (0, 0)) := by rw [← e3, ← eC]; exact World.alloc_heap_new w2 _
  have hz3 : W3.heap[w.heap.size + 1 + 1]? = some (.cells #[.slice none 0 0, .slice none 0 0, .slice none 0 0, .slice none 0 0, .slice none 0 0] 28 (0, 0)) := by rw [← e3]; exact (Below.heap_alloc _ _ _ (by omega)).trans HU2.out
  have hb23 : Below w2.heap.size w2 W3 := by rw [← e3]; exact (Below.refl _ w2).alloc (Nat.le_refl _) _
  have H3 := Aside0.mk (And.intro hb23 (And.intro hu3 hz3))
  rw [e3]
  clear e3 hb23 eC
  have z0 : W3.cell? ⟨C, 0, none⟩ = some (.slice B0 k0 d0) := by rw [blk_cell hu3]; rfl
  have z1 : W3.cell? ⟨C, 1, none⟩ = some (.slice B1 k1 d1) := by rw [blk_cell hu3]; rfl
  have z2 : W3.cell? ⟨C, 2, none⟩ = some (.slice B2 k2 d2) := by rw [blk_cell hu3]; rfl
  have z3 : W3.cell? ⟨C, 3, none⟩ = some (.slice B3 k3 d3) := by rw [blk_cell hu3]; rfl
  have z4 : W3.cell? ⟨C, 4, none⟩ = some (.slice B4 k4 d4) := by rw [blk_cell hu3]; rfl
  have q0 : W3.cell? ⟨w.heap.size + 1 + 1, 0, none⟩ = some (.slice none 0 0) := by rw [blk_cell hz3]; rfl
  have q1 : W3.cell? ⟨w.heap.size + 1 + 1, 1, none⟩ = some (.slice none 0 0) := by rw [blk_cell hz3]; rfl
  have q2 : W3.cell? ⟨w.heap.size + 1 + 1, 2, none⟩ = some (.slice none 0 0) := by rw [blk_cell hz3]; rfl
  have q3 : W3.cell? ⟨w.heap.size + 1 + 1, 3, none⟩ = some (.slice none 0 0) := by rw [blk_cell hz3]; rfl
  have q4 : W3.cell? ⟨w.heap.size + 1 + 1, 4, none⟩ = some (.slice none 0 0) := by rw [blk_cell hz3]; rfl
  have f0 : W3.frozen? ⟨w.heap.size + 1 + 1, 0, none⟩ = false := blk_frozen hz3 0
  have f1 : W3.frozen? ⟨w.heap.size + 1 + 1, 1, none⟩ = false := blk_frozen hz3 1
  have f2 : W3.frozen? ⟨w.heap.size + 1 + 1, 2, none⟩ = false := blk_frozen hz3 2
  have f3 : W3.frozen? ⟨w.heap.size + 1 + 1, 3, none⟩ = false := blk_frozen hz3 3
  have f4 : W3.frozen? ⟨w.heap.size + 1 + 1, 4, none⟩ = false := blk_frozen hz3 4
  clear hu3 hz3
  go_region
  go_wp2_with fail
  clear z0 z1 z2 z3 z4 q0 q1 q2 q3 q4 f0 f1 f2 f3 f4
  obtain ⟨W6, e5⟩ : ∃ W6, V.set5 W3 (w.heap.size + 1 + 1) (.slice B0 k0 d0) (.slice B1 k1 d1) (.slice B2 k2 d2) (.slice B3 k3 d3) (.slice B4 k4 d4) = W6 := ⟨_, rfl⟩
  have e6 : ((((W3.setCell { block := w.heap.size + 1 + 1, off := 0 } (.slice B0 k0 d0)).setCell { block := w.heap.size + 1 + 1, off := 1 } (.slice B1 k1 d1)).setCell { block := w.heap.size + 1 + 1, off := 2 } (.slice B2 k2 d2)).setCell { block := w.heap.size + 1 + 1, off := 3 } (.slice B3 k3 d3)).setCell { block := w.heap.size + 1 + 1, off := 4 } (.slice B4 k4 d4) = W6 := e5
  have hz6 := V.set5_at H3.out.2.2 (.slice B0 k0 d0) (.slice B1 k1 d1) (.slice B2 k2 d2) (.slice B3 k3 d3) (.slice B4 k4 d4)
  have hfar6 : ∀ k, k ≠ w.heap.size + 1 + 1 → W6.heap[k]? = W3.heap[k]? := fun k hk => by rw [← e5]; exact V.set5_far _ _ _ _ _ _ _ k hk
  have hsz6 : W6.heap.size = W3.heap.size := by rw [← e5]; simp [V.set5, T.size_setCell]
  have hb6 : Below w.heap.size w W6 := by rw [← e5]; exact V.set5_below (T.belowAt HB2.out H3.out.1) (by omega) _ _ _ _ _
  rw [e5] at hz6
  rw [e6]
  have q0 : W6.drew.cell? ⟨w.heap.size + 1 + 1, 0, none⟩ = some (.slice B0 k0 d0) := by show W6.cell? _ = _; rw [blk_cell hz6]; rfl
  have q1 : W6.drew.cell? ⟨w.heap.size + 1 + 1, 1, none⟩ = some (.slice B1 k1 d1) := by show W6.cell? _ = _; rw [blk_cell hz6]; rfl
  have q2 : W6.drew.cell? ⟨w.heap.size + 1 + 1, 2, none⟩ = some (.slice B2 k2 d2) := by show W6.cell? _ = _; rw [blk_cell hz6]; rfl
  have q3 : W6.drew.cell? ⟨w.heap.size + 1 + 1, 3, none⟩ = some (.slice B3 k3 d3) := by show W6.cell? _ = _; rw [blk_cell hz6]; rfl
  have q4 : W6.drew.cell? ⟨w.heap.size + 1 + 1, 4, none⟩ = some (.slice B4 k4 d4) := by show W6.cell? _ = _; rw [blk_cell hz6]; rfl
  refine bodyPost_ret (v := .tuple #[.pointer (some ⟨tb', 0, none⟩), .agg #[.slice B0 k0 d0, .slice B1 k1 d1, .slice B2 k2 d2, .slice B3 k3 d3, .slice B4 k4 d4], .int .i64 nx', .bool true]) (by simp [results, Try.results46, go_sem, q0, q1, q2, q3, q4]) rfl ?_
  have hd6 : Below W6.heap.size W6 W6.drew := below_drew (Below.refl _ _)
  have hfr : V.Far (w.heap.size + 1 + 1) W3 W6 := ⟨⟨_, _, _, _, _, H3.out.2.2, by simp⟩, fun k h _ => hfar6 k h⟩
  have htr : Tr W6.drew tb' root' := (V.far_tr hfr (HTr.out.keep (T.Kept.of H3.out.1))).keep (T.Kept.of hd6)
  have hro : RtOff (fun k => (M k ∧ k < w.heap.size) ∨ (w.heap.size ≤ k ∧ k ≤ w.heap.size + 1 + 1)) W3 t' (.slice B0 k0 d0) (.slice B1 k1 d1) (.slice B2 k2 d2) (.slice B3 k3 d3) (.slice B4 k4 d4) := (HR.out.below H3.out.1).imp (fun k hk h => .inl (by
    have h8 := HB1.out.size
    have h9 := (Array.getElem?_eq_some_iff.1 HU1.out.2.2).1
    rcases h with h | h
    · exact ⟨.inl h.1, by omega⟩
    · exact ⟨.inr h.1, by omega⟩))
  have hrt : RtOff (fun k => (M k ∧ k < w.heap.size) ∨ (w.heap.size ≤ k ∧ k ≤ w.heap.size + 1 + 1)) W6 t' (.slice B0 k0 d0) (.slice B1 k1 d1) (.slice B2 k2 d2) (.slice B3 k3 d3) (.slice B4 k4 d4) := RtOff.set (M := fun k => (M k ∧ k < w.heap.size) ∨ (w.heap.size ≤ k ∧ k ≤ w.heap.size + 1 + 1)) hro (fun k hk => hk) (b := w.heap.size + 1 + 1) (.inr ⟨by omega, by omega⟩) hsz6 hfar6
  refine ⟨tb', root', t', old, ob, nx', _, _, _, _, _, rfl, htr, ⟨(hrt.below hd6).imp (fun k _ h => .inl (.inl h))⟩, H2.out.1, ?_, ?_, H1.out.2.2, T.belowAt hb6 hd6⟩
  · exact (H2.out.2.rt HT.out.2.1.toRok H2.out.1.toRok) root root' HT.out.1.fine HT.out.1.vals H1.out.1.fine H1.out.1.vals HT.out.2.2 H1.out.2.1
  · exact HKL.out
set_option maxRecDepth 100000 in
set_option maxHeartbeats 4000000 in
theorem grownDO (w : World) (tb : Nat) (root : Nd) (ht : Tr w tb root) (t : Rt) (hok : RokP t) (hag : Agree root t) (v0 v1 v2 v3 v4 : Value) (M : Nat → Prop) (hm : RtOff M w t v0 v1 v2 v3 v4) (a : ByteArray) (on v nx : Int) (ha : a.size < 4000000000000) (hl : t.ks.length < 10000000000) (hs : (All root).length < 1000000000000) :
    Calls Try.prog 46 #[ptr tb, .agg #[v0, v1, v2, v3, v4], .agg #[.int .i64 1, .int .i64 on, .string a, .int .i64 v], .int .i64 nx] w fun e w' => ∃ (tb' : Nat) (root' : Nd) (t' : Rt) (old : Int) (b : Bool) (nx' : Int) (u0 u1 u2 u3 u4 : Value), e = .returned (.tuple #[ptr tb', .agg #[u0, u1, u2, u3, u4], .int .i64 nx', .bool true]) ∧ Tr w' tb' root' ∧ Aside0 (RtOff (fun k => M k ∧ k < w.heap.size) w' t' u0 u1 u2 u3 u4) ∧ RokP t' ∧ Agree root' t' ∧ t'.ks.length ≤ t.ks.length + 1 ∧ (All root').length ≤ (All root).length + 1 ∧ Below w.heap.size w w' := by
  have HT := Aside0.mk (And.intro ht (And.intro hok hag))
  have HM := Aside0.mk hm
  have QT := Aside0.mk (fun w1 (hB : Below w.heap.size w w1) => T.delC w1 tb root (ht.keep (T.Kept.of hB)) a ha (by omega))
  have QD := Aside0.mk (fun w1 (hB : Below w.heap.size w w1) => delRtO (fun k => M k ∨ w.heap.size ≤ k) w1 t hok _ _ _ _ _ (hm.below hB) a nx (by omega) (by omega))
  obtain ⟨⟨A0, N0, c0, rfl⟩, ⟨A1, N1, c1, rfl⟩, ⟨A2, N2, c2, rfl⟩, ⟨A3, N3, c3, rfl⟩, ⟨A4, N4, c4, rfl⟩⟩ := hm.here.forms
  obtain ⟨o, eo⟩ : ∃ o, valT root (L a) = o := ⟨_, rfl⟩
  have HO := Aside0.mk eo
  have HL := Aside0.mk hl
  rw [eo] at QT
  have HF := Aside0.mk (fun tb' => wasV_form tb' o)
  clear ht hok hag hm hs hl eo
  unfold ptr at QT ⊢
  go_enter Try.func46, Try.ntmps46
  have HB0 := Aside0.mk ((((Below.refl w.heap.size w).alloc (Nat.le_refl _) (Obj.cells #[.slice A0 N0 c0, .slice A1 N1 c1, .slice A2 N2 c2, .slice A3 N3 c3, .slice A4 N4 c4] 28)).alloc (by simp) (Obj.cells #[.int .i64 1, .int .i64 on, .string a, .int .i64 v] 67)).alloc (by simp; omega) (Obj.cells #[.slice none 0 0, .slice none 0 0, .slice none 0 0, .slice none 0 0, .slice none 0 0] 28))
  have HU0 : Aside0 ((((w.alloc (Obj.cells #[.slice A0 N0 c0, .slice A1 N1 c1, .slice A2 N2 c2, .slice A3 N3 c3, .slice A4 N4 c4] 28)).alloc (Obj.cells #[.int .i64 1, .int .i64 on, .string a, .int .i64 v] 67)).alloc (Obj.cells #[.slice none 0 0, .slice none 0 0, .slice none 0 0, .slice none 0 0, .slice none 0 0] 28)).heap[w.heap.size]? = some (.cells #[.slice A0 N0 c0, .slice A1 N1 c1, .slice A2 N2 c2, .slice A3 N3 c3, .slice A4 N4 c4] 28 (0, 0)) ∧ (((w.alloc (Obj.cells #[.slice A0 N0 c0, .slice A1 N1 c1, .slice A2 N2 c2, .slice A3 N3 c3, .slice A4 N4 c4] 28)).alloc (Obj.cells #[.int .i64 1, .int .i64 on, .string a, .int .i64 v] 67)).alloc (Obj.cells #[.slice none 0 0, .slice none 0 0, .slice none 0 0, .slice none 0 0, .slice none 0 0] 28)).heap[w.heap.size + 1]? = some (.cells #[.int .i64 1, .int .i64 on, .string a, .int .i64 v] 67 (0, 0)) ∧ (((w.alloc (Obj.cells #[.slice A0 N0 c0, .slice A1 N1 c1, .slice A2 N2 c2, .slice A3 N3 c3, .slice A4 N4 c4] 28)).alloc (Obj.cells #[.int .i64 1, .int .i64 on, .string a, .int .i64 v] 67)).alloc (Obj.cells #[.slice none 0 0, .slice none 0 0, .slice none 0 0, .slice none 0 0, .slice none 0 0] 28)).heap[w.heap.size + 1 + 1]? = some (.cells #[.slice none 0 0, .slice none 0 0, .slice none 0 0, .slice none 0 0, .slice none 0 0] 28 (0, 0))) := ⟨(Below.heap_alloc _ _ _ (by simp; omega)).trans ((Below.heap_alloc _ _ _ (by simp)).trans (World.alloc_heap_new w _)), by
      refine (Below.heap_alloc _ _ _ (by simp)).trans ?_
      have := World.alloc_heap_new (w.alloc (Obj.cells #[.slice A0 N0 c0, .slice A1 N1 c1, .slice A2 N2 c2, .slice A3 N3 c3, .slice A4 N4 c4] 28)) (Obj.cells #[.int .i64 1, .int .i64 on, .string a, .int .i64 v] 67)
      rwa [World.size_alloc] at this, by
      have := World.alloc_heap_new ((w.alloc (Obj.cells #[.slice A0 N0 c0, .slice A1 N1 c1, .slice A2 N2 c2, .slice A3 N3 c3, .slice A4 N4 c4] 28)).alloc (Obj.cells #[.int .i64 1, .int .i64 on, .string a, .int .i64 v] 67)) (Obj.cells #[.slice none 0 0, .slice none 0 0, .slice none 0 0, .slice none 0 0, .slice none 0 0] 28)
      rwa [World.size_alloc, World.size_alloc] at this⟩
  go_wp2_with fail
  go_at_call 39
  refine (QT.out _ HB0.out).mono ?_
  rintro e w1 ⟨tb', root', rfl, ht', hv', hl', hb⟩
  obtain ⟨oa, ob, eab⟩ := HF.out tb'
  rw [eab]
  have HEAB := Aside0.mk eab
  have H1 := Aside0.mk (And.intro ht' (And.intro hv' hl'))
  have bu0 := (hb.block _ (Array.getElem?_eq_some_iff.1 HU0.out.1).1).trans HU0.out.1
  have bu1 := (hb.block _ (Array.getElem?_eq_some_iff.1 HU0.out.2.1).1).trans HU0.out.2.1
  have bu2 := (hb.block _ (Array.getElem?_eq_some_iff.1 HU0.out.2.2).1).trans HU0.out.2.2
  have HB1 := Aside0.mk (T.belowAt HB0.out hb)
  have HU1 := Aside0.mk (And.intro bu0 (And.intro bu1 bu2))
  have m0 : w1.cell? ⟨w.heap.size, 0, none⟩ = some (.slice A0 N0 c0) := by rw [blk_cell bu0]; rfl
  have m1 : w1.cell? ⟨w.heap.size, 1, none⟩ = some (.slice A1 N1 c1) := by rw [blk_cell bu0]; rfl
  have m2 : w1.cell? ⟨w.heap.size, 2, none⟩ = some (.slice A2 N2 c2) := by rw [blk_cell bu0]; rfl
  have m3 : w1.cell? ⟨w.heap.size, 3, none⟩ = some (.slice A3 N3 c3) := by rw [blk_cell bu0]; rfl
  have m4 : w1.cell? ⟨w.heap.size, 4, none⟩ = some (.slice A4 N4 c4) := by rw [blk_cell bu0]; rfl
  have p2 : w1.cell? ⟨w.heap.size + 1, 2, none⟩ = some (.string a) := by rw [blk_cell bu1]; rfl
  have p3 : w1.cell? ⟨w.heap.size + 1, 3, none⟩ = some (.int .i64 v) := by rw [blk_cell bu1]; rfl
  clear QT HF eab ht' hv' hl' hb bu0 bu1 bu2 HU0
  unfold ptr
  go_wp2_with fail
  go_at_call 40
  refine (QD.out _ HB1.out).mono ?_
  rintro e w2 ⟨t', old, b, nx', u0, u1, u2, u3, u4, rfl, ho, hk2, hd, HR, hb⟩
  have HKL := Aside0.mk ho
  obtain ⟨⟨B0, k0, d0, rfl⟩, ⟨B1, k1, d1, rfl⟩, ⟨B2, k2, d2, rfl⟩, ⟨B3, k3, d3, rfl⟩, ⟨B4, k4, d4, rfl⟩⟩ := HR.out.here.forms
  have hwas := was_del HT.out.1.fine.toGood HT.out.1.vals HT.out.2.1.toRok HT.out.2.2 hd tb'
  rw [HO.out, HEAB.out] at hwas
  injection hwas with hwas
  injection hwas with hwas
  injection hwas with _ hwas
  injection hwas with eoa hwas
  injection hwas with eob _
  injection eob with eob
  subst eoa
  subst eob
  have HB2 := Aside0.mk (T.belowAt HB1.out hb)
  have HU2 := Aside0.mk ((hb.block _ (Array.getElem?_eq_some_iff.1 HU1.out.2.2).1).trans HU1.out.2.2)
  have HTr := Aside0.mk (H1.out.1.keep (T.Kept.of hb))
  have H2 := Aside0.mk (And.intro hk2 hd)
  clear ho hk2 hd hb m0 m1 m2 m3 m4 p2 p3 QD
  obtain ⟨C, eC⟩ : ∃ C, w2.heap.size = C := ⟨_, rfl⟩
  have hC : w.heap.size + 1 + 1 < C := by rw [← eC]; exact (Array.getElem?_eq_some_iff.1 HU2.out).1
  go_upto_region 7 with fail
  obtain ⟨W3, e3⟩ : ∃ W3, w2.alloc (Obj.cells #[.slice B0 k0 d0, .slice B1 k1 d1, .slice B2 k2 d2, .slice B3 k3 d3, .slice B4 k4 d4] 28) = W3 := ⟨_, rfl⟩
  have hu3 : W3.heap[C]? = some (.cells #[.slice B0 k0 d0, .slice B1 k1 d1, .slice B2 k2 d2, .slice B3 k3 d3, .slice B4 k4 d4] 28 (0, 0)) := by rw [← e3, ← eC]; exact World.alloc_heap_new w2 _
  have hz3 : W3.heap[w.heap.size + 1 + 1]? = some (.cells #[.slice none 0 0, .slice none 0 0, .slice none 0 0, .slice none 0 0, .slice none 0 0] 28 (0, 0)) := by rw [← e3]; exact (Below.heap_alloc _ _ _ (by omega)).trans HU2.out
  have hb23 : Below w2.heap.size w2 W3 := by rw [← e3]; exact (Below.refl _ w2).alloc (Nat.le_refl _) _
  have H3 := Aside0.mk (And.intro hb23 (And.intro hu3 hz3))
  rw [e3]
  clear e3 hb23 eC
  have z0 : W3.cell? ⟨C, 0, none⟩ = some (.slice B0 k0 d0) := by rw [blk_cell hu3]; rfl
  have z1 : W3.cell? ⟨C, 1, none⟩ = some (.slice B1 k1 d1) := by rw [blk_cell hu3]; rfl
  have z2 : W3.cell? ⟨C, 2, none⟩ = some (.slice B2 k2 d2) := by rw [blk_cell hu3]; rfl
  have z3 : W3.cell? ⟨C, 3, none⟩ = some (.slice B3 k3 d3) := by rw [blk_cell hu3]; rfl
  have z4 : W3.cell? ⟨C, 4, none⟩ = some (.slice B4 k4 d4) := by rw [blk_cell hu3]; rfl
  have q0 : W3.cell? ⟨w.heap.size + 1 + 1, 0, none⟩ = some (.slice none 0 0) := by rw [blk_cell hz3]; rfl
  have q1 : W3.cell? ⟨w.heap.size + 1 + 1, 1, none⟩ = some (.slice none 0 0) := by rw [blk_cell hz3]; rfl
  have q2 : W3.cell? ⟨w.heap.size + 1 + 1, 2, none⟩ = some (.slice none 0 0) := by rw [blk_cell hz3]; rfl
  have q3 : W3.cell? ⟨w.heap.size + 1 + 1, 3, none⟩ = some (.slice none 0 0) := by rw [blk_cell hz3]; rfl
  have q4 : W3.cell? ⟨w.heap.size + 1 + 1, 4, none⟩ = some (.slice none 0 0) := by rw [blk_cell hz3]; rfl
  have f0 : W3.frozen? ⟨w.heap.size + 1 + 1, 0, none⟩ = false := blk_frozen hz3 0
  have f1 : W3.frozen? ⟨w.heap.size + 1 + 1, 1, none⟩ = false := blk_frozen hz3 1
  have f2 : W3.frozen? ⟨w.heap.size + 1 + 1, 2, none⟩ = false := blk_frozen hz3 2
  have f3 : W3.frozen? ⟨w.heap.size + 1 + 1, 3, none⟩ = false := blk_frozen hz3 3
  have f4 : W3.frozen? ⟨w.heap.size + 1 + 1, 4, none⟩ = false := blk_frozen hz3 4
  clear hu3 hz3
  go_region
  go_wp2_with fail
  clear z0 z1 z2 z3 z4 q0 q1 q2 q3 q4 f0 f1 f2 f3 f4
  obtain ⟨W6, e5⟩ : ∃ W6, V.set5 W3 (w.heap.size + 1 + 1) (.slice B0 k0 d0) (.slice B1 k1 d1) (.slice B2 k2 d2) (.slice B3 k3 d3) (.slice B4 k4 d4) = W6 := ⟨_, rfl⟩
  have e6 : ((((W3.setCell { block := w.heap.size + 1 + 1, off := 0 } (.slice B0 k0 d0)).setCell { block := w.heap.size + 1 + 1, off := 1 } (.slice B1 k1 d1)).setCell { block := w.heap.size + 1 + 1, off := 2 } (.slice B2 k2 d2)).setCell { block := w.heap.size + 1 + 1, off := 3 } (.slice B3 k3 d3)).setCell { block := w.heap.size + 1 + 1, off := 4 } (.slice B4 k4 d4) = W6 := e5
  have hz6 := V.set5_at H3.out.2.2 (.slice B0 k0 d0) (.slice B1 k1 d1) (.slice B2 k2 d2) (.slice B3 k3 d3) (.slice B4 k4 d4)
  have hfar6 : ∀ k, k ≠ w.heap.size + 1 + 1 → W6.heap[k]? = W3.heap[k]? := fun k hk => by rw [← e5]; exact V.set5_far _ _ _ _ _ _ _ k hk
  have hsz6 : W6.heap.size = W3.heap.size := by rw [← e5]; simp [V.set5, T.size_setCell]
  have hb6 : Below w.heap.size w W6 := by rw [← e5]; exact V.set5_below (T.belowAt HB2.out H3.out.1) (by omega) _ _ _ _ _
  rw [e5] at hz6
  rw [e6]
  have q0 : W6.drew.cell? ⟨w.heap.size + 1 + 1, 0, none⟩ = some (.slice B0 k0 d0) := by show W6.cell? _ = _; rw [blk_cell hz6]; rfl
  have q1 : W6.drew.cell? ⟨w.heap.size + 1 + 1, 1, none⟩ = some (.slice B1 k1 d1) := by show W6.cell? _ = _; rw [blk_cell hz6]; rfl
  have q2 : W6.drew.cell? ⟨w.heap.size + 1 + 1, 2, none⟩ = some (.slice B2 k2 d2) := by show W6.cell? _ = _; rw [blk_cell hz6]; rfl
  have q3 : W6.drew.cell? ⟨w.heap.size + 1 + 1, 3, none⟩ = some (.slice B3 k3 d3) := by show W6.cell? _ = _; rw [blk_cell hz6]; rfl
  have q4 : W6.drew.cell? ⟨w.heap.size + 1 + 1, 4, none⟩ = some (.slice B4 k4 d4) := by show W6.cell? _ = _; rw [blk_cell hz6]; rfl
  refine bodyPost_ret (v := .tuple #[.pointer (some ⟨tb', 0, none⟩), .agg #[.slice B0 k0 d0, .slice B1 k1 d1, .slice B2 k2 d2, .slice B3 k3 d3, .slice B4 k4 d4], .int .i64 nx', .bool true]) (by simp [results, Try.results46, go_sem, q0, q1, q2, q3, q4]) rfl ?_
  have hd6 : Below W6.heap.size W6 W6.drew := below_drew (Below.refl _ _)
  have hfr : V.Far (w.heap.size + 1 + 1) W3 W6 := ⟨⟨_, _, _, _, _, H3.out.2.2, by simp⟩, fun k h _ => hfar6 k h⟩
  have htr : Tr W6.drew tb' root' := (V.far_tr hfr (HTr.out.keep (T.Kept.of H3.out.1))).keep (T.Kept.of hd6)
  have hro : RtOff (fun k => (M k ∧ k < w.heap.size) ∨ (w.heap.size ≤ k ∧ k ≤ w.heap.size + 1 + 1)) W3 t' (.slice B0 k0 d0) (.slice B1 k1 d1) (.slice B2 k2 d2) (.slice B3 k3 d3) (.slice B4 k4 d4) := (HR.out.below H3.out.1).imp (fun k hk h => .inl (by
    have h8 := HB1.out.size
    have h9 := (Array.getElem?_eq_some_iff.1 HU1.out.2.2).1
    rcases h with h | h
    · exact ⟨.inl h.1, by omega⟩
    · exact ⟨.inr h.1, by omega⟩))
  have hrt : RtOff (fun k => (M k ∧ k < w.heap.size) ∨ (w.heap.size ≤ k ∧ k ≤ w.heap.size + 1 + 1)) W6 t' (.slice B0 k0 d0) (.slice B1 k1 d1) (.slice B2 k2 d2) (.slice B3 k3 d3) (.slice B4 k4 d4) := RtOff.set (M := fun k => (M k ∧ k < w.heap.size) ∨ (w.heap.size ≤ k ∧ k ≤ w.heap.size + 1 + 1)) hro (fun k hk => hk) (b := w.heap.size + 1 + 1) (.inr ⟨by omega, by omega⟩) hsz6 hfar6
  refine ⟨tb', root', t', old, ob, nx', _, _, _, _, _, rfl, htr, ⟨(hrt.below hd6).imp (fun k _ h => .inl (.inl h))⟩, H2.out.1, ?_, ?_, by have := H1.out.2.2; omega, T.belowAt hb6 hd6⟩
  · exact agree_out_of HT.out.1.fine HT.out.1.vals H1.out.1.fine H1.out.1.vals HT.out.2.1.toRok H2.out.1.toRok HT.out.2.2 H2.out.2 H1.out.2.1
  · exact HKL.out
end Go.Proofs.Ytjhgknagmiekeaa.N
