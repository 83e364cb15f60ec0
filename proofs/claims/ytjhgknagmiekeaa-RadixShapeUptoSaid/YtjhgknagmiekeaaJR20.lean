/- joined: S4 S5 F4 F10 TR16 TR18 S6 -/
import Derived.Test.YtjhgknagmiekeaaJR17
import Derived.Test.YtjhgknagmiekeaaJR19
import Derived.Deep.RegionHeld3
import Derived.Test.YtjhgknagmiekeaaJR13
import Derived.Test.YtjhgknagmiekeaaJR4
set_option linter.unusedVariables false
set_option linter.unusedSimpArgs false
namespace Go.Proofs.Ytjhgknagmiekeaa.N
open Go.RowKit Go.Lib Go.Proofs
open Go.Proofs.Ytjhgknagmiekeaa.K Go.Proofs.YtjhgknagmiekeaaW.PrintLast
open Go.Proofs.YtjhgknagmiekeaaW.PrintWords hiding Kept
open Go.Proofs.Ytjhgknagmiekeaa.T (L Nd Ok Fine IntVals NdAt valT All findT Tr ptr nodeV lookV NodeRow looksOf gotV valueC pathC kidsC Kept)
theorem kidsL (w : World) (n : Nd) (path : ByteArray) (hn : NdAt w n) (ho : Ok n) (hp : ∀ k ∈ n.kids, path.size + k.label.size < 9000000000000000000) (len : Nat) (hlen : n.kids.length = len) :
    Calls Try.prog 95 #[nodeV n.b path] w fun e w' => ∃ A c, e = .returned (.slice A len c) ∧ NodeRow w' (.slice A len c) (looksOf path n.kids) ∧ Below w.heap.size w w' := by
  refine (kidsC w n path hn ho hp).mono ?_
  rintro e w' ⟨v, rfl, ⟨A, c, rfl, h⟩, hB⟩
  have hl : (looksOf path n.kids).length = len := by simp [looksOf, hlen]
  refine ⟨A, c, by rw [hl], ?_, hB⟩
  rw [← hl]
  exact ⟨A, c, rfl, h⟩
theorem nodeRow_at {w : World} {A : Option Addr} {len c : Nat} {path : ByteArray} {ks : List Nd} (h : NodeRow w (.slice A len c) (looksOf path ks)) (i : Nat) (hi : i < ks.length) :
    ∃ g, A = some ⟨g, 0, none⟩ ∧ w.cell? ⟨g, i * 2, none⟩ = some (.pointer (some ⟨ks[i].b, 0, none⟩)) ∧ w.cell? ⟨g, i * 2 + 1, none⟩ = some (.string (path ++ ks[i].label)) := by
  obtain ⟨A', c', e, h⟩ := h
  injection e with e1 _ _
  subst e1
  obtain ⟨g, hg, h1, h2⟩ := h i (by simpa [looksOf] using hi)
  refine ⟨g, hg, ?_, ?_⟩
  · rw [h1]; simp [looksOf, ptr]
  · rw [h2]; simp [looksOf]
theorem getRtV (w : World) (t : Rt) (h : Rok t) (hl : t.ks.length < 100000000000) (root : Nd) (hg : T.Good root) (hv : IntVals root) (hag : Agree root t) (v0 v1 v2 v3 v4 : Value) (hm : RtAt w t v0 v1 v2 v3 v4) (a : ByteArray) :
    Calls Try.prog 47 #[.agg #[v0, v1, v2, v3, v4], .string a] w fun e w' => e = .returned (gotV (valT root (L a))) ∧ Below w.heap.size w w' := by
  obtain ⟨n, b, f1, f2, f3, f4⟩ := find_ex t.ks a (by omega) h.sk
  obtain ⟨hc, hb⟩ := f4 h.rise
  have hg2 : Ev (fun k => musterref03_Get.f k t.ks t.vs t.ls t.ps t.ms a) (if b = true then rd t.vs n else 0, b) := by
    unfold musterref03_Get.f
    refine Ev.bind f2 (Ev.congr (fun k => ?_) (Ev.now _))
    cases b with
    | false => rfl
    | true =>
      have := (f3 rfl).1
      have hv := h.v
      simp only [if_true]
      rw [if_pos (by omega), if_pos (by omega)]
  obtain ⟨k, hk⟩ := hg2.rounds
  obtain ⟨⟨A0, c0, rfl, p0, q0⟩, ⟨A1, c1, rfl, p1, q1⟩, ⟨A2, c2, rfl, p2, q2⟩, ⟨A3, c3, rfl, p3, q3⟩, ⟨A4, c4, rfl, p4, q4⟩⟩ := hm
  refine (musterref03_Get.calls k A0 c0 t.ks A1 c1 t.vs A2 c2 t.ls A3 c3 t.ps A4 c4 t.ms a _ _ w q0 p0 q1 p1 q2 p2 q3 p3 q4 p4 hk).mono ?_
  rintro e w' ⟨rfl, hB⟩
  refine ⟨?_, hB⟩
  cases b with
  | true =>
    obtain ⟨h4, h5⟩ := f3 rfl
    rw [← h5, agree_in hg hv h hag h4]
    rfl
  | false =>
    rw [agree_out hg hv h hag (fun hm => by have := hb.2 hm; simp at this)]
    rfl
def sh_T1 : Bool × List (List Nat × List Nat) := (true, [([], []), ([], []), ([1], [1]), ([], []), ([2, 3], [2, 3]), ([4], [4]), ([0, 5], [0, 5]), ([6], [6]), ([7], [7]), ([7], [7]), ([8, 6, 0, 1, 2, 3, 4, 5, 6, 7, 8], [8]), ([9, 10, 0, 1, 2, 3, 4, 5, 6, 7, 8, 9, 10], [9])])
def sh_B1 : List Nat := [0, 0, 2, 0, 14, 30, 63, 127, 255, 255, 511, 2047]
theorem sh_bits1 : waitsOk sh_T1.2 sh_B1 = true := by kernel_rfl
theorem sh_tab1 : rtab .any (opsOf Try.f41 1) = sh_T1 := by kernel_rfl
def sh_T3 : Bool × List (List Nat × List Nat) := (true, [([], []), ([0], [0]), ([], []), ([2], [2]), ([], []), ([3, 4], [3, 4]), ([5], [5]), ([1, 6], [1, 6]), ([7, 1], [7]), ([8], [8]), ([8], [8]), ([9, 10, 8], [8, 9, 10]), ([8, 11], [8, 11]), ([12, 8], [12]), ([13], [13]), ([13], [13]), ([14, 15, 13], [13, 14, 15]), ([13, 16], [13, 16])])
def sh_B3 : List Nat := [0, 1, 0, 4, 0, 28, 60, 127, 255, 511, 511, 2047, 4095, 8191, 16383, 16383, 65535, 131071]
theorem sh_bits3 : waitsOk sh_T3.2 sh_B3 = true := by kernel_rfl
theorem sh_tab3 : rtab .any (opsOf Try.f41 3) = sh_T3 := by kernel_rfl
def sh_T12 : Bool × List (List Nat × List Nat) := (true, [([], []), ([], []), ([0, 1], [0, 1]), ([2], [2]), ([], []), ([], []), ([], []), ([5, 6], [5, 6]), ([7], [7]), ([3, 4, 8], [3, 4, 8]), ([9], [9])])
def sh_B12 : List Nat := [0, 0, 3, 7, 0, 0, 0, 96, 224, 511, 1023]
theorem sh_bits12 : waitsOk sh_T12.2 sh_B12 = true := by kernel_rfl
theorem sh_tab12 : rtab .any (opsOf Try.f41 12) = sh_T12 := by kernel_rfl
attribute [local go_sem] Oper.semAt_some
def ShownOk (w : World) (e : Ending) (w' : World) : Prop := e = .returned (.bool true) ∧ Below w.heap.size w w'
set_option maxRecDepth 100000 in
set_option maxHeartbeats 4000000 in
theorem shown_step (w : World) (n : Nd) (p : ByteArray) (hn : NdAt w n) (ho : Ok n) (x : Int) (ok : Bool) (hlk : lookV n.leaf = .tuple #[.int .i64 x, .bool ok]) (hpa : ∀ k ∈ n.kids, p.size + k.label.size < 9000000000000000000)
    (t : Rt) (hok : Rok t) (hl : t.ks.length < 100000000000) (hpl : t.ps.length < 1000000000000) (root : Nd) (hg : T.Good root) (hv : IntVals root) (hag : Agree root t) (v0 v1 v2 v3 v4 : Value) (hm : RtAt w t v0 v1 v2 v3 v4) (i : Nat) (hi : i < t.ps.length) (hpi : gd t.ps i = p) (hgv : gotV (valT root (L p)) = .tuple #[.int .i64 x, .bool ok])
    (pl : List Nat) (hkg : F.kg (L p) ((t.ps.map L).drop (i + 1)) (i + 1) none = pl) (hplen : pl.length = n.kids.length)
    (IH : ∀ j (hj : j < n.kids.length) (hj2 : j < pl.length) W, Below w.heap.size w W → Calls Try.prog 41 #[nodeV n.kids[j].b (p ++ n.kids[j].label), .agg #[v0, v1, v2, v3, v4], .int .i64 (pl[j] : Int)] W (ShownOk W)) :
    Calls Try.prog 41 #[nodeV n.b p, .agg #[v0, v1, v2, v3, v4], .int .i64 (i : Int)] w (ShownOk w) := by
  have q1 := Aside0.mk (fun W (h : Below w.heap.size w W) => getRtV W t hok hl root hg hv hag _ _ _ _ _ (hm.below h) p)
  rw [hgv] at q1
  have q2 := Aside0.mk (fun W (h : Below w.heap.size w W) => valueC W n p (NdAt.keep (Kept.of h) n hn))
  rw [hlk] at q2
  have q3 := Aside0.mk (fun W => pathC W n.b p)
  obtain ⟨len, elen⟩ : ∃ len, n.kids.length = len := ⟨_, rfl⟩
  have q4 := Aside0.mk (fun W (h : Below w.heap.size w W) => kidsL W n p (NdAt.keep (Kept.of h) n hn) ho hpa len elen)
  have q5 := Aside0.mk (fun W (h : Below w.heap.size w W) => kidsRtC W t hpl _ _ _ _ _ (hm.below h) i hi)
  rw [hpi, hkg] at q5
  have hfew := ho.few
  have HI := Aside0.mk (And.intro IH (And.intro hplen elen))
  obtain ⟨⟨A0, N0, c0, rfl⟩, ⟨A1, N1, c1, rfl⟩, ⟨A2, N2, c2, rfl⟩, ⟨A3, M, c3, e3⟩, ⟨A4, N4, c4, rfl⟩⟩ := hm.forms
  obtain ⟨A3', c3', e3', hc3, hC3⟩ := hm.a3
  obtain ⟨ad, eA, hadb, hat⟩ := str_at hC3 i hi
  rw [hpi] at hat
  rw [e3] at e3'
  injection e3' with e4 e5 e6
  subst eA
  subst e4
  subst e3
  have hiM : (i : Int) < (M : Int) := by omega
  have HAT := Aside0.mk (And.intro hadb hat)
  obtain ⟨nb, enb⟩ : ∃ nb, n.b = nb := ⟨_, rfl⟩
  rw [enb] at q2 q3 q4 ⊢
  have hl256 : len ≤ 256 := by omega
  clear hn ho hlk hpa hok hl hpl hg hv hag hm hi hpi hgv hkg hplen IH hc3 hC3 hat hadb hfew elen enb e5 e6
  unfold nodeV ptr at q2 q3 q4 ⊢
  go_enter Try.func41, Try.ntmps41
  have HB0 := Aside0.mk (((Below.refl w.heap.size w).alloc (Nat.le_refl _) (Obj.cells #[.pointer (some ⟨nb, 0, none⟩), .string p] 60)).alloc (by simp) (Obj.cells #[.slice A0 N0 c0, .slice A1 N1 c1, .slice A2 N2 c2, .slice (some ad) M c3, .slice A4 N4 c4] 28))
  have HU0 : Aside0 (((w.alloc (Obj.cells #[.pointer (some ⟨nb, 0, none⟩), .string p] 60)).alloc (Obj.cells #[.slice A0 N0 c0, .slice A1 N1 c1, .slice A2 N2 c2, .slice (some ad) M c3, .slice A4 N4 c4] 28)).heap[w.heap.size]? = some (.cells #[.pointer (some ⟨nb, 0, none⟩), .string p] 60 (0, 0)) ∧ ((w.alloc (Obj.cells #[.pointer (some ⟨nb, 0, none⟩), .string p] 60)).alloc (Obj.cells #[.slice A0 N0 c0, .slice A1 N1 c1, .slice A2 N2 c2, .slice (some ad) M c3, .slice A4 N4 c4] 28)).heap[w.heap.size + 1]? = some (.cells #[.slice A0 N0 c0, .slice A1 N1 c1, .slice A2 N2 c2, .slice (some ad) M c3, .slice A4 N4 c4] 28 (0, 0))) := ⟨(Below.heap_alloc _ _ _ (by simp)).trans (World.alloc_heap_new w _), by have := World.alloc_heap_new (w.alloc (Obj.cells #[.pointer (some ⟨nb, 0, none⟩), .string p] 60)) (Obj.cells #[.slice A0 N0 c0, .slice A1 N1 c1, .slice A2 N2 c2, .slice (some ad) M c3, .slice A4 N4 c4] 28); rwa [World.size_alloc] at this⟩
  go_wp2_with fail
  obtain ⟨W0, eW0⟩ : ∃ W0, ((w.alloc (Obj.cells #[.pointer (some ⟨nb, 0, none⟩), .string p] 60)).alloc (Obj.cells #[.slice A0 N0 c0, .slice A1 N1 c1, .slice A2 N2 c2, .slice (some ad) M c3, .slice A4 N4 c4] 28)) = W0 := ⟨_, rfl⟩
  rw [eW0] at HB0 HU0 ⊢
  clear eW0
  have x0 : W0.cell? ⟨w.heap.size + 1, 0, none⟩ = some (.slice A0 N0 c0) := (by rw [blk_cell HU0.out.2]; rfl)
  have x1 : W0.cell? ⟨w.heap.size + 1, 1, none⟩ = some (.slice A1 N1 c1) := (by rw [blk_cell HU0.out.2]; rfl)
  have x2 : W0.cell? ⟨w.heap.size + 1, 2, none⟩ = some (.slice A2 N2 c2) := (by rw [blk_cell HU0.out.2]; rfl)
  have x3 : W0.cell? ⟨w.heap.size + 1, 3, none⟩ = some (.slice (some ad) M c3) := (by rw [blk_cell HU0.out.2]; rfl)
  have x4 : W0.cell? ⟨w.heap.size + 1, 4, none⟩ = some (.slice A4 N4 c4) := (by rw [blk_cell HU0.out.2]; rfl)
  have xp : W0.cell? (ad.add i) = some (.string p) := HAT.out.2 W0 (HB0.out.block _ HAT.out.1)
  have HBd := Aside0.mk (below_drew HB0.out)
  refine start_ (n := 12) (S := (fun Z => Z.cell? ⟨w.heap.size + 1, 0, none⟩ = some (.slice A0 N0 c0) ∧ Z.cell? ⟨w.heap.size + 1, 1, none⟩ = some (.slice A1 N1 c1) ∧ Z.cell? ⟨w.heap.size + 1, 2, none⟩ = some (.slice A2 N2 c2) ∧ Z.cell? ⟨w.heap.size + 1, 3, none⟩ = some (.slice (some ad) M c3) ∧ Z.cell? ⟨w.heap.size + 1, 4, none⟩ = some (.slice A4 N4 c4) ∧ Z.cell? (ad.add i) = some (.string p))) (ds := []) #[false, false, false, false, false, false, false, false, false, false, false, false] (by kernel_rfl) rfl rfl ⟨x0, x1, x2, x3, x4, xp⟩ (fun hHeld => ?_); refine with_tabW sh_tab1 sh_bits1 (fun HT_ HW_ => ?_)
  refine take_ (i := 0) (N := some 15) (v := ?_) (a' := ?_) #[true, false, false, false, false, false, false, false, false, false, false, false] rfl rfl (take_ofW HT_.out HW_.out (by kernel_rfl)) (fun _ _ _ h => h) (Or.inl ⟨by rfl, ?_⟩) hHeld ?_ ?_
  rotate_left
  · rintro w' ⟨s0, s1, s2, s3, s4, s5⟩
    go_simp
    with_reducible rfl
  rotate_left
  · simp only [Act.put, List.setIfInBounds_toArray, List.set_cons_zero, List.set_cons_succ, i64_w, i32_w]
    rfl
  refine pure_ (i := 1) (N := some 16) (v := ?_) (a' := ?_) #[true, true, false, false, false, false, false, false, false, false, false, false] rfl rfl (any_of HT_.out (by kernel_rfl)) (fun _ _ _ h => h) (Or.inl ⟨by rfl, ?_⟩) ?_ ?_
  rotate_left
  · intro w'
    go_simp
    with_reducible rfl
  rotate_left
  · simp only [Act.put, List.setIfInBounds_toArray, List.set_cons_zero, List.set_cons_succ, i64_w, i32_w]
    rfl
  refine take_ (i := 2) (N := some 17) (v := ?_) (a' := ?_) #[true, true, true, false, false, false, false, false, false, false, false, false] rfl rfl (take_ofW HT_.out HW_.out (by kernel_rfl)) (fun _ _ _ h => h) (Or.inl ⟨by rfl, ?_⟩) hHeld ?_ ?_
  rotate_left
  · rintro w' ⟨s0, s1, s2, s3, s4, s5⟩
    go_simp
    with_reducible rfl
  rotate_left
  · simp only [Act.put, List.setIfInBounds_toArray, List.set_cons_zero, List.set_cons_succ, i64_w, i32_w]
    rfl
  refine pure_ (i := 3) (N := some 18) (v := ?_) (a' := ?_) #[true, true, true, true, false, false, false, false, false, false, false, false] rfl rfl (any_of HT_.out (by kernel_rfl)) (fun _ _ _ h => h) (Or.inl ⟨by rfl, ?_⟩) ?_ ?_
  rotate_left
  · intro w'
    go_simp
    with_reducible rfl
  rotate_left
  · simp only [Act.put, List.setIfInBounds_toArray, List.set_cons_zero, List.set_cons_succ, i64_w, i32_w]
    rfl
  refine pure_ (i := 4) (N := some 19) (v := ?_) (a' := ?_) #[true, true, true, true, true, false, false, false, false, false, false, false] rfl rfl (any_of HT_.out (by kernel_rfl)) (fun _ _ _ h => h) (Or.inl ⟨by rfl, ?_⟩) ?_ ?_
  rotate_left
  · intro w'
    go_simp
    with_reducible rfl
  rotate_left
  · simp only [Act.put, List.setIfInBounds_toArray, List.set_cons_zero, List.set_cons_succ, i64_w, i32_w]
    rfl
  refine take_ (i := 5) (N := some 20) (v := ?_) (a' := ?_) #[true, true, true, true, true, true, false, false, false, false, false, false] rfl rfl (take_ofW HT_.out HW_.out (by kernel_rfl)) (fun _ _ _ h => h) (Or.inl ⟨by rfl, ?_⟩) hHeld ?_ ?_
  rotate_left
  · rintro w' ⟨s0, s1, s2, s3, s4, s5⟩
    go_simp
    with_reducible rfl
  rotate_left
  · simp only [Act.put, List.setIfInBounds_toArray, List.set_cons_zero, List.set_cons_succ, i64_w, i32_w]
    rfl
  refine one_ (i := 6) (N := some 21) #[true, true, true, true, true, true, true, false, false, false, false, false] rfl rfl (one_of HT_.out (by kernel_rfl)) (by decide) (fun K hK => ?_)
  refine goes_ Try.func47 (by kernel_rfl) rfl #[.agg #[.slice A0 N0 c0, .slice A1 N1 c1, .slice A2 N2 c2, .slice (some ad) M c3, .slice A4 N4 c4], .string p] (by rfl) rfl rfl (by (try simp only [List.map_toArray, List.map_cons, List.map_nil]); first | done | rfl) ?_
  refine (q1.out _ HBd.out).mono ?_
  rintro e w1 ⟨rfl, hb1⟩
  have HB1 := Aside0.mk (T.belowAt HBd.out hb1)
  have HU1 := Aside0.mk (And.intro ((hb1.block _ (Array.getElem?_eq_some_iff.1 HU0.out.1).1).trans HU0.out.1) ((hb1.block _ (Array.getElem?_eq_some_iff.1 HU0.out.2).1).trans HU0.out.2))
  have h1 : (fun Z => Z.cell? ⟨w.heap.size + 1, 0, none⟩ = some (.slice A0 N0 c0) ∧ Z.cell? ⟨w.heap.size + 1, 1, none⟩ = some (.slice A1 N1 c1) ∧ Z.cell? ⟨w.heap.size + 1, 2, none⟩ = some (.slice A2 N2 c2) ∧ Z.cell? ⟨w.heap.size + 1, 3, none⟩ = some (.slice (some ad) M c3) ∧ Z.cell? ⟨w.heap.size + 1, 4, none⟩ = some (.slice A4 N4 c4) ∧ Z.cell? (ad.add i) = some (.string p)) w1 := ⟨by rw [blk_cell HU1.out.2]; rfl, by rw [blk_cell HU1.out.2]; rfl, by rw [blk_cell HU1.out.2]; rfl, by rw [blk_cell HU1.out.2]; rfl, by rw [blk_cell HU1.out.2]; rfl, HAT.out.2 w1 (HB1.out.block _ HAT.out.1)⟩
  clear hb1
  refine ⟨_, rfl, ?_⟩
  clear hHeld
  refine hK.out _ _ h1 (fun hHeld => ?_)
  clear hK K
  refine norm_ (a' := ?_) ?_ ?_
  rotate_left
  · show Act.put _ (some 21) _ = _
    simp only [Act.put, List.setIfInBounds_toArray, List.set_cons_zero, List.set_cons_succ, i64_w, i32_w]
    rfl
  refine pure_ (i := 7) (N := some 14) (v := ?_) (a' := ?_) #[true, true, true, true, true, true, true, true, false, false, false, false] rfl rfl (any_of HT_.out (by kernel_rfl)) (fun _ _ _ h => h) (Or.inl ⟨by rfl, ?_⟩) ?_ ?_
  rotate_left
  · intro w'
    go_simp
    with_reducible rfl
  rotate_left
  · simp only [Act.put, List.setIfInBounds_toArray, List.set_cons_zero, List.set_cons_succ, i64_w, i32_w]
    rfl
  refine pure_ (i := 8) (N := some 22) (v := ?_) (a' := ?_) #[true, true, true, true, true, true, true, true, true, false, false, false] rfl rfl (any_of HT_.out (by kernel_rfl)) (fun _ _ _ h => h) (Or.inl ⟨by rfl, ?_⟩) ?_ ?_
  rotate_left
  · intro w'
    go_simp
    with_reducible rfl
  rotate_left
  · simp only [Act.put, List.setIfInBounds_toArray, List.set_cons_zero, List.set_cons_succ, i64_w, i32_w]
    rfl
  refine pure_ (i := 9) (N := some 23) (v := ?_) (a' := ?_) #[true, true, true, true, true, true, true, true, true, true, false, false] rfl rfl (any_of HT_.out (by kernel_rfl)) (fun _ _ _ h => h) (Or.inl ⟨by rfl, ?_⟩) ?_ ?_
  rotate_left
  · intro w'
    go_simp
    with_reducible rfl
  rotate_left
  · simp only [Act.put, List.setIfInBounds_toArray, List.set_cons_zero, List.set_cons_succ, i64_w, i32_w]
    rfl
  refine pure_ (i := 10) (N := some 7) (v := ?_) (a' := ?_) #[true, true, true, true, true, true, true, true, true, true, true, false] rfl rfl (any_of HT_.out (by kernel_rfl)) (fun _ _ _ h => h) (Or.inl ⟨by rfl, ?_⟩) ?_ ?_
  rotate_left
  · intro w'
    go_simp
    with_reducible rfl
  rotate_left
  · simp only [Act.put, List.setIfInBounds_toArray, List.set_cons_zero, List.set_cons_succ, i64_w, i32_w]
    rfl
  refine pure_ (i := 11) (N := some 8) (v := ?_) (a' := ?_) #[true, true, true, true, true, true, true, true, true, true, true, true] rfl rfl (any_of HT_.out (by kernel_rfl)) (fun _ _ _ h => h) (Or.inl ⟨by rfl, ?_⟩) ?_ ?_
  rotate_left
  · intro w'
    go_simp
    with_reducible rfl
  rotate_left
  · simp only [Act.put, List.setIfInBounds_toArray, List.set_cons_zero, List.set_cons_succ, i64_w, i32_w]
    rfl
  refine done_ (done_of HT_.out (by kernel_rfl)) ?_
  clear hHeld h1 x0 x1 x2 x3 x4 xp q1 HT_ HW_ HBd HU0
  have y0 : w1.cell? ⟨w.heap.size, 0, none⟩ = some (.pointer (some ⟨nb, 0, none⟩)) := (by rw [blk_cell HU1.out.1]; rfl)
  have y1 : w1.cell? ⟨w.heap.size, 1, none⟩ = some (.string p) := (by rw [blk_cell HU1.out.1]; rfl)
  go_wp2_with (go_at_call 93; refine (q2.out _ HB1.out).mono ?_)
  rintro e w2 ⟨rfl, hb2⟩
  have HB2 := Aside0.mk (T.belowAt HB1.out hb2)
  have HU2 := Aside0.mk (And.intro ((hb2.block _ (Array.getElem?_eq_some_iff.1 HU1.out.1).1).trans HU1.out.1) ((hb2.block _ (Array.getElem?_eq_some_iff.1 HU1.out.2).1).trans HU1.out.2))
  clear hb2 y0 y1 q2 HU1
  go_wp2_with fail
  have y0 : w2.cell? ⟨w.heap.size, 0, none⟩ = some (.pointer (some ⟨nb, 0, none⟩)) := (by rw [blk_cell HU2.out.1]; rfl)
  have y1 : w2.cell? ⟨w.heap.size, 1, none⟩ = some (.string p) := (by rw [blk_cell HU2.out.1]; rfl)
  have x3 : w2.cell? ⟨w.heap.size + 1, 3, none⟩ = some (.slice (some ad) M c3) := by rw [blk_cell HU2.out.2]; rfl
  have xp : w2.cell? (ad.add i) = some (.string p) := HAT.out.2 w2 (HB2.out.block _ HAT.out.1)
  have HBd := Aside0.mk (below_drew HB2.out)
  refine start_ (n := 18) (S := (fun Z => Z.cell? ⟨w.heap.size, 0, none⟩ = some (.pointer (some ⟨nb, 0, none⟩)) ∧ Z.cell? ⟨w.heap.size, 1, none⟩ = some (.string p) ∧ Z.cell? ⟨w.heap.size + 1, 3, none⟩ = some (.slice (some ad) M c3) ∧ Z.cell? (ad.add i) = some (.string p))) (ds := []) #[false, false, false, false, false, false, false, false, false, false, false, false, false, false, false, false, false, false] (by kernel_rfl) rfl rfl ⟨y0, y1, x3, xp⟩ (fun hHeld => ?_); refine with_tabW sh_tab3 sh_bits3 (fun HT_ HW_ => ?_)
  refine take_ (i := 0) (N := some 29) (v := ?_) (a' := ?_) #[true, false, false, false, false, false, false, false, false, false, false, false, false, false, false, false, false, false] rfl rfl (take_ofW HT_.out HW_.out (by kernel_rfl)) (fun _ _ _ h => h) (Or.inl ⟨by rfl, ?_⟩) hHeld ?_ ?_
  rotate_left
  · rintro w' ⟨s0, s1, s2, s3⟩
    go_simp
    with_reducible rfl
  rotate_left
  · simp only [Act.put, List.setIfInBounds_toArray, List.set_cons_zero, List.set_cons_succ, i64_w, i32_w]
    rfl
  refine pure_ (i := 2) (N := some 31) (v := ?_) (a' := ?_) #[true, false, true, false, false, false, false, false, false, false, false, false, false, false, false, false, false, false] rfl rfl (any_of HT_.out (by kernel_rfl)) (fun _ _ _ h => h) (Or.inl ⟨by rfl, ?_⟩) ?_ ?_
  rotate_left
  · intro w'
    go_simp
    with_reducible rfl
  rotate_left
  · simp only [Act.put, List.setIfInBounds_toArray, List.set_cons_zero, List.set_cons_succ, i64_w, i32_w]
    rfl
  refine take_ (i := 3) (N := some 32) (v := ?_) (a' := ?_) #[true, false, true, true, false, false, false, false, false, false, false, false, false, false, false, false, false, false] rfl rfl (take_ofW HT_.out HW_.out (by kernel_rfl)) (fun _ _ _ h => h) (Or.inl ⟨by rfl, ?_⟩) hHeld ?_ ?_
  rotate_left
  · rintro w' ⟨s0, s1, s2, s3⟩
    go_simp
    with_reducible rfl
  rotate_left
  · simp only [Act.put, List.setIfInBounds_toArray, List.set_cons_zero, List.set_cons_succ, i64_w, i32_w]
    rfl
  refine pure_ (i := 4) (N := some 33) (v := ?_) (a' := ?_) #[true, false, true, true, true, false, false, false, false, false, false, false, false, false, false, false, false, false] rfl rfl (any_of HT_.out (by kernel_rfl)) (fun _ _ _ h => h) (Or.inl ⟨by rfl, ?_⟩) ?_ ?_
  rotate_left
  · intro w'
    go_simp
    with_reducible rfl
  rotate_left
  · simp only [Act.put, List.setIfInBounds_toArray, List.set_cons_zero, List.set_cons_succ, i64_w, i32_w]
    rfl
  refine pure_ (i := 5) (N := some 34) (v := ?_) (a' := ?_) #[true, false, true, true, true, true, false, false, false, false, false, false, false, false, false, false, false, false] rfl rfl (any_of HT_.out (by kernel_rfl)) (fun _ _ _ h => h) (Or.inl ⟨by rfl, ?_⟩) ?_ ?_
  rotate_left
  · intro w'
    go_simp
    with_reducible rfl
  rotate_left
  · simp only [Act.put, List.setIfInBounds_toArray, List.set_cons_zero, List.set_cons_succ, i64_w, i32_w]
    rfl
  refine take_ (i := 6) (N := some 35) (v := ?_) (a' := ?_) #[true, false, true, true, true, true, true, false, false, false, false, false, false, false, false, false, false, false] rfl rfl (take_ofW HT_.out HW_.out (by kernel_rfl)) (fun _ _ _ h => h) (Or.inl ⟨by rfl, ?_⟩) hHeld ?_ ?_
  rotate_left
  · rintro w' ⟨s0, s1, s2, s3⟩
    go_simp
    with_reducible rfl
  rotate_left
  · simp only [Act.put, List.setIfInBounds_toArray, List.set_cons_zero, List.set_cons_succ, i64_w, i32_w]
    rfl
  refine one_ (i := 1) (N := some 30) #[true, true, true, true, true, true, true, false, false, false, false, false, false, false, false, false, false, false] rfl rfl (one_of HT_.out (by kernel_rfl)) (by decide) (fun K hK => ?_)
  refine goes_ Try.func94 (by kernel_rfl) rfl #[.agg #[.pointer (some ⟨nb, 0, none⟩), .string p]] (by rfl) rfl rfl (by (try simp only [List.map_toArray, List.map_cons, List.map_nil]); first | done | rfl) ?_
  refine (q3.out _).mono ?_
  rintro e w3 ⟨rfl, hb3⟩
  have HB3 := Aside0.mk (T.belowAt HBd.out hb3)
  have HU3 := Aside0.mk (And.intro ((hb3.block _ (Array.getElem?_eq_some_iff.1 HU2.out.1).1).trans HU2.out.1) ((hb3.block _ (Array.getElem?_eq_some_iff.1 HU2.out.2).1).trans HU2.out.2))
  have h1 : (fun Z => Z.cell? ⟨w.heap.size, 0, none⟩ = some (.pointer (some ⟨nb, 0, none⟩)) ∧ Z.cell? ⟨w.heap.size, 1, none⟩ = some (.string p) ∧ Z.cell? ⟨w.heap.size + 1, 3, none⟩ = some (.slice (some ad) M c3) ∧ Z.cell? (ad.add i) = some (.string p)) w3 := ⟨by rw [blk_cell HU3.out.1]; rfl, by rw [blk_cell HU3.out.1]; rfl, by rw [blk_cell HU3.out.2]; rfl, HAT.out.2 w3 (HB3.out.block _ HAT.out.1)⟩
  clear hb3
  refine ⟨_, rfl, ?_⟩
  clear hHeld
  refine hK.out _ _ h1 (fun hHeld => ?_)
  clear hK K
  refine norm_ (a' := ?_) ?_ ?_
  rotate_left
  · show Act.put _ (some 30) _ = _
    simp only [Act.put, List.setIfInBounds_toArray, List.set_cons_zero, List.set_cons_succ, i64_w, i32_w]
    rfl
  refine pure_ (i := 7) (N := some 36) (v := ?_) (a' := ?_) #[true, true, true, true, true, true, true, true, false, false, false, false, false, false, false, false, false, false] rfl rfl (any_of HT_.out (by kernel_rfl)) (fun _ _ _ h => h) (Or.inl ⟨by rfl, ?_⟩) ?_ ?_
  rotate_left
  · intro w'
    go_simp
    with_reducible rfl
  rotate_left
  · simp only [Act.put, List.setIfInBounds_toArray, List.set_cons_zero, List.set_cons_succ, i64_w, i32_w]
    rfl
  refine pure_ (i := 8) (N := some 37) (v := ?_) (a' := ?_) #[true, true, true, true, true, true, true, true, true, false, false, false, false, false, false, false, false, false] rfl rfl (any_of HT_.out (by kernel_rfl)) (fun _ _ _ h => h) (Or.inl ⟨by rfl, ?_⟩) ?_ ?_
  rotate_left
  · intro w'
    go_simp
    with_reducible rfl
  rotate_left
  · simp only [Act.put, List.setIfInBounds_toArray, List.set_cons_zero, List.set_cons_succ, i64_w, i32_w]
    rfl
  refine pure_ (i := 9) (N := some 38) (v := ?_) (a' := ?_) #[true, true, true, true, true, true, true, true, true, true, false, false, false, false, false, false, false, false] rfl rfl (any_of HT_.out (by kernel_rfl)) (fun _ _ _ h => h) (Or.inl ⟨by rfl, ?_⟩) ?_ ?_
  rotate_left
  · intro w'
    go_simp
    with_reducible rfl
  rotate_left
  · simp only [Act.put, List.setIfInBounds_toArray, List.set_cons_zero, List.set_cons_succ, i64_w, i32_w]
    rfl
  refine pure_ (i := 10) (N := some 39) (v := ?_) (a' := ?_) #[true, true, true, true, true, true, true, true, true, true, true, false, false, false, false, false, false, false] rfl rfl (any_of HT_.out (by kernel_rfl)) (fun _ _ _ h => h) (Or.inl ⟨by rfl, ?_⟩) ?_ ?_
  rotate_left
  · intro w'
    go_simp
    with_reducible rfl
  rotate_left
  · simp only [Act.put, List.setIfInBounds_toArray, List.set_cons_zero, List.set_cons_succ, i64_w, i32_w]
    rfl
  refine pure_ (i := 11) (N := some 40) (v := ?_) (a' := ?_) #[true, true, true, true, true, true, true, true, true, true, true, true, false, false, false, false, false, false] rfl rfl (any_of HT_.out (by kernel_rfl)) (fun _ _ _ h => h) (Or.inl ⟨by rfl, ?_⟩) ?_ ?_
  rotate_left
  · intro w'
    go_simp
    with_reducible rfl
  rotate_left
  · simp only [Act.put, List.setIfInBounds_toArray, List.set_cons_zero, List.set_cons_succ, i64_w, i32_w]
    rfl
  refine pure_ (i := 12) (N := some 41) (v := ?_) (a' := ?_) #[true, true, true, true, true, true, true, true, true, true, true, true, true, false, false, false, false, false] rfl rfl (any_of HT_.out (by kernel_rfl)) (fun _ _ _ h => h) (Or.inl ⟨by rfl, ?_⟩) ?_ ?_
  rotate_left
  · intro w'
    go_simp
    with_reducible rfl
  rotate_left
  · simp only [Act.put, List.setIfInBounds_toArray, List.set_cons_zero, List.set_cons_succ, i64_w, i32_w]
    rfl
  refine pure_ (i := 13) (N := some 42) (v := ?_) (a' := ?_) #[true, true, true, true, true, true, true, true, true, true, true, true, true, true, false, false, false, false] rfl rfl (any_of HT_.out (by kernel_rfl)) (fun _ _ _ h => h) (Or.inl ⟨by rfl, ?_⟩) ?_ ?_
  rotate_left
  · intro w'
    go_simp
    with_reducible rfl
  rotate_left
  · simp only [Act.put, List.setIfInBounds_toArray, List.set_cons_zero, List.set_cons_succ, i64_w, i32_w]
    rfl
  refine pure_ (i := 14) (N := some 43) (v := ?_) (a' := ?_) #[true, true, true, true, true, true, true, true, true, true, true, true, true, true, true, false, false, false] rfl rfl (any_of HT_.out (by kernel_rfl)) (fun _ _ _ h => h) (Or.inl ⟨by rfl, ?_⟩) ?_ ?_
  rotate_left
  · intro w'
    go_simp
    with_reducible rfl
  rotate_left
  · simp only [Act.put, List.setIfInBounds_toArray, List.set_cons_zero, List.set_cons_succ, i64_w, i32_w]
    rfl
  refine pure_ (i := 15) (N := some 44) (v := ?_) (a' := ?_) #[true, true, true, true, true, true, true, true, true, true, true, true, true, true, true, true, false, false] rfl rfl (any_of HT_.out (by kernel_rfl)) (fun _ _ _ h => h) (Or.inl ⟨by rfl, ?_⟩) ?_ ?_
  rotate_left
  · intro w'
    go_simp
    with_reducible rfl
  rotate_left
  · simp only [Act.put, List.setIfInBounds_toArray, List.set_cons_zero, List.set_cons_succ, i64_w, i32_w]
    rfl
  refine pure_ (i := 16) (N := some 45) (v := ?_) (a' := ?_) #[true, true, true, true, true, true, true, true, true, true, true, true, true, true, true, true, true, false] rfl rfl (any_of HT_.out (by kernel_rfl)) (fun _ _ _ h => h) (Or.inl ⟨by rfl, ?_⟩) ?_ ?_
  rotate_left
  · intro w'
    go_simp
    with_reducible rfl
  rotate_left
  · simp only [Act.put, List.setIfInBounds_toArray, List.set_cons_zero, List.set_cons_succ, i64_w, i32_w]
    rfl
  refine pure_ (i := 17) (N := some 46) (v := ?_) (a' := ?_) #[true, true, true, true, true, true, true, true, true, true, true, true, true, true, true, true, true, true] rfl rfl (any_of HT_.out (by kernel_rfl)) (fun _ _ _ h => h) (Or.inl ⟨by rfl, ?_⟩) ?_ ?_
  rotate_left
  · intro w'
    go_simp
    with_reducible rfl
  rotate_left
  · simp only [Act.put, List.setIfInBounds_toArray, List.set_cons_zero, List.set_cons_succ, i64_w, i32_w]
    rfl
  refine done_ (done_of HT_.out (by kernel_rfl)) ?_
  clear hHeld h1 x3 xp y0 y1 q3 HT_ HW_ HBd HU2 HB2
  have y0 : w3.cell? ⟨w.heap.size, 0, none⟩ = some (.pointer (some ⟨nb, 0, none⟩)) := (by rw [blk_cell HU3.out.1]; rfl)
  have y1 : w3.cell? ⟨w.heap.size, 1, none⟩ = some (.string p) := (by rw [blk_cell HU3.out.1]; rfl)
  go_wp2_with (first
    | (go_at_call 95; refine (q4.out _ HB3.out).mono ?_; rintro e w4 ⟨Ak, ck, rfl, hrow, hb4⟩; have HB4 := Aside0.mk (T.belowAt HB3.out hb4); have HU4 := Aside0.mk (And.intro ((hb4.block _ (Array.getElem?_eq_some_iff.1 HU3.out.1).1).trans HU3.out.1) ((hb4.block _ (Array.getElem?_eq_some_iff.1 HU3.out.2).1).trans HU3.out.2)); have HRow := Aside0.mk hrow; clear hrow hb4; have z0 : w4.cell? ⟨w.heap.size + 1, 0, none⟩ = some (.slice A0 N0 c0) := (by rw [blk_cell HU4.out.2]; rfl); have z1 : w4.cell? ⟨w.heap.size + 1, 1, none⟩ = some (.slice A1 N1 c1) := (by rw [blk_cell HU4.out.2]; rfl); have z2 : w4.cell? ⟨w.heap.size + 1, 2, none⟩ = some (.slice A2 N2 c2) := (by rw [blk_cell HU4.out.2]; rfl); have z3 : w4.cell? ⟨w.heap.size + 1, 3, none⟩ = some (.slice (some ad) M c3) := (by rw [blk_cell HU4.out.2]; rfl); have z4 : w4.cell? ⟨w.heap.size + 1, 4, none⟩ = some (.slice A4 N4 c4) := (by rw [blk_cell HU4.out.2]; rfl))
    | (go_at_call 96; refine (q5.out _ HB4.out).mono ?_; rintro e w5 ⟨Ap, np, cp, rfl, hpl, hb5⟩; have HB5 := Aside0.mk (T.belowAt HB4.out hb5); have HU5 := Aside0.mk (And.intro ((hb5.block _ (Array.getElem?_eq_some_iff.1 HU4.out.1).1).trans HU4.out.1) ((hb5.block _ (Array.getElem?_eq_some_iff.1 HU4.out.2).1).trans HU4.out.2)); have HRw := Aside0.mk (HRow.out.keep (Kept.of hb5)); have HPl := Aside0.mk hpl; have enp : np = len := (by obtain ⟨A', c', e, -⟩ := hpl; injection e with _ e _; rw [e, ints_len, HI.out.2.1, HI.out.2.2]); subst enp; clear hpl hb5 z0 z1 z2 z3 z4))
  clear q4 q5 y0 y1
  go_loopg [13, 59] (np + 1) (fun kq v13 v59 W => ∃ j : Nat, v59 = .int .i64 (j : Int) ∧ Aside0 (j + kq = np + 1 ∧ j ≤ np) ∧ Aside0 (Below w5.heap.size w5 W))
  case atStart => exact ⟨0, rfl, ⟨by omega⟩, ⟨Below.refl _ _⟩⟩
  case round =>
    obtain ⟨j, rfl, HQ, HW⟩ := hrel
    by_cases hlt : j < np
    · have hj : j < n.kids.length := by rw [HI.out.2.2]; exact hlt
      have hj2 : j < pl.length := by rw [HI.out.2.1]; exact hj
      obtain ⟨g, eg, r0, r1⟩ := nodeRow_at (HRw.out.keep (Kept.of HW.out)) j hj
      obtain ⟨Ap', cp', e', -, hC⟩ := HPl.out.below HW.out
      injection e' with e1 e2 e3
      subst e1
      obtain ⟨ai, eAi, hib, hiat⟩ := int_at hC j (by rw [ints_len]; exact hj2)
      have ri := hiat wr rfl
      have erd : rd (ints pl) (j : Int) = ((pl[j] : Nat) : Int) := by simp [rd, ints, List.getD_eq_getElem?_getD, List.getElem?_map, List.getElem?_eq_getElem hj2]
      rw [erd] at ri
      have HBd := Aside0.mk (below_drew (T.belowAt HB5.out HW.out))
      have q7 := Aside0.mk (HI.out.1 j hj hj2 wr.drew HBd.out)
      have hu := (HW.out.block _ (Array.getElem?_eq_some_iff.1 HU5.out.2).1).trans HU5.out.2
      have x0 : wr.cell? ⟨w.heap.size + 1, 0, none⟩ = some (.slice A0 N0 c0) := (by rw [blk_cell hu]; rfl)
      have x1 : wr.cell? ⟨w.heap.size + 1, 1, none⟩ = some (.slice A1 N1 c1) := (by rw [blk_cell hu]; rfl)
      have x2 : wr.cell? ⟨w.heap.size + 1, 2, none⟩ = some (.slice A2 N2 c2) := (by rw [blk_cell hu]; rfl)
      have x3 : wr.cell? ⟨w.heap.size + 1, 3, none⟩ = some (.slice (some ad) M c3) := (by rw [blk_cell hu]; rfl)
      have x4 : wr.cell? ⟨w.heap.size + 1, 4, none⟩ = some (.slice A4 N4 c4) := (by rw [blk_cell hu]; rfl)
      obtain ⟨kb, ekb⟩ : ∃ kb, n.kids[j].b = kb := ⟨_, rfl⟩
      obtain ⟨kp, ekp⟩ : ∃ kp, p ++ n.kids[j].label = kp := ⟨_, rfl⟩
      obtain ⟨pj, epj⟩ : ∃ pj, pl[j] = pj := ⟨_, rfl⟩
      rw [ekb, ekp, epj] at q7
      rw [ekb] at r0
      rw [ekp] at r1
      rw [epj] at ri
      unfold nodeV ptr at q7
      have hltI : (j : Int) < (np : Int) := by omega
      have hu5 := Aside0.mk hu
      subst eg
      subst eAi
      clear ekb ekp epj hj hj2 hC hib hiat erd e2 e3 hu
      go_wp2_with fail
      refine start_ (n := 11) (S := (fun Z => Z.cell? ⟨g, j * 2, none⟩ = some (.pointer (some ⟨kb, 0, none⟩)) ∧ Z.cell? ⟨g, j * 2 + 1, none⟩ = some (.string kp) ∧ Z.cell? ⟨w.heap.size + 1, 0, none⟩ = some (.slice A0 N0 c0) ∧ Z.cell? ⟨w.heap.size + 1, 1, none⟩ = some (.slice A1 N1 c1) ∧ Z.cell? ⟨w.heap.size + 1, 2, none⟩ = some (.slice A2 N2 c2) ∧ Z.cell? ⟨w.heap.size + 1, 3, none⟩ = some (.slice (some ad) M c3) ∧ Z.cell? ⟨w.heap.size + 1, 4, none⟩ = some (.slice A4 N4 c4) ∧ Z.cell? (ai.add j) = some (.int .i64 (pj : Int)))) (ds := []) #[false, false, false, false, false, false, false, false, false, false, false] (by kernel_rfl) rfl rfl ⟨r0, r1, x0, x1, x2, x3, x4, ri⟩ (fun hHeld => ?_); refine with_tabW sh_tab12 sh_bits12 (fun HT_ HW_ => ?_)
      refine pure_ (i := 0) (N := some 62) (v := ?_) (a' := ?_) #[true, false, false, false, false, false, false, false, false, false, false] rfl rfl (any_of HT_.out (by kernel_rfl)) (fun _ _ _ h => h) (Or.inl ⟨by rfl, ?_⟩) ?_ ?_
      rotate_left
      · intro w'
        go_simp
        with_reducible rfl
      rotate_left
      · simp only [Act.put, List.setIfInBounds_toArray, List.set_cons_zero, List.set_cons_succ, i64_w, i32_w]
        rfl
      refine pure_ (i := 1) (N := some 63) (v := ?_) (a' := ?_) #[true, true, false, false, false, false, false, false, false, false, false] rfl rfl (any_of HT_.out (by kernel_rfl)) (fun _ _ _ h => h) (Or.inl ⟨by rfl, ?_⟩) ?_ ?_
      rotate_left
      · intro w'
        go_simp
        with_reducible rfl
      rotate_left
      · simp only [Act.put, List.setIfInBounds_toArray, List.set_cons_zero, List.set_cons_succ, i64_w, i32_w]
        rfl
      refine pure_ (i := 2) (N := some 64) (v := ?_) (a' := ?_) #[true, true, true, false, false, false, false, false, false, false, false] rfl rfl (any_of HT_.out (by kernel_rfl)) (fun _ _ _ h => h) (Or.inl ⟨by rfl, ?_⟩) ?_ ?_
      rotate_left
      · intro w'
        go_simp
        with_reducible rfl
      rotate_left
      · simp only [Act.put, List.setIfInBounds_toArray, List.set_cons_zero, List.set_cons_succ, i64_w, i32_w]
        rfl
      refine take_ (i := 3) (N := some 65) (v := ?_) (a' := ?_) #[true, true, true, true, false, false, false, false, false, false, false] rfl rfl (take_ofW HT_.out HW_.out (by kernel_rfl)) (fun _ _ _ h => h) (Or.inl ⟨by rfl, ?_⟩) hHeld ?_ ?_
      rotate_left
      · rintro w' ⟨s0, s1, s2, s3, s4, s5, s6, s7⟩
        go_simp
        with_reducible rfl
      rotate_left
      · simp only [Act.put, List.setIfInBounds_toArray, List.set_cons_zero, List.set_cons_succ, i64_w, i32_w]
        rfl
      refine take_ (i := 4) (N := some 66) (v := ?_) (a' := ?_) #[true, true, true, true, true, false, false, false, false, false, false] rfl rfl (take_ofW HT_.out HW_.out (by kernel_rfl)) (fun _ _ _ h => h) (Or.inl ⟨by rfl, ?_⟩) hHeld ?_ ?_
      rotate_left
      · rintro w' ⟨s0, s1, s2, s3, s4, s5, s6, s7⟩
        go_simp
        with_reducible rfl
      rotate_left
      · simp only [Act.put, List.setIfInBounds_toArray, List.set_cons_zero, List.set_cons_succ, i64_w, i32_w]
        rfl
      refine pure_ (i := 5) (N := some 67) (v := ?_) (a' := ?_) #[true, true, true, true, true, true, false, false, false, false, false] rfl rfl (any_of HT_.out (by kernel_rfl)) (fun _ _ _ h => h) (Or.inl ⟨by rfl, ?_⟩) ?_ ?_
      rotate_left
      · intro w'
        go_simp
        with_reducible rfl
      rotate_left
      · simp only [Act.put, List.setIfInBounds_toArray, List.set_cons_zero, List.set_cons_succ, i64_w, i32_w]
        rfl
      refine pure_ (i := 6) (N := some 68) (v := ?_) (a' := ?_) #[true, true, true, true, true, true, true, false, false, false, false] rfl rfl (any_of HT_.out (by kernel_rfl)) (fun _ _ _ h => h) (Or.inl ⟨by rfl, ?_⟩) ?_ ?_
      rotate_left
      · intro w'
        go_simp
        with_reducible rfl
      rotate_left
      · simp only [Act.put, List.setIfInBounds_toArray, List.set_cons_zero, List.set_cons_succ, i64_w, i32_w]
        rfl
      refine pure_ (i := 7) (N := some 69) (v := ?_) (a' := ?_) #[true, true, true, true, true, true, true, true, false, false, false] rfl rfl (any_of HT_.out (by kernel_rfl)) (fun _ _ _ h => h) (Or.inl ⟨by rfl, ?_⟩) ?_ ?_
      rotate_left
      · intro w'
        go_simp
        with_reducible rfl
      rotate_left
      · simp only [Act.put, List.setIfInBounds_toArray, List.set_cons_zero, List.set_cons_succ, i64_w, i32_w]
        rfl
      refine take_ (i := 8) (N := some 70) (v := ?_) (a' := ?_) #[true, true, true, true, true, true, true, true, true, false, false] rfl rfl (take_ofW HT_.out HW_.out (by kernel_rfl)) (fun _ _ _ h => h) (Or.inl ⟨by rfl, ?_⟩) hHeld ?_ ?_
      rotate_left
      · rintro w' ⟨s0, s1, s2, s3, s4, s5, s6, s7⟩
        go_simp
        with_reducible rfl
      rotate_left
      · simp only [Act.put, List.setIfInBounds_toArray, List.set_cons_zero, List.set_cons_succ, i64_w, i32_w]
        rfl
      refine one_ (i := 9) (N := some 71) #[true, true, true, true, true, true, true, true, true, true, false] rfl rfl (one_of HT_.out (by kernel_rfl)) (by decide) (fun K hK => ?_)
      refine goes_ Try.func41 (by kernel_rfl) rfl #[.agg #[.pointer (some ⟨kb, 0, none⟩), .string kp], .agg #[.slice A0 N0 c0, .slice A1 N1 c1, .slice A2 N2 c2, .slice (some ad) M c3, .slice A4 N4 c4], .int .i64 (pj : Int)] (by rfl) rfl rfl (by (try simp only [List.map_toArray, List.map_cons, List.map_nil]); first | done | rfl) ?_
      refine q7.out.mono ?_
      rintro e wz ⟨rfl, hbz⟩
      have HZ := Aside0.mk hbz
      have h1 : (fun Z => Z.cell? ⟨g, j * 2, none⟩ = some (.pointer (some ⟨kb, 0, none⟩)) ∧ Z.cell? ⟨g, j * 2 + 1, none⟩ = some (.string kp) ∧ Z.cell? ⟨w.heap.size + 1, 0, none⟩ = some (.slice A0 N0 c0) ∧ Z.cell? ⟨w.heap.size + 1, 1, none⟩ = some (.slice A1 N1 c1) ∧ Z.cell? ⟨w.heap.size + 1, 2, none⟩ = some (.slice A2 N2 c2) ∧ Z.cell? ⟨w.heap.size + 1, 3, none⟩ = some (.slice (some ad) M c3) ∧ Z.cell? ⟨w.heap.size + 1, 4, none⟩ = some (.slice A4 N4 c4) ∧ Z.cell? (ai.add j) = some (.int .i64 (pj : Int))) wz := ⟨(Kept.of hbz).cell r0, (Kept.of hbz).cell r1, (Kept.of hbz).cell x0, (Kept.of hbz).cell x1, (Kept.of hbz).cell x2, (Kept.of hbz).cell x3, (Kept.of hbz).cell x4, (Kept.of hbz).cell ri⟩
      clear hbz
      refine ⟨_, rfl, ?_⟩
      clear hHeld
      refine hK.out _ _ h1 (fun hHeld => ?_)
      clear hK K
      refine norm_ (a' := ?_) ?_ ?_
      rotate_left
      · show Act.put _ (some 71) _ = _
        simp only [Act.put, List.setIfInBounds_toArray, List.set_cons_zero, List.set_cons_succ, i64_w, i32_w]
        rfl
      refine pure_ (i := 10) (N := some 72) (v := ?_) (a' := ?_) #[true, true, true, true, true, true, true, true, true, true, true] rfl rfl (any_of HT_.out (by kernel_rfl)) (fun _ _ _ h => h) (Or.inl ⟨by rfl, ?_⟩) ?_ ?_
      rotate_left
      · intro w'
        go_simp
        with_reducible rfl
      rotate_left
      · simp only [Act.put, List.setIfInBounds_toArray, List.set_cons_zero, List.set_cons_succ, i64_w, i32_w]
        rfl
      refine done_ (done_of HT_.out (by kernel_rfl)) ?_
      clear hHeld h1 r0 r1 x0 x1 x2 x3 x4 ri q7 HT_ HW_
      go_wp2_with fail
      go_roundg (np - j)
      case measure => have := HQ.out; omega
      case rel => exact ⟨j + 1, by simp, ⟨by have := HQ.out; omega⟩, ⟨T.belowAt (below_drew HW.out) HZ.out⟩⟩
    · have hin : j = np := by have := HQ.out; omega
      subst hin
      go_wp2_with fail
      go_ret
      exact ⟨rfl, T.belowAt HB5.out HW.out⟩
end Go.Proofs.Ytjhgknagmiekeaa.N
set_option linter.unusedVariables false
set_option linter.unusedSimpArgs false
namespace Go.Proofs.Ytjhgknagmiekeaa.N
open Go.RowKit Go.Lib Go.Proofs
open Go.Proofs.Ytjhgknagmiekeaa.T
open Go.Proofs.Ytjhgknagmiekeaa.F (AtQ places places_len atQ_root)
open Go.Proofs.YtjhgknagmiekeaaW.PrintWords hiding Kept blk_cell
theorem valsKid {n k : Nd} (ho : Ok n) (h : IntVals n) (hk : k ∈ n.kids) : IntVals k := fun r l e => h (L k.label ++ r) l (by rw [findT_kid ho hk]; exact e)
theorem shownC (t : Rt) (hok : Rok t) (hl : t.ks.length < 100000000000) (hpl : t.ps.length < 1000000000000) (root : Nd) (hg : T.Good root) (hv : IntVals root) (hag : Agree root t) (v0 v1 v2 v3 v4 : Value) :
    ∀ (N : Nat) (n : Nd) (p : ByteArray) (B i : Nat) (q : List UInt8) (w : World), nsz n ≤ N → NdAt w n → Ok n → IntVals n → Fits n B → p.size + (B - n.label.size) < 9000000000000000000 → AtQ (t.ps.map L) i q n → L p = q ++ L n.label → (∀ r, findT root (L p ++ r) = findT n r) → RtAt w t v0 v1 v2 v3 v4 →
      Calls Try.prog 41 #[nodeV n.b p, .agg #[v0, v1, v2, v3, v4], .int .i64 (i : Int)] w (ShownOk w) := by
  intro N
  induction N with
  | zero =>
    intro n p B i q w hN
    cases n with
    | mk _ _ _ ks _ => exfalso; unfold nsz at hN; omega
  | succ N ih =>
    intro n p B i q w hN hn ho hvn hf hB hat hp hfr hm
    have hpath := hat.path
    rw [← hp] at hpath
    obtain ⟨hi0, ei⟩ := List.getElem?_eq_some_iff.1 hpath
    have hi : i < t.ps.length := by rw [List.length_map] at hi0; exact hi0
    have hpi : gd t.ps i = p := by
      rw [List.getElem_map] at ei
      rw [gd_get hi]
      exact L_inj ei
    have hfa : ∀ k ∈ n.kids, k.label.size ≤ B - n.label.size ∧ Fits k (B - n.label.size) := fun k hk => by
      have h1 := hf.parts.2.mem k hk
      have h2 := h1.parts.1
      exact ⟨by omega, h1⟩
    have hvt : valT root (L p) = n.leaf.map (fun l => l.val) := by
      have := hfr []
      rw [List.append_nil, findT_nil] at this
      unfold valT
      rw [this]
    have hla : ∃ x ok, lookV n.leaf = .tuple #[.int .i64 x, .bool ok] ∧ gotV (valT root (L p)) = .tuple #[.int .i64 x, .bool ok] := by
      rw [hvt]
      cases e1 : n.leaf with
      | none => exact ⟨0, false, rfl, rfl⟩
      | some l =>
        obtain ⟨v, hv2⟩ := hvn [] l (by rw [findT_nil]; exact e1)
        exact ⟨v, true, by show Value.tuple #[l.val, .bool true] = _; rw [hv2], by show Value.tuple #[l.val, .bool true] = _; rw [hv2]⟩
    obtain ⟨x, ok, hlk, hgv⟩ := hla
    have hkg := hat.kids ho
    rw [← hp] at hkg
    refine shown_step w n p hn ho x ok hlk (fun k hk => by have := (hfa k hk).1; omega) t hok hl hpl root hg hv hag v0 v1 v2 v3 v4 hm i hi hpi hgv (places (i + 1) n.kids) hkg (places_len _ _) ?_
    intro j hj hj2 W hK
    have hk : n.kids[j] ∈ n.kids := List.getElem_mem _
    have hfk := hfa _ hk
    have hsz := nsz_kid hk
    have hatk := hat.kid ho j hj
    rw [← hp] at hatk
    refine ih n.kids[j] (p ++ n.kids[j].label) (B - n.label.size) _ (L p) W (by omega) (NdAt.keep (Kept.of hK) _ (hn.parts.choose_spec.2.2.2.mem _ hk)) (ho.parts.2.2.get _ hk) (valsKid ho hvn hk) hfk.2 ?_ hatk (L_append _ _) (fun r => ?_) (hm.below hK)
    · rw [ByteArray.size_append]
      have := hfk.1
      omega
    · rw [L_append, List.append_assoc, hfr, findT_kid ho hk]
end Go.Proofs.Ytjhgknagmiekeaa.N
set_option linter.unusedVariables false
set_option linter.unusedSimpArgs false
namespace Go.Proofs.Ytjhgknagmiekeaa.F
open Go.RowKit Go.Lib Go.Proofs Go.ChangeMaps
open Go.Proofs.Ytjhgknagmiekeaa.T
open Go.Proofs.YtjhgknagmiekeaaW.PrintWords hiding blk_cell Kept
open Go.Proofs.Ytjhgknagmiekeaa.V (FarB farB_nd farB_nds)
theorem run_store_func {P : Program} {w : World} {a : Addr} {m : Mode} (f : Fn) (x y : Array Value) : (store a (.func f x y) m).run P w = stored P w a (.func f x y) m := run_store P w a _ m rfl
attribute [local go_sem] run_store_func
end Go.Proofs.Ytjhgknagmiekeaa.F
set_option linter.unusedVariables false
set_option linter.unusedSimpArgs false
namespace Go.Proofs.Ytjhgknagmiekeaa.N
open Go.RowKit Go.Lib Go.Proofs
open Go.Proofs.Ytjhgknagmiekeaa.K Go.Proofs.YtjhgknagmiekeaaW.PrintLast
open Go.Proofs.YtjhgknagmiekeaaW.PrintWords hiding Kept
open Go.Proofs.Ytjhgknagmiekeaa.T (L Nd Fine IntVals valT wasV All findT Tr ptr cntF onC)
open Go.Proofs.Ytjhgknagmiekeaa.F (insF delF Anew Kb)
attribute [local go_sem] Oper.semAt_some
end Go.Proofs.Ytjhgknagmiekeaa.N
set_option linter.unusedVariables false
set_option linter.unusedSimpArgs false
namespace Go.Proofs.Ytjhgknagmiekeaa.T
open Go.RowKit Go.Lib Go.Proofs Go.Proofs.YtjhgknagmiekeaaW.PrintWords
def kAB : ByteArray := ⟨#[97, 98]⟩
def kABC : ByteArray := ⟨#[97, 98, 99]⟩
def kAX : ByteArray := ⟨#[97, 120]⟩
def kC : ByteArray := ⟨#[99]⟩
def kA : ByteArray := ⟨#[97]⟩
def kB : ByteArray := ⟨#[98]⟩
def kX : ByteArray := ⟨#[120]⟩
def sh0 (b : Nat) (m : Value) : Nd := .mk b ⟨#[]⟩ none [] m
def sh1 (b b1 : Nat) (l0 : Lf) (m m1 : Value) : Nd := .mk b ⟨#[]⟩ none [.mk b1 kAB (some l0) [] m1] m
def sh2 (b b1 b2 : Nat) (l0 l1 : Lf) (m m1 m2 : Value) : Nd := .mk b ⟨#[]⟩ none [.mk b1 kAB (some l0) [.mk b2 kC (some l1) [] m2] m1] m
def sh3 (b b1 b2 b3 b4 : Nat) (l0 l1 l2 : Lf) (m m1 m2 m3 m4 : Value) : Nd := .mk b ⟨#[]⟩ none [.mk b3 kA none [.mk b1 kB (some l0) [.mk b2 kC (some l1) [] m2] m1, .mk b4 kX (some l2) [] m4] m3] m
theorem step1 (b : Nat) (m : Value) (l : Lf) (ns : Sup) : insN (sh0 b m) kAB l ns = sh1 (ns 0).1 (ns 1).1 l (ns 0).2 (ns 1).2 := by
  rw [insN, dif_neg (by decide)]
  rfl
theorem step2 (b b1 : Nat) (l0 : Lf) (m m1 : Value) (l : Lf) (ns : Sup) : insN (sh1 b b1 l0 m m1) kABC l ns = sh2 (ns 0).1 (ns 1).1 (ns 2).1 l0 l (ns 0).2 (ns 1).2 (ns 2).2 := by
  have e1 : kidN (sh1 b b1 l0 m m1) kABC = some (.mk b1 kAB (some l0) [] m1) := rfl
  have e2 : insN (.mk b1 kAB (some l0) [] m1) kC l (fun j => ns (j + 1)) = .mk (ns 1).1 kAB (some l0) [.mk (ns 2).1 kC (some l) [] (ns 2).2] (ns 1).2 := by
    rw [insN, dif_neg (by decide)]
    rfl
  have e3 : kABC.extract (comB kAB kABC) kABC.size = kC := by decide
  rw [insN, dif_neg (by decide)]
  simp only [e1]
  have e4 : 0 < comB (Nd.mk b1 kAB (some l0) [] m1).label kABC ∧ comB (Nd.mk b1 kAB (some l0) [] m1).label kABC = (Nd.mk b1 kAB (some l0) [] m1).label.size := by
    show 0 < comB kAB kABC ∧ comB kAB kABC = kAB.size
    decide
  rw [dif_pos e4]
  have e5 : kABC.extract (comB (Nd.mk b1 kAB (some l0) [] m1).label kABC) kABC.size = kC := e3
  rw [e5, e2]
  rfl
theorem step3 (b b1 b2 : Nat) (l0 l1 : Lf) (m m1 m2 : Value) (l : Lf) (ns : Sup) : insN (sh2 b b1 b2 l0 l1 m m1 m2) kAX l ns = sh3 (ns 0).1 (ns 2).1 b2 (ns 1).1 (ns 3).1 l0 l1 l (ns 0).2 m1 m2 (ns 1).2 (ns 3).2 := by
  have e1 : kidN (sh2 b b1 b2 l0 l1 m m1 m2) kAX = some (.mk b1 kAB (some l0) [.mk b2 kC (some l1) [] m2] m1) := rfl
  rw [insN, dif_neg (by decide)]
  simp only [e1]
  have e4 : ¬ (0 < comB (Nd.mk b1 kAB (some l0) [.mk b2 kC (some l1) [] m2] m1).label kAX ∧ comB (Nd.mk b1 kAB (some l0) [.mk b2 kC (some l1) [] m2] m1).label kAX = (Nd.mk b1 kAB (some l0) [.mk b2 kC (some l1) [] m2] m1).label.size) := by
    show ¬ (0 < comB kAB kAX ∧ comB kAB kAX = kAB.size)
    decide
  rw [dif_neg e4]
  rfl
theorem had1 (b : Nat) (m : Value) : findN (sh0 b m) kAB = none := by
  rw [findN, dif_neg (by decide)]
  rfl
theorem had2 (b b1 : Nat) (l0 : Lf) (m m1 : Value) : findN (sh1 b b1 l0 m m1) kABC = none := by
  have e1 : kidN (sh1 b b1 l0 m m1) kABC = some (.mk b1 kAB (some l0) [] m1) := rfl
  have e2 : findN (.mk b1 kAB (some l0) [] m1) kC = none := by
    rw [findN, dif_neg (by decide)]
    rfl
  rw [findN, dif_neg (by decide)]
  simp only [e1]
  have e4 : 0 < comB (Nd.mk b1 kAB (some l0) [] m1).label kABC ∧ comB (Nd.mk b1 kAB (some l0) [] m1).label kABC = (Nd.mk b1 kAB (some l0) [] m1).label.size := by
    show 0 < comB kAB kABC ∧ comB kAB kABC = kAB.size
    decide
  have e5 : kABC.extract (comB (Nd.mk b1 kAB (some l0) [] m1).label kABC) kABC.size = kC := by
    show kABC.extract (comB kAB kABC) kABC.size = kC
    decide
  rw [dif_pos e4, e5, e2]
theorem had3 (b b1 b2 : Nat) (l0 l1 : Lf) (m m1 m2 : Value) : findN (sh2 b b1 b2 l0 l1 m m1 m2) kAX = none := by
  have e1 : kidN (sh2 b b1 b2 l0 l1 m m1 m2) kAX = some (.mk b1 kAB (some l0) [.mk b2 kC (some l1) [] m2] m1) := rfl
  rw [findN, dif_neg (by decide)]
  simp only [e1]
  have e4 : ¬ (0 < comB (Nd.mk b1 kAB (some l0) [.mk b2 kC (some l1) [] m2] m1).label kAX ∧ comB (Nd.mk b1 kAB (some l0) [.mk b2 kC (some l1) [] m2] m1).label kAX = (Nd.mk b1 kAB (some l0) [.mk b2 kC (some l1) [] m2] m1).label.size) := by
    show ¬ (0 < comB kAB kAX ∧ comB kAB kAX = kAB.size)
    decide
  rw [dif_neg e4]
theorem long3 (b b1 b2 b3 b4 : Nat) (l0 l1 l2 : Lf) (m m1 m2 m3 m4 : Value) : longN (sh3 b b1 b2 b3 b4 l0 l1 l2 m m1 m2 m3 m4) ⟨#[97, 98, 100]⟩ = some l0 := by kernel_rfl
theorem reach3 (b b1 b2 b3 b4 : Nat) (l0 l1 l2 : Lf) (m m1 m2 m3 m4 : Value) : reachN (sh3 b b1 b2 b3 b4 l0 l1 l2 m m1 m2 m3 m4) ⟨#[97, 121]⟩ = 1 := by kernel_rfl
end Go.Proofs.Ytjhgknagmiekeaa.T
set_option linter.unusedVariables false
set_option linter.unusedSimpArgs false
namespace Go.Proofs.Ytjhgknagmiekeaa.T
open Go.RowKit Go.Lib Go.Proofs Go.Proofs.YtjhgknagmiekeaaW.PrintWords
def key3 : Nat → ByteArray
  | 0 => kAB
  | 1 => kABC
  | _ => kAX
def Shape : Nat → Nd → Prop
  | 0, r => ∃ b m, r = sh0 b m
  | 1, r => ∃ b b1 l0 m m1, r = sh1 b b1 l0 m m1 ∧ l0.key = kAB ∧ l0.val = .int .i64 7
  | 2, r => ∃ b b1 b2 l0 l1 m m1 m2, r = sh2 b b1 b2 l0 l1 m m1 m2 ∧ l0.key = kAB ∧ l0.val = .int .i64 7
  | _, r => ∃ b b1 b2 b3 b4 l0 l1 l2 m m1 m2 m3 m4, r = sh3 b b1 b2 b3 b4 l0 l1 l2 m m1 m2 m3 m4 ∧ l0.key = kAB ∧ l0.val = .int .i64 7
theorem shape_next (i : Nat) (hi : i < 3) (r : Nd) (h : Shape i r) : findN r (key3 i) = none ∧ ∀ (l : Lf) ns, l.key = key3 i → l.val = .int .i64 (7 + (i : Int)) → Shape (i + 1) (insN r (key3 i) l ns) := by
  match i, hi, h with
  | 0, _, h =>
    obtain ⟨b, m, rfl⟩ := h
    exact ⟨had1 b m, fun l ns h1 h2 => ⟨_, _, l, _, _, step1 b m l ns, h1, h2⟩⟩
  | 1, _, h =>
    obtain ⟨b, b1, l0, m, m1, rfl, h1, h2⟩ := h
    exact ⟨had2 _ _ _ _ _, fun l ns _ _ => ⟨_, _, _, l0, l, _, _, _, step2 _ _ _ _ _ _ _, h1, h2⟩⟩
  | 2, _, h =>
    obtain ⟨b, b1, b2, l0, l1, m, m1, m2, rfl, h1, h2⟩ := h
    exact ⟨had3 _ _ _ _ _ _ _ _, fun l ns _ _ => ⟨_, _, _, _, _, l0, l1, l, _, _, _, _, _, step3 _ _ _ _ _ _ _ _ _ _, h1, h2⟩⟩
theorem key3_size (i : Nat) : (key3 i).size < 4000000000000 := by
  match i with
  | 0 => decide
  | 1 => decide
  | n + 2 => show kAX.size < _; decide
def threeO : Obj := .cells #[.string ⟨#[97, 98]⟩, .string ⟨#[97, 98, 99]⟩, .string ⟨#[97, 120]⟩] 9
theorem three_cell {w : World} {g : Nat} (h : w.heap[g]? = some threeO) (i : Nat) (hi : i < 3) : w.cell? ⟨g, i, none⟩ = some (.string (key3 i)) := by
  unfold threeO at h
  rw [blk_cell h]
  match i, hi with
  | 0, _ => rfl
  | 1, _ => rfl
  | 2, _ => rfl
set_option maxHeartbeats 8000000 in
set_option maxRecDepth 100000 in
theorem alive (w : World) : Calls Try.prog 36 #[] w fun e w' => e = .returned (.bool true) ∧ Below w.heap.size w w' := by
  have q0 := Aside0.mk (treeNew w)
  go_enter Try.func36, Try.ntmps36
  go_wp2_with (go_at_call 45; refine q0.out.mono ?_)
  rintro e w1 ⟨tb, b, m, rfl, ht, hm, hb1, hb2, hB⟩
  have q1 := Aside0.mk (treeLen w1 tb (emptyN b m) 0 ht)
  have H1 := Aside0.mk (And.intro ht hB)
  clear ht hm hb1 hb2 hB q0
  unfold ptr at q1 ⊢
  go_wp2_with (go_at_call 50; refine q1.out.mono ?_; rintro e w2 ⟨rfl, hw2⟩; subst hw2)
  clear q1
  have ht0 := H1.out.1.keep (Kept.of ((Below.refl _ w2).alloc (Nat.le_refl _) threeO))
  have HT0 := Aside0.mk ht0
  clear ht0
  go_loopg [1, 20] 4 (fun kq v1 v20 w' => ∃ (i tb : Nat) (root : Nd), v1 = .pointer (some ⟨tb, 0, none⟩) ∧ v20 = .int .i64 (i : Int) ∧ Aside0 (i + kq = 4 ∧ i ≤ 3) ∧ Aside0 (TrAt w' tb root i ∧ Good root ∧ Shape i root) ∧ Aside0 (w'.heap[w2.heap.size]? = some threeO ∧ Below w.heap.size w w'))
  case atStart => exact ⟨0, tb, emptyN b m, rfl, rfl, ⟨by omega⟩, ⟨HT0.out, good_empty b m, ⟨b, m, rfl⟩⟩, ⟨heap_alloc_new w2 _, H1.out.2.alloc H1.out.2.size _⟩⟩
  case round =>
    obtain ⟨i, tb, root, rfl, rfl, HI, HT, HB⟩ := hrel
    by_cases hi : i < 3
    · have cc := three_cell HB.out.1 i hi
      have hsn := shape_next i hi root HT.out.2.2
      have q2 := treeInsert wr tb root (i : Int) (7 + (i : Int)) (key3 i) HT.out.1 HT.out.2.1.ok HT.out.2.1.sm (key3_size i) (by omega) (by omega)
      have HSN := Aside0.mk hsn
      have hks := key3_size i
      rw [hsn.1] at q2
      obtain ⟨k, ek⟩ : ∃ k, key3 i = k := ⟨_, rfl⟩
      rw [ek] at q2 cc HSN hks
      have q3 := Aside0.mk q2
      clear hsn q2 ek
      unfold ptr at q3
      go_wp2_with (go_at_call 43; refine q3.out.mono ?_)
      rintro e w3 ⟨tb2, lb, m2, ns, had, old, rfl, ht, ho, h1, h2, h3, h4, h5⟩
      have eh : had = false := by simpa [hadOld] using congrArg Prod.fst ho
      subst eh
      have H2 := Aside0.mk (And.intro ht h5)
      clear ht ho h1 h2 h3 h4 h5 q3
      go_wp2_with fail
      go_roundg (3 - i)
      case measure => have := HI.out; omega
      case rel =>
        refine ⟨i + 1, tb2, _, rfl, by simp, ⟨by have := HI.out; omega⟩, ⟨?_, good_ins HT.out.2.1 k hks ⟨lb, k, .int .i64 (7 + (i : Int)), m2⟩ rfl ns, HSN.out.2 _ ns rfl rfl⟩, ⟨(Kept.of H2.out.2).at HB.out.1, HB.out.2.trans ⟨H2.out.2.os, H2.out.2.tape, H2.out.2.output, H2.out.2.size, fun x hx => H2.out.2.block x (by have := HB.out.2.size; omega)⟩⟩⟩
        have := H2.out.1
        exact this
    · have hi3 : i = 3 := by have := HI.out; omega
      subst hi3
      obtain ⟨b0, b1, b2, b3, b4, l0, l1, l2, m0, m1, m2, m3, m4, er, ek, ev⟩ := HT.out.2.2
      have q2 := treeLongest wr tb root 3 ⟨#[97, 98, 100]⟩ HT.out.1 HT.out.2.1.ok HT.out.2.1.sm HT.out.2.1.top (by decide)
      have el : longN root ⟨#[97, 98, 100]⟩ = some l0 := by rw [er]; exact long3 _ _ _ _ _ _ _ _ _ _ _ _ _
      have et : toldV (some l0) = .tuple #[.string ⟨#[97, 98]⟩, .int .i64 7, .bool true] := by show Value.tuple #[.string l0.key, l0.val, .bool true] = _; rw [ek, ev]; rfl
      rw [el, et] at q2
      have ere : reachN root ⟨#[97, 121]⟩ = 1 := by rw [er]; exact reach3 _ _ _ _ _ _ _ _ _ _ _ _ _
      have HE := Aside0.mk ere
      have q3 := Aside0.mk q2
      clear q2 el et er ek ev ere
      unfold ptr at q3
      go_wp2_with (go_at_call 33; refine q3.out.mono ?_)
      rintro e w3 ⟨rfl, B3⟩
      have ht3 := HT.out.1.keep (Kept.of B3)
      have q4 := Aside0.mk (treeLen w3 tb root 3 ht3)
      have q5 := treeReach w3 tb root 3 ⟨#[97, 121]⟩ ht3 HT.out.2.1.ok HT.out.2.1.sm HT.out.2.1.top (by decide)
      rw [HE.out] at q5
      have exr : (⟨#[97, 121]⟩ : ByteArray).extract 0 1 = ⟨#[97]⟩ := by decide
      rw [exr] at q5
      have q6 := Aside0.mk q5
      have HB3 := Aside0.mk B3
      clear B3 ht3 q5 q3 exr
      unfold ptr at q4 q6
      go_wp2_with (first
        | (go_at_call 50; refine q4.out.mono ?_; rintro e w4 ⟨rfl, hw4⟩; subst hw4)
        | (go_at_call 89; refine q6.out.mono ?_; rintro e w5 ⟨rfl, _, B5⟩; have HB5 := Aside0.mk B5; clear B5))
      go_ret
      have hs3 := HB.out.2.size
      exact ⟨rfl, (HB.out.2.trans ⟨HB3.out.os, HB3.out.tape, HB3.out.output, HB3.out.size, fun x hx => HB3.out.block x (by omega)⟩).trans ⟨HB5.out.os, HB5.out.tape, HB5.out.output, HB5.out.size, fun x hx => HB5.out.block x (by have := HB3.out.size; omega)⟩⟩
end Go.Proofs.Ytjhgknagmiekeaa.T
set_option linter.unusedVariables false
set_option linter.unusedSimpArgs false
namespace Go.Proofs.Ytjhgknagmiekeaa.N
open Go.RowKit Go.Lib Go.Proofs
open Go.Proofs.Ytjhgknagmiekeaa.K Go.Proofs.YtjhgknagmiekeaaW.PrintLast
open Go.Proofs.YtjhgknagmiekeaaW.PrintWords hiding Kept
open Go.Proofs.Ytjhgknagmiekeaa.T (L Nd Fine IntVals valT wasV All findT Tr ptr Strs numV lastI nodeV rootC nsz)
open Go.Proofs.Ytjhgknagmiekeaa.F (atQ_root paths_len)
theorem shownRoot (w : World) (tb : Nat) (root : Nd) (ht : Tr w tb root) (t : Rt) (hok : RokP t) (hag : Agree root t) (hl : t.ks.length < 100000000000) (v0 v1 v2 v3 v4 : Value) (hm : RtAt w t v0 v1 v2 v3 v4) : Calls Try.prog 41 #[nodeV root.b ⟨#[]⟩, .agg #[v0, v1, v2, v3, v4], .int .i64 0] w (ShownOk w) := by
  have hf := ht.fine
  have e0 : L root.label = [] := List.length_eq_zero_iff.1 (by rw [T.L_len]; exact hf.top)
  refine shownC t hok.toRok hl (by have := hok.p; omega) root hf.toGood ht.vals hag v0 v1 v2 v3 v4 (nsz root) root ⟨#[]⟩ 3999999999999 0 [] w (Nat.le_refl _) ht.at_.root hf.ok ht.vals hf.fits ?_ (atQ_root hf ht.vals hok hag) ?_ (fun r => ?_) hm
  · have e1 : (⟨#[]⟩ : ByteArray).size = 0 := rfl
    omega
  · rw [e0]; rfl
  · show findT root ([] ++ r) = _
    rw [List.nil_append]
def sp_T : Bool × List (List Nat × List Nat) := (true, [([], []), ([0], [0]), ([1], [1]), ([2], [2]), ([3, 2, 2], [2, 3]), ([2], [2]), ([4, 5, 4, 2], [2, 4, 5]), ([2, 6], [2, 6]), ([7, 6, 0, 1, 2, 3, 4, 5, 6, 7], [7])])
def sp_B : List Nat := [0, 1, 3, 7, 15, 7, 63, 127, 255]
theorem sp_bits : waitsOk sp_T.2 sp_B = true := by kernel_rfl
theorem sp_tab : rtab .any (opsOf Try.f10 13) = sp_T := by kernel_rfl
attribute [local go_sem] Oper.semAt_some
set_option maxRecDepth 100000 in
set_option maxHeartbeats 4000000 in
theorem shapeLaw (A : Option Addr) (c : Nat) (ks : List ByteArray) (A1 : Option Addr) (c1 : Nat) (gs : List ByteArray) (w : World) (hA : Strs w A ks) (hA1 : Strs w A1 gs) (hlen : ks.length < 1000000000) (hs : ∀ k ∈ ks, k.size < 4000000000000) (hlg : gs.length < 1000000000) (hsg : ∀ k ∈ gs, k.size < 4000000000000) :
    Calls Try.prog 10 #[.slice A ks.length c, .slice A1 gs.length c1] w fun e w' => e = .returned (.bool true) ∧ Below w.heap.size w w' := by
  have qa := Aside0.mk (T.alive w)
  have qb := Aside0.mk (fun w1 (h : Below w.heap.size w w1) => T.builtC w1 A c ks (hA.keep (T.Kept.of h)) (by omega) hs)
  have qm := Aside0.mk (fun w1 (h : Below w.heap.size w w1) => modelledC w1 A c ks (hA.keep (T.Kept.of h)) (by omega) hs)
  have HS := Aside0.mk (And.intro hs (And.intro hsg hA1))
  obtain ⟨n, en⟩ : ∃ n, ks.length = n := ⟨_, rfl⟩
  obtain ⟨m, em⟩ : ∃ m, gs.length = m := ⟨_, rfl⟩
  rw [en] at qb qm hlen ⊢
  rw [em] at hlg ⊢
  have HN := Aside0.mk (And.intro en em)
  clear hA hA1 hs hsg en em
  unfold ptr at qb
  go_enter Try.func10, Try.ntmps10
  go_wp2_with fail
  go_at_call 36
  refine qa.out.mono ?_
  rintro e w0 ⟨rfl, hb0⟩
  have HB0 := Aside0.mk hb0
  clear hb0 qa
  go_wp2_with fail
  go_at_call 37
  refine (qb.out _ HB0.out).mono ?_
  rintro e w1 ⟨tb, root, rfl, ht, hv, hl, hb⟩
  have HB1 := Aside0.mk (T.belowAt HB0.out hb)
  have H1 := Aside0.mk (And.intro ht (And.intro hv hl))
  clear ht hv hl hb qb
  go_wp2_with fail
  go_at_call 38
  refine (qm.out _ HB1.out).mono ?_
  rintro e w2 ⟨t, v0, v1, v2, v3, v4, rfl, hm, hok, hag, hl, hb⟩
  obtain ⟨⟨E0, y0, g0, rfl⟩, ⟨E1, y1, g1, rfl⟩, ⟨E2, y2, g2, rfl⟩, ⟨E3, y3, g3, rfl⟩, ⟨E4, y4, g4, rfl⟩⟩ := hm.forms
  have HB2 := Aside0.mk (T.belowAt HB1.out hb)
  have htr := H1.out.1.keep (T.Kept.of hb)
  have hag2 : Agree root t := by
    obtain ⟨g1, g2, g3⟩ := ghost_ok ks HS.out.1 n (by rw [HN.out.1]; exact Nat.le_refl _)
    refine agree_of htr.fine.toGood htr.vals hok.toRok ((agreeF_of g1.toGood g2 hag).imp (fun q => ?_))
    rw [H1.out.2.1, g3]
    (try rw [HN.out.1])
  have H2 := Aside0.mk (And.intro htr (And.intro hok (And.intro hag2 (And.intro hm hl))))
  clear hm hok hag hl hb htr hag2 qm
  obtain ⟨C, eC⟩ : ∃ C, w2.heap.size = C := ⟨_, rfl⟩
  go_upto_region 5 with fail
  obtain ⟨W3, e3⟩ : ∃ W3, w2.alloc (Obj.cells #[.slice E0 y0 g0, .slice E1 y1 g1, .slice E2 y2 g2, .slice E3 y3 g3, .slice E4 y4 g4] 28) = W3 := ⟨_, rfl⟩
  have hu3 : W3.heap[C]? = some (.cells #[.slice E0 y0 g0, .slice E1 y1 g1, .slice E2 y2 g2, .slice E3 y3 g3, .slice E4 y4 g4] 28 (0, 0)) := by rw [← e3, ← eC]; exact World.alloc_heap_new w2 _
  have hb23 : Below w2.heap.size w2 W3 := by rw [← e3]; exact (Below.refl _ w2).alloc (Nat.le_refl _) _
  have hC : w.heap.size ≤ C := by rw [← eC]; exact HB2.out.size
  have H3 := Aside0.mk (And.intro hu3 (And.intro (T.belowAt HB2.out hb23) (And.intro (H2.out.1.keep (T.Kept.of hb23)) ((H2.out.2.2.2.1.off.below hb23).imp (M' := fun k => k = C) (fun k _ h => .inr (by rw [h]; exact Nat.le_of_eq eC))))))
  rw [e3]
  clear e3 hb23 eC hu3
  go_wp2_with fail
  go_loopg [5, 17] (m + 1) (fun kq v5 v17 W => ∃ (j tb : Nat) (root : Nd) (t : Rt) (E0 E1 E2 E3 E4 : Option Addr) (y0 y1 y2 y3 y4 g0 g1 g2 g3 g4 : Nat), v5 = .pointer (some ⟨tb, 0, none⟩) ∧ v17 = .int .i64 (j : Int) ∧ Aside0 (j + kq = m + 1 ∧ j ≤ m) ∧ Aside0 (Tr W tb root ∧ RokP t ∧ Agree root t ∧ t.ks.length ≤ n ∧ (All root).length ≤ n) ∧ Aside0 (W.heap[C]? = some (.cells #[.slice E0 y0 g0, .slice E1 y1 g1, .slice E2 y2 g2, .slice E3 y3 g3, .slice E4 y4 g4] 28 (0, 0))) ∧ Aside0 (Below w.heap.size w W) ∧ Aside0 (RtOff (fun k => k = C) W t (.slice E0 y0 g0) (.slice E1 y1 g1) (.slice E2 y2 g2) (.slice E3 y3 g3) (.slice E4 y4 g4)))
  case atStart => exact ⟨0, tb, root, t, _, _, _, _, _, _, _, _, _, _, _, _, _, _, _, rfl, rfl, ⟨by omega⟩, ⟨H3.out.2.2.1, H2.out.2.1, H2.out.2.2.1, H2.out.2.2.2.2, H1.out.2.2⟩, ⟨H3.out.1⟩, ⟨H3.out.2.1⟩, ⟨H3.out.2.2.2⟩⟩
  case round =>
    obtain ⟨j, tb, root, t, E0, E1, E2, E3, E4, y0, y1, y2, y3, y4, g0, g1, g2, g3, g4, rfl, rfl, HI, HT, HU, HB, HO⟩ := hrel
    by_cases hi : j < m
    · have hi' : j < gs.length := by rw [HN.out.2]; exact hi
      obtain ⟨ad, ea, ka⟩ := (HS.out.2.2.keep (T.Kept.of HB.out)) j hi'
      obtain ⟨k, ek⟩ : ∃ k, gs[j] = k := ⟨_, rfl⟩
      rw [ek] at ka
      have hks : k.size < 4000000000000 := HS.out.2.1 k (by rw [← ek]; exact List.getElem_mem _)
      subst ea
      obtain ⟨o, eo⟩ : ∃ o, valT root (L k) = o := ⟨_, rfl⟩
      have q1 := T.delC wr tb root HT.out.1 k hks (by have := HT.out.2.2.2.2; omega)
      rw [eo] at q1
      have HF := Aside0.mk (fun tb' => wasV_form tb' o)
      have q2 := Aside0.mk q1
      have q3 := Aside0.mk (fun W (h : Below wr.heap.size wr W) => delRtC (fun k => k = C) W t HT.out.2.1 _ _ _ _ _ ((HO.out.below h).imp (fun k _ h => .inl h)) k 0 (by omega) (by have := HT.out.2.2.2.1; omega))
      clear ek hi' q1 eo
      unfold ptr at q2
      go_wp2_with (go_at_call 39; refine q2.out.mono ?_)
      rintro e w4 ⟨tb2, root2, rfl, ht2, hv2, hl2, hb4⟩
      obtain ⟨oa, ob, eab⟩ := HF.out tb2
      rw [eab]
      have H4 := Aside0.mk (And.intro ht2 (And.intro hv2 (And.intro hl2 hb4)))
      have bu4 := (hb4.block _ (Array.getElem?_eq_some_iff.1 HU.out).1).trans HU.out
      have m0 : w4.cell? ⟨C, 0, none⟩ = some (.slice E0 y0 g0) := by rw [blk_cell bu4]; rfl
      have m1 : w4.cell? ⟨C, 1, none⟩ = some (.slice E1 y1 g1) := by rw [blk_cell bu4]; rfl
      have m2 : w4.cell? ⟨C, 2, none⟩ = some (.slice E2 y2 g2) := by rw [blk_cell bu4]; rfl
      have m3 : w4.cell? ⟨C, 3, none⟩ = some (.slice E3 y3 g3) := by rw [blk_cell bu4]; rfl
      have m4 : w4.cell? ⟨C, 4, none⟩ = some (.slice E4 y4 g4) := by rw [blk_cell bu4]; rfl
      have HU4 := Aside0.mk bu4
      clear ht2 hv2 hl2 hb4 q2 eab HF bu4
      unfold ptr
      go_wp2_with (go_at_call 40; refine (q3.out _ H4.out.2.2.2).mono ?_)
      rintro e w5 ⟨t', old, b', nx', u0, u1, u2, u3, u4, rfl, ho', hk', hd', hb5⟩
      obtain ⟨⟨B0, k0, d0, rfl⟩, ⟨B1, k1, d1, rfl⟩, ⟨B2, k2, d2, rfl⟩, ⟨B3, k3, d3, rfl⟩, ⟨B4, k4, d4, rfl⟩⟩ := ho'.here.forms
      have bu5 := (hb5.block _ (Array.getElem?_eq_some_iff.1 HU4.out).1).trans HU4.out
      have H5 := Aside0.mk (And.intro ho' (And.intro hk' (And.intro hd' (And.intro hb5 bu5))))
      have f0 : w5.frozen? ⟨C, 0, none⟩ = false := blk_frozen bu5 0
      have f1 : w5.frozen? ⟨C, 1, none⟩ = false := blk_frozen bu5 1
      have f2 : w5.frozen? ⟨C, 2, none⟩ = false := blk_frozen bu5 2
      have f3 : w5.frozen? ⟨C, 3, none⟩ = false := blk_frozen bu5 3
      have f4 : w5.frozen? ⟨C, 4, none⟩ = false := blk_frozen bu5 4
      have z0 : w5.cell? ⟨C, 0, none⟩ = some (.slice E0 y0 g0) := by rw [blk_cell bu5]; rfl
      have z1 : w5.cell? ⟨C, 1, none⟩ = some (.slice E1 y1 g1) := by rw [blk_cell bu5]; rfl
      have z2 : w5.cell? ⟨C, 2, none⟩ = some (.slice E2 y2 g2) := by rw [blk_cell bu5]; rfl
      have z3 : w5.cell? ⟨C, 3, none⟩ = some (.slice E3 y3 g3) := by rw [blk_cell bu5]; rfl
      have z4 : w5.cell? ⟨C, 4, none⟩ = some (.slice E4 y4 g4) := by rw [blk_cell bu5]; rfl
      clear ho' hk' hd' hb5 bu5 m0 m1 m2 m3 m4 q3
      go_upto_region 12 with fail
      clear f0 f1 f2 f3 f4 z0 z1 z2 z3 z4
      obtain ⟨W5, e5⟩ : ∃ W5, V.set5 w5 C (.slice B0 k0 d0) (.slice B1 k1 d1) (.slice B2 k2 d2) (.slice B3 k3 d3) (.slice B4 k4 d4) = W5 := ⟨_, rfl⟩
      have e6 : ((((w5.setCell { block := C, off := 0 } (.slice B0 k0 d0)).setCell { block := C, off := 1 } (.slice B1 k1 d1)).setCell { block := C, off := 2 } (.slice B2 k2 d2)).setCell { block := C, off := 3 } (.slice B3 k3 d3)).setCell { block := C, off := 4 } (.slice B4 k4 d4) = W5 := e5
      have h5 : Aside0 (W5.heap[C]? = some (.cells #[.slice B0 k0 d0, .slice B1 k1 d1, .slice B2 k2 d2, .slice B3 k3 d3, .slice B4 k4 d4] 28 (0, 0)) ∧ (∀ k, k ≠ C → W5.heap[k]? = w5.heap[k]?) ∧ W5.heap.size = w5.heap.size) := ⟨by rw [← e5]; exact V.set5_at H5.out.2.2.2.2 _ _ _ _ _, fun k hk => by rw [← e5]; exact V.set5_far _ _ _ _ _ _ _ k hk, by rw [← e5]; simp [V.set5, T.size_setCell]⟩
      have hb5 : Aside0 (Below w.heap.size w W5) := ⟨by rw [← e5]; exact V.set5_below (T.belowAt (T.belowAt HB.out H4.out.2.2.2) H5.out.2.2.2.1) (by omega) _ _ _ _ _⟩
      rw [e6]
      clear e5 e6
      go_wp2_with fail
      go_roundg (m - j)
      case measure => have := HI.out; omega
      case rel =>
        have hfr : V.Far C w5 W5 := ⟨⟨_, _, _, _, _, H5.out.2.2.2.2, by simp⟩, fun k h _ => h5.out.2.1 k h⟩
        have hCs : C < w4.heap.size := (Array.getElem?_eq_some_iff.1 HU4.out).1
        refine ⟨j + 1, tb2, root2, t', B0, B1, B2, B3, B4, k0, k1, k2, k3, k4, d0, d1, d2, d3, d4, rfl, by simp, ⟨by have := HI.out; omega⟩, ⟨V.far_tr hfr (H4.out.1.keep (T.Kept.of H5.out.2.2.2.1)), H5.out.2.1, ?_, ?_, by have := H4.out.2.2.1; have := HT.out.2.2.2.2; omega⟩, ⟨h5.out.1⟩, hb5, ⟨?_⟩⟩
        · exact agree_out_of HT.out.1.fine HT.out.1.vals H4.out.1.fine H4.out.1.vals HT.out.2.1.toRok H5.out.2.1.toRok HT.out.2.2.1 H5.out.2.2.1 H4.out.2.1
        · have hlen : t'.ks.length ≤ t.ks.length := by
            rcases H5.out.2.2.1 with ⟨-, -, e, -⟩ | ⟨n, P, M, -, hn, -, -, e, -⟩
            · rw [e]; exact Nat.le_refl _
            · rw [e]
              show (cutAt t.ks n).length ≤ _
              rw [cutAt_len _ _ hn]; omega
          exact Nat.le_trans hlen HT.out.2.2.2.1
        · exact RtOff.set H5.out.1 (fun k hk => ⟨hk, by rw [hk]; exact hCs⟩) (b := C) rfl h5.out.2.2 h5.out.2.1
    · have hin : j = m := by have := HI.out; omega
      subst hin
      have bu := HU.out
      have m0 : wr.cell? ⟨C, 0, none⟩ = some (.slice E0 y0 g0) := by rw [blk_cell bu]; rfl
      have m1 : wr.cell? ⟨C, 1, none⟩ = some (.slice E1 y1 g1) := by rw [blk_cell bu]; rfl
      have m2 : wr.cell? ⟨C, 2, none⟩ = some (.slice E2 y2 g2) := by rw [blk_cell bu]; rfl
      have m3 : wr.cell? ⟨C, 3, none⟩ = some (.slice E3 y3 g3) := by rw [blk_cell bu]; rfl
      have m4 : wr.cell? ⟨C, 4, none⟩ = some (.slice E4 y4 g4) := by rw [blk_cell bu]; rfl
      have HBd := Aside0.mk (below_drew (Below.refl wr.heap.size wr))
      have q1 := Aside0.mk (fun W (h : Below wr.heap.size wr W) => rootC W tb root _ (HT.out.1.keep (T.Kept.of h)).at_)
      have q2 := Aside0.mk (fun W (h : Below wr.heap.size wr W) => shownRoot W tb root (HT.out.1.keep (T.Kept.of h)) t HT.out.2.1 HT.out.2.2.1 (by have := HT.out.2.2.2.1; omega) _ _ _ _ _ (HO.out.here.below h))
      obtain ⟨rb, erb⟩ : ∃ rb, root.b = rb := ⟨_, rfl⟩
      rw [erb] at q1 q2
      unfold nodeV ptr at q1 q2
      clear bu erb
      go_wp2_with fail
      refine start_ (n := 9) (S := (fun Z => Z.cell? ⟨C, 0, none⟩ = some (.slice E0 y0 g0) ∧ Z.cell? ⟨C, 1, none⟩ = some (.slice E1 y1 g1) ∧ Z.cell? ⟨C, 2, none⟩ = some (.slice E2 y2 g2) ∧ Z.cell? ⟨C, 3, none⟩ = some (.slice E3 y3 g3) ∧ Z.cell? ⟨C, 4, none⟩ = some (.slice E4 y4 g4))) (ds := []) #[false, false, false, false, false, false, false, false, false] (by kernel_rfl) rfl rfl ⟨m0, m1, m2, m3, m4⟩ (fun hHeld => ?_); refine with_tabW sp_tab sp_bits (fun HT_ HW_ => ?_)
      refine pure_ (i := 0) (N := some 39) (v := ?_) (a' := ?_) #[true, false, false, false, false, false, false, false, false] rfl rfl (any_of HT_.out (by kernel_rfl)) (fun _ _ _ h => h) (Or.inl ⟨by rfl, ?_⟩) ?_ ?_
      rotate_left
      · intro w'
        go_simp
        with_reducible rfl
      rotate_left
      · simp only [Act.put, List.setIfInBounds_toArray, List.set_cons_zero, List.set_cons_succ, i64_w, i32_w]
        rfl
      refine pure_ (i := 1) (N := some 40) (v := ?_) (a' := ?_) #[true, true, false, false, false, false, false, false, false] rfl rfl (any_of HT_.out (by kernel_rfl)) (fun _ _ _ h => h) (Or.inl ⟨by rfl, ?_⟩) ?_ ?_
      rotate_left
      · intro w'
        go_simp
        with_reducible rfl
      rotate_left
      · simp only [Act.put, List.setIfInBounds_toArray, List.set_cons_zero, List.set_cons_succ, i64_w, i32_w]
        rfl
      refine pure_ (i := 2) (N := some 41) (v := ?_) (a' := ?_) #[true, true, true, false, false, false, false, false, false] rfl rfl (any_of HT_.out (by kernel_rfl)) (fun _ _ _ h => h) (Or.inl ⟨by rfl, ?_⟩) ?_ ?_
      rotate_left
      · intro w'
        go_simp
        with_reducible rfl
      rotate_left
      · simp only [Act.put, List.setIfInBounds_toArray, List.set_cons_zero, List.set_cons_succ, i64_w, i32_w]
        rfl
      refine pure_ (i := 3) (N := some 42) (v := ?_) (a' := ?_) #[true, true, true, true, false, false, false, false, false] rfl rfl (any_of HT_.out (by kernel_rfl)) (fun _ _ _ h => h) (Or.inl ⟨by rfl, ?_⟩) ?_ ?_
      rotate_left
      · intro w'
        go_simp
        with_reducible rfl
      rotate_left
      · simp only [Act.put, List.setIfInBounds_toArray, List.set_cons_zero, List.set_cons_succ, i64_w, i32_w]
        rfl
      refine take_ (i := 5) (N := some 44) (v := ?_) (a' := ?_) #[true, true, true, true, false, true, false, false, false] rfl rfl (take_ofW HT_.out HW_.out (by kernel_rfl)) (fun _ _ _ h => h) (Or.inl ⟨by rfl, ?_⟩) hHeld ?_ ?_
      rotate_left
      · rintro w' ⟨s0, s1, s2, s3, s4⟩
        go_simp
        with_reducible rfl
      rotate_left
      · simp only [Act.put, List.setIfInBounds_toArray, List.set_cons_zero, List.set_cons_succ, i64_w, i32_w]
        rfl
      refine one_ (i := 4) (N := some 43) #[true, true, true, true, true, true, false, false, false] rfl rfl (one_of HT_.out (by kernel_rfl)) (by decide) (fun K hK => ?_)
      refine goes_ Try.func42 (by kernel_rfl) rfl #[.pointer (some ⟨tb, 0, none⟩)] (by rfl) rfl rfl (by (try simp only [List.map_toArray, List.map_cons, List.map_nil]); first | done | rfl) ?_
      refine (q1.out _ HBd.out).mono ?_
      rintro e w6 ⟨rfl, hb6⟩
      have HY := Aside0.mk (T.belowAt HBd.out hb6)
      have h1 : (fun Z => Z.cell? ⟨C, 0, none⟩ = some (.slice E0 y0 g0) ∧ Z.cell? ⟨C, 1, none⟩ = some (.slice E1 y1 g1) ∧ Z.cell? ⟨C, 2, none⟩ = some (.slice E2 y2 g2) ∧ Z.cell? ⟨C, 3, none⟩ = some (.slice E3 y3 g3) ∧ Z.cell? ⟨C, 4, none⟩ = some (.slice E4 y4 g4)) w6 := ⟨(T.Kept.of hb6).cell m0, (T.Kept.of hb6).cell m1, (T.Kept.of hb6).cell m2, (T.Kept.of hb6).cell m3, (T.Kept.of hb6).cell m4⟩
      clear hb6
      refine ⟨_, rfl, ?_⟩
      clear hHeld
      refine hK.out _ _ h1 (fun hHeld => ?_)
      clear hK K
      refine norm_ (a' := ?_) ?_ ?_
      rotate_left
      · show Act.put _ (some 43) _ = _
        simp only [Act.put, List.setIfInBounds_toArray, List.set_cons_zero, List.set_cons_succ, i64_w, i32_w]
        rfl
      refine one_ (i := 6) (N := some 45) #[true, true, true, true, true, true, true, false, false] rfl rfl (one_of HT_.out (by kernel_rfl)) (by decide) (fun K hK => ?_)
      refine goes_ Try.func41 (by kernel_rfl) rfl #[.agg #[.pointer (some ⟨rb, 0, none⟩), .string ⟨#[]⟩], .agg #[.slice E0 y0 g0, .slice E1 y1 g1, .slice E2 y2 g2, .slice E3 y3 g3, .slice E4 y4 g4], .int .i64 0] (by rfl) rfl rfl (by (try simp only [List.map_toArray, List.map_cons, List.map_nil]); first | done | rfl) ?_
      refine (q2.out _ HY.out).mono ?_
      rintro e w7 ⟨rfl, hb7⟩
      have HZ := Aside0.mk (T.belowAt HY.out hb7)
      have h2 : (fun Z => Z.cell? ⟨C, 0, none⟩ = some (.slice E0 y0 g0) ∧ Z.cell? ⟨C, 1, none⟩ = some (.slice E1 y1 g1) ∧ Z.cell? ⟨C, 2, none⟩ = some (.slice E2 y2 g2) ∧ Z.cell? ⟨C, 3, none⟩ = some (.slice E3 y3 g3) ∧ Z.cell? ⟨C, 4, none⟩ = some (.slice E4 y4 g4)) w7 := ⟨(T.Kept.of hb7).cell h1.1, (T.Kept.of hb7).cell h1.2.1, (T.Kept.of hb7).cell h1.2.2.1, (T.Kept.of hb7).cell h1.2.2.2.1, (T.Kept.of hb7).cell h1.2.2.2.2⟩
      clear hb7
      refine ⟨_, rfl, ?_⟩
      clear hHeld
      refine hK.out _ _ h2 (fun hHeld => ?_)
      clear hK K
      refine norm_ (a' := ?_) ?_ ?_
      rotate_left
      · show Act.put _ (some 45) _ = _
        simp only [Act.put, List.setIfInBounds_toArray, List.set_cons_zero, List.set_cons_succ, i64_w, i32_w]
        rfl
      refine pure_ (i := 7) (N := some 46) (v := ?_) (a' := ?_) #[true, true, true, true, true, true, true, true, false] rfl rfl (any_of HT_.out (by kernel_rfl)) (fun _ _ _ h => h) (Or.inl ⟨by rfl, ?_⟩) ?_ ?_
      rotate_left
      · intro w'
        go_simp
        with_reducible rfl
      rotate_left
      · simp only [Act.put, List.setIfInBounds_toArray, List.set_cons_zero, List.set_cons_succ, i64_w, i32_w]
        rfl
      refine pure_ (i := 8) (N := some 4) (v := ?_) (a' := ?_) #[true, true, true, true, true, true, true, true, true] rfl rfl (any_of HT_.out (by kernel_rfl)) (fun _ _ _ h => h) (Or.inl ⟨by rfl, ?_⟩) ?_ ?_
      rotate_left
      · intro w'
        go_simp
        with_reducible rfl
      rotate_left
      · simp only [Act.put, List.setIfInBounds_toArray, List.set_cons_zero, List.set_cons_succ, i64_w, i32_w]
        rfl
      refine done_ (done_of HT_.out (by kernel_rfl)) ?_
      clear hHeld h1 m0 m1 m2 m3 m4 q1 q2 HT_ HW_
      go_wp2_with fail
      go_ret
      exact ⟨rfl, T.belowAt HB.out HZ.out⟩
end Go.Proofs.Ytjhgknagmiekeaa.N
