/- joined: N19 V32 V34 V23h D1 D2 V6OA D5 -/
import Derived.Test.YtjhgknagmiekeaaJD17
import Derived.Deep.RegionHeld3
import Derived.Test.YtjhgknagmiekeaaJD12
import Derived.Test.YtjhgknagmiekeaaJD13
import Derived.Test.YtjhgknagmiekeaaJD16
import Derived.Laws.AppendOwnNone
import Derived.Test.YtjhgknagmiekeaaJD9
import Derived.Test.YtjhgknagmiekeaaShelf
import Derived.Test.YtjhgknagmiekeaaJD4
import Derived.Shelf.SlSortCmp.WholeK
import Derived.Shelf.SlLaysF0
import Derived.Shelf.SlGeneric
import Derived.Ground.SlsfProg
import Derived.Test.YtjhgknagmiekeaaProg
set_option linter.unusedVariables false
set_option linter.unusedSimpArgs false
namespace Go.Proofs.Ytjhgknagmiekeaa.N
open Go.RowKit Go.Lib Go.Proofs
open Go.Proofs.Ytjhgknagmiekeaa.K Go.Proofs.YtjhgknagmiekeaaW.PrintWords Go.Proofs.YtjhgknagmiekeaaW.PrintLast
def ins_T : Bool × List (List Nat × List Nat) := (true, [([], []), ([0], [0]), ([], []), ([2], [2]), ([], []), ([3, 4], [3, 4]), ([1, 5], [1, 5]), ([0, 1, 2, 3, 4, 5, 6], []), ([7, 6, 6, 0, 1, 2, 3, 4, 5, 6], [6, 7])])
def ins_B : List Nat := [0, 1, 0, 4, 0, 28, 63, 127, 255]
theorem ins_bits : waitsOk ins_T.2 ins_B = true := by kernel_rfl
theorem ins_tab3 : rtab .any (opsOf Try.f66 3) = ins_T := by kernel_rfl
theorem ins_tab4 : rtab .any (opsOf Try.f66 4) = ins_T := by kernel_rfl
theorem ins_tab5 : rtab .any (opsOf Try.f66 5) = ins_T := by kernel_rfl
theorem ins_tab14 : rtab .any (opsOf Try.f66 14) = ins_T := by kernel_rfl
theorem ins_tab15 : rtab .any (opsOf Try.f66 15) = ins_T := by kernel_rfl
theorem ins_tab16 : rtab .any (opsOf Try.f66 16) = ins_T := by kernel_rfl
attribute [local go_sem] Oper.semAt_some
set_option maxRecDepth 100000 in
set_option maxHeartbeats 4000000 in
theorem insRtH (w : World) (t : Rt) (h : RokP t) (v0 v1 v2 v3 v4 : Value) (hm : RtAt w t v0 v1 v2 v3 v4) (a : ByteArray) (v nx : Int) (ha : a.size < 4611686018427387904) (hl : t.ks.length < 100000000000) :
  Calls Try.prog 66 #[.agg #[v0, v1, v2, v3, v4], .string a, .int .i64 v, .int .i64 nx] w fun e w' => ∃ (t' : Rt) (old : Int) (b : Bool) (nx' : Int) (u0 u1 u2 u3 u4 : Value), e = .returned (.tuple #[.agg #[u0, u1, u2, u3, u4], .int .i64 old, .bool b, .int .i64 nx']) ∧ (∀ w2, Rob w.heap.size w' w2 → RtAt w2 t' u0 u1 u2 u3 u4) ∧ RokP t' ∧ InsD t t' a v nx nx' old b ∧ t'.ks.length ≤ t.ks.length + 1 ∧ Below w.heap.size w w' := by
 obtain ⟨n, b, f1, f2, f3, f4⟩ := find_ex t.ks a (by omega) h.sk
 obtain ⟨hc, hb⟩ := f4 h.rise
 obtain ⟨k, hk⟩ := f2.rounds
 have HM := Aside0.mk hm.off
 obtain ⟨⟨A0, c0, rfl, p0, q0⟩, ⟨A1, c1, rfl, p1, q1⟩, ⟨A2, c2, rfl, p2, q2⟩, ⟨A3, c3, rfl, p3, q3⟩, ⟨A4, c4, rfl, p4, q4⟩⟩ := hm
 have qf := Aside0.mk (fun w1 (hB : Below w.heap.size w w1) => musterref03_Find.calls k A0 c0 t.ks a n b w1 (Kd.C_below q0 hB) p0 hk)
 have ev := h.v
 have el := h.l
 obtain ⟨N, eN⟩ : ∃ N, t.ks.length = N := ⟨_, rfl⟩
 obtain ⟨M3, e3⟩ : ∃ N, t.ps.length = N := ⟨_, rfl⟩
 obtain ⟨M4, e4⟩ : ∃ N, t.ms.length = N := ⟨_, rfl⟩
 rw [eN] at ev el hl f1 p0
 rw [ev] at p1
 rw [el] at p2
 rw [e3] at p3
 rw [e4] at p4
 have HQ := Aside0.mk (And.intro q0 (And.intro q1 (And.intro q2 (And.intro q3 q4))))
 have HP := Aside0.mk (And.intro p0 (And.intro p1 (And.intro p2 (And.intro p3 p4))))
 have HE := Aside0.mk (And.intro eN (And.intro ev (And.intro el (And.intro e3 e4))))
 rw [eN] at qf
 rw [ev, el, eN, e3, e4]
 have HB2 := Aside0.mk (((Below.refl w.heap.size w).alloc (Nat.le_refl _) (Obj.cells #[.slice A0 N c0, .slice A1 N c1, .slice A2 N c2, .slice A3 M3 c3, .slice A4 M4 c4] 28)).alloc (by simp) (Obj.cells #[.slice none 0 0, .slice none 0 0, .slice none 0 0, .slice none 0 0, .slice none 0 0] 28))
 have HW0 := Aside0.mk (show ((w.alloc (Obj.cells #[.slice A0 N c0, .slice A1 N c1, .slice A2 N c2, .slice A3 M3 c3, .slice A4 M4 c4] 28)).alloc (Obj.cells #[.slice none 0 0, .slice none 0 0, .slice none 0 0, .slice none 0 0, .slice none 0 0] 28)).heap[w.heap.size]? = some (.cells #[.slice A0 N c0, .slice A1 N c1, .slice A2 N c2, .slice A3 M3 c3, .slice A4 M4 c4] 28 (0, 0)) ∧ ((w.alloc (Obj.cells #[.slice A0 N c0, .slice A1 N c1, .slice A2 N c2, .slice A3 M3 c3, .slice A4 M4 c4] 28)).alloc (Obj.cells #[.slice none 0 0, .slice none 0 0, .slice none 0 0, .slice none 0 0, .slice none 0 0] 28)).heap[w.heap.size + 1]? = some (.cells #[.slice none 0 0, .slice none 0 0, .slice none 0 0, .slice none 0 0, .slice none 0 0] 28 (0, 0)) from
  ⟨(Below.heap_alloc _ _ _ (by simp)).trans (World.alloc_heap_new w _), by have := World.alloc_heap_new (w.alloc (Obj.cells #[.slice A0 N c0, .slice A1 N c1, .slice A2 N c2, .slice A3 M3 c3, .slice A4 M4 c4] 28)) (Obj.cells #[.slice none 0 0, .slice none 0 0, .slice none 0 0, .slice none 0 0, .slice none 0 0] 28); rwa [World.size_alloc] at this⟩)
 have HF := Aside0.mk (And.intro f1 (And.intro f3 (And.intro hc (And.intro hb h))))
 have HL := Aside0.mk (And.intro hl ha)
 clear q0 q1 q2 q3 q4 p0 p1 p2 p3 p4 hk f1 f2 f3 f4 hc hb h ev el eN e3 e4 hl
 go_enter Try.func66, Try.ntmps66
 go_wp2_with fail
 go_at_call 91
 refine (qf.out _ HB2.out).mono ?_
 rintro e w2 ⟨rfl, hd⟩
 have HB := Aside0.mk (HB2.out.trans (hd.below.mono HB2.out.size))
 have bb := (hd.below.block _ (Array.getElem?_eq_some_iff.1 HW0.out.1).1).trans HW0.out.1
 have br := (hd.below.block _ (Array.getElem?_eq_some_iff.1 HW0.out.2).1).trans HW0.out.2
 have HBB := Aside0.mk (And.intro bb br)
 clear bb br hd
 go_wp2_with fail
 have hnN : n ≤ N := HF.out.1
 have hNl := HL.out.1
 obtain ⟨B, eB⟩ : ∃ B, w2.heap.size = B := ⟨_, rfl⟩
 have hB2 : w.heap.size + 2 ≤ B := by have h1 := (Array.getElem?_eq_some_iff.1 HBB.out.2).1; omega
 rw [eB]
 have HI := Aside0.mk (show InS w (w2.alloc (Obj.cells #[.slice none 0 0, .slice none 0 0, .slice none 0 0, .slice none 0 0, .slice none 0 0] 28)) B #[.slice A0 N c0, .slice A1 N c1, .slice A2 N c2, .slice A3 M3 c3, .slice A4 M4 c4] #[.slice none 0 0, .slice none 0 0, .slice none 0 0, .slice none 0 0, .slice none 0 0] (.slice none 0 0) (.slice none 0 0) (.slice none 0 0) [] [] [] from
  ⟨Kd.R_nil _ _ _ _ _, Kd.R_nil _ _ _ _ _, Kd.R_nil _ _ _ _ _, (Below.heap_alloc _ _ _ (by omega)).trans HBB.out.1, (Below.heap_alloc _ _ _ (by omega)).trans HBB.out.2, by rw [← eB]; exact World.alloc_heap_new w2 _, HB.out.alloc HB.out.size (Obj.cells #[.slice none 0 0, .slice none 0 0, .slice none 0 0, .slice none 0 0, .slice none 0 0] 28), hB2⟩)
 generalize (w2.alloc (Obj.cells #[.slice none 0 0, .slice none 0 0, .slice none 0 0, .slice none 0 0, .slice none 0 0] 28)) = W0 at HI ⊢
 clear HB HBB eB HB2 HW0 qf
 have u0 : W0.cell? ⟨B, 0, none⟩ = some (.slice none 0 0) := by rw [blk_cell HI.out.bu]; rfl
 have t0 : W0.cell? ⟨w.heap.size, 0, none⟩ = some (.slice A0 N c0) := by rw [blk_cell HI.out.bt]; rfl
 have QT : Aside0 (∀ W, Below w.heap.size w W → Kd.C Kd.string W A0 n (t.ks.take n)) := ⟨fun W hW => by
  have el := HE.out.1
  have h0 := Kd.C_take (m := n) (Kd.C_below HQ.out.1 hW) (by omega)
  rwa [show (t.ks.take n).length = n by rw [List.length_take]; omega] at h0⟩
 have hnc : n ≤ c0 := by have := HP.out.1; omega
 refine start_ (n := 9) (S := (fun w' => w'.cell? ⟨B, 0, none⟩ = some (.slice none 0 0) ∧ w'.cell? ⟨w.heap.size, 0, none⟩ = some (.slice A0 N c0))) (ds := [8]) #[false, false, false, false, false, false, false, false, false] (by kernel_rfl) rfl rfl ⟨u0, t0⟩ (fun hHeld => ?_); refine with_tabW ins_tab3 ins_bits (fun HT_ HW_ => ?_)
 obtain ⟨Wd, eWd⟩ : ∃ Wd, W0.drew = Wd := ⟨_, rfl⟩
 have HI_ := Aside0.mk HI.out.drew
 clear HI
 have HI := HI_
 clear HI_
 rw [eWd] at HI hHeld ⊢
 clear eWd
 refine pure_ (i := 0) (N := some 25) (v := ?_) (a' := ?_) #[true, false, false, false, false, false, false, false, false] rfl rfl (any_of HT_.out (by kernel_rfl)) (fun _ _ _ h => h) (Or.inl ⟨by rfl, ?_⟩) ?_ ?_
 rotate_left
 ·intro w'
  go_simp
  with_reducible rfl
 rotate_left
 ·simp only [Act.put, List.setIfInBounds_toArray, List.set_cons_zero, List.set_cons_succ, i64_w, i32_w]
  rfl
 refine pure_ (i := 2) (N := some 27) (v := ?_) (a' := ?_) #[true, false, true, false, false, false, false, false, false] rfl rfl (any_of HT_.out (by kernel_rfl)) (fun _ _ _ h => h) (Or.inl ⟨by rfl, ?_⟩) ?_ ?_
 rotate_left
 ·intro w'
  go_simp
  with_reducible rfl
 rotate_left
 ·simp only [Act.put, List.setIfInBounds_toArray, List.set_cons_zero, List.set_cons_succ, i64_w, i32_w]
  rfl
 refine pure_ (i := 4) (N := some 29) (v := ?_) (a' := ?_) #[true, false, true, false, true, false, false, false, false] rfl rfl (any_of HT_.out (by kernel_rfl)) (fun _ _ _ h => h) (Or.inl ⟨by rfl, ?_⟩) ?_ ?_
 rotate_left
 ·intro w'
  go_simp
  with_reducible rfl
 rotate_left
 ·simp only [Act.put, List.setIfInBounds_toArray, List.set_cons_zero, List.set_cons_succ, i64_w, i32_w]
  rfl
 refine take_ (i := 1) (N := some 26) (v := ?_) (a' := ?_) #[true, true, true, false, true, false, false, false, false] rfl rfl (take_ofW HT_.out HW_.out (by kernel_rfl)) (fun _ _ _ h => h) (Or.inl ⟨by rfl, ?_⟩) hHeld ?_ ?_
 rotate_left
 ·rintro w' ⟨s0, s1⟩
  go_simp
  with_reducible rfl
 rotate_left
 ·simp only [Act.put, List.setIfInBounds_toArray, List.set_cons_zero, List.set_cons_succ, i64_w, i32_w]
  rfl
 refine take_ (i := 3) (N := some 28) (v := ?_) (a' := ?_) #[true, true, true, true, true, false, false, false, false] rfl rfl (take_ofW HT_.out HW_.out (by kernel_rfl)) (fun _ _ _ h => h) (Or.inl ⟨by rfl, ?_⟩) hHeld ?_ ?_
 rotate_left
 ·rintro w' ⟨s0, s1⟩
  go_simp
  with_reducible rfl
 rotate_left
 ·simp only [Act.put, List.setIfInBounds_toArray, List.set_cons_zero, List.set_cons_succ, i64_w, i32_w]
  rfl
 refine pure_ (i := 5) (N := some 30) (v := ?_) (a' := ?_) #[true, true, true, true, true, true, false, false, false] rfl rfl (any_of HT_.out (by kernel_rfl)) (fun _ _ _ h => h) (Or.inl ⟨by rfl, ?_⟩) ?_ ?_
 rotate_left
 ·intro w'
  go_simp
  with_reducible rfl
 rotate_left
 ·simp only [Act.put, List.setIfInBounds_toArray, List.set_cons_zero, List.set_cons_succ, i64_w, i32_w]
  rfl
 refine one_ (i := 6) (N := some 31) #[true, true, true, true, true, true, true, false, false] rfl rfl (one_of HT_.out (by kernel_rfl)) (by decide) (fun K hK => ?_)
 refine Kd.R_append_rows_step Kd.string (w0 := w) w.heap.size (by rfl) (.tmp 26) (.tmp 30) 25 9 (.string ⟨#[]⟩) 16 rfl Try.underlying25 info9 rfl (by decide) (by omega) (.slice none 0 0) ([] : List ByteArray) (t.ks.take n) _ _ _ (fun _ => True) (fun _ => False) rfl rfl HI.out.r0 (QT.out _ HI.out.bl) (fun _ _ h => h) (fun _ h => h.elim) (fun _ _ => trivial) HI.out.bl HI.out.sz (by rw [List.length_nil]; omega) ?_
 intro v3_ wa_ ho hb hg hat
 obtain ⟨D3, d3, rfl⟩ := Kd.R_slice ho
 obtain ⟨g1_, g2_, g3_⟩ := HI.out.app0 ho hb hg hat
 have HN := Aside0.mk g3_
 have t1 : wa_.cell? ⟨w.heap.size, 0, none⟩ = some (.slice A0 N c0) := by rw [blk_cell g1_]; rfl
 have u1 : wa_.cell? ⟨B, 0, none⟩ = some (.slice none 0 0) := by rw [blk_cell g2_]; rfl
 have uf1 : wa_.frozen? ⟨B, 0, none⟩ = false := blk_frozen g2_ 0
 obtain ⟨L3, eL3⟩ : ∃ L, (([] : List ByteArray) ++ (t.ks.take n)).length = L := ⟨_, rfl⟩
 rw [eL3] at HN
 rw [eL3]
 have HL3 := Aside0.mk eL3
 clear g1_ g2_ g3_ ho hb hg hat eL3
 clear hHeld
 refine hK.out _ _ ⟨u1, t1⟩ (fun hHeld => ?_)
 clear hK K
 refine norm_ (a' := ?_) ?_ ?_
 rotate_left
 ·show Act.put _ (some 31) _ = _
  simp only [Act.put, List.setIfInBounds_toArray, List.set_cons_zero, List.set_cons_succ, i64_w, i32_w]
  rfl
 refine pure_ (i := 7) (N := some 32) (v := ?_) (a' := ?_) #[true, true, true, true, true, true, true, true, false] rfl rfl (any_of HT_.out (by kernel_rfl)) (fun _ _ _ h => h) (Or.inl ⟨by rfl, ?_⟩) ?_ ?_
 rotate_left
 ·intro w'
  go_simp
  with_reducible rfl
 rotate_left
 ·simp only [Act.put, List.setIfInBounds_toArray, List.set_cons_zero, List.set_cons_succ, i64_w, i32_w]
  rfl
 refine last_ (i := 8) (N := none) #[true, true, true, true, true, true, true, true, true] rfl rfl (one_of HT_.out (by kernel_rfl)) (by decide) (fun K hK => ?_)
 refine skip_ (w1 := ?_) (by rfl) rfl ?_ ?_
 rotate_left
 ·go_simp
  rfl
 refine hK.out _ _ ?_
 clear hK K
 refine done_ (done_of HT_.out (by kernel_rfl)) ?_
 generalize (wa_.setCell ⟨B, 0, none⟩ (.slice D3 L3 d3)) = W1 at HN ⊢
 clear HI hHeld t0 t1 u0 u1 uf1 QT hnc HT_ HW_
 have HI := HN
 clear HN
 (try go_wp2)
 have u0 : W1.cell? ⟨B, 1, none⟩ = some (.slice none 0 0) := by rw [blk_cell HI.out.bu]; rfl
 have t0 : W1.cell? ⟨w.heap.size, 1, none⟩ = some (.slice A1 N c1) := by rw [blk_cell HI.out.bt]; rfl
 have QT : Aside0 (∀ W, Below w.heap.size w W → Kd.C (Kd.int .i64) W A1 n (t.vs.take n)) := ⟨fun W hW => by
  have el := HE.out.2.1
  have h0 := Kd.C_take (m := n) (Kd.C_below HQ.out.2.1 hW) (by omega)
  rwa [show (t.vs.take n).length = n by rw [List.length_take]; omega] at h0⟩
 have hnc : n ≤ c1 := by have := HP.out.2.1; omega
 refine start_ (n := 9) (S := (fun w' => w'.cell? ⟨B, 1, none⟩ = some (.slice none 0 0) ∧ w'.cell? ⟨w.heap.size, 1, none⟩ = some (.slice A1 N c1))) (ds := [8]) #[false, false, false, false, false, false, false, false, false] (by kernel_rfl) rfl rfl ⟨u0, t0⟩ (fun hHeld => ?_); refine with_tabW ins_tab4 ins_bits (fun HT_ HW_ => ?_)
 obtain ⟨Wd, eWd⟩ : ∃ Wd, W1.drew = Wd := ⟨_, rfl⟩
 have HI_ := Aside0.mk HI.out.drew
 clear HI
 have HI := HI_
 clear HI_
 rw [eWd] at HI hHeld ⊢
 clear eWd
 refine pure_ (i := 0) (N := some 33) (v := ?_) (a' := ?_) #[true, false, false, false, false, false, false, false, false] rfl rfl (any_of HT_.out (by kernel_rfl)) (fun _ _ _ h => h) (Or.inl ⟨by rfl, ?_⟩) ?_ ?_
 rotate_left
 ·intro w'
  go_simp
  with_reducible rfl
 rotate_left
 ·simp only [Act.put, List.setIfInBounds_toArray, List.set_cons_zero, List.set_cons_succ, i64_w, i32_w]
  rfl
 refine pure_ (i := 2) (N := some 35) (v := ?_) (a' := ?_) #[true, false, true, false, false, false, false, false, false] rfl rfl (any_of HT_.out (by kernel_rfl)) (fun _ _ _ h => h) (Or.inl ⟨by rfl, ?_⟩) ?_ ?_
 rotate_left
 ·intro w'
  go_simp
  with_reducible rfl
 rotate_left
 ·simp only [Act.put, List.setIfInBounds_toArray, List.set_cons_zero, List.set_cons_succ, i64_w, i32_w]
  rfl
 refine pure_ (i := 4) (N := some 37) (v := ?_) (a' := ?_) #[true, false, true, false, true, false, false, false, false] rfl rfl (any_of HT_.out (by kernel_rfl)) (fun _ _ _ h => h) (Or.inl ⟨by rfl, ?_⟩) ?_ ?_
 rotate_left
 ·intro w'
  go_simp
  with_reducible rfl
 rotate_left
 ·simp only [Act.put, List.setIfInBounds_toArray, List.set_cons_zero, List.set_cons_succ, i64_w, i32_w]
  rfl
 refine take_ (i := 1) (N := some 34) (v := ?_) (a' := ?_) #[true, true, true, false, true, false, false, false, false] rfl rfl (take_ofW HT_.out HW_.out (by kernel_rfl)) (fun _ _ _ h => h) (Or.inl ⟨by rfl, ?_⟩) hHeld ?_ ?_
 rotate_left
 ·rintro w' ⟨s0, s1⟩
  go_simp
  with_reducible rfl
 rotate_left
 ·simp only [Act.put, List.setIfInBounds_toArray, List.set_cons_zero, List.set_cons_succ, i64_w, i32_w]
  rfl
 refine take_ (i := 3) (N := some 36) (v := ?_) (a' := ?_) #[true, true, true, true, true, false, false, false, false] rfl rfl (take_ofW HT_.out HW_.out (by kernel_rfl)) (fun _ _ _ h => h) (Or.inl ⟨by rfl, ?_⟩) hHeld ?_ ?_
 rotate_left
 ·rintro w' ⟨s0, s1⟩
  go_simp
  with_reducible rfl
 rotate_left
 ·simp only [Act.put, List.setIfInBounds_toArray, List.set_cons_zero, List.set_cons_succ, i64_w, i32_w]
  rfl
 refine pure_ (i := 5) (N := some 38) (v := ?_) (a' := ?_) #[true, true, true, true, true, true, false, false, false] rfl rfl (any_of HT_.out (by kernel_rfl)) (fun _ _ _ h => h) (Or.inl ⟨by rfl, ?_⟩) ?_ ?_
 rotate_left
 ·intro w'
  go_simp
  with_reducible rfl
 rotate_left
 ·simp only [Act.put, List.setIfInBounds_toArray, List.set_cons_zero, List.set_cons_succ, i64_w, i32_w]
  rfl
 refine one_ (i := 6) (N := some 39) #[true, true, true, true, true, true, true, false, false] rfl rfl (one_of HT_.out (by kernel_rfl)) (by decide) (fun K hK => ?_)
 refine Kd.R_append_rows_step (Kd.int .i64) (w0 := w) w.heap.size (by rfl) (.tmp 34) (.tmp 38) 26 3 (.int .i64 0) 8 rfl Try.underlying26 info3 rfl (by decide) (by omega) (.slice none 0 0) ([] : List Int) (t.vs.take n) _ _ _ (fun k => some k ≠ (.slice none 0 0 : Value).ownBlock) (fun _ => False) rfl rfl HI.out.r1 (QT.out _ HI.out.bl) (fun _ _ h => h) (fun _ h => h.elim) HI.out.f1 HI.out.bl HI.out.sz (by rw [List.length_nil]; omega) ?_
 intro v4_ wa_ ho hb hg hat
 obtain ⟨D4, d4, rfl⟩ := Kd.R_slice ho
 obtain ⟨g1_, g2_, g3_⟩ := HI.out.app1 ho hb hg hat
 have HN := Aside0.mk g3_
 have t1 : wa_.cell? ⟨w.heap.size, 1, none⟩ = some (.slice A1 N c1) := by rw [blk_cell g1_]; rfl
 have u1 : wa_.cell? ⟨B, 1, none⟩ = some (.slice none 0 0) := by rw [blk_cell g2_]; rfl
 have uf1 : wa_.frozen? ⟨B, 1, none⟩ = false := blk_frozen g2_ 1
 obtain ⟨L4, eL4⟩ : ∃ L, (([] : List Int) ++ (t.vs.take n)).length = L := ⟨_, rfl⟩
 rw [eL4] at HN
 rw [eL4]
 have HL4 := Aside0.mk eL4
 clear g1_ g2_ g3_ ho hb hg hat eL4
 clear hHeld
 refine hK.out _ _ ⟨u1, t1⟩ (fun hHeld => ?_)
 clear hK K
 refine norm_ (a' := ?_) ?_ ?_
 rotate_left
 ·show Act.put _ (some 39) _ = _
  simp only [Act.put, List.setIfInBounds_toArray, List.set_cons_zero, List.set_cons_succ, i64_w, i32_w]
  rfl
 refine pure_ (i := 7) (N := some 40) (v := ?_) (a' := ?_) #[true, true, true, true, true, true, true, true, false] rfl rfl (any_of HT_.out (by kernel_rfl)) (fun _ _ _ h => h) (Or.inl ⟨by rfl, ?_⟩) ?_ ?_
 rotate_left
 ·intro w'
  go_simp
  with_reducible rfl
 rotate_left
 ·simp only [Act.put, List.setIfInBounds_toArray, List.set_cons_zero, List.set_cons_succ, i64_w, i32_w]
  rfl
 refine last_ (i := 8) (N := none) #[true, true, true, true, true, true, true, true, true] rfl rfl (one_of HT_.out (by kernel_rfl)) (by decide) (fun K hK => ?_)
 refine skip_ (w1 := ?_) (by rfl) rfl ?_ ?_
 rotate_left
 ·go_simp
  rfl
 refine hK.out _ _ ?_
 clear hK K
 refine done_ (done_of HT_.out (by kernel_rfl)) ?_
 generalize (wa_.setCell ⟨B, 1, none⟩ (.slice D4 L4 d4)) = W2 at HN ⊢
 clear HI hHeld t0 t1 u0 u1 uf1 QT hnc HT_ HW_
 have HI := HN
 clear HN
 (try go_wp2)
 have u0 : W2.cell? ⟨B, 2, none⟩ = some (.slice none 0 0) := by rw [blk_cell HI.out.bu]; rfl
 have t0 : W2.cell? ⟨w.heap.size, 2, none⟩ = some (.slice A2 N c2) := by rw [blk_cell HI.out.bt]; rfl
 have QT : Aside0 (∀ W, Below w.heap.size w W → Kd.C (Kd.int .i64) W A2 n (t.ls.take n)) := ⟨fun W hW => by
  have el := HE.out.2.2.1
  have h0 := Kd.C_take (m := n) (Kd.C_below HQ.out.2.2.1 hW) (by omega)
  rwa [show (t.ls.take n).length = n by rw [List.length_take]; omega] at h0⟩
 have hnc : n ≤ c2 := by have := HP.out.2.2.1; omega
 refine start_ (n := 9) (S := (fun w' => w'.cell? ⟨B, 2, none⟩ = some (.slice none 0 0) ∧ w'.cell? ⟨w.heap.size, 2, none⟩ = some (.slice A2 N c2))) (ds := [8]) #[false, false, false, false, false, false, false, false, false] (by kernel_rfl) rfl rfl ⟨u0, t0⟩ (fun hHeld => ?_); refine with_tabW ins_tab5 ins_bits (fun HT_ HW_ => ?_)
 obtain ⟨Wd, eWd⟩ : ∃ Wd, W2.drew = Wd := ⟨_, rfl⟩
 have HI_ := Aside0.mk HI.out.drew
 clear HI
 have HI := HI_
 clear HI_
 rw [eWd] at HI hHeld ⊢
 clear eWd
 refine pure_ (i := 0) (N := some 41) (v := ?_) (a' := ?_) #[true, false, false, false, false, false, false, false, false] rfl rfl (any_of HT_.out (by kernel_rfl)) (fun _ _ _ h => h) (Or.inl ⟨by rfl, ?_⟩) ?_ ?_
 rotate_left
 ·intro w'
  go_simp
  with_reducible rfl
 rotate_left
 ·simp only [Act.put, List.setIfInBounds_toArray, List.set_cons_zero, List.set_cons_succ, i64_w, i32_w]
  rfl
 refine pure_ (i := 2) (N := some 43) (v := ?_) (a' := ?_) #[true, false, true, false, false, false, false, false, false] rfl rfl (any_of HT_.out (by kernel_rfl)) (fun _ _ _ h => h) (Or.inl ⟨by rfl, ?_⟩) ?_ ?_
 rotate_left
 ·intro w'
  go_simp
  with_reducible rfl
 rotate_left
 ·simp only [Act.put, List.setIfInBounds_toArray, List.set_cons_zero, List.set_cons_succ, i64_w, i32_w]
  rfl
 refine pure_ (i := 4) (N := some 45) (v := ?_) (a' := ?_) #[true, false, true, false, true, false, false, false, false] rfl rfl (any_of HT_.out (by kernel_rfl)) (fun _ _ _ h => h) (Or.inl ⟨by rfl, ?_⟩) ?_ ?_
 rotate_left
 ·intro w'
  go_simp
  with_reducible rfl
 rotate_left
 ·simp only [Act.put, List.setIfInBounds_toArray, List.set_cons_zero, List.set_cons_succ, i64_w, i32_w]
  rfl
 refine take_ (i := 1) (N := some 42) (v := ?_) (a' := ?_) #[true, true, true, false, true, false, false, false, false] rfl rfl (take_ofW HT_.out HW_.out (by kernel_rfl)) (fun _ _ _ h => h) (Or.inl ⟨by rfl, ?_⟩) hHeld ?_ ?_
 rotate_left
 ·rintro w' ⟨s0, s1⟩
  go_simp
  with_reducible rfl
 rotate_left
 ·simp only [Act.put, List.setIfInBounds_toArray, List.set_cons_zero, List.set_cons_succ, i64_w, i32_w]
  rfl
 refine take_ (i := 3) (N := some 44) (v := ?_) (a' := ?_) #[true, true, true, true, true, false, false, false, false] rfl rfl (take_ofW HT_.out HW_.out (by kernel_rfl)) (fun _ _ _ h => h) (Or.inl ⟨by rfl, ?_⟩) hHeld ?_ ?_
 rotate_left
 ·rintro w' ⟨s0, s1⟩
  go_simp
  with_reducible rfl
 rotate_left
 ·simp only [Act.put, List.setIfInBounds_toArray, List.set_cons_zero, List.set_cons_succ, i64_w, i32_w]
  rfl
 refine pure_ (i := 5) (N := some 46) (v := ?_) (a' := ?_) #[true, true, true, true, true, true, false, false, false] rfl rfl (any_of HT_.out (by kernel_rfl)) (fun _ _ _ h => h) (Or.inl ⟨by rfl, ?_⟩) ?_ ?_
 rotate_left
 ·intro w'
  go_simp
  with_reducible rfl
 rotate_left
 ·simp only [Act.put, List.setIfInBounds_toArray, List.set_cons_zero, List.set_cons_succ, i64_w, i32_w]
  rfl
 refine one_ (i := 6) (N := some 47) #[true, true, true, true, true, true, true, false, false] rfl rfl (one_of HT_.out (by kernel_rfl)) (by decide) (fun K hK => ?_)
 refine Kd.R_append_rows_step (Kd.int .i64) (w0 := w) w.heap.size (by rfl) (.tmp 42) (.tmp 46) 26 3 (.int .i64 0) 8 rfl Try.underlying26 info3 rfl (by decide) (by omega) (.slice none 0 0) ([] : List Int) (t.ls.take n) _ _ _ (fun k => some k ≠ (.slice D4 L4 d4 : Value).ownBlock) (fun _ => False) rfl rfl HI.out.r2 (QT.out _ HI.out.bl) (fun _ _ h => h) (fun _ h => h.elim) HI.out.f2 HI.out.bl HI.out.sz (by rw [List.length_nil]; omega) ?_
 intro v5_ wa_ ho hb hg hat
 obtain ⟨D5, d5, rfl⟩ := Kd.R_slice ho
 obtain ⟨g1_, g2_, g3_⟩ := HI.out.app2 ho hb hg hat
 have HN := Aside0.mk g3_
 have t1 : wa_.cell? ⟨w.heap.size, 2, none⟩ = some (.slice A2 N c2) := by rw [blk_cell g1_]; rfl
 have u1 : wa_.cell? ⟨B, 2, none⟩ = some (.slice none 0 0) := by rw [blk_cell g2_]; rfl
 have uf1 : wa_.frozen? ⟨B, 2, none⟩ = false := blk_frozen g2_ 2
 obtain ⟨L5, eL5⟩ : ∃ L, (([] : List Int) ++ (t.ls.take n)).length = L := ⟨_, rfl⟩
 rw [eL5] at HN
 rw [eL5]
 have HL5 := Aside0.mk eL5
 clear g1_ g2_ g3_ ho hb hg hat eL5
 clear hHeld
 refine hK.out _ _ ⟨u1, t1⟩ (fun hHeld => ?_)
 clear hK K
 refine norm_ (a' := ?_) ?_ ?_
 rotate_left
 ·show Act.put _ (some 47) _ = _
  simp only [Act.put, List.setIfInBounds_toArray, List.set_cons_zero, List.set_cons_succ, i64_w, i32_w]
  rfl
 refine pure_ (i := 7) (N := some 48) (v := ?_) (a' := ?_) #[true, true, true, true, true, true, true, true, false] rfl rfl (any_of HT_.out (by kernel_rfl)) (fun _ _ _ h => h) (Or.inl ⟨by rfl, ?_⟩) ?_ ?_
 rotate_left
 ·intro w'
  go_simp
  with_reducible rfl
 rotate_left
 ·simp only [Act.put, List.setIfInBounds_toArray, List.set_cons_zero, List.set_cons_succ, i64_w, i32_w]
  rfl
 refine last_ (i := 8) (N := none) #[true, true, true, true, true, true, true, true, true] rfl rfl (one_of HT_.out (by kernel_rfl)) (by decide) (fun K hK => ?_)
 refine skip_ (w1 := ?_) (by rfl) rfl ?_ ?_
 rotate_left
 ·go_simp
  rfl
 refine hK.out _ _ ?_
 clear hK K
 refine done_ (done_of HT_.out (by kernel_rfl)) ?_
 generalize (wa_.setCell ⟨B, 2, none⟩ (.slice D5 L5 d5)) = W3 at HN ⊢
 clear HI hHeld t0 t1 u0 u1 uf1 QT hnc HT_ HW_
 have HI := HN
 clear HN

 have u0 : W3.cell? ⟨B, 0, none⟩ = some (.slice D3 L3 d3) := by rw [blk_cell HI.out.bu]; rfl
 go_upto_region 7 with (((with_reducible refine gate_builtin (b := .append) (xs := #[.tmp 50, .tmp 52]) rfl ?_); at_builtin; refine Kd.R_append Kd.string (w0 := w) w.heap.size rfl (.tmp 50) (.tmp 52) 25 9 (.string ⟨#[]⟩) 16 rfl Try.underlying25 info9 rfl (by decide) (by omega) (.slice D3 L3 d3) (([] : List ByteArray) ++ (t.ks.take n)) a [.string a] (fun _ => True) (fun _ => False) rfl (by first | (go_simp; done) | (go_simp; rfl)) rfl (fun _ hk => hk.elim) (fun _ _ => trivial) HI.out.r0 HI.out.bl HI.out.sz (by have := HE.out.1; simp only [List.length_append, List.length_take, List.length_cons, List.length_nil]; omega) ?_; intro v6_ wa6_ ho hb hg hat; obtain ⟨D6, d6, rfl⟩ := Kd.R_slice ho; obtain ⟨g1_, g2_, g3_⟩ := HI.out.app0 ho hb hg hat; have HN := Aside0.mk g3_; have u1 : wa6_.cell? ⟨B, 0, none⟩ = some (.slice D3 L3 d3) := (by rw [blk_cell g2_]; rfl); have uf1 : wa6_.frozen? ⟨B, 0, none⟩ = false := blk_frozen g2_ 0; obtain ⟨L6, eL6⟩ : ∃ L, ((([] : List ByteArray) ++ (t.ks.take n)) ++ [a]).length = L := ⟨_, rfl⟩; rw [eL6] at HN; rw [eL6]; have HL6 := Aside0.mk eL6; clear g1_ g2_ g3_ ho hb hg hat eL6))
 generalize (wa6_.setCell ⟨B, 0, none⟩ (.slice D6 L6 d6)) = W4 at HN ⊢
 clear HI u0 u1 uf1
 have HI := HN
 clear HN
 have u0 : W4.cell? ⟨B, 1, none⟩ = some (.slice D4 L4 d4) := by rw [blk_cell HI.out.bu]; rfl
 go_upto_region 8 with (((with_reducible refine gate_builtin (b := .append) (xs := #[.tmp 56, .tmp 58]) rfl ?_); at_builtin; refine Kd.R_append (Kd.int .i64) (w0 := w) w.heap.size rfl (.tmp 56) (.tmp 58) 26 3 (.int .i64 0) 8 rfl Try.underlying26 info3 rfl (by decide) (by omega) (.slice D4 L4 d4) (([] : List Int) ++ (t.vs.take n)) v [.int .i64 v] (fun k => some k ≠ (.slice D5 L5 d5 : Value).ownBlock) (fun _ => False) rfl (by first | (go_simp; done) | (go_simp; rfl)) rfl (fun _ hk => hk.elim) HI.out.f1 HI.out.r1 HI.out.bl HI.out.sz (by have := HE.out.2.1; simp only [List.length_append, List.length_take, List.length_cons, List.length_nil]; omega) ?_; intro v7_ wa7_ ho hb hg hat; obtain ⟨D7, d7, rfl⟩ := Kd.R_slice ho; obtain ⟨g1_, g2_, g3_⟩ := HI.out.app1 ho hb hg hat; have HN := Aside0.mk g3_; have u1 : wa7_.cell? ⟨B, 1, none⟩ = some (.slice D4 L4 d4) := (by rw [blk_cell g2_]; rfl); have uf1 : wa7_.frozen? ⟨B, 1, none⟩ = false := blk_frozen g2_ 1; obtain ⟨L7, eL7⟩ : ∃ L, ((([] : List Int) ++ (t.vs.take n)) ++ [v]).length = L := ⟨_, rfl⟩; rw [eL7] at HN; rw [eL7]; have HL7 := Aside0.mk eL7; clear g1_ g2_ g3_ ho hb hg hat eL7))
 generalize (wa7_.setCell ⟨B, 1, none⟩ (.slice D7 L7 d7)) = W5 at HN ⊢
 clear HI u0 u1 uf1
 have HI := HN
 clear HN
 have u0 : W5.cell? ⟨B, 2, none⟩ = some (.slice D5 L5 d5) := by rw [blk_cell HI.out.bu]; rfl
 go_upto_region 9 with (((with_reducible refine gate_builtin (b := .append) (xs := #[.tmp 62, .tmp 64]) rfl ?_); at_builtin; refine Kd.R_append (Kd.int .i64) (w0 := w) w.heap.size rfl (.tmp 62) (.tmp 64) 26 3 (.int .i64 0) 8 rfl Try.underlying26 info3 rfl (by decide) (by omega) (.slice D5 L5 d5) (([] : List Int) ++ (t.ls.take n)) nx [.int .i64 nx] (fun k => some k ≠ (.slice D7 L7 d7 : Value).ownBlock) (fun _ => False) rfl (by first | (go_simp; done) | (go_simp; rfl)) rfl (fun _ hk => hk.elim) HI.out.f2 HI.out.r2 HI.out.bl HI.out.sz (by have := HE.out.2.2.1; simp only [List.length_append, List.length_take, List.length_cons, List.length_nil]; omega) ?_; intro v8_ wa8_ ho hb hg hat; obtain ⟨D8, d8, rfl⟩ := Kd.R_slice ho; obtain ⟨g1_, g2_, g3_⟩ := HI.out.app2 ho hb hg hat; have HN := Aside0.mk g3_; have u1 : wa8_.cell? ⟨B, 2, none⟩ = some (.slice D5 L5 d5) := (by rw [blk_cell g2_]; rfl); have uf1 : wa8_.frozen? ⟨B, 2, none⟩ = false := blk_frozen g2_ 2; obtain ⟨L8, eL8⟩ : ∃ L, ((([] : List Int) ++ (t.ls.take n)) ++ [nx]).length = L := ⟨_, rfl⟩; rw [eL8] at HN; rw [eL8]; have HL8 := Aside0.mk eL8; clear g1_ g2_ g3_ ho hb hg hat eL8))
 generalize (wa8_.setCell ⟨B, 2, none⟩ (.slice D8 L8 d8)) = W6 at HN ⊢
 clear HI u0 u1 uf1
 have HI := HN
 clear HN

 obtain ⟨bb, ebb⟩ : ∃ bb, bb = b := ⟨_, rfl⟩
 have HBq := Aside0.mk ebb
 have HFR : Aside0 (∀ fr, fr = (if b = true then n + 1 else n) → ∀ (α : Type) (l : List α) (x : α), [] ++ l.take n ++ [x] ++ l.drop fr = putAt l n bb x) := ⟨fun fr e α l x => by rw [e, ← ebb]; unfold putAt; simp⟩
 have HFb : Aside0 ((bb = true → n < t.ks.length ∧ gd t.ks n = a) ∧ (bb = true ↔ a ∈ t.ks)) := ⟨by rw [ebb]; exact ⟨HF.out.2.1, HF.out.2.2.2.1⟩⟩
 clear ebb
 cases b
 rotate_left
 ·have hn : n < N := by have := (HF.out.2.1 rfl).1; rw [HE.out.1] at this; exact this
  have hnI : (n : Int) < (N : Int) := by omega
  obtain ⟨ad, hA1, hadb, hat⟩ := int_at HQ.out.2.1 n (by rw [HE.out.2.1]; exact hn)
  have hcell := hat W6 (HI.out.bl.block ad.block hadb)
  have m1 : W6.cell? ⟨w.heap.size, 1, none⟩ = some (.slice A1 N c1) := by rw [blk_cell HI.out.bt]; rfl
  subst hA1
  clear hat hadb
  go_upto_region 14 with fail
  clear m1 hcell
  obtain ⟨A1, eA1⟩ : ∃ A, some ad = A := ⟨_, rfl⟩
  rw [eA1] at HI HQ HM ⊢
  obtain ⟨fr, efr⟩ : ∃ fr, n + 1 = fr := ⟨_, rfl⟩
  have hfr : fr ≤ N := by omega
  rw [show (n : Int) + 1 = (fr : Int) by omega]
  have HFQ := Aside0.mk (HFR.out fr efr.symm)
  clear hn hnI eA1 efr HFR
  have u0 : W6.cell? ⟨B, 0, none⟩ = some (.slice D6 L6 d6) := by rw [blk_cell HI.out.bu]; rfl
  have t0 : W6.cell? ⟨w.heap.size, 0, none⟩ = some (.slice A0 N c0) := by rw [blk_cell HI.out.bt]; rfl
  have QT : Aside0 (∀ m, m ≤ N → ∀ W, Below w.heap.size w W → Kd.C Kd.string W (if c0 = m then A0 else A0.map (·.add m)) (N - m) (t.ks.drop m)) := ⟨fun m hm W hW => by
   have el := HE.out.1
   have hpc := HP.out.1
   have h0 := Kd.C_drop (m := m) (c := c0) (Kd.C_below HQ.out.1 hW) (by omega) (by omega)
   rw [show m * (Kd.string).sz = m from Nat.mul_one _] at h0
   rwa [show (t.ks.drop m).length = N - m by rw [List.length_drop]; omega] at h0⟩
  have hnc : n ≤ c0 := by have := HP.out.1; omega
  have hfc : fr ≤ c0 := by have := HP.out.1; omega
  refine start_ (n := 9) (S := (fun w' => w'.cell? ⟨B, 0, none⟩ = some (.slice D6 L6 d6) ∧ w'.cell? ⟨w.heap.size, 0, none⟩ = some (.slice A0 N c0))) (ds := [8]) #[false, false, false, false, false, false, false, false, false] (by kernel_rfl) rfl rfl ⟨u0, t0⟩ (fun hHeld => ?_); refine with_tabW ins_tab14 ins_bits (fun HT_ HW_ => ?_)
  obtain ⟨Wd, eWd⟩ : ∃ Wd, W6.drew = Wd := ⟨_, rfl⟩
  have HI_ := Aside0.mk HI.out.drew
  clear HI
  have HI := HI_
  clear HI_
  rw [eWd] at HI hHeld ⊢
  clear eWd
  refine pure_ (i := 0) (N := some 76) (v := ?_) (a' := ?_) #[true, false, false, false, false, false, false, false, false] rfl rfl (any_of HT_.out (by kernel_rfl)) (fun _ _ _ h => h) (Or.inl ⟨by rfl, ?_⟩) ?_ ?_
  rotate_left
  ·intro w'
   go_simp
   with_reducible rfl
  rotate_left
  ·simp only [Act.put, List.setIfInBounds_toArray, List.set_cons_zero, List.set_cons_succ, i64_w, i32_w]
   rfl
  refine pure_ (i := 2) (N := some 78) (v := ?_) (a' := ?_) #[true, false, true, false, false, false, false, false, false] rfl rfl (any_of HT_.out (by kernel_rfl)) (fun _ _ _ h => h) (Or.inl ⟨by rfl, ?_⟩) ?_ ?_
  rotate_left
  ·intro w'
   go_simp
   with_reducible rfl
  rotate_left
  ·simp only [Act.put, List.setIfInBounds_toArray, List.set_cons_zero, List.set_cons_succ, i64_w, i32_w]
   rfl
  refine pure_ (i := 4) (N := some 80) (v := ?_) (a' := ?_) #[true, false, true, false, true, false, false, false, false] rfl rfl (any_of HT_.out (by kernel_rfl)) (fun _ _ _ h => h) (Or.inl ⟨by rfl, ?_⟩) ?_ ?_
  rotate_left
  ·intro w'
   go_simp
   with_reducible rfl
  rotate_left
  ·simp only [Act.put, List.setIfInBounds_toArray, List.set_cons_zero, List.set_cons_succ, i64_w, i32_w]
   rfl
  refine take_ (i := 1) (N := some 77) (v := ?_) (a' := ?_) #[true, true, true, false, true, false, false, false, false] rfl rfl (take_ofW HT_.out HW_.out (by kernel_rfl)) (fun _ _ _ h => h) (Or.inl ⟨by rfl, ?_⟩) hHeld ?_ ?_
  rotate_left
  ·rintro w' ⟨s0, s1⟩
   go_simp
   with_reducible rfl
  rotate_left
  ·simp only [Act.put, List.setIfInBounds_toArray, List.set_cons_zero, List.set_cons_succ, i64_w, i32_w]
   rfl
  refine take_ (i := 3) (N := some 79) (v := ?_) (a' := ?_) #[true, true, true, true, true, false, false, false, false] rfl rfl (take_ofW HT_.out HW_.out (by kernel_rfl)) (fun _ _ _ h => h) (Or.inl ⟨by rfl, ?_⟩) hHeld ?_ ?_
  rotate_left
  ·rintro w' ⟨s0, s1⟩
   go_simp
   with_reducible rfl
  rotate_left
  ·simp only [Act.put, List.setIfInBounds_toArray, List.set_cons_zero, List.set_cons_succ, i64_w, i32_w]
   rfl
  refine pure_ (i := 5) (N := some 81) (v := ?_) (a' := ?_) #[true, true, true, true, true, true, false, false, false] rfl rfl (any_of HT_.out (by kernel_rfl)) (fun _ _ _ h => h) (Or.inl ⟨by rfl, ?_⟩) ?_ ?_
  rotate_left
  ·intro w'
   go_simp
   with_reducible rfl
  rotate_left
  ·simp only [Act.put, List.setIfInBounds_toArray, List.set_cons_zero, List.set_cons_succ, i64_w, i32_w]
   rfl
  refine one_ (i := 6) (N := some 82) #[true, true, true, true, true, true, true, false, false] rfl rfl (one_of HT_.out (by kernel_rfl)) (by decide) (fun K hK => ?_)
  refine Kd.R_append_rows_step Kd.string (w0 := w) w.heap.size (by rfl) (.tmp 77) (.tmp 81) 25 9 (.string ⟨#[]⟩) 16 rfl Try.underlying25 info9 rfl (by decide) (by omega) (.slice D6 L6 d6) ((([] : List ByteArray) ++ (t.ks.take n)) ++ [a]) (t.ks.drop fr) _ _ _ (fun _ => True) (fun _ => False) rfl rfl HI.out.r0 (QT.out _ hfr _ HI.out.bl) (fun _ _ h => h) (fun _ h => h.elim) (fun _ _ => trivial) HI.out.bl HI.out.sz (by have := HE.out.1; simp only [List.length_append, List.length_take, List.length_cons, List.length_nil]; omega) ?_
  intro v14_ wa_ ho hb hg hat
  obtain ⟨D14, d14, rfl⟩ := Kd.R_slice ho
  obtain ⟨g1_, g2_, g3_⟩ := HI.out.app0 ho hb hg hat
  have HN := Aside0.mk g3_
  have t1 : wa_.cell? ⟨w.heap.size, 0, none⟩ = some (.slice A0 N c0) := by rw [blk_cell g1_]; rfl
  have u1 : wa_.cell? ⟨B, 0, none⟩ = some (.slice D6 L6 d6) := by rw [blk_cell g2_]; rfl
  have uf1 : wa_.frozen? ⟨B, 0, none⟩ = false := blk_frozen g2_ 0
  obtain ⟨L14, eL14⟩ : ∃ L, (((([] : List ByteArray) ++ (t.ks.take n)) ++ [a]) ++ (t.ks.drop fr)).length = L := ⟨_, rfl⟩
  rw [eL14] at HN
  rw [eL14]
  have HL14 := Aside0.mk eL14
  clear g1_ g2_ g3_ ho hb hg hat eL14
  clear hHeld
  refine hK.out _ _ ⟨u1, t1⟩ (fun hHeld => ?_)
  clear hK K
  refine norm_ (a' := ?_) ?_ ?_
  rotate_left
  ·show Act.put _ (some 82) _ = _
   simp only [Act.put, List.setIfInBounds_toArray, List.set_cons_zero, List.set_cons_succ, i64_w, i32_w]
   rfl
  refine pure_ (i := 7) (N := some 83) (v := ?_) (a' := ?_) #[true, true, true, true, true, true, true, true, false] rfl rfl (any_of HT_.out (by kernel_rfl)) (fun _ _ _ h => h) (Or.inl ⟨by rfl, ?_⟩) ?_ ?_
  rotate_left
  ·intro w'
   go_simp
   with_reducible rfl
  rotate_left
  ·simp only [Act.put, List.setIfInBounds_toArray, List.set_cons_zero, List.set_cons_succ, i64_w, i32_w]
   rfl
  refine last_ (i := 8) (N := none) #[true, true, true, true, true, true, true, true, true] rfl rfl (one_of HT_.out (by kernel_rfl)) (by decide) (fun K hK => ?_)
  refine skip_ (w1 := ?_) (by rfl) rfl ?_ ?_
  rotate_left
  ·go_simp
   rfl
  refine hK.out _ _ ?_
  clear hK K
  refine done_ (done_of HT_.out (by kernel_rfl)) ?_
  generalize (if c0 = fr then A0 else Option.map (fun x => x.add fr) A0) = X14
  generalize (wa_.setCell ⟨B, 0, none⟩ (.slice D14 L14 d14)) = W7 at HN ⊢
  clear HI hHeld t0 t1 u0 u1 uf1 QT hnc hfc HT_ HW_
  have HI := HN
  clear HN
  (try go_wp2)
  have u0 : W7.cell? ⟨B, 1, none⟩ = some (.slice D7 L7 d7) := by rw [blk_cell HI.out.bu]; rfl
  have t0 : W7.cell? ⟨w.heap.size, 1, none⟩ = some (.slice A1 N c1) := by rw [blk_cell HI.out.bt]; rfl
  have QT : Aside0 (∀ m, m ≤ N → ∀ W, Below w.heap.size w W → Kd.C (Kd.int .i64) W (if c1 = m then A1 else A1.map (·.add m)) (N - m) (t.vs.drop m)) := ⟨fun m hm W hW => by
   have el := HE.out.2.1
   have hpc := HP.out.2.1
   have h0 := Kd.C_drop (m := m) (c := c1) (Kd.C_below HQ.out.2.1 hW) (by omega) (by omega)
   rw [show m * ((Kd.int .i64)).sz = m from Nat.mul_one _] at h0
   rwa [show (t.vs.drop m).length = N - m by rw [List.length_drop]; omega] at h0⟩
  have hnc : n ≤ c1 := by have := HP.out.2.1; omega
  have hfc : fr ≤ c1 := by have := HP.out.2.1; omega
  refine start_ (n := 9) (S := (fun w' => w'.cell? ⟨B, 1, none⟩ = some (.slice D7 L7 d7) ∧ w'.cell? ⟨w.heap.size, 1, none⟩ = some (.slice A1 N c1))) (ds := [8]) #[false, false, false, false, false, false, false, false, false] (by kernel_rfl) rfl rfl ⟨u0, t0⟩ (fun hHeld => ?_); refine with_tabW ins_tab15 ins_bits (fun HT_ HW_ => ?_)
  obtain ⟨Wd, eWd⟩ : ∃ Wd, W7.drew = Wd := ⟨_, rfl⟩
  have HI_ := Aside0.mk HI.out.drew
  clear HI
  have HI := HI_
  clear HI_
  rw [eWd] at HI hHeld ⊢
  clear eWd
  refine pure_ (i := 0) (N := some 84) (v := ?_) (a' := ?_) #[true, false, false, false, false, false, false, false, false] rfl rfl (any_of HT_.out (by kernel_rfl)) (fun _ _ _ h => h) (Or.inl ⟨by rfl, ?_⟩) ?_ ?_
  rotate_left
  ·intro w'
   go_simp
   with_reducible rfl
  rotate_left
  ·simp only [Act.put, List.setIfInBounds_toArray, List.set_cons_zero, List.set_cons_succ, i64_w, i32_w]
   rfl
  refine pure_ (i := 2) (N := some 86) (v := ?_) (a' := ?_) #[true, false, true, false, false, false, false, false, false] rfl rfl (any_of HT_.out (by kernel_rfl)) (fun _ _ _ h => h) (Or.inl ⟨by rfl, ?_⟩) ?_ ?_
  rotate_left
  ·intro w'
   go_simp
   with_reducible rfl
  rotate_left
  ·simp only [Act.put, List.setIfInBounds_toArray, List.set_cons_zero, List.set_cons_succ, i64_w, i32_w]
   rfl
  refine pure_ (i := 4) (N := some 88) (v := ?_) (a' := ?_) #[true, false, true, false, true, false, false, false, false] rfl rfl (any_of HT_.out (by kernel_rfl)) (fun _ _ _ h => h) (Or.inl ⟨by rfl, ?_⟩) ?_ ?_
  rotate_left
  ·intro w'
   go_simp
   with_reducible rfl
  rotate_left
  ·simp only [Act.put, List.setIfInBounds_toArray, List.set_cons_zero, List.set_cons_succ, i64_w, i32_w]
   rfl
  refine take_ (i := 1) (N := some 85) (v := ?_) (a' := ?_) #[true, true, true, false, true, false, false, false, false] rfl rfl (take_ofW HT_.out HW_.out (by kernel_rfl)) (fun _ _ _ h => h) (Or.inl ⟨by rfl, ?_⟩) hHeld ?_ ?_
  rotate_left
  ·rintro w' ⟨s0, s1⟩
   go_simp
   with_reducible rfl
  rotate_left
  ·simp only [Act.put, List.setIfInBounds_toArray, List.set_cons_zero, List.set_cons_succ, i64_w, i32_w]
   rfl
  refine take_ (i := 3) (N := some 87) (v := ?_) (a' := ?_) #[true, true, true, true, true, false, false, false, false] rfl rfl (take_ofW HT_.out HW_.out (by kernel_rfl)) (fun _ _ _ h => h) (Or.inl ⟨by rfl, ?_⟩) hHeld ?_ ?_
  rotate_left
  ·rintro w' ⟨s0, s1⟩
   go_simp
   with_reducible rfl
  rotate_left
  ·simp only [Act.put, List.setIfInBounds_toArray, List.set_cons_zero, List.set_cons_succ, i64_w, i32_w]
   rfl
  refine pure_ (i := 5) (N := some 89) (v := ?_) (a' := ?_) #[true, true, true, true, true, true, false, false, false] rfl rfl (any_of HT_.out (by kernel_rfl)) (fun _ _ _ h => h) (Or.inl ⟨by rfl, ?_⟩) ?_ ?_
  rotate_left
  ·intro w'
   go_simp
   with_reducible rfl
  rotate_left
  ·simp only [Act.put, List.setIfInBounds_toArray, List.set_cons_zero, List.set_cons_succ, i64_w, i32_w]
   rfl
  refine one_ (i := 6) (N := some 90) #[true, true, true, true, true, true, true, false, false] rfl rfl (one_of HT_.out (by kernel_rfl)) (by decide) (fun K hK => ?_)
  refine Kd.R_append_rows_step (Kd.int .i64) (w0 := w) w.heap.size (by rfl) (.tmp 85) (.tmp 89) 26 3 (.int .i64 0) 8 rfl Try.underlying26 info3 rfl (by decide) (by omega) (.slice D7 L7 d7) ((([] : List Int) ++ (t.vs.take n)) ++ [v]) (t.vs.drop fr) _ _ _ (fun k => some k ≠ (.slice D8 L8 d8 : Value).ownBlock) (fun _ => False) rfl rfl HI.out.r1 (QT.out _ hfr _ HI.out.bl) (fun _ _ h => h) (fun _ h => h.elim) HI.out.f1 HI.out.bl HI.out.sz (by have := HE.out.2.1; simp only [List.length_append, List.length_take, List.length_cons, List.length_nil]; omega) ?_
  intro v15_ wa_ ho hb hg hat
  obtain ⟨D15, d15, rfl⟩ := Kd.R_slice ho
  obtain ⟨g1_, g2_, g3_⟩ := HI.out.app1 ho hb hg hat
  have HN := Aside0.mk g3_
  have t1 : wa_.cell? ⟨w.heap.size, 1, none⟩ = some (.slice A1 N c1) := by rw [blk_cell g1_]; rfl
  have u1 : wa_.cell? ⟨B, 1, none⟩ = some (.slice D7 L7 d7) := by rw [blk_cell g2_]; rfl
  have uf1 : wa_.frozen? ⟨B, 1, none⟩ = false := blk_frozen g2_ 1
  obtain ⟨L15, eL15⟩ : ∃ L, (((([] : List Int) ++ (t.vs.take n)) ++ [v]) ++ (t.vs.drop fr)).length = L := ⟨_, rfl⟩
  rw [eL15] at HN
  rw [eL15]
  have HL15 := Aside0.mk eL15
  clear g1_ g2_ g3_ ho hb hg hat eL15
  clear hHeld
  refine hK.out _ _ ⟨u1, t1⟩ (fun hHeld => ?_)
  clear hK K
  refine norm_ (a' := ?_) ?_ ?_
  rotate_left
  ·show Act.put _ (some 90) _ = _
   simp only [Act.put, List.setIfInBounds_toArray, List.set_cons_zero, List.set_cons_succ, i64_w, i32_w]
   rfl
  refine pure_ (i := 7) (N := some 91) (v := ?_) (a' := ?_) #[true, true, true, true, true, true, true, true, false] rfl rfl (any_of HT_.out (by kernel_rfl)) (fun _ _ _ h => h) (Or.inl ⟨by rfl, ?_⟩) ?_ ?_
  rotate_left
  ·intro w'
   go_simp
   with_reducible rfl
  rotate_left
  ·simp only [Act.put, List.setIfInBounds_toArray, List.set_cons_zero, List.set_cons_succ, i64_w, i32_w]
   rfl
  refine last_ (i := 8) (N := none) #[true, true, true, true, true, true, true, true, true] rfl rfl (one_of HT_.out (by kernel_rfl)) (by decide) (fun K hK => ?_)
  refine skip_ (w1 := ?_) (by rfl) rfl ?_ ?_
  rotate_left
  ·go_simp
   rfl
  refine hK.out _ _ ?_
  clear hK K
  refine done_ (done_of HT_.out (by kernel_rfl)) ?_
  generalize (if c1 = fr then A1 else Option.map (fun x => x.add fr) A1) = X15
  generalize (wa_.setCell ⟨B, 1, none⟩ (.slice D15 L15 d15)) = W8 at HN ⊢
  clear HI hHeld t0 t1 u0 u1 uf1 QT hnc hfc HT_ HW_
  have HI := HN
  clear HN
  (try go_wp2)
  have u0 : W8.cell? ⟨B, 2, none⟩ = some (.slice D8 L8 d8) := by rw [blk_cell HI.out.bu]; rfl
  have t0 : W8.cell? ⟨w.heap.size, 2, none⟩ = some (.slice A2 N c2) := by rw [blk_cell HI.out.bt]; rfl
  have QT : Aside0 (∀ m, m ≤ N → ∀ W, Below w.heap.size w W → Kd.C (Kd.int .i64) W (if c2 = m then A2 else A2.map (·.add m)) (N - m) (t.ls.drop m)) := ⟨fun m hm W hW => by
   have el := HE.out.2.2.1
   have hpc := HP.out.2.2.1
   have h0 := Kd.C_drop (m := m) (c := c2) (Kd.C_below HQ.out.2.2.1 hW) (by omega) (by omega)
   rw [show m * ((Kd.int .i64)).sz = m from Nat.mul_one _] at h0
   rwa [show (t.ls.drop m).length = N - m by rw [List.length_drop]; omega] at h0⟩
  have hnc : n ≤ c2 := by have := HP.out.2.2.1; omega
  have hfc : fr ≤ c2 := by have := HP.out.2.2.1; omega
  refine start_ (n := 9) (S := (fun w' => w'.cell? ⟨B, 2, none⟩ = some (.slice D8 L8 d8) ∧ w'.cell? ⟨w.heap.size, 2, none⟩ = some (.slice A2 N c2))) (ds := [8]) #[false, false, false, false, false, false, false, false, false] (by kernel_rfl) rfl rfl ⟨u0, t0⟩ (fun hHeld => ?_); refine with_tabW ins_tab16 ins_bits (fun HT_ HW_ => ?_)
  obtain ⟨Wd, eWd⟩ : ∃ Wd, W8.drew = Wd := ⟨_, rfl⟩
  have HI_ := Aside0.mk HI.out.drew
  clear HI
  have HI := HI_
  clear HI_
  rw [eWd] at HI hHeld ⊢
  clear eWd
  refine pure_ (i := 0) (N := some 92) (v := ?_) (a' := ?_) #[true, false, false, false, false, false, false, false, false] rfl rfl (any_of HT_.out (by kernel_rfl)) (fun _ _ _ h => h) (Or.inl ⟨by rfl, ?_⟩) ?_ ?_
  rotate_left
  ·intro w'
   go_simp
   with_reducible rfl
  rotate_left
  ·simp only [Act.put, List.setIfInBounds_toArray, List.set_cons_zero, List.set_cons_succ, i64_w, i32_w]
   rfl
  refine pure_ (i := 2) (N := some 94) (v := ?_) (a' := ?_) #[true, false, true, false, false, false, false, false, false] rfl rfl (any_of HT_.out (by kernel_rfl)) (fun _ _ _ h => h) (Or.inl ⟨by rfl, ?_⟩) ?_ ?_
  rotate_left
  ·intro w'
   go_simp
   with_reducible rfl
  rotate_left
  ·simp only [Act.put, List.setIfInBounds_toArray, List.set_cons_zero, List.set_cons_succ, i64_w, i32_w]
   rfl
  refine pure_ (i := 4) (N := some 96) (v := ?_) (a' := ?_) #[true, false, true, false, true, false, false, false, false] rfl rfl (any_of HT_.out (by kernel_rfl)) (fun _ _ _ h => h) (Or.inl ⟨by rfl, ?_⟩) ?_ ?_
  rotate_left
  ·intro w'
   go_simp
   with_reducible rfl
  rotate_left
  ·simp only [Act.put, List.setIfInBounds_toArray, List.set_cons_zero, List.set_cons_succ, i64_w, i32_w]
   rfl
  refine take_ (i := 1) (N := some 93) (v := ?_) (a' := ?_) #[true, true, true, false, true, false, false, false, false] rfl rfl (take_ofW HT_.out HW_.out (by kernel_rfl)) (fun _ _ _ h => h) (Or.inl ⟨by rfl, ?_⟩) hHeld ?_ ?_
  rotate_left
  ·rintro w' ⟨s0, s1⟩
   go_simp
   with_reducible rfl
  rotate_left
  ·simp only [Act.put, List.setIfInBounds_toArray, List.set_cons_zero, List.set_cons_succ, i64_w, i32_w]
   rfl
  refine take_ (i := 3) (N := some 95) (v := ?_) (a' := ?_) #[true, true, true, true, true, false, false, false, false] rfl rfl (take_ofW HT_.out HW_.out (by kernel_rfl)) (fun _ _ _ h => h) (Or.inl ⟨by rfl, ?_⟩) hHeld ?_ ?_
  rotate_left
  ·rintro w' ⟨s0, s1⟩
   go_simp
   with_reducible rfl
  rotate_left
  ·simp only [Act.put, List.setIfInBounds_toArray, List.set_cons_zero, List.set_cons_succ, i64_w, i32_w]
   rfl
  refine pure_ (i := 5) (N := some 97) (v := ?_) (a' := ?_) #[true, true, true, true, true, true, false, false, false] rfl rfl (any_of HT_.out (by kernel_rfl)) (fun _ _ _ h => h) (Or.inl ⟨by rfl, ?_⟩) ?_ ?_
  rotate_left
  ·intro w'
   go_simp
   with_reducible rfl
  rotate_left
  ·simp only [Act.put, List.setIfInBounds_toArray, List.set_cons_zero, List.set_cons_succ, i64_w, i32_w]
   rfl
  refine one_ (i := 6) (N := some 98) #[true, true, true, true, true, true, true, false, false] rfl rfl (one_of HT_.out (by kernel_rfl)) (by decide) (fun K hK => ?_)
  refine Kd.R_append_rows_step (Kd.int .i64) (w0 := w) w.heap.size (by rfl) (.tmp 93) (.tmp 97) 26 3 (.int .i64 0) 8 rfl Try.underlying26 info3 rfl (by decide) (by omega) (.slice D8 L8 d8) ((([] : List Int) ++ (t.ls.take n)) ++ [nx]) (t.ls.drop fr) _ _ _ (fun k => some k ≠ (.slice D15 L15 d15 : Value).ownBlock) (fun _ => False) rfl rfl HI.out.r2 (QT.out _ hfr _ HI.out.bl) (fun _ _ h => h) (fun _ h => h.elim) HI.out.f2 HI.out.bl HI.out.sz (by have := HE.out.2.2.1; simp only [List.length_append, List.length_take, List.length_cons, List.length_nil]; omega) ?_
  intro v16_ wa_ ho hb hg hat
  obtain ⟨D16, d16, rfl⟩ := Kd.R_slice ho
  obtain ⟨g1_, g2_, g3_⟩ := HI.out.app2 ho hb hg hat
  have HN := Aside0.mk g3_
  have t1 : wa_.cell? ⟨w.heap.size, 2, none⟩ = some (.slice A2 N c2) := by rw [blk_cell g1_]; rfl
  have u1 : wa_.cell? ⟨B, 2, none⟩ = some (.slice D8 L8 d8) := by rw [blk_cell g2_]; rfl
  have uf1 : wa_.frozen? ⟨B, 2, none⟩ = false := blk_frozen g2_ 2
  obtain ⟨L16, eL16⟩ : ∃ L, (((([] : List Int) ++ (t.ls.take n)) ++ [nx]) ++ (t.ls.drop fr)).length = L := ⟨_, rfl⟩
  rw [eL16] at HN
  rw [eL16]
  have HL16 := Aside0.mk eL16
  clear g1_ g2_ g3_ ho hb hg hat eL16
  clear hHeld
  refine hK.out _ _ ⟨u1, t1⟩ (fun hHeld => ?_)
  clear hK K
  refine norm_ (a' := ?_) ?_ ?_
  rotate_left
  ·show Act.put _ (some 98) _ = _
   simp only [Act.put, List.setIfInBounds_toArray, List.set_cons_zero, List.set_cons_succ, i64_w, i32_w]
   rfl
  refine pure_ (i := 7) (N := some 99) (v := ?_) (a' := ?_) #[true, true, true, true, true, true, true, true, false] rfl rfl (any_of HT_.out (by kernel_rfl)) (fun _ _ _ h => h) (Or.inl ⟨by rfl, ?_⟩) ?_ ?_
  rotate_left
  ·intro w'
   go_simp
   with_reducible rfl
  rotate_left
  ·simp only [Act.put, List.setIfInBounds_toArray, List.set_cons_zero, List.set_cons_succ, i64_w, i32_w]
   rfl
  refine last_ (i := 8) (N := none) #[true, true, true, true, true, true, true, true, true] rfl rfl (one_of HT_.out (by kernel_rfl)) (by decide) (fun K hK => ?_)
  refine skip_ (w1 := ?_) (by rfl) rfl ?_ ?_
  rotate_left
  ·go_simp
   rfl
  refine hK.out _ _ ?_
  clear hK K
  refine done_ (done_of HT_.out (by kernel_rfl)) ?_
  generalize (if c2 = fr then A2 else Option.map (fun x => x.add fr) A2) = X16
  generalize (wa_.setCell ⟨B, 2, none⟩ (.slice D16 L16 d16)) = W9 at HN ⊢
  clear HI hHeld t0 t1 u0 u1 uf1 QT hnc hfc HT_ HW_
  have HI := HN
  clear HN
  have HN : Aside0 (InS w W9 B #[.slice A0 N c0, .slice A1 N c1, .slice A2 N c2, .slice A3 M3 c3, .slice A4 M4 c4] #[.slice none 0 0, .slice none 0 0, .slice none 0 0, .slice none 0 0, .slice none 0 0] (.slice D14 L14 d14) (.slice D15 L15 d15) (.slice D16 L16 d16) (putAt t.ks n bb a) (putAt t.vs n bb v) (putAt t.ls n bb nx)) := ⟨by
   have h0 := HI.out
   rw [HFQ.out, HFQ.out, HFQ.out] at h0
   exact h0⟩
  rw [HFQ.out] at HL14 HL15 HL16
  clear HI HFQ
  have HI := HN
  clear HN
  have hrp := HF.out.2.2.2.2
  obtain ⟨P, Mk, nx', r1, r2, r3, r4⟩ := insert_ex3 t hrp a v nx n bb (by rw [HE.out.1]; exact hnN) HFb.out.1 HF.out.2.2.1 HFb.out.2 HL.out.2 (by rw [HE.out.1]; exact hNl)
  obtain ⟨kk, hkk⟩ := r1.rounds
  have HD := Aside0.mk (And.intro r2 (And.intro r3 r4))
  have hMP : ∀ k, k < w.heap.size → ¬ ((Value.slice D14 L14 d14).ownBlock = some k ∨ (Value.slice D15 L15 d15).ownBlock = some k ∨ (Value.slice D16 L16 d16).ownBlock = some k) := fun k hk h => by
   rcases h with h | h | h
   ·have := Kd.R_base HI.out.r0 k h; omega
   ·have := Kd.R_base HI.out.r1 k h; omega
   ·have := Kd.R_base HI.out.r2 k h; omega
  have hnP : ∀ (g : Nat) (cs : Array Value), W9.heap[g]? = some (.cells cs 28 (0, 0)) → ¬ ((Value.slice D14 L14 d14).ownBlock = some g ∨ (Value.slice D15 L15 d15).ownBlock = some g ∨ (Value.slice D16 L16 d16).ownBlock = some g) := fun g cs hg h => by
   rcases h with h | h | h
   ·exact Kd.R_ne HI.out.r0 hg (by decide) h.symm
   ·exact Kd.R_ne HI.out.r1 hg (by decide) h.symm
   ·exact Kd.R_ne HI.out.r2 hg (by decide) h.symm
  obtain ⟨P0, eP0⟩ : ∃ P0 : Nat → Prop, P0 = fun k => (Value.slice D14 L14 d14).ownBlock = some k := ⟨_, rfl⟩
  obtain ⟨P1, eP1⟩ : ∃ P1 : Nat → Prop, P1 = fun k => (Value.slice D15 L15 d15).ownBlock = some k := ⟨_, rfl⟩
  obtain ⟨P2, eP2⟩ : ∃ P2 : Nat → Prop, P2 = fun k => (Value.slice D16 L16 d16).ownBlock = some k := ⟨_, rfl⟩
  have s0 : Kd.R Kd.string 9 W9 w.heap.size P0 (.slice D14 L14 d14) (putAt t.ks n bb a) := by rw [eP0]; exact R_self HI.out.r0
  have s1 : Kd.R (Kd.int .i64) 3 W9 w.heap.size P1 (.slice D15 L15 d15) (putAt t.vs n bb v) := by rw [eP1]; exact R_self HI.out.r1
  have s2 : Kd.R (Kd.int .i64) 3 W9 w.heap.size P2 (.slice D16 L16 d16) (putAt t.ls n bb nx) := by rw [eP2]; exact R_self HI.out.r2
  have s12 : ∀ k, P1 k → ¬ P2 k := fun k h1 h2 => by rw [eP1] at h1; rw [eP2] at h2; exact HI.out.r1.1 k h1 h2.symm
  have s21 : ∀ k, P2 k → ¬ P1 k := fun k h1 h2 => s12 k h2 h1
  have HMP : Aside0 (∀ k, k < w.heap.size → ¬ (P0 k ∨ P1 k ∨ P2 k)) := ⟨by rw [eP0, eP1, eP2]; exact hMP⟩
  have HNP : Aside0 (∀ (g : Nat) (cs : Array Value), W9.heap[g]? = some (.cells cs 28 (0, 0)) → ¬ (P0 g ∨ P1 g ∨ P2 g)) := ⟨by rw [eP0, eP1, eP2]; exact hnP⟩
  clear eP0 eP1 eP2 hMP hnP
  have HC : Aside0 (∀ W_, Go.Proofs.YtjhgknagmiekeaaW.PrintWords.Kept W9 W_ (fun k => P0 k ∨ P1 k ∨ P2 k) → RtAt W_ t (.slice A0 N c0) (.slice A1 N c1) (.slice A2 N c2) (.slice A3 M3 c3) (.slice A4 M4 c4)) := ⟨fun W_ hk => by
   have h0 := HM.out W_ (Nat.le_trans HI.out.sz hk.1) (fun k h1 _ => (hk.2 k (Nat.lt_of_lt_of_le h1 HI.out.sz) (HMP.out k h1)).trans (HI.out.bl.block k h1))
   rw [HE.out.1, HE.out.2.1, HE.out.2.2.1, HE.out.2.2.2.1, HE.out.2.2.2.2] at h0
   exact h0⟩
  have q := musterref03_remade.calls kk A0 c0 t.ks A1 c1 t.vs A2 c2 t.ls A3 c3 t.ps A4 c4 t.ms P0 (.slice D14 L14 d14) (putAt t.ks n bb a) P1 (.slice D15 L15 d15) (putAt t.vs n bb v) P2 (.slice D16 L16 d16) (putAt t.ls n bb nx) none 0 [] none 0 [] a (wrap64 (nx + 1)) _ _ _ _ _ _ w W9 HI.out.bl
   (fun W_ hk => (HC.out W_ hk).a0.c) (by rw [HE.out.1]; exact HP.out.1) (fun W_ hk => (HC.out W_ hk).a1.c) (by rw [HE.out.2.1]; exact HP.out.2.1) (fun W_ hk => (HC.out W_ hk).a2.c) (by rw [HE.out.2.2.1]; exact HP.out.2.2.1) (fun W_ hk => (HC.out W_ hk).a3.c) (by rw [HE.out.2.2.2.1]; exact HP.out.2.2.2.1) (fun W_ hk => (HC.out W_ hk).a4.c) (by rw [HE.out.2.2.2.2]; exact HP.out.2.2.2.2)
   s0 s1 s12 s2 s21
   (fun W_ _ => Kd.C_nil _ _) (Nat.le_refl _) (fun W_ _ => Kd.C_nil _ _) (Nat.le_refl _) hkk
  rw [HE.out.1, HE.out.2.1, HE.out.2.2.1, HE.out.2.2.2.1, HE.out.2.2.2.2] at q
  have QR := Aside0.mk q
  clear q hkk r1 r2 r3 r4 s0 s1 s2 s12 s21
  have m0 : W9.cell? ⟨w.heap.size, 0, none⟩ = some (.slice A0 N c0) := by rw [blk_cell HI.out.bt]; rfl
  have u0 : W9.cell? ⟨B, 0, none⟩ = some (.slice D14 L14 d14) := by rw [blk_cell HI.out.bu]; rfl
  have m1 : W9.cell? ⟨w.heap.size, 1, none⟩ = some (.slice A1 N c1) := by rw [blk_cell HI.out.bt]; rfl
  have u1 : W9.cell? ⟨B, 1, none⟩ = some (.slice D15 L15 d15) := by rw [blk_cell HI.out.bu]; rfl
  have m2 : W9.cell? ⟨w.heap.size, 2, none⟩ = some (.slice A2 N c2) := by rw [blk_cell HI.out.bt]; rfl
  have u2 : W9.cell? ⟨B, 2, none⟩ = some (.slice D16 L16 d16) := by rw [blk_cell HI.out.bu]; rfl
  have m3 : W9.cell? ⟨w.heap.size, 3, none⟩ = some (.slice A3 M3 c3) := by rw [blk_cell HI.out.bt]; rfl
  have u3 : W9.cell? ⟨B, 3, none⟩ = some (.slice none 0 0) := by rw [blk_cell HI.out.bu]; rfl
  have m4 : W9.cell? ⟨w.heap.size, 4, none⟩ = some (.slice A4 M4 c4) := by rw [blk_cell HI.out.bt]; rfl
  have u4 : W9.cell? ⟨B, 4, none⟩ = some (.slice none 0 0) := by rw [blk_cell HI.out.bu]; rfl
  go_wp2_with (go_at_call 92; refine QR.out.mono ?_)
  rintro e W4 ⟨x0, x1, x2, x3, x4, rfl, R0, R1, R2, R3, R4, hb4, hk4⟩
  obtain ⟨E0, g0, rfl⟩ := Kd.R_slice R0
  obtain ⟨E1, g1, rfl⟩ := Kd.R_slice R1
  obtain ⟨E2, g2, rfl⟩ := Kd.R_slice R2
  obtain ⟨E3, g3, rfl⟩ := Kd.R_slice R3
  obtain ⟨E4, g4, rfl⟩ := Kd.R_slice R4
  have HR := Aside0.mk (And.intro R0 (And.intro R1 (And.intro R2 (And.intro R3 R4))))
  obtain ⟨y0, ey0⟩ : ∃ y, (putAt t.ks n bb a).length = y := ⟨_, rfl⟩
  obtain ⟨y1, ey1⟩ : ∃ y, (putAt t.vs n bb v).length = y := ⟨_, rfl⟩
  obtain ⟨y2, ey2⟩ : ∃ y, (putAt t.ls n bb nx).length = y := ⟨_, rfl⟩
  obtain ⟨y3, ey3⟩ : ∃ y, P.length = y := ⟨_, rfl⟩
  obtain ⟨y4, ey4⟩ : ∃ y, Mk.length = y := ⟨_, rfl⟩
  rw [ey0, ey1, ey2, ey3, ey4] at HR
  rw [ey0, ey1, ey2, ey3, ey4]
  clear R0 R1 R2 R3 R4
  have hbt := blk_kept HI.out.bt hk4 (HNP.out _ _ HI.out.bt)
  have hbz := blk_kept HI.out.bz hk4 (HNP.out _ _ HI.out.bz)
  have hbu := blk_kept HI.out.bu hk4 (HNP.out _ _ HI.out.bu)
  have HU4 := Aside0.mk (And.intro hbt (And.intro hbz hbu))
  have HB4 := Aside0.mk hb4
  have HY := Aside0.mk (And.intro ey0 (And.intro ey1 (And.intro ey2 (And.intro ey3 ey4))))
  clear hbt hbz hk4 hb4 HI QR HC HNP HMP ey0 ey1 ey2 ey3 ey4 m0 u0 m1 u1 m2 u2 m3 u3 m4 u4
  have f0 : W4.frozen? ⟨B, 0, none⟩ = false := blk_frozen hbu 0
  have v0 : W4.cell? ⟨B, 0, none⟩ = some (.slice D14 L14 d14) := by rw [blk_cell hbu]; rfl
  have f1 : W4.frozen? ⟨B, 1, none⟩ = false := blk_frozen hbu 1
  have v1 : W4.cell? ⟨B, 1, none⟩ = some (.slice D15 L15 d15) := by rw [blk_cell hbu]; rfl
  have f2 : W4.frozen? ⟨B, 2, none⟩ = false := blk_frozen hbu 2
  have v2 : W4.cell? ⟨B, 2, none⟩ = some (.slice D16 L16 d16) := by rw [blk_cell hbu]; rfl
  have f3 : W4.frozen? ⟨B, 3, none⟩ = false := blk_frozen hbu 3
  have v3 : W4.cell? ⟨B, 3, none⟩ = some (.slice none 0 0) := by rw [blk_cell hbu]; rfl
  have f4 : W4.frozen? ⟨B, 4, none⟩ = false := blk_frozen hbu 4
  have v4 : W4.cell? ⟨B, 4, none⟩ = some (.slice none 0 0) := by rw [blk_cell hbu]; rfl
  clear hbu
  go_upto_region 18 with fail
  have hz5 := V.set5_at HU4.out.2.2 (.slice E0 y0 g0) (.slice E1 y1 g1) (.slice E2 y2 g2) (.slice E3 y3 g3) (.slice E4 y4 g4)
  obtain ⟨W5, e5⟩ : ∃ W5, V.set5 W4 B (.slice E0 y0 g0) (.slice E1 y1 g1) (.slice E2 y2 g2) (.slice E3 y3 g3) (.slice E4 y4 g4) = W5 := ⟨_, rfl⟩
  have hfar : ∀ k, k ≠ B → W5.heap[k]? = W4.heap[k]? := fun k hk => by rw [← e5]; exact V.set5_far _ _ _ _ _ _ _ k hk
  have hsz5 : W5.heap.size = W4.heap.size := by rw [← e5]; simp [V.set5, T.size_setCell]
  have hb5 : Below w.heap.size w W5 := by rw [← e5]; exact V.set5_below HB4.out (by omega) _ _ _ _ _
  rw [e5] at hz5
  have e6 : ((((W4.setCell { block := B, off := 0 } (.slice E0 y0 g0)).setCell { block := B, off := 1 } (.slice E1 y1 g1)).setCell { block := B, off := 2 } (.slice E2 y2 g2)).setCell { block := B, off := 3 } (.slice E3 y3 g3)).setCell { block := B, off := 4 } (.slice E4 y4 g4) = W5 := e5
  rw [e6]
  clear f0 v0 f1 v1 f2 v2 f3 v3 f4 v4
  have br5 := (hfar (w.heap.size + 1) (by omega)).trans HU4.out.2.1
  have HFAR := Aside0.mk (And.intro hfar (And.intro hsz5 hb5))
  have HZ5 := Aside0.mk (And.intro hz5 br5)
  have k0 : W5.cell? ⟨B, 0, none⟩ = some (.slice E0 y0 g0) := by rw [blk_cell hz5]; rfl
  have z0 : W5.cell? ⟨w.heap.size + 1, 0, none⟩ = some (.slice none 0 0) := by rw [blk_cell br5]; rfl
  have g0_ : W5.frozen? ⟨w.heap.size + 1, 0, none⟩ = false := blk_frozen br5 0
  have k1 : W5.cell? ⟨B, 1, none⟩ = some (.slice E1 y1 g1) := by rw [blk_cell hz5]; rfl
  have z1 : W5.cell? ⟨w.heap.size + 1, 1, none⟩ = some (.slice none 0 0) := by rw [blk_cell br5]; rfl
  have g1_ : W5.frozen? ⟨w.heap.size + 1, 1, none⟩ = false := blk_frozen br5 1
  have k2 : W5.cell? ⟨B, 2, none⟩ = some (.slice E2 y2 g2) := by rw [blk_cell hz5]; rfl
  have z2 : W5.cell? ⟨w.heap.size + 1, 2, none⟩ = some (.slice none 0 0) := by rw [blk_cell br5]; rfl
  have g2_ : W5.frozen? ⟨w.heap.size + 1, 2, none⟩ = false := blk_frozen br5 2
  have k3 : W5.cell? ⟨B, 3, none⟩ = some (.slice E3 y3 g3) := by rw [blk_cell hz5]; rfl
  have z3 : W5.cell? ⟨w.heap.size + 1, 3, none⟩ = some (.slice none 0 0) := by rw [blk_cell br5]; rfl
  have g3_ : W5.frozen? ⟨w.heap.size + 1, 3, none⟩ = false := blk_frozen br5 3
  have k4 : W5.cell? ⟨B, 4, none⟩ = some (.slice E4 y4 g4) := by rw [blk_cell hz5]; rfl
  have z4 : W5.cell? ⟨w.heap.size + 1, 4, none⟩ = some (.slice none 0 0) := by rw [blk_cell br5]; rfl
  have g4_ : W5.frozen? ⟨w.heap.size + 1, 4, none⟩ = false := blk_frozen br5 4
  clear hz5 br5 hfar hsz5 hb5 e6 e5
  go_wp2_with fail
  have hz6 := V.set5_at HZ5.out.2 (.slice E0 y0 g0) (.slice E1 y1 g1) (.slice E2 y2 g2) (.slice E3 y3 g3) (.slice E4 y4 g4)
  obtain ⟨W6, e6⟩ : ∃ W6, V.set5 W5 (w.heap.size + 1) (.slice E0 y0 g0) (.slice E1 y1 g1) (.slice E2 y2 g2) (.slice E3 y3 g3) (.slice E4 y4 g4) = W6 := ⟨_, rfl⟩
  have hfar6 : ∀ k, k ≠ w.heap.size + 1 → W6.heap[k]? = W5.heap[k]? := fun k hk => by rw [← e6]; exact V.set5_far _ _ _ _ _ _ _ k hk
  have hsz6 : W6.heap.size = W5.heap.size := by rw [← e6]; simp [V.set5, T.size_setCell]
  have hb6 : Below w.heap.size w W6 := by rw [← e6]; exact V.set5_below HFAR.out.2.2 (by omega) _ _ _ _ _
  rw [e6] at hz6
  have e7 : ((((W5.setCell { block := w.heap.size + 1, off := 0 } (.slice E0 y0 g0)).setCell { block := w.heap.size + 1, off := 1 } (.slice E1 y1 g1)).setCell { block := w.heap.size + 1, off := 2 } (.slice E2 y2 g2)).setCell { block := w.heap.size + 1, off := 3 } (.slice E3 y3 g3)).setCell { block := w.heap.size + 1, off := 4 } (.slice E4 y4 g4) = W6 := e6
  rw [e7]
  have q0 : W6.cell? ⟨w.heap.size + 1, 0, none⟩ = some (.slice E0 y0 g0) := by rw [blk_cell hz6]; rfl
  have q1 : W6.cell? ⟨w.heap.size + 1, 1, none⟩ = some (.slice E1 y1 g1) := by rw [blk_cell hz6]; rfl
  have q2 : W6.cell? ⟨w.heap.size + 1, 2, none⟩ = some (.slice E2 y2 g2) := by rw [blk_cell hz6]; rfl
  have q3 : W6.cell? ⟨w.heap.size + 1, 3, none⟩ = some (.slice E3 y3 g3) := by rw [blk_cell hz6]; rfl
  have q4 : W6.cell? ⟨w.heap.size + 1, 4, none⟩ = some (.slice E4 y4 g4) := by rw [blk_cell hz6]; rfl
  refine bodyPost_ret (v := .tuple #[.agg #[.slice E0 y0 g0, .slice E1 y1 g1, .slice E2 y2 g2, .slice E3 y3 g3, .slice E4 y4 g4], .int .i64 (rd t.vs n), .bool true, .int .i64 nx']) (by simp [results, Try.results66, go_sem, q0, q1, q2, q3, q4]) rfl ?_
  have hgo : ∀ w2 : World, Rob w.heap.size W6 w2 → ∀ k, w.heap.size ≤ k → k < W4.heap.size → (∀ cells, W4.heap[k]? ≠ some (.cells cells 28 (0, 0))) → w2.heap[k]? = W4.heap[k]? := fun w2 h2 k h3 h4 h5 => by
   have hkB : k ≠ B := fun e => h5 _ (by rw [e]; exact HU4.out.2.2)
   have hkR : k ≠ w.heap.size + 1 := fun e => h5 _ (by rw [e]; exact HU4.out.2.1)
   rw [h2 k h3 (by rw [hsz6, HFAR.out.2.1]; exact h4), hfar6 k hkR, HFAR.out.1 k hkB]
  have hle := HD.out.2.2
  rw [HE.out.1] at hle
  refine ⟨⟨putAt t.ks n bb a, putAt t.vs n bb v, putAt t.ls n bb nx, P, Mk⟩, (rd t.vs n), true, nx', _, _, _, _, _, rfl, fun w2 h2 => ?_, HD.out.1, ⟨n, P, Mk, by rw [HE.out.1]; exact hnN, by have h9 := HFb.out.1; rw [HBq.out] at h9; exact h9, by have h9 := HFb.out.2; rw [HBq.out] at h9; exact h9, HF.out.2.2.1, rfl, by rw [HBq.out], HD.out.2.1⟩, hle, hb6⟩
  obtain ⟨R0, R1, R2, R3, R4⟩ := HR.out
  rw [← HY.out.1] at R0
  rw [← HY.out.2.1] at R1
  rw [← HY.out.2.2.1] at R2
  rw [← HY.out.2.2.2.1] at R3
  rw [← HY.out.2.2.2.2] at R4
  rw [← HY.out.1, ← HY.out.2.1, ← HY.out.2.2.1, ← HY.out.2.2.2.1, ← HY.out.2.2.2.2]
  exact ⟨R_far28 R0 (by decide) (hgo w2 h2), R_far28 R1 (by decide) (hgo w2 h2), R_far28 R2 (by decide) (hgo w2 h2), R_far28 R3 (by decide) (hgo w2 h2), R_far28 R4 (by decide) (hgo w2 h2)⟩
 ·go_upto_region 14 with fail
  obtain ⟨fr, efr⟩ : ∃ fr, n = fr := ⟨_, rfl⟩
  have hfr : fr ≤ N := by omega
  rw [efr]
  have HFQ := Aside0.mk (HFR.out fr efr.symm)
  clear efr HFR
  have u0 : W6.cell? ⟨B, 0, none⟩ = some (.slice D6 L6 d6) := by rw [blk_cell HI.out.bu]; rfl
  have t0 : W6.cell? ⟨w.heap.size, 0, none⟩ = some (.slice A0 N c0) := by rw [blk_cell HI.out.bt]; rfl
  have QT : Aside0 (∀ m, m ≤ N → ∀ W, Below w.heap.size w W → Kd.C Kd.string W (if c0 = m then A0 else A0.map (·.add m)) (N - m) (t.ks.drop m)) := ⟨fun m hm W hW => by
   have el := HE.out.1
   have hpc := HP.out.1
   have h0 := Kd.C_drop (m := m) (c := c0) (Kd.C_below HQ.out.1 hW) (by omega) (by omega)
   rw [show m * (Kd.string).sz = m from Nat.mul_one _] at h0
   rwa [show (t.ks.drop m).length = N - m by rw [List.length_drop]; omega] at h0⟩
  have hnc : n ≤ c0 := by have := HP.out.1; omega
  have hfc : fr ≤ c0 := by have := HP.out.1; omega
  refine start_ (n := 9) (S := (fun w' => w'.cell? ⟨B, 0, none⟩ = some (.slice D6 L6 d6) ∧ w'.cell? ⟨w.heap.size, 0, none⟩ = some (.slice A0 N c0))) (ds := [8]) #[false, false, false, false, false, false, false, false, false] (by kernel_rfl) rfl rfl ⟨u0, t0⟩ (fun hHeld => ?_); refine with_tabW ins_tab14 ins_bits (fun HT_ HW_ => ?_)
  obtain ⟨Wd, eWd⟩ : ∃ Wd, W6.drew = Wd := ⟨_, rfl⟩
  have HI_ := Aside0.mk HI.out.drew
  clear HI
  have HI := HI_
  clear HI_
  rw [eWd] at HI hHeld ⊢
  clear eWd
  refine pure_ (i := 0) (N := some 76) (v := ?_) (a' := ?_) #[true, false, false, false, false, false, false, false, false] rfl rfl (any_of HT_.out (by kernel_rfl)) (fun _ _ _ h => h) (Or.inl ⟨by rfl, ?_⟩) ?_ ?_
  rotate_left
  ·intro w'
   go_simp
   with_reducible rfl
  rotate_left
  ·simp only [Act.put, List.setIfInBounds_toArray, List.set_cons_zero, List.set_cons_succ, i64_w, i32_w]
   rfl
  refine pure_ (i := 2) (N := some 78) (v := ?_) (a' := ?_) #[true, false, true, false, false, false, false, false, false] rfl rfl (any_of HT_.out (by kernel_rfl)) (fun _ _ _ h => h) (Or.inl ⟨by rfl, ?_⟩) ?_ ?_
  rotate_left
  ·intro w'
   go_simp
   with_reducible rfl
  rotate_left
  ·simp only [Act.put, List.setIfInBounds_toArray, List.set_cons_zero, List.set_cons_succ, i64_w, i32_w]
   rfl
  refine pure_ (i := 4) (N := some 80) (v := ?_) (a' := ?_) #[true, false, true, false, true, false, false, false, false] rfl rfl (any_of HT_.out (by kernel_rfl)) (fun _ _ _ h => h) (Or.inl ⟨by rfl, ?_⟩) ?_ ?_
  rotate_left
  ·intro w'
   go_simp
   with_reducible rfl
  rotate_left
  ·simp only [Act.put, List.setIfInBounds_toArray, List.set_cons_zero, List.set_cons_succ, i64_w, i32_w]
   rfl
  refine take_ (i := 1) (N := some 77) (v := ?_) (a' := ?_) #[true, true, true, false, true, false, false, false, false] rfl rfl (take_ofW HT_.out HW_.out (by kernel_rfl)) (fun _ _ _ h => h) (Or.inl ⟨by rfl, ?_⟩) hHeld ?_ ?_
  rotate_left
  ·rintro w' ⟨s0, s1⟩
   go_simp
   with_reducible rfl
  rotate_left
  ·simp only [Act.put, List.setIfInBounds_toArray, List.set_cons_zero, List.set_cons_succ, i64_w, i32_w]
   rfl
  refine take_ (i := 3) (N := some 79) (v := ?_) (a' := ?_) #[true, true, true, true, true, false, false, false, false] rfl rfl (take_ofW HT_.out HW_.out (by kernel_rfl)) (fun _ _ _ h => h) (Or.inl ⟨by rfl, ?_⟩) hHeld ?_ ?_
  rotate_left
  ·rintro w' ⟨s0, s1⟩
   go_simp
   with_reducible rfl
  rotate_left
  ·simp only [Act.put, List.setIfInBounds_toArray, List.set_cons_zero, List.set_cons_succ, i64_w, i32_w]
   rfl
  refine pure_ (i := 5) (N := some 81) (v := ?_) (a' := ?_) #[true, true, true, true, true, true, false, false, false] rfl rfl (any_of HT_.out (by kernel_rfl)) (fun _ _ _ h => h) (Or.inl ⟨by rfl, ?_⟩) ?_ ?_
  rotate_left
  ·intro w'
   go_simp
   with_reducible rfl
  rotate_left
  ·simp only [Act.put, List.setIfInBounds_toArray, List.set_cons_zero, List.set_cons_succ, i64_w, i32_w]
   rfl
  refine one_ (i := 6) (N := some 82) #[true, true, true, true, true, true, true, false, false] rfl rfl (one_of HT_.out (by kernel_rfl)) (by decide) (fun K hK => ?_)
  refine Kd.R_append_rows_step Kd.string (w0 := w) w.heap.size (by rfl) (.tmp 77) (.tmp 81) 25 9 (.string ⟨#[]⟩) 16 rfl Try.underlying25 info9 rfl (by decide) (by omega) (.slice D6 L6 d6) ((([] : List ByteArray) ++ (t.ks.take n)) ++ [a]) (t.ks.drop fr) _ _ _ (fun _ => True) (fun _ => False) rfl rfl HI.out.r0 (QT.out _ hfr _ HI.out.bl) (fun _ _ h => h) (fun _ h => h.elim) (fun _ _ => trivial) HI.out.bl HI.out.sz (by have := HE.out.1; simp only [List.length_append, List.length_take, List.length_cons, List.length_nil]; omega) ?_
  intro v14_ wa_ ho hb hg hat
  obtain ⟨D14, d14, rfl⟩ := Kd.R_slice ho
  obtain ⟨g1_, g2_, g3_⟩ := HI.out.app0 ho hb hg hat
  have HN := Aside0.mk g3_
  have t1 : wa_.cell? ⟨w.heap.size, 0, none⟩ = some (.slice A0 N c0) := by rw [blk_cell g1_]; rfl
  have u1 : wa_.cell? ⟨B, 0, none⟩ = some (.slice D6 L6 d6) := by rw [blk_cell g2_]; rfl
  have uf1 : wa_.frozen? ⟨B, 0, none⟩ = false := blk_frozen g2_ 0
  obtain ⟨L14, eL14⟩ : ∃ L, (((([] : List ByteArray) ++ (t.ks.take n)) ++ [a]) ++ (t.ks.drop fr)).length = L := ⟨_, rfl⟩
  rw [eL14] at HN
  rw [eL14]
  have HL14 := Aside0.mk eL14
  clear g1_ g2_ g3_ ho hb hg hat eL14
  clear hHeld
  refine hK.out _ _ ⟨u1, t1⟩ (fun hHeld => ?_)
  clear hK K
  refine norm_ (a' := ?_) ?_ ?_
  rotate_left
  ·show Act.put _ (some 82) _ = _
   simp only [Act.put, List.setIfInBounds_toArray, List.set_cons_zero, List.set_cons_succ, i64_w, i32_w]
   rfl
  refine pure_ (i := 7) (N := some 83) (v := ?_) (a' := ?_) #[true, true, true, true, true, true, true, true, false] rfl rfl (any_of HT_.out (by kernel_rfl)) (fun _ _ _ h => h) (Or.inl ⟨by rfl, ?_⟩) ?_ ?_
  rotate_left
  ·intro w'
   go_simp
   with_reducible rfl
  rotate_left
  ·simp only [Act.put, List.setIfInBounds_toArray, List.set_cons_zero, List.set_cons_succ, i64_w, i32_w]
   rfl
  refine last_ (i := 8) (N := none) #[true, true, true, true, true, true, true, true, true] rfl rfl (one_of HT_.out (by kernel_rfl)) (by decide) (fun K hK => ?_)
  refine skip_ (w1 := ?_) (by rfl) rfl ?_ ?_
  rotate_left
  ·go_simp
   rfl
  refine hK.out _ _ ?_
  clear hK K
  refine done_ (done_of HT_.out (by kernel_rfl)) ?_
  generalize (if c0 = fr then A0 else Option.map (fun x => x.add fr) A0) = X14
  generalize (wa_.setCell ⟨B, 0, none⟩ (.slice D14 L14 d14)) = W7 at HN ⊢
  clear HI hHeld t0 t1 u0 u1 uf1 QT hnc hfc HT_ HW_
  have HI := HN
  clear HN
  (try go_wp2)
  have u0 : W7.cell? ⟨B, 1, none⟩ = some (.slice D7 L7 d7) := by rw [blk_cell HI.out.bu]; rfl
  have t0 : W7.cell? ⟨w.heap.size, 1, none⟩ = some (.slice A1 N c1) := by rw [blk_cell HI.out.bt]; rfl
  have QT : Aside0 (∀ m, m ≤ N → ∀ W, Below w.heap.size w W → Kd.C (Kd.int .i64) W (if c1 = m then A1 else A1.map (·.add m)) (N - m) (t.vs.drop m)) := ⟨fun m hm W hW => by
   have el := HE.out.2.1
   have hpc := HP.out.2.1
   have h0 := Kd.C_drop (m := m) (c := c1) (Kd.C_below HQ.out.2.1 hW) (by omega) (by omega)
   rw [show m * ((Kd.int .i64)).sz = m from Nat.mul_one _] at h0
   rwa [show (t.vs.drop m).length = N - m by rw [List.length_drop]; omega] at h0⟩
  have hnc : n ≤ c1 := by have := HP.out.2.1; omega
  have hfc : fr ≤ c1 := by have := HP.out.2.1; omega
  refine start_ (n := 9) (S := (fun w' => w'.cell? ⟨B, 1, none⟩ = some (.slice D7 L7 d7) ∧ w'.cell? ⟨w.heap.size, 1, none⟩ = some (.slice A1 N c1))) (ds := [8]) #[false, false, false, false, false, false, false, false, false] (by kernel_rfl) rfl rfl ⟨u0, t0⟩ (fun hHeld => ?_); refine with_tabW ins_tab15 ins_bits (fun HT_ HW_ => ?_)
  obtain ⟨Wd, eWd⟩ : ∃ Wd, W7.drew = Wd := ⟨_, rfl⟩
  have HI_ := Aside0.mk HI.out.drew
  clear HI
  have HI := HI_
  clear HI_
  rw [eWd] at HI hHeld ⊢
  clear eWd
  refine pure_ (i := 0) (N := some 84) (v := ?_) (a' := ?_) #[true, false, false, false, false, false, false, false, false] rfl rfl (any_of HT_.out (by kernel_rfl)) (fun _ _ _ h => h) (Or.inl ⟨by rfl, ?_⟩) ?_ ?_
  rotate_left
  ·intro w'
   go_simp
   with_reducible rfl
  rotate_left
  ·simp only [Act.put, List.setIfInBounds_toArray, List.set_cons_zero, List.set_cons_succ, i64_w, i32_w]
   rfl
  refine pure_ (i := 2) (N := some 86) (v := ?_) (a' := ?_) #[true, false, true, false, false, false, false, false, false] rfl rfl (any_of HT_.out (by kernel_rfl)) (fun _ _ _ h => h) (Or.inl ⟨by rfl, ?_⟩) ?_ ?_
  rotate_left
  ·intro w'
   go_simp
   with_reducible rfl
  rotate_left
  ·simp only [Act.put, List.setIfInBounds_toArray, List.set_cons_zero, List.set_cons_succ, i64_w, i32_w]
   rfl
  refine pure_ (i := 4) (N := some 88) (v := ?_) (a' := ?_) #[true, false, true, false, true, false, false, false, false] rfl rfl (any_of HT_.out (by kernel_rfl)) (fun _ _ _ h => h) (Or.inl ⟨by rfl, ?_⟩) ?_ ?_
  rotate_left
  ·intro w'
   go_simp
   with_reducible rfl
  rotate_left
  ·simp only [Act.put, List.setIfInBounds_toArray, List.set_cons_zero, List.set_cons_succ, i64_w, i32_w]
   rfl
  refine take_ (i := 1) (N := some 85) (v := ?_) (a' := ?_) #[true, true, true, false, true, false, false, false, false] rfl rfl (take_ofW HT_.out HW_.out (by kernel_rfl)) (fun _ _ _ h => h) (Or.inl ⟨by rfl, ?_⟩) hHeld ?_ ?_
  rotate_left
  ·rintro w' ⟨s0, s1⟩
   go_simp
   with_reducible rfl
  rotate_left
  ·simp only [Act.put, List.setIfInBounds_toArray, List.set_cons_zero, List.set_cons_succ, i64_w, i32_w]
   rfl
  refine take_ (i := 3) (N := some 87) (v := ?_) (a' := ?_) #[true, true, true, true, true, false, false, false, false] rfl rfl (take_ofW HT_.out HW_.out (by kernel_rfl)) (fun _ _ _ h => h) (Or.inl ⟨by rfl, ?_⟩) hHeld ?_ ?_
  rotate_left
  ·rintro w' ⟨s0, s1⟩
   go_simp
   with_reducible rfl
  rotate_left
  ·simp only [Act.put, List.setIfInBounds_toArray, List.set_cons_zero, List.set_cons_succ, i64_w, i32_w]
   rfl
  refine pure_ (i := 5) (N := some 89) (v := ?_) (a' := ?_) #[true, true, true, true, true, true, false, false, false] rfl rfl (any_of HT_.out (by kernel_rfl)) (fun _ _ _ h => h) (Or.inl ⟨by rfl, ?_⟩) ?_ ?_
  rotate_left
  ·intro w'
   go_simp
   with_reducible rfl
  rotate_left
  ·simp only [Act.put, List.setIfInBounds_toArray, List.set_cons_zero, List.set_cons_succ, i64_w, i32_w]
   rfl
  refine one_ (i := 6) (N := some 90) #[true, true, true, true, true, true, true, false, false] rfl rfl (one_of HT_.out (by kernel_rfl)) (by decide) (fun K hK => ?_)
  refine Kd.R_append_rows_step (Kd.int .i64) (w0 := w) w.heap.size (by rfl) (.tmp 85) (.tmp 89) 26 3 (.int .i64 0) 8 rfl Try.underlying26 info3 rfl (by decide) (by omega) (.slice D7 L7 d7) ((([] : List Int) ++ (t.vs.take n)) ++ [v]) (t.vs.drop fr) _ _ _ (fun k => some k ≠ (.slice D8 L8 d8 : Value).ownBlock) (fun _ => False) rfl rfl HI.out.r1 (QT.out _ hfr _ HI.out.bl) (fun _ _ h => h) (fun _ h => h.elim) HI.out.f1 HI.out.bl HI.out.sz (by have := HE.out.2.1; simp only [List.length_append, List.length_take, List.length_cons, List.length_nil]; omega) ?_
  intro v15_ wa_ ho hb hg hat
  obtain ⟨D15, d15, rfl⟩ := Kd.R_slice ho
  obtain ⟨g1_, g2_, g3_⟩ := HI.out.app1 ho hb hg hat
  have HN := Aside0.mk g3_
  have t1 : wa_.cell? ⟨w.heap.size, 1, none⟩ = some (.slice A1 N c1) := by rw [blk_cell g1_]; rfl
  have u1 : wa_.cell? ⟨B, 1, none⟩ = some (.slice D7 L7 d7) := by rw [blk_cell g2_]; rfl
  have uf1 : wa_.frozen? ⟨B, 1, none⟩ = false := blk_frozen g2_ 1
  obtain ⟨L15, eL15⟩ : ∃ L, (((([] : List Int) ++ (t.vs.take n)) ++ [v]) ++ (t.vs.drop fr)).length = L := ⟨_, rfl⟩
  rw [eL15] at HN
  rw [eL15]
  have HL15 := Aside0.mk eL15
  clear g1_ g2_ g3_ ho hb hg hat eL15
  clear hHeld
  refine hK.out _ _ ⟨u1, t1⟩ (fun hHeld => ?_)
  clear hK K
  refine norm_ (a' := ?_) ?_ ?_
  rotate_left
  ·show Act.put _ (some 90) _ = _
   simp only [Act.put, List.setIfInBounds_toArray, List.set_cons_zero, List.set_cons_succ, i64_w, i32_w]
   rfl
  refine pure_ (i := 7) (N := some 91) (v := ?_) (a' := ?_) #[true, true, true, true, true, true, true, true, false] rfl rfl (any_of HT_.out (by kernel_rfl)) (fun _ _ _ h => h) (Or.inl ⟨by rfl, ?_⟩) ?_ ?_
  rotate_left
  ·intro w'
   go_simp
   with_reducible rfl
  rotate_left
  ·simp only [Act.put, List.setIfInBounds_toArray, List.set_cons_zero, List.set_cons_succ, i64_w, i32_w]
   rfl
  refine last_ (i := 8) (N := none) #[true, true, true, true, true, true, true, true, true] rfl rfl (one_of HT_.out (by kernel_rfl)) (by decide) (fun K hK => ?_)
  refine skip_ (w1 := ?_) (by rfl) rfl ?_ ?_
  rotate_left
  ·go_simp
   rfl
  refine hK.out _ _ ?_
  clear hK K
  refine done_ (done_of HT_.out (by kernel_rfl)) ?_
  generalize (if c1 = fr then A1 else Option.map (fun x => x.add fr) A1) = X15
  generalize (wa_.setCell ⟨B, 1, none⟩ (.slice D15 L15 d15)) = W8 at HN ⊢
  clear HI hHeld t0 t1 u0 u1 uf1 QT hnc hfc HT_ HW_
  have HI := HN
  clear HN
  (try go_wp2)
  have u0 : W8.cell? ⟨B, 2, none⟩ = some (.slice D8 L8 d8) := by rw [blk_cell HI.out.bu]; rfl
  have t0 : W8.cell? ⟨w.heap.size, 2, none⟩ = some (.slice A2 N c2) := by rw [blk_cell HI.out.bt]; rfl
  have QT : Aside0 (∀ m, m ≤ N → ∀ W, Below w.heap.size w W → Kd.C (Kd.int .i64) W (if c2 = m then A2 else A2.map (·.add m)) (N - m) (t.ls.drop m)) := ⟨fun m hm W hW => by
   have el := HE.out.2.2.1
   have hpc := HP.out.2.2.1
   have h0 := Kd.C_drop (m := m) (c := c2) (Kd.C_below HQ.out.2.2.1 hW) (by omega) (by omega)
   rw [show m * ((Kd.int .i64)).sz = m from Nat.mul_one _] at h0
   rwa [show (t.ls.drop m).length = N - m by rw [List.length_drop]; omega] at h0⟩
  have hnc : n ≤ c2 := by have := HP.out.2.2.1; omega
  have hfc : fr ≤ c2 := by have := HP.out.2.2.1; omega
  refine start_ (n := 9) (S := (fun w' => w'.cell? ⟨B, 2, none⟩ = some (.slice D8 L8 d8) ∧ w'.cell? ⟨w.heap.size, 2, none⟩ = some (.slice A2 N c2))) (ds := [8]) #[false, false, false, false, false, false, false, false, false] (by kernel_rfl) rfl rfl ⟨u0, t0⟩ (fun hHeld => ?_); refine with_tabW ins_tab16 ins_bits (fun HT_ HW_ => ?_)
  obtain ⟨Wd, eWd⟩ : ∃ Wd, W8.drew = Wd := ⟨_, rfl⟩
  have HI_ := Aside0.mk HI.out.drew
  clear HI
  have HI := HI_
  clear HI_
  rw [eWd] at HI hHeld ⊢
  clear eWd
  refine pure_ (i := 0) (N := some 92) (v := ?_) (a' := ?_) #[true, false, false, false, false, false, false, false, false] rfl rfl (any_of HT_.out (by kernel_rfl)) (fun _ _ _ h => h) (Or.inl ⟨by rfl, ?_⟩) ?_ ?_
  rotate_left
  ·intro w'
   go_simp
   with_reducible rfl
  rotate_left
  ·simp only [Act.put, List.setIfInBounds_toArray, List.set_cons_zero, List.set_cons_succ, i64_w, i32_w]
   rfl
  refine pure_ (i := 2) (N := some 94) (v := ?_) (a' := ?_) #[true, false, true, false, false, false, false, false, false] rfl rfl (any_of HT_.out (by kernel_rfl)) (fun _ _ _ h => h) (Or.inl ⟨by rfl, ?_⟩) ?_ ?_
  rotate_left
  ·intro w'
   go_simp
   with_reducible rfl
  rotate_left
  ·simp only [Act.put, List.setIfInBounds_toArray, List.set_cons_zero, List.set_cons_succ, i64_w, i32_w]
   rfl
  refine pure_ (i := 4) (N := some 96) (v := ?_) (a' := ?_) #[true, false, true, false, true, false, false, false, false] rfl rfl (any_of HT_.out (by kernel_rfl)) (fun _ _ _ h => h) (Or.inl ⟨by rfl, ?_⟩) ?_ ?_
  rotate_left
  ·intro w'
   go_simp
   with_reducible rfl
  rotate_left
  ·simp only [Act.put, List.setIfInBounds_toArray, List.set_cons_zero, List.set_cons_succ, i64_w, i32_w]
   rfl
  refine take_ (i := 1) (N := some 93) (v := ?_) (a' := ?_) #[true, true, true, false, true, false, false, false, false] rfl rfl (take_ofW HT_.out HW_.out (by kernel_rfl)) (fun _ _ _ h => h) (Or.inl ⟨by rfl, ?_⟩) hHeld ?_ ?_
  rotate_left
  ·rintro w' ⟨s0, s1⟩
   go_simp
   with_reducible rfl
  rotate_left
  ·simp only [Act.put, List.setIfInBounds_toArray, List.set_cons_zero, List.set_cons_succ, i64_w, i32_w]
   rfl
  refine take_ (i := 3) (N := some 95) (v := ?_) (a' := ?_) #[true, true, true, true, true, false, false, false, false] rfl rfl (take_ofW HT_.out HW_.out (by kernel_rfl)) (fun _ _ _ h => h) (Or.inl ⟨by rfl, ?_⟩) hHeld ?_ ?_
  rotate_left
  ·rintro w' ⟨s0, s1⟩
   go_simp
   with_reducible rfl
  rotate_left
  ·simp only [Act.put, List.setIfInBounds_toArray, List.set_cons_zero, List.set_cons_succ, i64_w, i32_w]
   rfl
  refine pure_ (i := 5) (N := some 97) (v := ?_) (a' := ?_) #[true, true, true, true, true, true, false, false, false] rfl rfl (any_of HT_.out (by kernel_rfl)) (fun _ _ _ h => h) (Or.inl ⟨by rfl, ?_⟩) ?_ ?_
  rotate_left
  ·intro w'
   go_simp
   with_reducible rfl
  rotate_left
  ·simp only [Act.put, List.setIfInBounds_toArray, List.set_cons_zero, List.set_cons_succ, i64_w, i32_w]
   rfl
  refine one_ (i := 6) (N := some 98) #[true, true, true, true, true, true, true, false, false] rfl rfl (one_of HT_.out (by kernel_rfl)) (by decide) (fun K hK => ?_)
  refine Kd.R_append_rows_step (Kd.int .i64) (w0 := w) w.heap.size (by rfl) (.tmp 93) (.tmp 97) 26 3 (.int .i64 0) 8 rfl Try.underlying26 info3 rfl (by decide) (by omega) (.slice D8 L8 d8) ((([] : List Int) ++ (t.ls.take n)) ++ [nx]) (t.ls.drop fr) _ _ _ (fun k => some k ≠ (.slice D15 L15 d15 : Value).ownBlock) (fun _ => False) rfl rfl HI.out.r2 (QT.out _ hfr _ HI.out.bl) (fun _ _ h => h) (fun _ h => h.elim) HI.out.f2 HI.out.bl HI.out.sz (by have := HE.out.2.2.1; simp only [List.length_append, List.length_take, List.length_cons, List.length_nil]; omega) ?_
  intro v16_ wa_ ho hb hg hat
  obtain ⟨D16, d16, rfl⟩ := Kd.R_slice ho
  obtain ⟨g1_, g2_, g3_⟩ := HI.out.app2 ho hb hg hat
  have HN := Aside0.mk g3_
  have t1 : wa_.cell? ⟨w.heap.size, 2, none⟩ = some (.slice A2 N c2) := by rw [blk_cell g1_]; rfl
  have u1 : wa_.cell? ⟨B, 2, none⟩ = some (.slice D8 L8 d8) := by rw [blk_cell g2_]; rfl
  have uf1 : wa_.frozen? ⟨B, 2, none⟩ = false := blk_frozen g2_ 2
  obtain ⟨L16, eL16⟩ : ∃ L, (((([] : List Int) ++ (t.ls.take n)) ++ [nx]) ++ (t.ls.drop fr)).length = L := ⟨_, rfl⟩
  rw [eL16] at HN
  rw [eL16]
  have HL16 := Aside0.mk eL16
  clear g1_ g2_ g3_ ho hb hg hat eL16
  clear hHeld
  refine hK.out _ _ ⟨u1, t1⟩ (fun hHeld => ?_)
  clear hK K
  refine norm_ (a' := ?_) ?_ ?_
  rotate_left
  ·show Act.put _ (some 98) _ = _
   simp only [Act.put, List.setIfInBounds_toArray, List.set_cons_zero, List.set_cons_succ, i64_w, i32_w]
   rfl
  refine pure_ (i := 7) (N := some 99) (v := ?_) (a' := ?_) #[true, true, true, true, true, true, true, true, false] rfl rfl (any_of HT_.out (by kernel_rfl)) (fun _ _ _ h => h) (Or.inl ⟨by rfl, ?_⟩) ?_ ?_
  rotate_left
  ·intro w'
   go_simp
   with_reducible rfl
  rotate_left
  ·simp only [Act.put, List.setIfInBounds_toArray, List.set_cons_zero, List.set_cons_succ, i64_w, i32_w]
   rfl
  refine last_ (i := 8) (N := none) #[true, true, true, true, true, true, true, true, true] rfl rfl (one_of HT_.out (by kernel_rfl)) (by decide) (fun K hK => ?_)
  refine skip_ (w1 := ?_) (by rfl) rfl ?_ ?_
  rotate_left
  ·go_simp
   rfl
  refine hK.out _ _ ?_
  clear hK K
  refine done_ (done_of HT_.out (by kernel_rfl)) ?_
  generalize (if c2 = fr then A2 else Option.map (fun x => x.add fr) A2) = X16
  generalize (wa_.setCell ⟨B, 2, none⟩ (.slice D16 L16 d16)) = W9 at HN ⊢
  clear HI hHeld t0 t1 u0 u1 uf1 QT hnc hfc HT_ HW_
  have HI := HN
  clear HN
  have HN : Aside0 (InS w W9 B #[.slice A0 N c0, .slice A1 N c1, .slice A2 N c2, .slice A3 M3 c3, .slice A4 M4 c4] #[.slice none 0 0, .slice none 0 0, .slice none 0 0, .slice none 0 0, .slice none 0 0] (.slice D14 L14 d14) (.slice D15 L15 d15) (.slice D16 L16 d16) (putAt t.ks n bb a) (putAt t.vs n bb v) (putAt t.ls n bb nx)) := ⟨by
   have h0 := HI.out
   rw [HFQ.out, HFQ.out, HFQ.out] at h0
   exact h0⟩
  rw [HFQ.out] at HL14 HL15 HL16
  clear HI HFQ
  have HI := HN
  clear HN
  have hrp := HF.out.2.2.2.2
  obtain ⟨P, Mk, nx', r1, r2, r3, r4⟩ := insert_ex3 t hrp a v nx n bb (by rw [HE.out.1]; exact hnN) HFb.out.1 HF.out.2.2.1 HFb.out.2 HL.out.2 (by rw [HE.out.1]; exact hNl)
  obtain ⟨kk, hkk⟩ := r1.rounds
  have HD := Aside0.mk (And.intro r2 (And.intro r3 r4))
  have hMP : ∀ k, k < w.heap.size → ¬ ((Value.slice D14 L14 d14).ownBlock = some k ∨ (Value.slice D15 L15 d15).ownBlock = some k ∨ (Value.slice D16 L16 d16).ownBlock = some k) := fun k hk h => by
   rcases h with h | h | h
   ·have := Kd.R_base HI.out.r0 k h; omega
   ·have := Kd.R_base HI.out.r1 k h; omega
   ·have := Kd.R_base HI.out.r2 k h; omega
  have hnP : ∀ (g : Nat) (cs : Array Value), W9.heap[g]? = some (.cells cs 28 (0, 0)) → ¬ ((Value.slice D14 L14 d14).ownBlock = some g ∨ (Value.slice D15 L15 d15).ownBlock = some g ∨ (Value.slice D16 L16 d16).ownBlock = some g) := fun g cs hg h => by
   rcases h with h | h | h
   ·exact Kd.R_ne HI.out.r0 hg (by decide) h.symm
   ·exact Kd.R_ne HI.out.r1 hg (by decide) h.symm
   ·exact Kd.R_ne HI.out.r2 hg (by decide) h.symm
  obtain ⟨P0, eP0⟩ : ∃ P0 : Nat → Prop, P0 = fun k => (Value.slice D14 L14 d14).ownBlock = some k := ⟨_, rfl⟩
  obtain ⟨P1, eP1⟩ : ∃ P1 : Nat → Prop, P1 = fun k => (Value.slice D15 L15 d15).ownBlock = some k := ⟨_, rfl⟩
  obtain ⟨P2, eP2⟩ : ∃ P2 : Nat → Prop, P2 = fun k => (Value.slice D16 L16 d16).ownBlock = some k := ⟨_, rfl⟩
  have s0 : Kd.R Kd.string 9 W9 w.heap.size P0 (.slice D14 L14 d14) (putAt t.ks n bb a) := by rw [eP0]; exact R_self HI.out.r0
  have s1 : Kd.R (Kd.int .i64) 3 W9 w.heap.size P1 (.slice D15 L15 d15) (putAt t.vs n bb v) := by rw [eP1]; exact R_self HI.out.r1
  have s2 : Kd.R (Kd.int .i64) 3 W9 w.heap.size P2 (.slice D16 L16 d16) (putAt t.ls n bb nx) := by rw [eP2]; exact R_self HI.out.r2
  have s12 : ∀ k, P1 k → ¬ P2 k := fun k h1 h2 => by rw [eP1] at h1; rw [eP2] at h2; exact HI.out.r1.1 k h1 h2.symm
  have s21 : ∀ k, P2 k → ¬ P1 k := fun k h1 h2 => s12 k h2 h1
  have HMP : Aside0 (∀ k, k < w.heap.size → ¬ (P0 k ∨ P1 k ∨ P2 k)) := ⟨by rw [eP0, eP1, eP2]; exact hMP⟩
  have HNP : Aside0 (∀ (g : Nat) (cs : Array Value), W9.heap[g]? = some (.cells cs 28 (0, 0)) → ¬ (P0 g ∨ P1 g ∨ P2 g)) := ⟨by rw [eP0, eP1, eP2]; exact hnP⟩
  clear eP0 eP1 eP2 hMP hnP
  have HC : Aside0 (∀ W_, Go.Proofs.YtjhgknagmiekeaaW.PrintWords.Kept W9 W_ (fun k => P0 k ∨ P1 k ∨ P2 k) → RtAt W_ t (.slice A0 N c0) (.slice A1 N c1) (.slice A2 N c2) (.slice A3 M3 c3) (.slice A4 M4 c4)) := ⟨fun W_ hk => by
   have h0 := HM.out W_ (Nat.le_trans HI.out.sz hk.1) (fun k h1 _ => (hk.2 k (Nat.lt_of_lt_of_le h1 HI.out.sz) (HMP.out k h1)).trans (HI.out.bl.block k h1))
   rw [HE.out.1, HE.out.2.1, HE.out.2.2.1, HE.out.2.2.2.1, HE.out.2.2.2.2] at h0
   exact h0⟩
  have q := musterref03_remade.calls kk A0 c0 t.ks A1 c1 t.vs A2 c2 t.ls A3 c3 t.ps A4 c4 t.ms P0 (.slice D14 L14 d14) (putAt t.ks n bb a) P1 (.slice D15 L15 d15) (putAt t.vs n bb v) P2 (.slice D16 L16 d16) (putAt t.ls n bb nx) none 0 [] none 0 [] a (wrap64 (nx + 1)) _ _ _ _ _ _ w W9 HI.out.bl
   (fun W_ hk => (HC.out W_ hk).a0.c) (by rw [HE.out.1]; exact HP.out.1) (fun W_ hk => (HC.out W_ hk).a1.c) (by rw [HE.out.2.1]; exact HP.out.2.1) (fun W_ hk => (HC.out W_ hk).a2.c) (by rw [HE.out.2.2.1]; exact HP.out.2.2.1) (fun W_ hk => (HC.out W_ hk).a3.c) (by rw [HE.out.2.2.2.1]; exact HP.out.2.2.2.1) (fun W_ hk => (HC.out W_ hk).a4.c) (by rw [HE.out.2.2.2.2]; exact HP.out.2.2.2.2)
   s0 s1 s12 s2 s21
   (fun W_ _ => Kd.C_nil _ _) (Nat.le_refl _) (fun W_ _ => Kd.C_nil _ _) (Nat.le_refl _) hkk
  rw [HE.out.1, HE.out.2.1, HE.out.2.2.1, HE.out.2.2.2.1, HE.out.2.2.2.2] at q
  have QR := Aside0.mk q
  clear q hkk r1 r2 r3 r4 s0 s1 s2 s12 s21
  have m0 : W9.cell? ⟨w.heap.size, 0, none⟩ = some (.slice A0 N c0) := by rw [blk_cell HI.out.bt]; rfl
  have u0 : W9.cell? ⟨B, 0, none⟩ = some (.slice D14 L14 d14) := by rw [blk_cell HI.out.bu]; rfl
  have m1 : W9.cell? ⟨w.heap.size, 1, none⟩ = some (.slice A1 N c1) := by rw [blk_cell HI.out.bt]; rfl
  have u1 : W9.cell? ⟨B, 1, none⟩ = some (.slice D15 L15 d15) := by rw [blk_cell HI.out.bu]; rfl
  have m2 : W9.cell? ⟨w.heap.size, 2, none⟩ = some (.slice A2 N c2) := by rw [blk_cell HI.out.bt]; rfl
  have u2 : W9.cell? ⟨B, 2, none⟩ = some (.slice D16 L16 d16) := by rw [blk_cell HI.out.bu]; rfl
  have m3 : W9.cell? ⟨w.heap.size, 3, none⟩ = some (.slice A3 M3 c3) := by rw [blk_cell HI.out.bt]; rfl
  have u3 : W9.cell? ⟨B, 3, none⟩ = some (.slice none 0 0) := by rw [blk_cell HI.out.bu]; rfl
  have m4 : W9.cell? ⟨w.heap.size, 4, none⟩ = some (.slice A4 M4 c4) := by rw [blk_cell HI.out.bt]; rfl
  have u4 : W9.cell? ⟨B, 4, none⟩ = some (.slice none 0 0) := by rw [blk_cell HI.out.bu]; rfl
  go_wp2_with (go_at_call 92; refine QR.out.mono ?_)
  rintro e W4 ⟨x0, x1, x2, x3, x4, rfl, R0, R1, R2, R3, R4, hb4, hk4⟩
  obtain ⟨E0, g0, rfl⟩ := Kd.R_slice R0
  obtain ⟨E1, g1, rfl⟩ := Kd.R_slice R1
  obtain ⟨E2, g2, rfl⟩ := Kd.R_slice R2
  obtain ⟨E3, g3, rfl⟩ := Kd.R_slice R3
  obtain ⟨E4, g4, rfl⟩ := Kd.R_slice R4
  have HR := Aside0.mk (And.intro R0 (And.intro R1 (And.intro R2 (And.intro R3 R4))))
  obtain ⟨y0, ey0⟩ : ∃ y, (putAt t.ks n bb a).length = y := ⟨_, rfl⟩
  obtain ⟨y1, ey1⟩ : ∃ y, (putAt t.vs n bb v).length = y := ⟨_, rfl⟩
  obtain ⟨y2, ey2⟩ : ∃ y, (putAt t.ls n bb nx).length = y := ⟨_, rfl⟩
  obtain ⟨y3, ey3⟩ : ∃ y, P.length = y := ⟨_, rfl⟩
  obtain ⟨y4, ey4⟩ : ∃ y, Mk.length = y := ⟨_, rfl⟩
  rw [ey0, ey1, ey2, ey3, ey4] at HR
  rw [ey0, ey1, ey2, ey3, ey4]
  clear R0 R1 R2 R3 R4
  have hbt := blk_kept HI.out.bt hk4 (HNP.out _ _ HI.out.bt)
  have hbz := blk_kept HI.out.bz hk4 (HNP.out _ _ HI.out.bz)
  have hbu := blk_kept HI.out.bu hk4 (HNP.out _ _ HI.out.bu)
  have HU4 := Aside0.mk (And.intro hbt (And.intro hbz hbu))
  have HB4 := Aside0.mk hb4
  have HY := Aside0.mk (And.intro ey0 (And.intro ey1 (And.intro ey2 (And.intro ey3 ey4))))
  clear hbt hbz hk4 hb4 HI QR HC HNP HMP ey0 ey1 ey2 ey3 ey4 m0 u0 m1 u1 m2 u2 m3 u3 m4 u4
  have f0 : W4.frozen? ⟨B, 0, none⟩ = false := blk_frozen hbu 0
  have v0 : W4.cell? ⟨B, 0, none⟩ = some (.slice D14 L14 d14) := by rw [blk_cell hbu]; rfl
  have f1 : W4.frozen? ⟨B, 1, none⟩ = false := blk_frozen hbu 1
  have v1 : W4.cell? ⟨B, 1, none⟩ = some (.slice D15 L15 d15) := by rw [blk_cell hbu]; rfl
  have f2 : W4.frozen? ⟨B, 2, none⟩ = false := blk_frozen hbu 2
  have v2 : W4.cell? ⟨B, 2, none⟩ = some (.slice D16 L16 d16) := by rw [blk_cell hbu]; rfl
  have f3 : W4.frozen? ⟨B, 3, none⟩ = false := blk_frozen hbu 3
  have v3 : W4.cell? ⟨B, 3, none⟩ = some (.slice none 0 0) := by rw [blk_cell hbu]; rfl
  have f4 : W4.frozen? ⟨B, 4, none⟩ = false := blk_frozen hbu 4
  have v4 : W4.cell? ⟨B, 4, none⟩ = some (.slice none 0 0) := by rw [blk_cell hbu]; rfl
  clear hbu
  go_upto_region 18 with fail
  have hz5 := V.set5_at HU4.out.2.2 (.slice E0 y0 g0) (.slice E1 y1 g1) (.slice E2 y2 g2) (.slice E3 y3 g3) (.slice E4 y4 g4)
  obtain ⟨W5, e5⟩ : ∃ W5, V.set5 W4 B (.slice E0 y0 g0) (.slice E1 y1 g1) (.slice E2 y2 g2) (.slice E3 y3 g3) (.slice E4 y4 g4) = W5 := ⟨_, rfl⟩
  have hfar : ∀ k, k ≠ B → W5.heap[k]? = W4.heap[k]? := fun k hk => by rw [← e5]; exact V.set5_far _ _ _ _ _ _ _ k hk
  have hsz5 : W5.heap.size = W4.heap.size := by rw [← e5]; simp [V.set5, T.size_setCell]
  have hb5 : Below w.heap.size w W5 := by rw [← e5]; exact V.set5_below HB4.out (by omega) _ _ _ _ _
  rw [e5] at hz5
  have e6 : ((((W4.setCell { block := B, off := 0 } (.slice E0 y0 g0)).setCell { block := B, off := 1 } (.slice E1 y1 g1)).setCell { block := B, off := 2 } (.slice E2 y2 g2)).setCell { block := B, off := 3 } (.slice E3 y3 g3)).setCell { block := B, off := 4 } (.slice E4 y4 g4) = W5 := e5
  rw [e6]
  clear f0 v0 f1 v1 f2 v2 f3 v3 f4 v4
  have br5 := (hfar (w.heap.size + 1) (by omega)).trans HU4.out.2.1
  have HFAR := Aside0.mk (And.intro hfar (And.intro hsz5 hb5))
  have HZ5 := Aside0.mk (And.intro hz5 br5)
  have k0 : W5.cell? ⟨B, 0, none⟩ = some (.slice E0 y0 g0) := by rw [blk_cell hz5]; rfl
  have z0 : W5.cell? ⟨w.heap.size + 1, 0, none⟩ = some (.slice none 0 0) := by rw [blk_cell br5]; rfl
  have g0_ : W5.frozen? ⟨w.heap.size + 1, 0, none⟩ = false := blk_frozen br5 0
  have k1 : W5.cell? ⟨B, 1, none⟩ = some (.slice E1 y1 g1) := by rw [blk_cell hz5]; rfl
  have z1 : W5.cell? ⟨w.heap.size + 1, 1, none⟩ = some (.slice none 0 0) := by rw [blk_cell br5]; rfl
  have g1_ : W5.frozen? ⟨w.heap.size + 1, 1, none⟩ = false := blk_frozen br5 1
  have k2 : W5.cell? ⟨B, 2, none⟩ = some (.slice E2 y2 g2) := by rw [blk_cell hz5]; rfl
  have z2 : W5.cell? ⟨w.heap.size + 1, 2, none⟩ = some (.slice none 0 0) := by rw [blk_cell br5]; rfl
  have g2_ : W5.frozen? ⟨w.heap.size + 1, 2, none⟩ = false := blk_frozen br5 2
  have k3 : W5.cell? ⟨B, 3, none⟩ = some (.slice E3 y3 g3) := by rw [blk_cell hz5]; rfl
  have z3 : W5.cell? ⟨w.heap.size + 1, 3, none⟩ = some (.slice none 0 0) := by rw [blk_cell br5]; rfl
  have g3_ : W5.frozen? ⟨w.heap.size + 1, 3, none⟩ = false := blk_frozen br5 3
  have k4 : W5.cell? ⟨B, 4, none⟩ = some (.slice E4 y4 g4) := by rw [blk_cell hz5]; rfl
  have z4 : W5.cell? ⟨w.heap.size + 1, 4, none⟩ = some (.slice none 0 0) := by rw [blk_cell br5]; rfl
  have g4_ : W5.frozen? ⟨w.heap.size + 1, 4, none⟩ = false := blk_frozen br5 4
  clear hz5 br5 hfar hsz5 hb5 e6 e5
  go_wp2_with fail
  have hz6 := V.set5_at HZ5.out.2 (.slice E0 y0 g0) (.slice E1 y1 g1) (.slice E2 y2 g2) (.slice E3 y3 g3) (.slice E4 y4 g4)
  obtain ⟨W6, e6⟩ : ∃ W6, V.set5 W5 (w.heap.size + 1) (.slice E0 y0 g0) (.slice E1 y1 g1) (.slice E2 y2 g2) (.slice E3 y3 g3) (.slice E4 y4 g4) = W6 := ⟨_, rfl⟩
  have hfar6 : ∀ k, k ≠ w.heap.size + 1 → W6.heap[k]? = W5.heap[k]? := fun k hk => by rw [← e6]; exact V.set5_far _ _ _ _ _ _ _ k hk
  have hsz6 : W6.heap.size = W5.heap.size := by rw [← e6]; simp [V.set5, T.size_setCell]
  have hb6 : Below w.heap.size w W6 := by rw [← e6]; exact V.set5_below HFAR.out.2.2 (by omega) _ _ _ _ _
  rw [e6] at hz6
  have e7 : ((((W5.setCell { block := w.heap.size + 1, off := 0 } (.slice E0 y0 g0)).setCell { block := w.heap.size + 1, off := 1 } (.slice E1 y1 g1)).setCell { block := w.heap.size + 1, off := 2 } (.slice E2 y2 g2)).setCell { block := w.heap.size + 1, off := 3 } (.slice E3 y3 g3)).setCell { block := w.heap.size + 1, off := 4 } (.slice E4 y4 g4) = W6 := e6
  rw [e7]
  have q0 : W6.cell? ⟨w.heap.size + 1, 0, none⟩ = some (.slice E0 y0 g0) := by rw [blk_cell hz6]; rfl
  have q1 : W6.cell? ⟨w.heap.size + 1, 1, none⟩ = some (.slice E1 y1 g1) := by rw [blk_cell hz6]; rfl
  have q2 : W6.cell? ⟨w.heap.size + 1, 2, none⟩ = some (.slice E2 y2 g2) := by rw [blk_cell hz6]; rfl
  have q3 : W6.cell? ⟨w.heap.size + 1, 3, none⟩ = some (.slice E3 y3 g3) := by rw [blk_cell hz6]; rfl
  have q4 : W6.cell? ⟨w.heap.size + 1, 4, none⟩ = some (.slice E4 y4 g4) := by rw [blk_cell hz6]; rfl
  refine bodyPost_ret (v := .tuple #[.agg #[.slice E0 y0 g0, .slice E1 y1 g1, .slice E2 y2 g2, .slice E3 y3 g3, .slice E4 y4 g4], .int .i64 0, .bool false, .int .i64 nx']) (by simp [results, Try.results66, go_sem, q0, q1, q2, q3, q4]) rfl ?_
  have hgo : ∀ w2 : World, Rob w.heap.size W6 w2 → ∀ k, w.heap.size ≤ k → k < W4.heap.size → (∀ cells, W4.heap[k]? ≠ some (.cells cells 28 (0, 0))) → w2.heap[k]? = W4.heap[k]? := fun w2 h2 k h3 h4 h5 => by
   have hkB : k ≠ B := fun e => h5 _ (by rw [e]; exact HU4.out.2.2)
   have hkR : k ≠ w.heap.size + 1 := fun e => h5 _ (by rw [e]; exact HU4.out.2.1)
   rw [h2 k h3 (by rw [hsz6, HFAR.out.2.1]; exact h4), hfar6 k hkR, HFAR.out.1 k hkB]
  have hle := HD.out.2.2
  rw [HE.out.1] at hle
  refine ⟨⟨putAt t.ks n bb a, putAt t.vs n bb v, putAt t.ls n bb nx, P, Mk⟩, 0, false, nx', _, _, _, _, _, rfl, fun w2 h2 => ?_, HD.out.1, ⟨n, P, Mk, by rw [HE.out.1]; exact hnN, by have h9 := HFb.out.1; rw [HBq.out] at h9; exact h9, by have h9 := HFb.out.2; rw [HBq.out] at h9; exact h9, HF.out.2.2.1, rfl, by rw [HBq.out], HD.out.2.1⟩, hle, hb6⟩
  obtain ⟨R0, R1, R2, R3, R4⟩ := HR.out
  rw [← HY.out.1] at R0
  rw [← HY.out.2.1] at R1
  rw [← HY.out.2.2.1] at R2
  rw [← HY.out.2.2.2.1] at R3
  rw [← HY.out.2.2.2.2] at R4
  rw [← HY.out.1, ← HY.out.2.1, ← HY.out.2.2.1, ← HY.out.2.2.2.1, ← HY.out.2.2.2.2]
  exact ⟨R_far28 R0 (by decide) (hgo w2 h2), R_far28 R1 (by decide) (hgo w2 h2), R_far28 R2 (by decide) (hgo w2 h2), R_far28 R3 (by decide) (hgo w2 h2), R_far28 R4 (by decide) (hgo w2 h2)⟩
end Go.Proofs.Ytjhgknagmiekeaa.N
set_option linter.unusedVariables false
set_option linter.unusedSimpArgs false
namespace Go.Proofs.Ytjhgknagmiekeaa.V
open Go.Proofs.Ytjhgknagmiekeaa.VOU (below_drewA)
open Go.RowKit Go.Lib Go.Proofs Go.Shelf
open Go.Proofs.Ytjhgknagmiekeaa.T Go.Proofs.Ytjhgknagmiekeaa.N Go.Proofs.Ytjhgknagmiekeaa.K
open Go.Proofs.YtjhgknagmiekeaaW.PrintWords hiding blk_cell
set_option maxRecDepth 100000 in
set_option maxHeartbeats 8000000 in
theorem builtP (A : Option Addr) (c : Nat) (l : List S35) (w : World) (hl : EntAt w A l) (hc : l.length ≤ c) (hlen : l.length < 10000000000) (hs : ∀ e ∈ l, e.f0.size < 4000000000000) :
  Calls Try.prog 21 #[.slice A l.length c] w fun e w' => ∃ (tb : Nat) (root : Nd) (t : Rt) (v0 v1 v2 v3 v4 : Value), e = .returned (.tuple #[ptr tb, .agg #[v0, v1, v2, v3, v4]]) ∧ Tr w' tb root ∧ RokP t ∧ Agree root t ∧ RtAt w' t v0 v1 v2 v3 v4 ∧ t.ks.length ≤ l.length ∧ (∀ r, valT root r = lastE l r) ∧ Below w.heap.size w w' := by
 have q1 := Aside0.mk (fun w1 => newC w1)
 have q2 := Aside0.mk (fun w1 => newRtC w1)
 have HL := Aside0.mk hl
 have HC := Aside0.mk hc
 have HS := Aside0.mk hs
 have HN := Aside0.mk hlen
 clear hl hc hs hlen
 go_enter Try.func21, Try.ntmps21
 go_wp2_with (go_at_call 45; refine (q1.out _).mono ?_)
 rintro e w1 ⟨tb, root, rfl, ht, hv, hl, hB⟩
 have H1 := Aside0.mk (And.intro ht (And.intro hv (And.intro hl hB)))
 clear ht hv hl hB q1
 unfold ptr
 go_wp2_with (go_at_call 51; refine (q2.out _).mono ?_)
 rintro e w2 ⟨v0, v1, v2, v3, v4, rfl, hr, hB⟩
 obtain ⟨⟨A0, n0, c0, rfl⟩, ⟨A1, n1, c1, rfl⟩, ⟨A2, n2, c2, rfl⟩, ⟨A3, n3, c3, rfl⟩, ⟨A4, n4, c4, rfl⟩⟩ := (hr w2 (fun _ _ _ => rfl)).forms
 have H2 := Aside0.mk (And.intro hr hB)
 clear hr hB q2
 go_wp2_with fail
 have HW := Aside0.mk (show w.heap.size + 1 ≤ w2.heap.size ∧ w.heap.size ≤ w2.heap.size from by
  have h1 := H1.out.2.2.2.size
  have h2 := H2.out.2.size
  rw [World.size_alloc] at h1
  omega)
 go_loopg [4, 6, 16] (l.length + 1) (fun kq x4 x6 x16 w' => ∃ (i tb : Nat) (nx : Int) (root : Nd) (t : Rt) (A0 A1 A2 A3 A4 : Option Addr) (n0 n1 n2 n3 n4 c0 c1 c2 c3 c4 : Nat), x4 = .pointer (some ⟨tb, 0, none⟩) ∧ x6 = .int .i64 nx ∧ x16 = .int .i64 (i : Int) ∧ Aside0 (i + kq = l.length + 1 ∧ i ≤ l.length) ∧ Aside0 (Tr w' tb root ∧ RokP t ∧ Agree root t ∧ (All root).length ≤ i ∧ t.ks.length ≤ i) ∧ Aside0 (∀ r, valT root r = lastE (l.take i) r) ∧
  Aside0 (∀ W, (∀ k, k ≠ w.heap.size → k < w'.heap.size → W.heap[k]? = w'.heap[k]?) → RtAt W t (.slice A0 n0 c0) (.slice A1 n1 c1) (.slice A2 n2 c2) (.slice A3 n3 c3) (.slice A4 n4 c4)) ∧ Aside0 (w'.heap[w2.heap.size]? = some (.cells #[.slice A0 n0 c0, .slice A1 n1 c1, .slice A2 n2 c2, .slice A3 n3 c3, .slice A4 n4 c4] 28 (0, 0))) ∧
  Aside0 (w'.heap[w.heap.size]? = some (.cells #[.slice none 0 0, .slice none 0 0, .slice none 0 0, .slice none 0 0, .slice none 0 0] 28 (0, 0))) ∧ Aside0 (Below w.heap.size w w'))
 case atStart =>
  have hb1 := H1.out.2.2.2
  rw [World.size_alloc] at hb1
  have hb2 := H2.out.2
  have hsz : w.heap.size + 1 ≤ w1.heap.size := by have := hb1.size; rwa [World.size_alloc] at this
  have hz1 := (hb1.block w.heap.size (by omega)).trans (World.alloc_heap_new w _)
  have hbB : Below w.heap.size w w2 := (((Below.refl _ w).alloc (Nat.le_refl _) _).trans (hb1.mono (by omega))).trans (hb2.mono (by omega))
  have hb3 : Below w2.heap.size w2 (w2.alloc (Obj.cells #[Value.slice A0 n0 c0, Value.slice A1 n1 c1, Value.slice A2 n2 c2, Value.slice A3 n3 c3, Value.slice A4 n4 c4] 28)) := (Below.refl _ w2).alloc (Nat.le_refl _) _
  refine ⟨0, tb, 1, root, rt0, A0, A1, A2, A3, A4, n0, n1, n2, n3, n4, c0, c1, c2, c3, c4, rfl, rfl, rfl, ⟨by omega⟩, ⟨(H1.out.1.keep (Kept.of hb2)).keep (Kept.of hb3), rokP0, ?_, by rw [H1.out.2.2.1]; exact Nat.le_refl _, Nat.le_refl _⟩, ⟨H1.out.2.1⟩, ⟨fun W hW => H2.out.1 W (fun k h1 h2 => (hW k (by omega) (by rw [World.size_alloc]; omega)).trans (hb3.block k h2))⟩, ⟨World.alloc_heap_new w2 _⟩, ⟨?_⟩, ⟨belowAt hbB hb3⟩⟩
  ·unfold Agree
   rw [H1.out.2.2.1]
   rfl
  ·have h9 := (hb2.block w.heap.size (by omega)).trans hz1
   exact (hb3.block _ (Array.getElem?_eq_some_iff.1 h9).1).trans h9
 case round =>
  obtain ⟨i, tb, nx, root, t, A0, A1, A2, A3, A4, n0, n1, n2, n3, n4, c0, c1, c2, c3, c4, rfl, rfl, rfl, HI, HT, HV, HR, HM, HZ, HB⟩ := hrel
  by_cases hi : i < l.length
  ·obtain ⟨ad, rfl, h1, h2⟩ := at_T35 (Kd.C_below HL.out HB.out) (i : Int) (by omega) (by omega)
   obtain ⟨x, hx⟩ : ∃ x, rd_T35 l (i : Int) = x := ⟨_, rfl⟩
   rw [hx, Int.toNat_natCast] at h1 h2
   have hmem : x ∈ l := by
    have e : rd_T35 l (i : Int) = l[i] := by simp [rd_T35, List.getD_eq_getElem?_getD, hi]
    rw [← hx, e]
    exact List.getElem_mem _
   have HX := Aside0.mk (HS.out x hmem)
   have HTK := Aside0.mk (show l.take (i + 1) = l.take i ++ [x] from by
    have e : rd_T35 l (i : Int) = l[i] := by simp [rd_T35, List.getD_eq_getElem?_getD, hi]
    rw [List.take_add_one, List.getElem?_eq_getElem hi, ← e, hx]
    rfl)
   clear hx hmem
   have q3 := Aside0.mk (fun W1 (h : Below wr.heap.size wr W1) => insC W1 tb root (HT.out.1.keep (Kept.of h)) x.f0 x.f1 HX.out (by have := HT.out.2.2.2.1; have := HN.out; omega))
   obtain ⟨o, eo⟩ : ∃ o, valT root (L x.f0) = o := ⟨_, rfl⟩
   rw [eo] at q3
   have hform : ∀ tb' : Nat, ∃ a b, wasV tb' o = .tuple #[ptr tb', a, .bool b] := fun tb' => by cases o <;> exact ⟨_, _, rfl⟩
   have HF := Aside0.mk hform
   clear hform eo
   have HBa := Aside0.mk (fun cs : Array Value => ((Below.refl wr.heap.size wr).alloc (Nat.le_refl _) (.cells cs 35)))
   have HE := Aside0.mk (fun cs : Array Value => World.alloc_heap_new wr (.cells cs 35))
   unfold ptr at q3
   go_wp2_with (go_at_call 43; refine (q3.out _ (HBa.out _)).mono ?_)
   rintro e w3 ⟨tb2, root2, rfl, ht, hv, hl, hb⟩
   rw [World.size_alloc] at hb
   obtain ⟨a, b, eab⟩ := HF.out tb2
   rw [eab]
   have hb3 : Below wr.heap.size wr w3 := (HBa.out _).trans (hb.mono (by omega))
   have hm3 := (hb3.block _ (Array.getElem?_eq_some_iff.1 HM.out).1).trans HM.out
   have he3 := (hb.block wr.heap.size (by omega)).trans (HE.out #[.string x.f0, .int .i64 x.f1])
   have m0 : w3.cell? ⟨w2.heap.size, 0, none⟩ = some (.slice A0 n0 c0) := by rw [blk_cell hm3]; rfl
   have m1 : w3.cell? ⟨w2.heap.size, 1, none⟩ = some (.slice A1 n1 c1) := by rw [blk_cell hm3]; rfl
   have m2 : w3.cell? ⟨w2.heap.size, 2, none⟩ = some (.slice A2 n2 c2) := by rw [blk_cell hm3]; rfl
   have m3 : w3.cell? ⟨w2.heap.size, 3, none⟩ = some (.slice A3 n3 c3) := by rw [blk_cell hm3]; rfl
   have m4 : w3.cell? ⟨w2.heap.size, 4, none⟩ = some (.slice A4 n4 c4) := by rw [blk_cell hm3]; rfl
   have e0 : w3.cell? ⟨wr.heap.size, 0, none⟩ = some (.string x.f0) := by rw [blk_cell he3]; rfl
   have e1 : w3.cell? ⟨wr.heap.size, 1, none⟩ = some (.int .i64 x.f1) := by rw [blk_cell he3]; rfl
   have H3 := Aside0.mk (And.intro ht (And.intro hv (And.intro hl (And.intro hb3 (And.intro hm3 he3)))))
   have q4 := Aside0.mk (insRtH w3 t HT.out.2.1 _ _ _ _ _ ((HR.out wr (fun _ _ _ => rfl)).below hb3) x.f0 x.f1 nx (by have := HX.out; omega) (by have := HT.out.2.2.2.2; have := HN.out; omega))
   clear ht hv hl hb hb3 hm3 he3 q3 eab HF h1 h2
   unfold ptr
   go_wp2_with (go_at_call 66; refine q4.out.mono ?_)
   rintro e w4 ⟨t', old, b', nx', u0, u1, u2, u3, u4, rfl, hr, hk, hi', hl', hb⟩
   obtain ⟨⟨B0, k0, d0, rfl⟩, ⟨B1, k1, d1, rfl⟩, ⟨B2, k2, d2, rfl⟩, ⟨B3, k3, d3, rfl⟩, ⟨B4, k4, d4, rfl⟩⟩ := (hr w4 (fun _ _ _ => rfl)).forms
   have hm4 := (hb.block _ (Array.getElem?_eq_some_iff.1 H3.out.2.2.2.2.1).1).trans H3.out.2.2.2.2.1
   have H4 := Aside0.mk (And.intro hr (And.intro hk (And.intro hi' (And.intro hl' (And.intro hb hm4)))))
   clear hr hk hi' hl' q4
   replace m0 : w4.cell? ⟨w2.heap.size, 0, none⟩ = some (.slice A0 n0 c0) := by rw [blk_cell hm4]; rfl
   replace m1 : w4.cell? ⟨w2.heap.size, 1, none⟩ = some (.slice A1 n1 c1) := by rw [blk_cell hm4]; rfl
   replace m2 : w4.cell? ⟨w2.heap.size, 2, none⟩ = some (.slice A2 n2 c2) := by rw [blk_cell hm4]; rfl
   replace m3 : w4.cell? ⟨w2.heap.size, 3, none⟩ = some (.slice A3 n3 c3) := by rw [blk_cell hm4]; rfl
   replace m4 : w4.cell? ⟨w2.heap.size, 4, none⟩ = some (.slice A4 n4 c4) := by rw [blk_cell hm4]; rfl
   have f0 : w4.frozen? ⟨w2.heap.size, 0, none⟩ = false := by simp [World.frozen?, hm4]
   have f1 : w4.frozen? ⟨w2.heap.size, 1, none⟩ = false := by simp [World.frozen?, hm4]
   have f2 : w4.frozen? ⟨w2.heap.size, 2, none⟩ = false := by simp [World.frozen?, hm4]
   have f3 : w4.frozen? ⟨w2.heap.size, 3, none⟩ = false := by simp [World.frozen?, hm4]
   have f4 : w4.frozen? ⟨w2.heap.size, 4, none⟩ = false := by simp [World.frozen?, hm4]
   clear hm4 hb e0 e1
   go_wp2_with fail
   go_roundg (l.length - i)
   case measure => have := HI.out; omega
   case rel =>
    have hne : w.heap.size ≠ w2.heap.size := by have := HW.out; omega
    have hfar : Far w2.heap.size w4 (set5 w4 w2.heap.size (.slice B0 k0 d0) (.slice B1 k1 d1) (.slice B2 k2 d2) (.slice B3 k3 d3) (.slice B4 k4 d4)) :=
     ⟨⟨_, _, _, _, _, H4.out.2.2.2.2.2, by simp⟩, fun k hk _ => set5_far _ _ _ _ _ _ _ k hk⟩
    have hb4 : Below w.heap.size w w4 := belowAt (belowAt HB.out H3.out.2.2.2.1) H4.out.2.2.2.2.1
    have hz : wr.heap.size ≤ w3.heap.size := H3.out.2.2.2.1.size
    refine ⟨i + 1, tb2, nx', root2, t', B0, B1, B2, B3, B4, k0, k1, k2, k3, k4, d0, d1, d2, d3, d4, rfl, rfl, ?_, ⟨by have := HI.out; omega⟩, ⟨far_tr hfar (H3.out.1.keep (Kept.of H4.out.2.2.2.2.1)), H4.out.2.1, ?_, ?_, ?_⟩, ⟨fun r => by rw [HTK.out, lastE_snoc, H3.out.2.1 r, HV.out r]⟩, ⟨fun W hW => H4.out.1 W (fun k hk hk2 => (hW k (by have := (Array.getElem?_eq_some_iff.1 HZ.out).1; omega) (Nat.lt_of_lt_of_le hk2 (set5_le w4 w2.heap.size _ _ _ _ _))).trans (set5_far _ _ _ _ _ _ _ k (by have := (Array.getElem?_eq_some_iff.1 HM.out).1; omega)))⟩, ⟨set5_at H4.out.2.2.2.2.2 _ _ _ _ _⟩, ⟨?_⟩, ⟨set5_below hb4 HW.out.2 _ _ _ _ _⟩⟩
    ·rw [wadd i (by have := HN.out; omega)]
    ·exact (H4.out.2.2.1.rt HT.out.2.1.toRok H4.out.2.1.toRok) root root2 HT.out.1.fine HT.out.1.vals H3.out.1.fine H3.out.1.vals HT.out.2.2.1 H3.out.2.1
    ·have := H3.out.2.2.1; have := HT.out.2.2.2.1; omega
    ·have := H4.out.2.2.2.1; have := HT.out.2.2.2.2; omega
    ·refine (set5_far _ _ _ _ _ _ _ _ hne).trans ?_
     have h9 := (H3.out.2.2.2.1.block _ (Array.getElem?_eq_some_iff.1 HZ.out).1).trans HZ.out
     exact (H4.out.2.2.2.2.1.block _ (Array.getElem?_eq_some_iff.1 h9).1).trans h9
  ·have hin : i = l.length := by have := HI.out; omega
   subst hin
   have hm4 := HM.out
   have hz4 := HZ.out
   have m0 : wr.cell? ⟨w2.heap.size, 0, none⟩ = some (.slice A0 n0 c0) := by rw [blk_cell hm4]; rfl
   have m1 : wr.cell? ⟨w2.heap.size, 1, none⟩ = some (.slice A1 n1 c1) := by rw [blk_cell hm4]; rfl
   have m2 : wr.cell? ⟨w2.heap.size, 2, none⟩ = some (.slice A2 n2 c2) := by rw [blk_cell hm4]; rfl
   have m3 : wr.cell? ⟨w2.heap.size, 3, none⟩ = some (.slice A3 n3 c3) := by rw [blk_cell hm4]; rfl
   have m4 : wr.cell? ⟨w2.heap.size, 4, none⟩ = some (.slice A4 n4 c4) := by rw [blk_cell hm4]; rfl
   have z0 : wr.cell? ⟨w.heap.size, 0, none⟩ = some (.slice none 0 0) := by rw [blk_cell hz4]; rfl
   have z1 : wr.cell? ⟨w.heap.size, 1, none⟩ = some (.slice none 0 0) := by rw [blk_cell hz4]; rfl
   have z2 : wr.cell? ⟨w.heap.size, 2, none⟩ = some (.slice none 0 0) := by rw [blk_cell hz4]; rfl
   have z3 : wr.cell? ⟨w.heap.size, 3, none⟩ = some (.slice none 0 0) := by rw [blk_cell hz4]; rfl
   have z4 : wr.cell? ⟨w.heap.size, 4, none⟩ = some (.slice none 0 0) := by rw [blk_cell hz4]; rfl
   have f0 : wr.frozen? ⟨w.heap.size, 0, none⟩ = false := by simp [World.frozen?, hz4]
   have f1 : wr.frozen? ⟨w.heap.size, 1, none⟩ = false := by simp [World.frozen?, hz4]
   have f2 : wr.frozen? ⟨w.heap.size, 2, none⟩ = false := by simp [World.frozen?, hz4]
   have f3 : wr.frozen? ⟨w.heap.size, 3, none⟩ = false := by simp [World.frozen?, hz4]
   have f4 : wr.frozen? ⟨w.heap.size, 4, none⟩ = false := by simp [World.frozen?, hz4]
   clear hm4 hz4
   go_wp2_with fail
   go_region
   go_wp2_with fail
   have hz9 := set5_at HZ.out (.slice A0 n0 c0) (.slice A1 n1 c1) (.slice A2 n2 c2) (.slice A3 n3 c3) (.slice A4 n4 c4)
   obtain ⟨W9, e9⟩ : ∃ W9, set5 wr w.heap.size (.slice A0 n0 c0) (.slice A1 n1 c1) (.slice A2 n2 c2) (.slice A3 n3 c3) (.slice A4 n4 c4) = W9 := ⟨_, rfl⟩
   have hfar : Far w.heap.size wr W9 := by rw [← e9]; exact ⟨⟨_, _, _, _, _, HZ.out, by simp⟩, fun k hk _ => set5_far _ _ _ _ _ _ _ k hk⟩
   have hsz9 : wr.heap.size ≤ W9.heap.size := by rw [← e9]; exact set5_le _ _ _ _ _ _ _
   have hb9 : Below w.heap.size w W9 := by rw [← e9]; exact set5_below HB.out (Nat.le_refl _) _ _ _ _ _
   rw [e9] at hz9
   have e10 : ((((wr.setCell { block := w.heap.size, off := 0 } (Value.slice A0 n0 c0)).setCell { block := w.heap.size, off := 1 } (Value.slice A1 n1 c1)).setCell { block := w.heap.size, off := 2 } (Value.slice A2 n2 c2)).setCell { block := w.heap.size, off := 3 } (Value.slice A3 n3 c3)).setCell { block := w.heap.size, off := 4 } (Value.slice A4 n4 c4) = W9 := e9
   rw [e10]
   have k0 : W9.drew.cell? ⟨w.heap.size, 0, none⟩ = some (.slice A0 n0 c0) := by show W9.cell? _ = _; rw [blk_cell hz9]; rfl
   have k1 : W9.drew.cell? ⟨w.heap.size, 1, none⟩ = some (.slice A1 n1 c1) := by show W9.cell? _ = _; rw [blk_cell hz9]; rfl
   have k2 : W9.drew.cell? ⟨w.heap.size, 2, none⟩ = some (.slice A2 n2 c2) := by show W9.cell? _ = _; rw [blk_cell hz9]; rfl
   have k3 : W9.drew.cell? ⟨w.heap.size, 3, none⟩ = some (.slice A3 n3 c3) := by show W9.cell? _ = _; rw [blk_cell hz9]; rfl
   have k4 : W9.drew.cell? ⟨w.heap.size, 4, none⟩ = some (.slice A4 n4 c4) := by show W9.cell? _ = _; rw [blk_cell hz9]; rfl
   refine bodyPost_ret (v := .tuple #[.pointer (some ⟨tb, 0, none⟩), .agg #[.slice A0 n0 c0, .slice A1 n1 c1, .slice A2 n2 c2, .slice A3 n3 c3, .slice A4 n4 c4]]) (by simp [results, Try.results21, go_sem, k0, k1, k2, k3, k4]) rfl ?_
   have hbd : Below W9.heap.size W9 W9.drew := below_drewA (Below.refl _ _)
   refine ⟨tb, root, t, _, _, _, _, _, rfl, (far_tr hfar HT.out.1).keep (Kept.of hbd), HT.out.2.1, HT.out.2.2.1, HR.out _ (fun k hk hlt => ?_), HT.out.2.2.2.2, fun r => by rw [HV.out r, List.take_length], belowAt hb9 hbd⟩
   exact (hbd.block k (by omega)).trans (hfar.same k hk hlt)
end Go.Proofs.Ytjhgknagmiekeaa.V
set_option linter.unusedVariables false
set_option linter.unusedSimpArgs false
namespace Go.Proofs.Ytjhgknagmiekeaa.V
open Go.Proofs.Ytjhgknagmiekeaa.VOU (below_drewA)
open Go.RowKit Go.Lib Go.Proofs Go.Shelf
open Go.Proofs.Ytjhgknagmiekeaa.T Go.Proofs.Ytjhgknagmiekeaa.N Go.Proofs.Ytjhgknagmiekeaa.K
open Go.Proofs.YtjhgknagmiekeaaW.PrintWords hiding blk_cell
attribute [local go_sem] Oper.semAt_some
set_option maxRecDepth 100000 in
set_option maxHeartbeats 4000000 in
theorem aliveP (w : World) : Calls Try.prog 20 #[] w fun e w' => e = .returned (.bool true) ∧ Below w.heap.size w w' := by
 refine callsIn_wide.1 (show CallsIn Fence.wide 9 Try.prog 20 _ w _ from ?_)
 have q := Aside0.mk (fun w1 A (h : EntAt w1 A twoE) => show CallsIn Fence.wide 8 Try.prog 21 _ w1 _ from callsIn_wide.2 (builtP A 2 twoE w1 h (by decide) (by decide) (by decide)))
 have q2 := Aside0.mk (fun w1 tb => show CallsIn Fence.wide 8 Try.prog 26 _ w1 _ from callsIn_wide.2 (allC tb w1))
 unfold ptr at q q2
 have hnf := funcNil
 refine callsIn_of_wp_marks Try.func20 rfl trivial ?_ rfl
 simp only [Try.ntmps20, List.size_toArray, List.length_cons, List.length_nil, Nat.reduceAdd, Nat.reduceSub, Array.replicate_succ, Array.replicate_zero, List.push_toArray, List.append_toArray, List.nil_append, List.cons_append]
 gi_wp2_with (first
  | (refine ⟨trivial, ?_⟩; gi_at_call 21; refine (q.out _ _ (two_at _ _)).mono ?_; rintro e w1 ⟨tb, root, t, v0, v1, v2, v3, v4, rfl, ht, hk, ha, hr, hl, hv, hb⟩; obtain ⟨⟨A0, n0, c0, rfl⟩, ⟨A1, n1, c1, rfl⟩, ⟨A2, n2, c2, rfl⟩, ⟨A3, n3, c3, rfl⟩, ⟨A4, n4, c4, rfl⟩⟩ := hr.forms; have H1 := Aside0.mk (And.intro ht (And.intro hv hb)); clear ht hk ha hr hl hv hb)
  | (refine ⟨trivial, ?_⟩; gi_at_call 26; refine (q2.out _ _).mono ?_; rintro e w2 ⟨bt, bs, bk, rfl, h2, h3, h4, h5⟩))
 clear q q2 hnf
 have hb := H1.out.2.2
 rw [World.size_alloc] at hb
 have hsz1 : w.heap.size + 1 ≤ w1.heap.size := by have := hb.size; rwa [World.size_alloc] at this
 have hbw : Below w.heap.size w w1 := ((Below.refl _ w).alloc (Nat.le_refl _) _).trans (hb.mono (by omega))
 simp only [World.size_alloc] at h5
 have hsz2 : w1.heap.size + 1 + 1 ≤ w2.heap.size := by have := h5.size; simp only [World.size_alloc] at this; exact this
 have bC : Boxed w2 (w1.heap.size + 1) 3 (.int .i64 0) := (h5.block _ (by omega)).trans (by have := World.alloc_heap_new (w1.alloc (Obj.cells #[Value.slice A0 n0 c0, Value.slice A1 n1 c1, Value.slice A2 n2 c2, Value.slice A3 n3 c3, Value.slice A4 n4 c4] 28)) (Obj.cells #[.int .i64 0] 3); rwa [World.size_alloc] at this)
 have hB0 : Below w1.heap.size w1 w2 := (((Below.refl _ w1).alloc (Nat.le_refl _) _).alloc (by simp) _).trans (h5.mono (by omega))
 have ht := H1.out.1
 have hall := two_all ht.fine ht.vals H1.out.2.1
 have hov : ovr (fun _ => false) (fun _ => true) ⟨#[]⟩ root = twoX := (ovr_of ht.fine.toGood hall (fun _ => false) (fun _ => true) hskA).trans (by decide)
 have hcn := Aside0.mk (fun W (h : Tr W tb root) => show CallsIn Fence.wide 8 Try.prog 25 _ W _ from callsIn_wide.2 (countC tb root ⟨#[97]⟩ W h 1 (by
  rw [ovr_of ht.fine.toGood hall (skU (L ⟨#[97]⟩)) (kpU (L ⟨#[97]⟩)) (hskU _)]
  decide) (by decide)))
 unfold ptr at hcn
 refine wpIn_rangeFunc_ownG rfl (by decide) (gf := 117) (lb := #[ptr bt, ptr bs, ptr bk]) rfl trivial (enters_of Try.func117 (by kernel_rfl) rfl)
  (VA.seq w2 8 2 w2.heap.size (fun k => k = w1.heap.size + 1) w1 (Kept.of hB0) (by omega) (Nat.le_refl _) (fun k hk e => by omega) tb root ht bt bs bk ⟨h2, h3, h4⟩ (by rw [hov]; decide))
  kpT (kpB (Nat.le_refl _)) (Below.refl _ _) (fun _ => rfl)
  (fun pre W => Boxed W (w1.heap.size + 1) 3 (.int .i64 (sumW pre)) ∧ Below w1.heap.size w1 W)
  (fun _ _ _ => False)
  (OwnFrom.and (Own.from (boxed_own (w1.heap.size + 1) 3 (fun pre : List (ByteArray × Int) => .int .i64 (sumW pre))) _) (ownFrom_below (Nat.le_refl _) (by omega)))
  (fun _ _ _ _ _ hs _ _ => hs)
  ⟨bC, hB0⟩
  (fun x => { tmps := #[.bool false, .pointer (some ⟨tb, 0, none⟩), .pointer (some ⟨w1.heap.size, 0, none⟩), .pointer (some ⟨(w1.heap.size + 1), 0, none⟩), .func (.func 117) #[] #[.pointer (some ⟨bt, 0, none⟩), .pointer (some ⟨bs, 0, none⟩), .pointer (some ⟨bk, 0, none⟩)], undef, .int .i64 x.2, .tuple #[.pointer (some ⟨tb, 0, none⟩), .agg #[.slice A0 n0 c0, .slice A1 n1 c1, .slice A2 n2 c2, .slice A3 n3 c3, .slice A4 n4 c4]], .agg #[.string { data := #[98] }, .int .i64 2], .agg #[.string { data := #[97] }, .int .i64 1], .slice (some ⟨w.heap.size, 0, none⟩) 2 2, .tuple #[.pointer (some ⟨tb, 0, none⟩), .agg #[.slice A0 n0 c0, .slice A1 n1 c1, .slice A2 n2 c2, .slice A3 n3 c3, .slice A4 n4 c4]], .pointer (some ⟨tb, 0, none⟩), .agg #[.slice A0 n0 c0, .slice A1 n1 c1, .slice A2 n2 c2, .slice A3 n3 c3, .slice A4 n4 c4], .pointer (some ⟨tb, 0, none⟩), .bool false, .pointer (some ⟨tb, 0, none⟩), .func (.func 117) #[] #[.pointer (some ⟨bt, 0, none⟩), .pointer (some ⟨bs, 0, none⟩), .pointer (some ⟨bk, 0, none⟩)], .func (.func 117) #[] #[.pointer (some ⟨bt, 0, none⟩), .pointer (some ⟨bs, 0, none⟩), .pointer (some ⟨bk, 0, none⟩)], .bool false, .func (.func 117) #[] #[.pointer (some ⟨bt, 0, none⟩), .pointer (some ⟨bs, 0, none⟩), .pointer (some ⟨bk, 0, none⟩)], .string x.1, .int .i64 x.2, undef, undef, undef, undef, undef, undef, undef, undef, undef, undef, undef], defers := [] }) ?assign ?body ?done ?stop
 case assign =>
  intro l x W K hK
  gi_wp2
  exact hK
 case body =>
  rintro l pre x W ⟨hv, hB⟩ hlt
  have hc := hv.cell
  have hf := hv.frozen
  gi_wp2
  refine ⟨(KeepsOthers.setCell _ _ _).from _, KpM.setBox (M := fun k => k = w1.heap.size + 1) hv (by decide) rfl _, ?_, hB.setCell (p := ⟨w1.heap.size + 1, 0, none⟩) (by show w1.heap.size ≤ w1.heap.size + 1; omega) _⟩
  rw [sumW_snoc]
  exact hv.set _
 case done =>
  rintro D ys W hD e9 ⟨hv, hB⟩ hK
  rw [e9, hov, show sumW twoX = 12 from by unfold sumW twoX; simp [wrap64]] at hv
  have hc := hv.cell
  gi_wp2_with (refine ⟨trivial, ?_⟩; gi_at_call 25; refine (hcn.out _ (ht.keep (Kept.of hB))).mono ?_; rintro e w3 ⟨rfl, hb3⟩)
  have hK3 := (hb3.block D (Array.getElem?_eq_some_iff.1 hK).1).trans hK
  refine ⟨by simp, .inl ⟨_, _, rfl, run_takeDeferred hK3, ?_⟩⟩
  exact ⟨_, results_tmp rfl _ _ _, rfl, (belowAt (hbw.trans (hB.mono (by omega))) hb3).trans (belowK_b (w := w2) (by omega) w3 D _ _ hD hK3 rfl rfl)⟩
 case stop =>
  rintro D c pre W _ _ h _
  exact h.elim
end Go.Proofs.Ytjhgknagmiekeaa.V
set_option linter.unusedVariables false
set_option linter.unusedSimpArgs false
namespace Go.Proofs.Ytjhgknagmiekeaa.V
open Go.RowKit Go.Lib Go.Proofs Go.Shelf
open Go.Proofs.Ytjhgknagmiekeaa.T Go.Proofs.Ytjhgknagmiekeaa.N Go.Proofs.Ytjhgknagmiekeaa.K
open Go.Proofs.YtjhgknagmiekeaaW.PrintWords hiding blk_cell
abbrev mk_ (D : Nat) : Deferred := { target := .collected D, args := #[] }
end Go.Proofs.Ytjhgknagmiekeaa.V
set_option linter.unusedVariables false
set_option linter.unusedSimpArgs false
namespace Go.Proofs.Ytjhgknagmiekeaa.N
open Go.RowKit Go.Proofs.YtjhgknagmiekeaaW.PrintWords Go.Proofs.YtjhgknagmiekeaaW.PrintLast
open Go.Proofs.Ytjhgknagmiekeaa.T (Nd Lf Ent ents entss All valT findT IntVals Ok Oks mem_all all_rise Fine Tr)
open Go.Proofs.Ytjhgknagmiekeaa.V (valI ovr ovrs ownE ovr_eq)
theorem ovr_all0 {root : Nd} (hg : T.Good root) : (ovr (fun _ => false) (fun _ => true) ⟨#[]⟩ root).map ex = (All root).map ey := by
  have e := ovr_all (fun _ => false) (fun _ => true) (fun _ _ h => by cases h) root ⟨#[]⟩ [] (by
    have := hg.top
    have : T.L root.label = [] := List.eq_nil_of_length_eq_zero (by rw [T.L_len, this])
    rw [this]; rfl)
  rw [show ents [] root = All root from rfl] at e
  exact e.trans (List.filter_eq_self.2 (fun _ _ => rfl))
theorem ovr_val {root : Nd} (hg : T.Good root) (hv : IntVals root) {x : ByteArray × Int} (h : x ∈ ovr (fun _ => false) (fun _ => true) ⟨#[]⟩ root) : valT root (T.L x.1) = some (.int .i64 x.2) := by
  refine (mem_ey hg hv _ _).1 ?_
  rw [← ovr_all0 hg]
  exact List.mem_map.2 ⟨x, h, rfl⟩
theorem ovr_len {root : Nd} (hg : T.Good root) : (ovr (fun _ => false) (fun _ => true) ⟨#[]⟩ root).length = (All root).length := by
  have := congrArg List.length (ovr_all0 hg)
  simpa using this
end Go.Proofs.Ytjhgknagmiekeaa.N
set_option linter.unusedVariables false
set_option linter.unusedSimpArgs false
namespace Go.Proofs.Ytjhgknagmiekeaa.D
open Go.RowKit Go.Lib Go.Proofs
open Go.Proofs.YtjhgknagmiekeaaW.PrintWords hiding Kept
set_option maxRecDepth 100000 in
set_option maxHeartbeats 1600000 in
theorem insNone (f : Value) (w : World) : Calls Try.prog 154 #[.slice none 0 0, .int .i64 0, .int .i64 0, f] w fun e w' => e = .returned (.tuple #[]) ∧ w' = w := by
  go_enter Try.func154, Try.ntmps154
  go_wp2_with fail
  go_loopg [8] 1 (fun kq v8 W => v8 = .int .i64 1 ∧ W = w)
  case atStart => exact ⟨rfl, rfl⟩
  case round =>
    obtain ⟨rfl, rfl⟩ := hrel
    go_wp2_with fail
    go_end0
    exact ⟨rfl, rfl⟩
set_option maxRecDepth 100000 in
set_option maxHeartbeats 1600000 in
theorem pdqNone (f : Value) (w : World) : Calls Try.prog 136 #[.slice none 0 0, .int .i64 0, .int .i64 0, .int .i64 0, f] w fun e w' => e = .returned (.tuple #[]) ∧ w' = w := by
  have q := Aside0.mk (insNone f w)
  go_enter Try.func136, Try.ntmps136
  go_wp2_with fail
  go_loopg [1, 2, 3] 1 (fun kq v1 v2 v3 W => v1 = .int .i64 0 ∧ v2 = .int .i64 0 ∧ v3 = .int .i64 0 ∧ W = w)
  case atStart => exact ⟨rfl, rfl, rfl, rfl⟩
  case round =>
    obtain ⟨rfl, rfl, rfl, rfl⟩ := hrel
    go_wp2_with fail
    go_at_call 154
    refine q.out.mono ?_
    rintro e w' ⟨rfl, rfl⟩
    go_wp2_with fail
    first | go_end0 | (simp only [Exit.inBlock, Exit.then]; refine bodyPost_ret (results_none rfl _ _ _) rfl ?_) | refine bodyPost_ret (results_none rfl _ _ _) rfl ?_
    exact ⟨rfl, rfl⟩
set_option maxRecDepth 100000 in
set_option maxHeartbeats 1600000 in
theorem sortNone (f : Value) (w : World) : Calls Try.prog 108 #[.slice none 0 0, f] w fun e w' => e = .returned (.tuple #[]) ∧ w' = w := by
  have q1 := Aside0.mk (Try.bits_Len 0 w (by omega) (by omega))
  have q2 := Aside0.mk (pdqNone f w)
  go_enter Try.func108, Try.ntmps108
  go_wp2_with fail
  go_at_call 137
  refine q1.out.mono ?_
  rintro e w' ⟨rfl, rfl⟩
  go_wp2_with fail
  go_at_call 136
  refine q2.out.mono ?_
  rintro e w' ⟨rfl, rfl⟩
  go_wp2_with fail
  go_end0
  exact ⟨rfl, rfl⟩
end Go.Proofs.Ytjhgknagmiekeaa.D
set_option linter.unusedVariables false
set_option linter.unusedSimpArgs false
namespace Go.Proofs.Ytjhgknagmiekeaa.VOA
open Go.RowKit Go.Lib Go.Proofs Go.Proofs.Ytjhgknagmiekeaa.T Go.Proofs.Ytjhgknagmiekeaa.V
open Go.Proofs.YtjhgknagmiekeaaW.PrintWords hiding blk_cell
theorem seq (w : World) (n NN n₁ : Nat) (M : Nat → Prop) (wB : World) (hkB : Kept wB w) (hnB : wB.heap.size ≤ n₁) (hnw : n₁ ≤ w.heap.size) (hM : ∀ k, k < wB.heap.size → ¬ M k)
    (tb : Nat) (root : Nd) (ht : Tr wB tb root) (bt bs bk : Nat) (hc : Closed w bt bs bk tb) (hNN : (ovr (fun _ => false) (fun _ => true) ⟨#[]⟩ root).length ≤ NN) :
    SeqO Fence.wide n Try.prog 117 #[ptr bt, ptr bs, ptr bk] (fun x : ByteArray × Int => #[.string x.1, .int .i64 x.2]) (KpM n₁ M) (fun ys => ys <+: (ovr (fun _ => false) (fun _ => true) ⟨#[]⟩ root)) (fun ys => ys = (ovr (fun _ => false) (fun _ => true) ⟨#[]⟩ root)) (fun ys => ys <+: (ovr (fun _ => false) (fun _ => true) ⟨#[]⟩ root)) NN w := by
  intro l J Jx W hw hl hJ hJx hY hJ0
  have hk : Kept w W := Kept.of hw
  have hc2 : Closed W bt bs bk tb := ⟨hk.at hc.1, hk.at hc.2.1, hk.at hc.2.2⟩
  refine callsIn_wide.2 (walked_calls l n₁ (fun ys => ys <+: (ovr (fun _ => false) (fun _ => true) ⟨#[]⟩ root)) (fun a b h => (List.prefix_append a b).trans h) M J Jx (fun s W1 W2 hs hb => ownBelow hJ hs hb) (fun m pre x W1 h1 h2 => (hY m pre x W1 h1 (by have := h2.length_le; rw [List.length_append, List.length_singleton] at this; omega) h2).mono (fun e W' h => h.2)) W wB (hkB.trans hk (Nat.le_trans hnB hnw)) hnB hM (fun _ => false) (fun _ => true)
    (fun q W1 h1 => neverC q W1) (fun q W1 h1 => alwaysC q W1) tb root ht bt bs bk W hc2 (Stnd.refl W n₁ M) (Nat.le_trans hnw hw.size) hJ0 (List.prefix_refl _))
end Go.Proofs.Ytjhgknagmiekeaa.VOA
namespace Go.Proofs
open Go.Shelf
def Try.sortChange_ren : Go.Shelf.Ren := ⟨fun | 6 => 108 | 15 => 137 | 14 => 136 | 28 => 162 | 29 => 163 | 20 => 154 | 21 => 155 | 22 => 156 | 23 => 157 | 24 => 158 | 25 => 159 | 26 => 160 | 27 => 161 | 46 => 175 | 47 => 176 | 48 => 177 | 49 => 178 | 50 => 179 | 57 => 194 | n => n, fun | 22 => 101 | 24 => 104 | 25 => 158 | 3 => 3 | 39 => 184 | 0 => 0 | 53 => 143 | 55 => 161 | 4 => 4 | 46 => 212 | 45 => 211 | 50 => 48 | 5 => 5 | 9 => 9 | 66 => 232 | 70 => 235 | 76 => 247 | 77 => 248 | n => n, fun | n => n⟩
theorem Try.sortChange : Go.Proofs.SlLaysF0.n6 Try.prog Try.sortChange_ren := {
  mixed := by kernel_rfl
  f6 := ⟨Try.f108.name, by decide, Try.func108.trans (congrArg some (by kernel_rfl))⟩
  f14 := ⟨Try.f136.name, by decide, Try.func136.trans (congrArg some (by kernel_rfl))⟩
  f15 := Try.func137.trans (congrArg some (by kernel_rfl))
  f20 := ⟨Try.f154.name, by decide, Try.func154.trans (congrArg some (by kernel_rfl))⟩
  f21 := ⟨Try.f155.name, by decide, Try.func155.trans (congrArg some (by kernel_rfl))⟩
  f22 := ⟨Try.f156.name, by decide, Try.func156.trans (congrArg some (by kernel_rfl))⟩
  f23 := ⟨Try.f157.name, by decide, Try.func157.trans (congrArg some (by kernel_rfl))⟩
  f24 := ⟨Try.f158.name, by decide, Try.func158.trans (congrArg some (by kernel_rfl))⟩
  f25 := ⟨Try.f159.name, by decide, Try.func159.trans (congrArg some (by kernel_rfl))⟩
  f26 := ⟨Try.f160.name, by decide, Try.func160.trans (congrArg some (by kernel_rfl))⟩
  f27 := ⟨Try.f161.name, by decide, Try.func161.trans (congrArg some (by kernel_rfl))⟩
  f28 := Try.func162.trans (congrArg some (by kernel_rfl))
  f29 := Try.func163.trans (congrArg some (by kernel_rfl))
  f46 := ⟨Try.f175.name, by decide, Try.func175.trans (congrArg some (by kernel_rfl))⟩
  f47 := Try.func176.trans (congrArg some (by kernel_rfl))
  f48 := Try.func177.trans (congrArg some (by kernel_rfl))
  f49 := ⟨Try.f178.name, by decide, Try.func178.trans (congrArg some (by kernel_rfl))⟩
  f50 := ⟨Try.f179.name, by decide, Try.func179.trans (congrArg some (by kernel_rfl))⟩
  f57 := ⟨Try.f194.name, by decide, Try.func194.trans (congrArg some (by kernel_rfl))⟩
  t0 := Try.underlying0
  a0 := Try.isAgg0
  z0 := Try.sizeOf0
  v0 := Try.zeroValue0
  t3 := Try.underlying3
  a3 := Try.isAgg3
  z3 := Try.sizeOf3
  v3 := Try.zeroValue3
  t4 := Try.underlying4
  a4 := Try.isAgg4
  z4 := Try.sizeOf4
  v4 := Try.zeroValue4
  t5 := Try.underlying5
  a5 := Try.isAgg5
  z5 := Try.sizeOf5
  v5 := Try.zeroValue5
  t9 := Try.underlying9
  a9 := Try.isAgg9
  z9 := Try.sizeOf9
  v9 := Try.zeroValue9
  t22 := Try.underlying101
  a22 := Try.isAgg101
  z22 := Try.sizeOf101
  v22 := Try.zeroValue101
  t25 := Try.underlying158
  a25 := Try.isAgg158
  z25 := Try.sizeOf158
  v25 := Try.zeroValue158
  t39 := Try.underlying184
  a39 := Try.isAgg184
  z39 := Try.sizeOf184
  v39 := Try.zeroValue184
  t45 := Try.underlying211
  a45 := Try.isAgg211
  z45 := Try.sizeOf211
  v45 := Try.zeroValue211
  t46 := Try.underlying212
  a46 := Try.isAgg212
  z46 := Try.sizeOf212
  v46 := Try.zeroValue212
  t50 := Try.underlying48
  a50 := Try.isAgg48
  z50 := Try.sizeOf48
  v50 := Try.zeroValue48
  t53 := Try.underlying143
  a53 := Try.isAgg143
  z53 := Try.sizeOf143
  v53 := Try.zeroValue143
  t55 := Try.underlying161
  a55 := Try.isAgg161
  z55 := Try.sizeOf161
  v55 := Try.zeroValue161
  t66 := Try.underlying232
  a66 := Try.isAgg232
  z66 := Try.sizeOf232
  v66 := Try.zeroValue232
  t70 := Try.underlying235
  a70 := Try.isAgg235
  z70 := Try.sizeOf235
  v70 := Try.zeroValue235
  t76 := Try.underlying247
  a76 := Try.isAgg247
  z76 := Try.sizeOf247
  v76 := Try.zeroValue247
  t77 := Try.underlying248
  a77 := Try.isAgg248
  z77 := Try.sizeOf248
  v77 := Try.zeroValue248 }
end Go.Proofs
