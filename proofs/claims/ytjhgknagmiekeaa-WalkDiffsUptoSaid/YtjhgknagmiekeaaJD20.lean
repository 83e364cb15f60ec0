/- joined: K71 K1 K70 -/
import Derived.Test.YtjhgknagmiekeaaJD2
-- Written by a program of this session (wip/tools/printfam.py) out of the translation; hand-proved contracts set in. Lean checks it.
namespace Go.Proofs.Ytjhgknagmiekeaa.K
open Go.RowKit Go.Proofs.YtjhgknagmiekeaaW.PrintWords Go.Proofs.YtjhgknagmiekeaaW.PrintLast Go.Proofs.YtjhgknagmiekeaaW.PrintMore
attribute [local go_sem] max2_int min2_int max_two min_two max_three min_three max_four min_four   -- for this text's walks alone
set_option linter.unusedVariables false
set_option linter.unusedSimpArgs false
mutual
def musterref04_Diff.l0 : Nat → List (S104) → Int → Int → List ByteArray → List Int → List Int → List ByteArray → List Int → List ByteArray → List Int → List Int → List ByteArray → List Int → Option ((List (S104)))
 | 0, _, _, _, _, _, _, _, _, _, _, _, _, _ => none
 | k + 1, x5, x6, x7, x335000, x335001, x335002, x335003, x335004, x336000, x336001, x336002, x336003, x336004 => if x6 < (x335000.length : Int) then (musterref04_Diff.j1 k x5 x6 x7 true x335000 x335001 x335002 x335003 x335004 x336000 x336001 x336002 x336003 x336004) else (musterref04_Diff.j1 k x5 x6 x7 (decide (x7 < (x336000.length : Int))) x335000 x335001 x335002 x335003 x335004 x336000 x336001 x336002 x336003 x336004)
def musterref04_Diff.j1 : Nat → List (S104) → Int → Int → Bool → List ByteArray → List Int → List Int → List ByteArray → List Int → List ByteArray → List Int → List Int → List ByteArray → List Int → Option ((List (S104)))
 | 0, _, _, _, _, _, _, _, _, _, _, _, _, _, _ => none
 | k + 1, x5, x6, x7, x20, x335000, x335001, x335002, x335003, x335004, x336000, x336001, x336002, x336003, x336004 => if x20 = true then (if x7 ≥ (x336000.length : Int) then (musterref04_Diff.j2 k x5 x6 x7 true x335000 x335001 x335002 x335003 x335004 x336000 x336001 x336002 x336003 x336004) else (if x6 < (x335000.length : Int) then (if 0 ≤ x6 then (if 0 ≤ x7 then (if x7 < (x336000.length : Int) then ((musterref01_Less.f k (rdOf ByteArray.empty x335000 x6) (rdOf ByteArray.empty x336000 x7)).bind fun t341 => (musterref04_Diff.j2 k x5 x6 x7 t341 x335000 x335001 x335002 x335003 x335004 x336000 x336001 x336002 x336003 x336004)) else (none)) else (none)) else (none)) else (musterref04_Diff.j2 k x5 x6 x7 false x335000 x335001 x335002 x335003 x335004 x336000 x336001 x336002 x336003 x336004))) else (some x5)
def musterref04_Diff.j2 : Nat → List (S104) → Int → Int → Bool → List ByteArray → List Int → List Int → List ByteArray → List Int → List ByteArray → List Int → List Int → List ByteArray → List Int → Option ((List (S104)))
 | 0, _, _, _, _, _, _, _, _, _, _, _, _, _, _ => none
 | k + 1, x5, x6, x7, x45, x335000, x335001, x335002, x335003, x335004, x336000, x336001, x336002, x336003, x336004 => if x45 = true then (if 0 ≤ x6 then (if x6 < (x335000.length : Int) then (if x5.length < 5864062014805 then (musterref04_Diff.l0 k (x5 ++ [(⟨rdOf ByteArray.empty x335000 x6, 2⟩ : S104)]) (wrap64 (x6 + 1)) x7 x335000 x335001 x335002 x335003 x335004 x336000 x336001 x336002 x336003 x336004) else (none)) else (none)) else (none)) else (if x6 ≥ (x335000.length : Int) then (musterref04_Diff.j3 k x5 x6 x7 true x335000 x335001 x335002 x335003 x335004 x336000 x336001 x336002 x336003 x336004) else (if 0 ≤ x7 then (if x7 < (x336000.length : Int) then (if 0 ≤ x6 then (if x6 < (x335000.length : Int) then ((musterref01_Less.f k (rdOf ByteArray.empty x336000 x7) (rdOf ByteArray.empty x335000 x6)).bind fun t348 => (musterref04_Diff.j3 k x5 x6 x7 t348 x335000 x335001 x335002 x335003 x335004 x336000 x336001 x336002 x336003 x336004)) else (none)) else (none)) else (none)) else (none)))
def musterref04_Diff.j3 : Nat → List (S104) → Int → Int → Bool → List ByteArray → List Int → List Int → List ByteArray → List Int → List ByteArray → List Int → List Int → List ByteArray → List Int → Option ((List (S104)))
 | 0, _, _, _, _, _, _, _, _, _, _, _, _, _, _ => none
 | k + 1, x5, x6, x7, x74, x335000, x335001, x335002, x335003, x335004, x336000, x336001, x336002, x336003, x336004 => if x74 = true then (if 0 ≤ x7 then (if x7 < (x336000.length : Int) then (if x5.length < 5864062014805 then (musterref04_Diff.l0 k (x5 ++ [(⟨rdOf ByteArray.empty x336000 x7, 1⟩ : S104)]) x6 (wrap64 (x7 + 1)) x335000 x335001 x335002 x335003 x335004 x336000 x336001 x336002 x336003 x336004) else (none)) else (none)) else (none)) else (if 0 ≤ x6 then (if x6 < (x335001.length : Int) then (if 0 ≤ x7 then (if x7 < (x336001.length : Int) then (if (rd x335001 x6) = (rd x336001 x7) then (musterref04_Diff.l0 k x5 (wrap64 (x6 + 1)) (wrap64 (x7 + 1)) x335000 x335001 x335002 x335003 x335004 x336000 x336001 x336002 x336003 x336004) else (if x6 < (x335000.length : Int) then (if x5.length < 5864062014805 then (musterref04_Diff.l0 k (x5 ++ [(⟨rdOf ByteArray.empty x335000 x6, 3⟩ : S104)]) (wrap64 (x6 + 1)) (wrap64 (x7 + 1)) x335000 x335001 x335002 x335003 x335004 x336000 x336001 x336002 x336003 x336004) else (none)) else (none))) else (none)) else (none)) else (none)) else (none))
end
def musterref04_Diff.f (k : Nat) (l0_0 : List ByteArray) (l0_1 : List Int) (l0_2 : List Int) (l0_3 : List ByteArray) (l0_4 : List Int) (l1_0 : List ByteArray) (l1_1 : List Int) (l1_2 : List Int) (l1_3 : List ByteArray) (l1_4 : List Int) : Option ((List (S104))) := musterref04_Diff.l0 k (([] : List (S104))) 0 0 l0_0 l0_1 l0_2 l0_3 l0_4 l1_0 l1_1 l1_2 l1_3 l1_4
theorem musterref04_Diff.mono_l : ∀ k, (∀ y0 y1 y2 y3 y4 y5 y6 y7 y8 y9 y10 y11 y12, LeO (musterref04_Diff.l0 k y0 y1 y2 y3 y4 y5 y6 y7 y8 y9 y10 y11 y12) (musterref04_Diff.l0 (k + 1) y0 y1 y2 y3 y4 y5 y6 y7 y8 y9 y10 y11 y12)) ∧ (∀ y0 y1 y2 y3 y4 y5 y6 y7 y8 y9 y10 y11 y12 y13, LeO (musterref04_Diff.j1 k y0 y1 y2 y3 y4 y5 y6 y7 y8 y9 y10 y11 y12 y13) (musterref04_Diff.j1 (k + 1) y0 y1 y2 y3 y4 y5 y6 y7 y8 y9 y10 y11 y12 y13)) ∧ (∀ y0 y1 y2 y3 y4 y5 y6 y7 y8 y9 y10 y11 y12 y13, LeO (musterref04_Diff.j2 k y0 y1 y2 y3 y4 y5 y6 y7 y8 y9 y10 y11 y12 y13) (musterref04_Diff.j2 (k + 1) y0 y1 y2 y3 y4 y5 y6 y7 y8 y9 y10 y11 y12 y13)) ∧ (∀ y0 y1 y2 y3 y4 y5 y6 y7 y8 y9 y10 y11 y12 y13, LeO (musterref04_Diff.j3 k y0 y1 y2 y3 y4 y5 y6 y7 y8 y9 y10 y11 y12 y13) (musterref04_Diff.j3 (k + 1) y0 y1 y2 y3 y4 y5 y6 y7 y8 y9 y10 y11 y12 y13))
 | 0 => ⟨fun _ _ _ _ _ _ _ _ _ _ _ _ _ r h => by simp [musterref04_Diff.l0] at h, fun _ _ _ _ _ _ _ _ _ _ _ _ _ _ r h => by simp [musterref04_Diff.j1] at h, fun _ _ _ _ _ _ _ _ _ _ _ _ _ _ r h => by simp [musterref04_Diff.j2] at h, fun _ _ _ _ _ _ _ _ _ _ _ _ _ _ r h => by simp [musterref04_Diff.j3] at h⟩
 | k + 1 => by
  obtain ⟨ih0, ih1, ih2, ih3⟩ := musterref04_Diff.mono_l k
  refine ⟨?_, ?_, ?_, ?_⟩
  ·intro y0 y1 y2 y3 y4 y5 y6 y7 y8 y9 y10 y11 y12
   unfold musterref04_Diff.l0
   repeat' first
   | (with_reducible exact ih0 _ _ _ _ _ _ _ _ _ _ _ _ _)
   | (with_reducible exact ih1 _ _ _ _ _ _ _ _ _ _ _ _ _ _)
   | (with_reducible exact ih2 _ _ _ _ _ _ _ _ _ _ _ _ _ _)
   | (with_reducible exact ih3 _ _ _ _ _ _ _ _ _ _ _ _ _ _)
   | (with_reducible exact musterref01_Less.mono _ _ _)
   | (with_reducible exact LeO.refl _)
   | (with_reducible exact LeO.none _)
   | (with_reducible refine LeO.ite ?_ ?_)
   | (with_reducible refine LeO.bind ?_ (fun _ => ?_))
   | exact ih0 _ _ _ _ _ _ _ _ _ _ _ _ _
   | exact ih1 _ _ _ _ _ _ _ _ _ _ _ _ _ _
   | exact ih2 _ _ _ _ _ _ _ _ _ _ _ _ _ _
   | exact ih3 _ _ _ _ _ _ _ _ _ _ _ _ _ _
   | exact musterref01_Less.mono _ _ _
   | exact LeO.none _
   | refine LeO.ite ?_ ?_
   | refine LeO.bind ?_ (fun _ => ?_)
  ·intro y0 y1 y2 y3 y4 y5 y6 y7 y8 y9 y10 y11 y12 y13
   unfold musterref04_Diff.j1
   repeat' first
   | (with_reducible exact ih0 _ _ _ _ _ _ _ _ _ _ _ _ _)
   | (with_reducible exact ih1 _ _ _ _ _ _ _ _ _ _ _ _ _ _)
   | (with_reducible exact ih2 _ _ _ _ _ _ _ _ _ _ _ _ _ _)
   | (with_reducible exact ih3 _ _ _ _ _ _ _ _ _ _ _ _ _ _)
   | (with_reducible exact musterref01_Less.mono _ _ _)
   | (with_reducible exact LeO.refl _)
   | (with_reducible exact LeO.none _)
   | (with_reducible refine LeO.ite ?_ ?_)
   | (with_reducible refine LeO.bind ?_ (fun _ => ?_))
   | exact ih0 _ _ _ _ _ _ _ _ _ _ _ _ _
   | exact ih1 _ _ _ _ _ _ _ _ _ _ _ _ _ _
   | exact ih2 _ _ _ _ _ _ _ _ _ _ _ _ _ _
   | exact ih3 _ _ _ _ _ _ _ _ _ _ _ _ _ _
   | exact musterref01_Less.mono _ _ _
   | exact LeO.none _
   | refine LeO.ite ?_ ?_
   | refine LeO.bind ?_ (fun _ => ?_)
  ·intro y0 y1 y2 y3 y4 y5 y6 y7 y8 y9 y10 y11 y12 y13
   unfold musterref04_Diff.j2
   repeat' first
   | (with_reducible exact ih0 _ _ _ _ _ _ _ _ _ _ _ _ _)
   | (with_reducible exact ih1 _ _ _ _ _ _ _ _ _ _ _ _ _ _)
   | (with_reducible exact ih2 _ _ _ _ _ _ _ _ _ _ _ _ _ _)
   | (with_reducible exact ih3 _ _ _ _ _ _ _ _ _ _ _ _ _ _)
   | (with_reducible exact musterref01_Less.mono _ _ _)
   | (with_reducible exact LeO.refl _)
   | (with_reducible exact LeO.none _)
   | (with_reducible refine LeO.ite ?_ ?_)
   | (with_reducible refine LeO.bind ?_ (fun _ => ?_))
   | exact ih0 _ _ _ _ _ _ _ _ _ _ _ _ _
   | exact ih1 _ _ _ _ _ _ _ _ _ _ _ _ _ _
   | exact ih2 _ _ _ _ _ _ _ _ _ _ _ _ _ _
   | exact ih3 _ _ _ _ _ _ _ _ _ _ _ _ _ _
   | exact musterref01_Less.mono _ _ _
   | exact LeO.none _
   | refine LeO.ite ?_ ?_
   | refine LeO.bind ?_ (fun _ => ?_)
  ·intro y0 y1 y2 y3 y4 y5 y6 y7 y8 y9 y10 y11 y12 y13
   unfold musterref04_Diff.j3
   repeat' first
   | (with_reducible exact ih0 _ _ _ _ _ _ _ _ _ _ _ _ _)
   | (with_reducible exact ih1 _ _ _ _ _ _ _ _ _ _ _ _ _ _)
   | (with_reducible exact ih2 _ _ _ _ _ _ _ _ _ _ _ _ _ _)
   | (with_reducible exact ih3 _ _ _ _ _ _ _ _ _ _ _ _ _ _)
   | (with_reducible exact musterref01_Less.mono _ _ _)
   | (with_reducible exact LeO.refl _)
   | (with_reducible exact LeO.none _)
   | (with_reducible refine LeO.ite ?_ ?_)
   | (with_reducible refine LeO.bind ?_ (fun _ => ?_))
   | exact ih0 _ _ _ _ _ _ _ _ _ _ _ _ _
   | exact ih1 _ _ _ _ _ _ _ _ _ _ _ _ _ _
   | exact ih2 _ _ _ _ _ _ _ _ _ _ _ _ _ _
   | exact ih3 _ _ _ _ _ _ _ _ _ _ _ _ _ _
   | exact musterref01_Less.mono _ _ _
   | exact LeO.none _
   | refine LeO.ite ?_ ?_
   | refine LeO.bind ?_ (fun _ => ?_)
theorem musterref04_Diff.mono : ∀ a0 a1 a2 a3 a4 a5 a6 a7 a8 a9 k, LeO (musterref04_Diff.f k a0 a1 a2 a3 a4 a5 a6 a7 a8 a9) (musterref04_Diff.f (k + 1) a0 a1 a2 a3 a4 a5 a6 a7 a8 a9) := by
 intro a0 a1 a2 a3 a4 a5 a6 a7 a8 a9 k
 obtain ⟨ih0, ih1, ih2, ih3⟩ := musterref04_Diff.mono_l k
 unfold musterref04_Diff.f
 repeat' first
   | (with_reducible exact ih0 _ _ _ _ _ _ _ _ _ _ _ _ _)
   | (with_reducible exact ih1 _ _ _ _ _ _ _ _ _ _ _ _ _ _)
   | (with_reducible exact ih2 _ _ _ _ _ _ _ _ _ _ _ _ _ _)
   | (with_reducible exact ih3 _ _ _ _ _ _ _ _ _ _ _ _ _ _)
   | (with_reducible exact musterref01_Less.mono _ _ _)
   | (with_reducible exact LeO.refl _)
   | (with_reducible exact LeO.none _)
   | (with_reducible refine LeO.ite ?_ ?_)
   | (with_reducible refine LeO.bind ?_ (fun _ => ?_))
   | exact ih0 _ _ _ _ _ _ _ _ _ _ _ _ _
   | exact ih1 _ _ _ _ _ _ _ _ _ _ _ _ _ _
   | exact ih2 _ _ _ _ _ _ _ _ _ _ _ _ _ _
   | exact ih3 _ _ _ _ _ _ _ _ _ _ _ _ _ _
   | exact musterref01_Less.mono _ _ _
   | exact LeO.none _
   | refine LeO.ite ?_ ?_
   | refine LeO.bind ?_ (fun _ => ?_)
set_option maxHeartbeats 8000000 in
set_option maxRecDepth 100000 in
theorem musterref04_Diff.calls (k : Nat) (A0_0 : Option Addr) (c0_0 : Nat) (l0_0 : List ByteArray) (A0_1 : Option Addr) (c0_1 : Nat) (l0_1 : List Int) (A0_2 : Option Addr) (c0_2 : Nat) (l0_2 : List Int) (A0_3 : Option Addr) (c0_3 : Nat) (l0_3 : List ByteArray) (A0_4 : Option Addr) (c0_4 : Nat) (l0_4 : List Int) (A1_0 : Option Addr) (c1_0 : Nat) (l1_0 : List ByteArray) (A1_1 : Option Addr) (c1_1 : Nat) (l1_1 : List Int) (A1_2 : Option Addr) (c1_2 : Nat) (l1_2 : List Int) (A1_3 : Option Addr) (c1_3 : Nat) (l1_3 : List ByteArray) (A1_4 : Option Addr) (c1_4 : Nat) (l1_4 : List Int) (r : List (S104)) (w : World) (hr0_0 : Kd.C Kd.string w A0_0 l0_0.length l0_0) (hc0_0 : l0_0.length ≤ c0_0) (hr0_1 : Kd.C (Kd.int .i64) w A0_1 l0_1.length l0_1) (hc0_1 : l0_1.length ≤ c0_1) (hr0_2 : Kd.C (Kd.int .i64) w A0_2 l0_2.length l0_2) (hc0_2 : l0_2.length ≤ c0_2) (hr0_3 : Kd.C Kd.string w A0_3 l0_3.length l0_3) (hc0_3 : l0_3.length ≤ c0_3) (hr0_4 : Kd.C (Kd.int .i64) w A0_4 l0_4.length l0_4) (hc0_4 : l0_4.length ≤ c0_4) (hr1_0 : Kd.C Kd.string w A1_0 l1_0.length l1_0) (hc1_0 : l1_0.length ≤ c1_0) (hr1_1 : Kd.C (Kd.int .i64) w A1_1 l1_1.length l1_1) (hc1_1 : l1_1.length ≤ c1_1) (hr1_2 : Kd.C (Kd.int .i64) w A1_2 l1_2.length l1_2) (hc1_2 : l1_2.length ≤ c1_2) (hr1_3 : Kd.C Kd.string w A1_3 l1_3.length l1_3) (hc1_3 : l1_3.length ≤ c1_3) (hr1_4 : Kd.C (Kd.int .i64) w A1_4 l1_4.length l1_4) (hc1_4 : l1_4.length ≤ c1_4) (h : musterref04_Diff.f k l0_0 l0_1 l0_2 l0_3 l0_4 l1_0 l1_1 l1_2 l1_3 l1_4 = some r) :
  Calls Try.prog 69 #[.agg #[.slice A0_0 l0_0.length c0_0, .slice A0_1 l0_1.length c0_1, .slice A0_2 l0_2.length c0_2, .slice A0_3 l0_3.length c0_3, .slice A0_4 l0_4.length c0_4], .agg #[.slice A1_0 l1_0.length c1_0, .slice A1_1 l1_1.length c1_1, .slice A1_2 l1_2.length c1_2, .slice A1_3 l1_3.length c1_3, .slice A1_4 l1_4.length c1_4]] w fun e w' => ∃ v0_ : Value, e = .returned (v0_) ∧ Kd.R k104 104 w' w.heap.size (fun _ => True) v0_ r ∧ Below w.heap.size w w' := by
 have hu28 := Try.underlying28
 have hu104 := Try.underlying104
 have HR0_0 := Aside0.mk hr0_0
 have HC0_0 := Aside0.mk hc0_0
 clear hr0_0 hc0_0
 have HR0_1 := Aside0.mk hr0_1
 have HC0_1 := Aside0.mk hc0_1
 clear hr0_1 hc0_1
 have HR0_2 := Aside0.mk hr0_2
 have HC0_2 := Aside0.mk hc0_2
 clear hr0_2 hc0_2
 have HR0_3 := Aside0.mk hr0_3
 have HC0_3 := Aside0.mk hc0_3
 clear hr0_3 hc0_3
 have HR0_4 := Aside0.mk hr0_4
 have HC0_4 := Aside0.mk hc0_4
 clear hr0_4 hc0_4
 have HR1_0 := Aside0.mk hr1_0
 have HC1_0 := Aside0.mk hc1_0
 clear hr1_0 hc1_0
 have HR1_1 := Aside0.mk hr1_1
 have HC1_1 := Aside0.mk hc1_1
 clear hr1_1 hc1_1
 have HR1_2 := Aside0.mk hr1_2
 have HC1_2 := Aside0.mk hc1_2
 clear hr1_2 hc1_2
 have HR1_3 := Aside0.mk hr1_3
 have HC1_3 := Aside0.mk hc1_3
 clear hr1_3 hc1_3
 have HR1_4 := Aside0.mk hr1_4
 have HC1_4 := Aside0.mk hc1_4
 clear hr1_4 hc1_4
 have HB := Aside0.mk (Below.refl w.heap.size w)
 have H : (musterref04_Diff.l0 k (([] : List (S104))) 0 0 l0_0 l0_1 l0_2 l0_3 l0_4 l1_0 l1_1 l1_2 l1_3 l1_4) = some r := h
 clear h
 obtain ⟨y336, hy336⟩ : ∃ y_ : List (S104), y_ = (([] : List (S104))) := ⟨_, rfl⟩
 replace H : (musterref04_Diff.l0 k y336 0 0 l0_0 l0_1 l0_2 l0_3 l0_4 l1_0 l1_1 l1_2 l1_3 l1_4) = some r := by first | (rw [hy336]; with_reducible exact H) | (have H2_ := (Option.bind_some _ _).symm.trans H; rw [hy336]; with_reducible exact H2_) | (have H2_ := (Option.bind_some _ _).symm.trans H; with_reducible exact H2_) | with_reducible exact H | (rw [hy336]; exact H) | exact H
 have Ny336 := Aside0.mk hy336
 clear hy336
 have H' := Aside0.mk H
 clear H
 go_enter Try.func69, Try.ntmps69
 go_wp2_with (first | ((with_reducible refine gate_dst (N := 2) rfl ?_); (try (refine gate_guard (by rfl) ?_; dsimp only)); refine box_event ?hg (N := 2) ?hd (cs := #[.slice A0_0 l0_0.length c0_0, .slice A0_1 l0_1.length c0_1, .slice A0_2 l0_2.length c0_2, .slice A0_3 l0_3.length c0_3, .slice A0_4 l0_4.length c0_4]) (t := 28) ?hr ?_; (case hd => rfl); (case hg => rfl); (case hr => first | (go_simp; done) | (go_simp; rfl)); intro gb334 hg w3 hbox hb; have n0_ := Aside0.mk (below_step (by repeat (first | (with_reducible first | exact HB.out | apply below_alloc | apply pw_below_drewN | apply below_drew1) | exact HB.out)) hb); have n1_ := Aside0.mk (hbox); have n2_ := Aside0.mk ((by rw [hg]; exact (below_size (by repeat (first | (with_reducible first | exact HB.out | apply below_alloc | apply pw_below_drewN | apply below_drew1) | exact HB.out))) : w.heap.size ≤ gb334)); have n3_ := Aside0.mk ((by rw [hg]; exact (below_size (by repeat (first | (with_reducible first | exact HB.out | apply below_alloc | apply pw_below_drewN | apply below_drew1) | exact HB.out))) : w.heap.size ≤ gb334)); clear HB; have HB := n0_; have BK334 := n1_; have GW334 := n2_; have GE334 := n3_; clear n0_ n1_ n2_ n3_; clear hb hbox hg) | ((with_reducible refine gate_dst (N := 3) rfl ?_); (try (refine gate_guard (by rfl) ?_; dsimp only)); refine box_event ?hg (N := 3) ?hd (cs := #[.slice A1_0 l1_0.length c1_0, .slice A1_1 l1_1.length c1_1, .slice A1_2 l1_2.length c1_2, .slice A1_3 l1_3.length c1_3, .slice A1_4 l1_4.length c1_4]) (t := 28) ?hr ?_; (case hd => rfl); (case hg => rfl); (case hr => first | (go_simp; done) | (go_simp; rfl)); intro gb335 hg w4 hbox hb; have n0_ := Aside0.mk (blk_below (g := gb334) (o := .cells #[.slice A0_0 l0_0.length c0_0, .slice A0_1 l0_1.length c0_1, .slice A0_2 l0_2.length c0_2, .slice A0_3 l0_3.length c0_3, .slice A0_4 l0_4.length c0_4] 28 (0, 0)) (by (with_reducible repeat (first | refine blk_drewN ?_ _ | refine blk_drew ?_ | refine blk_alloc ?_ _)); exact BK334.out) hb); have n1_ := Aside0.mk (below_step (by repeat (first | (with_reducible first | exact HB.out | apply below_alloc | apply pw_below_drewN | apply below_drew1 | refine below_set ?_ GE334.out) | exact HB.out)) hb); have n2_ := Aside0.mk (hbox); have n3_ := Aside0.mk ((by rw [hg]; exact (below_size (by repeat (first | (with_reducible first | exact HB.out | apply below_alloc | apply pw_below_drewN | apply below_drew1 | refine below_set ?_ GE334.out) | exact HB.out))) : w.heap.size ≤ gb335)); have n4_ := Aside0.mk ((by rw [hg]; exact (below_size (by repeat (first | (with_reducible first | exact HB.out | apply below_alloc | apply pw_below_drewN | apply below_drew1 | refine below_set ?_ GE334.out) | exact HB.out))) : w.heap.size ≤ gb335)); have n5_ := Aside0.mk ((by rw [hg]; exact Nat.ne_of_lt (blk_lt (g := gb334) (o := .cells #[.slice A0_0 l0_0.length c0_0, .slice A0_1 l0_1.length c0_1, .slice A0_2 l0_2.length c0_2, .slice A0_3 l0_3.length c0_3, .slice A0_4 l0_4.length c0_4] 28 (0, 0)) (by (with_reducible repeat (first | refine blk_drewN ?_ _ | refine blk_drew ?_ | refine blk_alloc ?_ _)); exact BK334.out)) : gb334 ≠ gb335)); have n6_ := Aside0.mk ((by rw [hg]; exact Nat.ne_of_gt (blk_lt (g := gb334) (o := .cells #[.slice A0_0 l0_0.length c0_0, .slice A0_1 l0_1.length c0_1, .slice A0_2 l0_2.length c0_2, .slice A0_3 l0_3.length c0_3, .slice A0_4 l0_4.length c0_4] 28 (0, 0)) (by (with_reducible repeat (first | refine blk_drewN ?_ _ | refine blk_drew ?_ | refine blk_alloc ?_ _)); exact BK334.out)) : gb335 ≠ gb334)); clear BK334; clear HB; have BK334 := n0_; have HB := n1_; have BK335 := n2_; have GW335 := n3_; have GE335 := n4_; have NB334_335 := n5_; have NB335_334 := n6_; clear n0_ n1_ n2_ n3_ n4_ n5_ n6_; clear hb hbox hg) | ((with_reducible refine gate_dst (N := 8) rfl ?_); (try (refine gate_guard (by rfl) ?_; dsimp only)); refine Kd.R_lit k104 _ 104 ?hg (N := 8) ?hd (xs := ([] : List (S104))) (inner := []) (ok := fun _ => True) (okp := fun _ => True) ?hr ?hp (fun _ hk => hk) trivial (Below.refl _ _) (Nat.le_refl _) (by simp) ?_; (case hd => rfl); (case hg => rfl); (case hr => first | (go_simp; done) | (go_simp; rfl)); (case hp => exact (Reps.none _ _)); intro v337 w5 ho6 hb hg_ hnew_; clear hg_ hnew_; (first | rw [← Ny336.out] at ho6 | (simp only [Int.reduceToNat] at ho6; rw [← Ny336.out] at ho6)); have n0_ := Aside0.mk (Kd.R_lower ho6 (below_size (by repeat (first | (with_reducible first | exact HB.out | apply below_alloc | apply pw_below_drewN | apply below_drew1 | refine below_set ?_ GE334.out | refine below_set ?_ GE335.out) | exact HB.out)))); have n1_ := Aside0.mk (blk_below (g := gb334) (o := .cells #[.slice A0_0 l0_0.length c0_0, .slice A0_1 l0_1.length c0_1, .slice A0_2 l0_2.length c0_2, .slice A0_3 l0_3.length c0_3, .slice A0_4 l0_4.length c0_4] 28 (0, 0)) (by (with_reducible repeat (first | refine blk_drewN ?_ _ | refine blk_drew ?_ | refine blk_alloc ?_ _)); exact BK334.out) hb); have n2_ := Aside0.mk (blk_below (g := gb335) (o := .cells #[.slice A1_0 l1_0.length c1_0, .slice A1_1 l1_1.length c1_1, .slice A1_2 l1_2.length c1_2, .slice A1_3 l1_3.length c1_3, .slice A1_4 l1_4.length c1_4] 28 (0, 0)) (by (with_reducible repeat (first | refine blk_drewN ?_ _ | refine blk_drew ?_ | refine blk_alloc ?_ _)); exact BK335.out) hb); have n3_ := Aside0.mk (below_step (by repeat (first | (with_reducible first | exact HB.out | apply below_alloc | apply pw_below_drewN | apply below_drew1 | refine below_set ?_ GE334.out | refine below_set ?_ GE335.out) | exact HB.out)) hb); clear BK334; clear BK335; clear HB; have HO338 := n0_; have BK334 := n1_; have BK335 := n2_; have HB := n3_; clear n0_ n1_ n2_ n3_; clear hb ho6))
 repeat (go_quiet (first | ((with_reducible refine gate_dst (N := 2) rfl ?_); (try (refine gate_guard (by rfl) ?_; dsimp only)); refine box_event ?hg (N := 2) ?hd (cs := #[.slice A0_0 l0_0.length c0_0, .slice A0_1 l0_1.length c0_1, .slice A0_2 l0_2.length c0_2, .slice A0_3 l0_3.length c0_3, .slice A0_4 l0_4.length c0_4]) (t := 28) ?hr ?_; (case hd => rfl); (case hg => rfl); (case hr => first | (go_simp; done) | (go_simp; rfl)); intro gb334 hg w3 hbox hb; have n0_ := Aside0.mk (below_step (by repeat (first | (with_reducible first | exact HB.out | apply below_alloc | apply pw_below_drewN | apply below_drew1) | exact HB.out)) hb); have n1_ := Aside0.mk (hbox); have n2_ := Aside0.mk ((by rw [hg]; exact (below_size (by repeat (first | (with_reducible first | exact HB.out | apply below_alloc | apply pw_below_drewN | apply below_drew1) | exact HB.out))) : w.heap.size ≤ gb334)); have n3_ := Aside0.mk ((by rw [hg]; exact (below_size (by repeat (first | (with_reducible first | exact HB.out | apply below_alloc | apply pw_below_drewN | apply below_drew1) | exact HB.out))) : w.heap.size ≤ gb334)); clear HB; have HB := n0_; have BK334 := n1_; have GW334 := n2_; have GE334 := n3_; clear n0_ n1_ n2_ n3_; clear hb hbox hg) | ((with_reducible refine gate_dst (N := 3) rfl ?_); (try (refine gate_guard (by rfl) ?_; dsimp only)); refine box_event ?hg (N := 3) ?hd (cs := #[.slice A1_0 l1_0.length c1_0, .slice A1_1 l1_1.length c1_1, .slice A1_2 l1_2.length c1_2, .slice A1_3 l1_3.length c1_3, .slice A1_4 l1_4.length c1_4]) (t := 28) ?hr ?_; (case hd => rfl); (case hg => rfl); (case hr => first | (go_simp; done) | (go_simp; rfl)); intro gb335 hg w4 hbox hb; have n0_ := Aside0.mk (blk_below (g := gb334) (o := .cells #[.slice A0_0 l0_0.length c0_0, .slice A0_1 l0_1.length c0_1, .slice A0_2 l0_2.length c0_2, .slice A0_3 l0_3.length c0_3, .slice A0_4 l0_4.length c0_4] 28 (0, 0)) (by (with_reducible repeat (first | refine blk_drewN ?_ _ | refine blk_drew ?_ | refine blk_alloc ?_ _)); exact BK334.out) hb); have n1_ := Aside0.mk (below_step (by repeat (first | (with_reducible first | exact HB.out | apply below_alloc | apply pw_below_drewN | apply below_drew1 | refine below_set ?_ GE334.out) | exact HB.out)) hb); have n2_ := Aside0.mk (hbox); have n3_ := Aside0.mk ((by rw [hg]; exact (below_size (by repeat (first | (with_reducible first | exact HB.out | apply below_alloc | apply pw_below_drewN | apply below_drew1 | refine below_set ?_ GE334.out) | exact HB.out))) : w.heap.size ≤ gb335)); have n4_ := Aside0.mk ((by rw [hg]; exact (below_size (by repeat (first | (with_reducible first | exact HB.out | apply below_alloc | apply pw_below_drewN | apply below_drew1 | refine below_set ?_ GE334.out) | exact HB.out))) : w.heap.size ≤ gb335)); have n5_ := Aside0.mk ((by rw [hg]; exact Nat.ne_of_lt (blk_lt (g := gb334) (o := .cells #[.slice A0_0 l0_0.length c0_0, .slice A0_1 l0_1.length c0_1, .slice A0_2 l0_2.length c0_2, .slice A0_3 l0_3.length c0_3, .slice A0_4 l0_4.length c0_4] 28 (0, 0)) (by (with_reducible repeat (first | refine blk_drewN ?_ _ | refine blk_drew ?_ | refine blk_alloc ?_ _)); exact BK334.out)) : gb334 ≠ gb335)); have n6_ := Aside0.mk ((by rw [hg]; exact Nat.ne_of_gt (blk_lt (g := gb334) (o := .cells #[.slice A0_0 l0_0.length c0_0, .slice A0_1 l0_1.length c0_1, .slice A0_2 l0_2.length c0_2, .slice A0_3 l0_3.length c0_3, .slice A0_4 l0_4.length c0_4] 28 (0, 0)) (by (with_reducible repeat (first | refine blk_drewN ?_ _ | refine blk_drew ?_ | refine blk_alloc ?_ _)); exact BK334.out)) : gb335 ≠ gb334)); clear BK334; clear HB; have BK334 := n0_; have HB := n1_; have BK335 := n2_; have GW335 := n3_; have GE335 := n4_; have NB334_335 := n5_; have NB335_334 := n6_; clear n0_ n1_ n2_ n3_ n4_ n5_ n6_; clear hb hbox hg) | ((with_reducible refine gate_dst (N := 8) rfl ?_); (try (refine gate_guard (by rfl) ?_; dsimp only)); refine Kd.R_lit k104 _ 104 ?hg (N := 8) ?hd (xs := ([] : List (S104))) (inner := []) (ok := fun _ => True) (okp := fun _ => True) ?hr ?hp (fun _ hk => hk) trivial (Below.refl _ _) (Nat.le_refl _) (by simp) ?_; (case hd => rfl); (case hg => rfl); (case hr => first | (go_simp; done) | (go_simp; rfl)); (case hp => exact (Reps.none _ _)); intro v337 w5 ho6 hb hg_ hnew_; clear hg_ hnew_; (first | rw [← Ny336.out] at ho6 | (simp only [Int.reduceToNat] at ho6; rw [← Ny336.out] at ho6)); have n0_ := Aside0.mk (Kd.R_lower ho6 (below_size (by repeat (first | (with_reducible first | exact HB.out | apply below_alloc | apply pw_below_drewN | apply below_drew1 | refine below_set ?_ GE334.out | refine below_set ?_ GE335.out) | exact HB.out)))); have n1_ := Aside0.mk (blk_below (g := gb334) (o := .cells #[.slice A0_0 l0_0.length c0_0, .slice A0_1 l0_1.length c0_1, .slice A0_2 l0_2.length c0_2, .slice A0_3 l0_3.length c0_3, .slice A0_4 l0_4.length c0_4] 28 (0, 0)) (by (with_reducible repeat (first | refine blk_drewN ?_ _ | refine blk_drew ?_ | refine blk_alloc ?_ _)); exact BK334.out) hb); have n2_ := Aside0.mk (blk_below (g := gb335) (o := .cells #[.slice A1_0 l1_0.length c1_0, .slice A1_1 l1_1.length c1_1, .slice A1_2 l1_2.length c1_2, .slice A1_3 l1_3.length c1_3, .slice A1_4 l1_4.length c1_4] 28 (0, 0)) (by (with_reducible repeat (first | refine blk_drewN ?_ _ | refine blk_drew ?_ | refine blk_alloc ?_ _)); exact BK335.out) hb); have n3_ := Aside0.mk (below_step (by repeat (first | (with_reducible first | exact HB.out | apply below_alloc | apply pw_below_drewN | apply below_drew1 | refine below_set ?_ GE334.out | refine below_set ?_ GE335.out) | exact HB.out)) hb); clear BK334; clear BK335; clear HB; have HO338 := n0_; have BK334 := n1_; have BK335 := n2_; have HB := n3_; clear n0_ n1_ n2_ n3_; clear hb ho6)); try go_wp2_with (first | ((with_reducible refine gate_dst (N := 2) rfl ?_); (try (refine gate_guard (by rfl) ?_; dsimp only)); refine box_event ?hg (N := 2) ?hd (cs := #[.slice A0_0 l0_0.length c0_0, .slice A0_1 l0_1.length c0_1, .slice A0_2 l0_2.length c0_2, .slice A0_3 l0_3.length c0_3, .slice A0_4 l0_4.length c0_4]) (t := 28) ?hr ?_; (case hd => rfl); (case hg => rfl); (case hr => first | (go_simp; done) | (go_simp; rfl)); intro gb334 hg w3 hbox hb; have n0_ := Aside0.mk (below_step (by repeat (first | (with_reducible first | exact HB.out | apply below_alloc | apply pw_below_drewN | apply below_drew1) | exact HB.out)) hb); have n1_ := Aside0.mk (hbox); have n2_ := Aside0.mk ((by rw [hg]; exact (below_size (by repeat (first | (with_reducible first | exact HB.out | apply below_alloc | apply pw_below_drewN | apply below_drew1) | exact HB.out))) : w.heap.size ≤ gb334)); have n3_ := Aside0.mk ((by rw [hg]; exact (below_size (by repeat (first | (with_reducible first | exact HB.out | apply below_alloc | apply pw_below_drewN | apply below_drew1) | exact HB.out))) : w.heap.size ≤ gb334)); clear HB; have HB := n0_; have BK334 := n1_; have GW334 := n2_; have GE334 := n3_; clear n0_ n1_ n2_ n3_; clear hb hbox hg) | ((with_reducible refine gate_dst (N := 3) rfl ?_); (try (refine gate_guard (by rfl) ?_; dsimp only)); refine box_event ?hg (N := 3) ?hd (cs := #[.slice A1_0 l1_0.length c1_0, .slice A1_1 l1_1.length c1_1, .slice A1_2 l1_2.length c1_2, .slice A1_3 l1_3.length c1_3, .slice A1_4 l1_4.length c1_4]) (t := 28) ?hr ?_; (case hd => rfl); (case hg => rfl); (case hr => first | (go_simp; done) | (go_simp; rfl)); intro gb335 hg w4 hbox hb; have n0_ := Aside0.mk (blk_below (g := gb334) (o := .cells #[.slice A0_0 l0_0.length c0_0, .slice A0_1 l0_1.length c0_1, .slice A0_2 l0_2.length c0_2, .slice A0_3 l0_3.length c0_3, .slice A0_4 l0_4.length c0_4] 28 (0, 0)) (by (with_reducible repeat (first | refine blk_drewN ?_ _ | refine blk_drew ?_ | refine blk_alloc ?_ _)); exact BK334.out) hb); have n1_ := Aside0.mk (below_step (by repeat (first | (with_reducible first | exact HB.out | apply below_alloc | apply pw_below_drewN | apply below_drew1 | refine below_set ?_ GE334.out) | exact HB.out)) hb); have n2_ := Aside0.mk (hbox); have n3_ := Aside0.mk ((by rw [hg]; exact (below_size (by repeat (first | (with_reducible first | exact HB.out | apply below_alloc | apply pw_below_drewN | apply below_drew1 | refine below_set ?_ GE334.out) | exact HB.out))) : w.heap.size ≤ gb335)); have n4_ := Aside0.mk ((by rw [hg]; exact (below_size (by repeat (first | (with_reducible first | exact HB.out | apply below_alloc | apply pw_below_drewN | apply below_drew1 | refine below_set ?_ GE334.out) | exact HB.out))) : w.heap.size ≤ gb335)); have n5_ := Aside0.mk ((by rw [hg]; exact Nat.ne_of_lt (blk_lt (g := gb334) (o := .cells #[.slice A0_0 l0_0.length c0_0, .slice A0_1 l0_1.length c0_1, .slice A0_2 l0_2.length c0_2, .slice A0_3 l0_3.length c0_3, .slice A0_4 l0_4.length c0_4] 28 (0, 0)) (by (with_reducible repeat (first | refine blk_drewN ?_ _ | refine blk_drew ?_ | refine blk_alloc ?_ _)); exact BK334.out)) : gb334 ≠ gb335)); have n6_ := Aside0.mk ((by rw [hg]; exact Nat.ne_of_gt (blk_lt (g := gb334) (o := .cells #[.slice A0_0 l0_0.length c0_0, .slice A0_1 l0_1.length c0_1, .slice A0_2 l0_2.length c0_2, .slice A0_3 l0_3.length c0_3, .slice A0_4 l0_4.length c0_4] 28 (0, 0)) (by (with_reducible repeat (first | refine blk_drewN ?_ _ | refine blk_drew ?_ | refine blk_alloc ?_ _)); exact BK334.out)) : gb335 ≠ gb334)); clear BK334; clear HB; have BK334 := n0_; have HB := n1_; have BK335 := n2_; have GW335 := n3_; have GE335 := n4_; have NB334_335 := n5_; have NB335_334 := n6_; clear n0_ n1_ n2_ n3_ n4_ n5_ n6_; clear hb hbox hg) | ((with_reducible refine gate_dst (N := 8) rfl ?_); (try (refine gate_guard (by rfl) ?_; dsimp only)); refine Kd.R_lit k104 _ 104 ?hg (N := 8) ?hd (xs := ([] : List (S104))) (inner := []) (ok := fun _ => True) (okp := fun _ => True) ?hr ?hp (fun _ hk => hk) trivial (Below.refl _ _) (Nat.le_refl _) (by simp) ?_; (case hd => rfl); (case hg => rfl); (case hr => first | (go_simp; done) | (go_simp; rfl)); (case hp => exact (Reps.none _ _)); intro v337 w5 ho6 hb hg_ hnew_; clear hg_ hnew_; (first | rw [← Ny336.out] at ho6 | (simp only [Int.reduceToNat] at ho6; rw [← Ny336.out] at ho6)); have n0_ := Aside0.mk (Kd.R_lower ho6 (below_size (by repeat (first | (with_reducible first | exact HB.out | apply below_alloc | apply pw_below_drewN | apply below_drew1 | refine below_set ?_ GE334.out | refine below_set ?_ GE335.out) | exact HB.out)))); have n1_ := Aside0.mk (blk_below (g := gb334) (o := .cells #[.slice A0_0 l0_0.length c0_0, .slice A0_1 l0_1.length c0_1, .slice A0_2 l0_2.length c0_2, .slice A0_3 l0_3.length c0_3, .slice A0_4 l0_4.length c0_4] 28 (0, 0)) (by (with_reducible repeat (first | refine blk_drewN ?_ _ | refine blk_drew ?_ | refine blk_alloc ?_ _)); exact BK334.out) hb); have n2_ := Aside0.mk (blk_below (g := gb335) (o := .cells #[.slice A1_0 l1_0.length c1_0, .slice A1_1 l1_1.length c1_1, .slice A1_2 l1_2.length c1_2, .slice A1_3 l1_3.length c1_3, .slice A1_4 l1_4.length c1_4] 28 (0, 0)) (by (with_reducible repeat (first | refine blk_drewN ?_ _ | refine blk_drew ?_ | refine blk_alloc ?_ _)); exact BK335.out) hb); have n3_ := Aside0.mk (below_step (by repeat (first | (with_reducible first | exact HB.out | apply below_alloc | apply pw_below_drewN | apply below_drew1 | refine below_set ?_ GE334.out | refine below_set ?_ GE335.out) | exact HB.out)) hb); clear BK334; clear BK335; clear HB; have HO338 := n0_; have BK334 := n1_; have BK335 := n2_; have HB := n3_; clear n0_ n1_ n2_ n3_; clear hb ho6)))
 go_loopg [5, 6, 7] k (fun kq v5 v6 v7 w' => ∃ (x5_1 : List (S104)) (x6_1 : Int) (x7_1 : Int), v6 = .int .i64 x6_1 ∧ v7 = .int .i64 x7_1 ∧ Aside0 (musterref04_Diff.l0 kq x5_1 x6_1 x7_1 l0_0 l0_1 l0_2 l0_3 l0_4 l1_0 l1_1 l1_2 l1_3 l1_4 = some r) ∧ Aside0 (kq ≤ k) ∧ Aside0 (Kd.R k104 104 w' w.heap.size (fun _ => True) v5 x5_1) ∧ Aside0 (w'.heap[gb334]? = some (.cells #[(.slice A0_0 l0_0.length c0_0), (.slice A0_1 l0_1.length c0_1), (.slice A0_2 l0_2.length c0_2), (.slice A0_3 l0_3.length c0_3), (.slice A0_4 l0_4.length c0_4)] 28 (0, 0))) ∧ Aside0 (w'.heap[gb335]? = some (.cells #[(.slice A1_0 l1_0.length c1_0), (.slice A1_1 l1_1.length c1_1), (.slice A1_2 l1_2.length c1_2), (.slice A1_3 l1_3.length c1_3), (.slice A1_4 l1_4.length c1_4)] 28 (0, 0))) ∧ Aside0 (Below w.heap.size w w'))
 case atStart => exact ⟨(y336), (0), (0), (by first | rfl | (simp; done) | (simp [*]; done)), (by first | rfl | (simp; done) | (simp [*]; done)), H', ⟨Nat.le_refl _⟩, ⟨by (with_reducible repeat (first | apply Kd.R_alloc | apply Kd.R_drewN | apply Kd.R_drew)); exact HO338.out⟩, ⟨by (with_reducible repeat (first | refine blk_drewN ?_ _ | refine blk_drew ?_ | refine blk_alloc ?_ _)); exact BK334.out⟩, ⟨by (with_reducible repeat (first | refine blk_drewN ?_ _ | refine blk_drew ?_ | refine blk_alloc ?_ _)); exact BK335.out⟩, ⟨by repeat (first | (with_reducible first | exact HB.out | apply below_alloc | apply pw_below_drewN | apply below_drew1 | refine below_set ?_ GE334.out | refine below_set ?_ GE335.out) | exact HB.out)⟩⟩
 case round =>
  clear H'
  try clear c1
  try clear p2
  try clear c6
  obtain ⟨x5_1, x6_1, x7_1, rfl, rfl, HA, HK1, HO_5, BK334, BK335, HB⟩ := hrel
  cases gk with
  | zero => exact absurd HA.out (by simp [musterref04_Diff.l0])
  | succ k1 =>
   have H := HA.out
   clear HA
   simp only [musterref04_Diff.l0] at H
   have HC7 := Aside0.mk H
   clear H
   go_upto_region 3 with (fail)
   repeat (go_quiet (fail); go_upto_region 3 with (fail))
   go_cut [20] (fun v20 wc => ∃ (kq : Nat) (x20_6 : Bool), v20 = .bool x20_6 ∧ Aside0 (musterref04_Diff.j1 kq x5_1 x6_1 x7_1 x20_6 l0_0 l0_1 l0_2 l0_3 l0_4 l1_0 l1_1 l1_2 l1_3 l1_4 = some r) ∧ Aside0 (kq ≤ k1) ∧ Aside0 (Kd.R k104 104 wc w.heap.size (fun _ => True) u5 x5_1) ∧ Aside0 (wc.heap[gb334]? = some (.cells #[(.slice A0_0 l0_0.length c0_0), (.slice A0_1 l0_1.length c0_1), (.slice A0_2 l0_2.length c0_2), (.slice A0_3 l0_3.length c0_3), (.slice A0_4 l0_4.length c0_4)] 28 (0, 0))) ∧ Aside0 (wc.heap[gb335]? = some (.cells #[(.slice A1_0 l1_0.length c1_0), (.slice A1_1 l1_1.length c1_1), (.slice A1_2 l1_2.length c1_2), (.slice A1_3 l1_3.length c1_3), (.slice A1_4 l1_4.length c1_4)] 28 (0, 0))) ∧ Aside0 (Below w.heap.size w wc))
   case first =>
    have H := HC7.out
    clear HC7
    by_cases c8 : x6_1 < (l0_0.length : Int)
    ·rw [if_pos c8] at H
     have c8b0 : decide (x6_1 < (l0_0.length : Int)) = true := decide_eq_true c8
     clear c8
     (first | rw [c8b0] | (simp only [i64_w, i32_w]; rw [c8b0]) | skip)
     have H' := Aside0.mk H
     clear H
     have hnb9 := NB334_335.out
     have hnc9 := NB335_334.out
     have hcz10_0 : wr.cell? ⟨gb334, 0, none⟩ = some (.slice A0_0 l0_0.length c0_0) := (blk_cell BK334.out 0).trans rfl
     have hcz10_1 : wr.cell? ⟨gb334, 1, none⟩ = some (.slice A0_1 l0_1.length c0_1) := (blk_cell BK334.out 1).trans rfl
     have hcz10_2 : wr.cell? ⟨gb334, 2, none⟩ = some (.slice A0_2 l0_2.length c0_2) := (blk_cell BK334.out 2).trans rfl
     have hcz10_3 : wr.cell? ⟨gb334, 3, none⟩ = some (.slice A0_3 l0_3.length c0_3) := (blk_cell BK334.out 3).trans rfl
     have hcz10_4 : wr.cell? ⟨gb334, 4, none⟩ = some (.slice A0_4 l0_4.length c0_4) := (blk_cell BK334.out 4).trans rfl
     have hfz10_0 := blk_frozen BK334.out 0
     have hfz10_1 := blk_frozen BK334.out 1
     have hfz10_2 := blk_frozen BK334.out 2
     have hfz10_3 := blk_frozen BK334.out 3
     have hfz10_4 := blk_frozen BK334.out 4
     go_wp2
     repeat (go_quiet (fail); try go_wp2)
     go_meet
     case rel => exact ⟨_, (true), (by first | rfl | (simp; done) | (simp [*]; done)), H', ⟨by have := HK1.out; first | omega | exact Nat.le_refl _⟩, ⟨by (with_reducible repeat (first | apply Kd.R_alloc | apply Kd.R_drewN | apply Kd.R_drew)); exact HO_5.out⟩, ⟨by (with_reducible repeat (first | refine blk_drewN ?_ _ | refine blk_drew ?_ | refine blk_alloc ?_ _)); exact BK334.out⟩, ⟨by (with_reducible repeat (first | refine blk_drewN ?_ _ | refine blk_drew ?_ | refine blk_alloc ?_ _)); exact BK335.out⟩, ⟨by repeat (first | (with_reducible first | exact HB.out | apply below_alloc | apply pw_below_drewN | apply below_drew1 | refine below_set ?_ GE334.out | refine below_set ?_ GE335.out) | exact HB.out)⟩⟩
    ·rw [if_neg c8] at H
     have c8b0 : decide (x6_1 < (l0_0.length : Int)) = false := decide_eq_false c8
     clear c8
     (first | rw [c8b0] | (simp only [i64_w, i32_w]; rw [c8b0]) | skip)
     have H' := Aside0.mk H
     clear H
     have hnb11 := NB334_335.out
     have hnc11 := NB335_334.out
     have hcz12_0 : wr.cell? ⟨gb334, 0, none⟩ = some (.slice A0_0 l0_0.length c0_0) := (blk_cell BK334.out 0).trans rfl
     have hcz12_1 : wr.cell? ⟨gb334, 1, none⟩ = some (.slice A0_1 l0_1.length c0_1) := (blk_cell BK334.out 1).trans rfl
     have hcz12_2 : wr.cell? ⟨gb334, 2, none⟩ = some (.slice A0_2 l0_2.length c0_2) := (blk_cell BK334.out 2).trans rfl
     have hcz12_3 : wr.cell? ⟨gb334, 3, none⟩ = some (.slice A0_3 l0_3.length c0_3) := (blk_cell BK334.out 3).trans rfl
     have hcz12_4 : wr.cell? ⟨gb334, 4, none⟩ = some (.slice A0_4 l0_4.length c0_4) := (blk_cell BK334.out 4).trans rfl
     have hfz12_0 := blk_frozen BK334.out 0
     have hfz12_1 := blk_frozen BK334.out 1
     have hfz12_2 := blk_frozen BK334.out 2
     have hfz12_3 := blk_frozen BK334.out 3
     have hfz12_4 := blk_frozen BK334.out 4
     have hcz13_0 : wr.cell? ⟨gb335, 0, none⟩ = some (.slice A1_0 l1_0.length c1_0) := (blk_cell BK335.out 0).trans rfl
     have hcz13_1 : wr.cell? ⟨gb335, 1, none⟩ = some (.slice A1_1 l1_1.length c1_1) := (blk_cell BK335.out 1).trans rfl
     have hcz13_2 : wr.cell? ⟨gb335, 2, none⟩ = some (.slice A1_2 l1_2.length c1_2) := (blk_cell BK335.out 2).trans rfl
     have hcz13_3 : wr.cell? ⟨gb335, 3, none⟩ = some (.slice A1_3 l1_3.length c1_3) := (blk_cell BK335.out 3).trans rfl
     have hcz13_4 : wr.cell? ⟨gb335, 4, none⟩ = some (.slice A1_4 l1_4.length c1_4) := (blk_cell BK335.out 4).trans rfl
     have hfz13_0 := blk_frozen BK335.out 0
     have hfz13_1 := blk_frozen BK335.out 1
     have hfz13_2 := blk_frozen BK335.out 2
     have hfz13_3 := blk_frozen BK335.out 3
     have hfz13_4 := blk_frozen BK335.out 4
     go_wp2
     repeat (go_quiet (fail); try go_wp2)
     go_meet
     case rel => exact ⟨_, (decide (x7_1 < (l1_0.length : Int))), (by first | rfl | (simp; done) | (simp [*]; done)), H', ⟨by have := HK1.out; first | omega | exact Nat.le_refl _⟩, ⟨by (with_reducible repeat (first | apply Kd.R_alloc | apply Kd.R_drewN | apply Kd.R_drew)); exact HO_5.out⟩, ⟨by (with_reducible repeat (first | refine blk_drewN ?_ _ | refine blk_drew ?_ | refine blk_alloc ?_ _)); exact BK334.out⟩, ⟨by (with_reducible repeat (first | refine blk_drewN ?_ _ | refine blk_drew ?_ | refine blk_alloc ?_ _)); exact BK335.out⟩, ⟨by repeat (first | (with_reducible first | exact HB.out | apply below_alloc | apply pw_below_drewN | apply below_drew1 | refine below_set ?_ GE334.out | refine below_set ?_ GE335.out) | exact HB.out)⟩⟩
   case rest =>
    clear HC7
    try clear c1
    try clear p2
    try clear c6
    try clear c8
    try clear c8b0
    try clear c9
    try clear c11
    try clear hcz10_0
    try clear hcz10_1
    try clear hcz10_2
    try clear hcz10_3
    try clear hcz10_4
    try clear hcz12_0
    try clear hcz12_1
    try clear hcz12_2
    try clear hcz12_3
    try clear hcz12_4
    try clear hcz13_0
    try clear hcz13_1
    try clear hcz13_2
    try clear hcz13_3
    try clear hcz13_4
    try clear hfz10_0
    try clear hfz10_1
    try clear hfz10_2
    try clear hfz10_3
    try clear hfz10_4
    try clear hfz12_0
    try clear hfz12_1
    try clear hfz12_2
    try clear hfz12_3
    try clear hfz12_4
    try clear hfz13_0
    try clear hfz13_1
    try clear hfz13_2
    try clear hfz13_3
    try clear hfz13_4
    try clear p2
    obtain ⟨kq, x20_6, rfl, HA, HJ6, HO_5, BK334, BK335, HB⟩ := hcut
    cases kq with
    | zero => exact absurd HA.out (by simp [musterref04_Diff.j1])
    | succ kj6 =>
     have H := HA.out
     clear HA
     simp only [musterref04_Diff.j1] at H
     by_cases c14 : x20_6 = true
     ·subst c14
      have H1 : (if x7_1 ≥ (l1_0.length : Int) then (musterref04_Diff.j2 kj6 x5_1 x6_1 x7_1 true l0_0 l0_1 l0_2 l0_3 l0_4 l1_0 l1_1 l1_2 l1_3 l1_4) else (if x6_1 < (l0_0.length : Int) then (if 0 ≤ x6_1 then (if 0 ≤ x7_1 then (if x7_1 < (l1_0.length : Int) then ((musterref01_Less.f kj6 (rdOf ByteArray.empty l0_0 x6_1) (rdOf ByteArray.empty l1_0 x7_1)).bind fun t341 => (musterref04_Diff.j2 kj6 x5_1 x6_1 x7_1 t341 l0_0 l0_1 l0_2 l0_3 l0_4 l1_0 l1_1 l1_2 l1_3 l1_4)) else (none)) else (none)) else (none)) else (musterref04_Diff.j2 kj6 x5_1 x6_1 x7_1 false l0_0 l0_1 l0_2 l0_3 l0_4 l1_0 l1_1 l1_2 l1_3 l1_4))) = some r := by rw [if_pos rfl] at H; exact H
      clear H
      have H := H1
      clear H1
      have HC15 := Aside0.mk H
      clear H
      go_upto_region 4 with (fail)
      repeat (go_quiet (fail); go_upto_region 4 with (fail))
      go_cut [45] (fun v45 wc => ∃ (kq : Nat) (x45_14 : Bool), v45 = .bool x45_14 ∧ Aside0 (musterref04_Diff.j2 kq x5_1 x6_1 x7_1 x45_14 l0_0 l0_1 l0_2 l0_3 l0_4 l1_0 l1_1 l1_2 l1_3 l1_4 = some r) ∧ Aside0 (kq ≤ kj6) ∧ Aside0 (Kd.R k104 104 wc w.heap.size (fun _ => True) u5 x5_1) ∧ Aside0 (wc.heap[gb334]? = some (.cells #[(.slice A0_0 l0_0.length c0_0), (.slice A0_1 l0_1.length c0_1), (.slice A0_2 l0_2.length c0_2), (.slice A0_3 l0_3.length c0_3), (.slice A0_4 l0_4.length c0_4)] 28 (0, 0))) ∧ Aside0 (wc.heap[gb335]? = some (.cells #[(.slice A1_0 l1_0.length c1_0), (.slice A1_1 l1_1.length c1_1), (.slice A1_2 l1_2.length c1_2), (.slice A1_3 l1_3.length c1_3), (.slice A1_4 l1_4.length c1_4)] 28 (0, 0))) ∧ Aside0 (Below w.heap.size w wc))
      case first =>
       have H := HC15.out
       clear HC15
       by_cases c16 : x7_1 ≥ (l1_0.length : Int)
       ·rw [if_pos c16] at H
        have c16b0 : decide ((l1_0.length : Int) ≤ x7_1) = true := decide_eq_true c16
        clear c16
        (first | rw [c16b0] | (simp only [i64_w, i32_w]; rw [c16b0]) | skip)
        have H' := Aside0.mk H
        clear H
        have hnb17 := NB335_334.out
        have hnc17 := NB334_335.out
        have hcz18_0 : wc.cell? ⟨gb335, 0, none⟩ = some (.slice A1_0 l1_0.length c1_0) := (blk_cell BK335.out 0).trans rfl
        have hcz18_1 : wc.cell? ⟨gb335, 1, none⟩ = some (.slice A1_1 l1_1.length c1_1) := (blk_cell BK335.out 1).trans rfl
        have hcz18_2 : wc.cell? ⟨gb335, 2, none⟩ = some (.slice A1_2 l1_2.length c1_2) := (blk_cell BK335.out 2).trans rfl
        have hcz18_3 : wc.cell? ⟨gb335, 3, none⟩ = some (.slice A1_3 l1_3.length c1_3) := (blk_cell BK335.out 3).trans rfl
        have hcz18_4 : wc.cell? ⟨gb335, 4, none⟩ = some (.slice A1_4 l1_4.length c1_4) := (blk_cell BK335.out 4).trans rfl
        have hfz18_0 := blk_frozen BK335.out 0
        have hfz18_1 := blk_frozen BK335.out 1
        have hfz18_2 := blk_frozen BK335.out 2
        have hfz18_3 := blk_frozen BK335.out 3
        have hfz18_4 := blk_frozen BK335.out 4
        go_wp2
        repeat (go_quiet (fail); try go_wp2)
        go_meet
        case rel => exact ⟨_, (true), (by first | rfl | (simp; done) | (simp [*]; done)), H', ⟨by have := HK1.out; have := HJ6.out; first | omega | exact Nat.le_refl _⟩, ⟨by (with_reducible repeat (first | apply Kd.R_alloc | apply Kd.R_drewN | apply Kd.R_drew)); exact HO_5.out⟩, ⟨by (with_reducible repeat (first | refine blk_drewN ?_ _ | refine blk_drew ?_ | refine blk_alloc ?_ _)); exact BK334.out⟩, ⟨by (with_reducible repeat (first | refine blk_drewN ?_ _ | refine blk_drew ?_ | refine blk_alloc ?_ _)); exact BK335.out⟩, ⟨by repeat (first | (with_reducible first | exact HB.out | apply below_alloc | apply pw_below_drewN | apply below_drew1 | refine below_set ?_ GE334.out | refine below_set ?_ GE335.out) | exact HB.out)⟩⟩
       ·rw [if_neg c16] at H
        have c16b0 : decide ((l1_0.length : Int) ≤ x7_1) = false := decide_eq_false c16
        clear c16
        (first | rw [c16b0] | (simp only [i64_w, i32_w]; rw [c16b0]) | skip)
        by_cases c19 : x6_1 < (l0_0.length : Int)
        ·rw [if_pos c19] at H
         have c19b0 : decide (x6_1 < (l0_0.length : Int)) = true := decide_eq_true c19
         clear c19
         by_cases c20 : 0 ≤ x6_1
         ·rw [if_pos c20] at H
          have c20b0 : decide (0 ≤ x6_1) = true := decide_eq_true c20
          clear c20
          by_cases c21 : 0 ≤ x7_1
          ·rw [if_pos c21] at H
           have c21b0 : decide (0 ≤ x7_1) = true := decide_eq_true c21
           clear c21
           by_cases c22 : x7_1 < (l1_0.length : Int)
           ·rw [if_pos c22] at H
            have c22b0 : decide (x7_1 < (l1_0.length : Int)) = true := decide_eq_true c22
            clear c22
            replace H := Option.bind_eq_some_iff.mp H
            obtain ⟨t341, A230, H⟩ := H
            replace H : (musterref04_Diff.j2 kj6 x5_1 x6_1 x7_1 t341 l0_0 l0_1 l0_2 l0_3 l0_4 l1_0 l1_1 l1_2 l1_3 l1_4) = some r := H
            have A23 := Aside0.mk A230
            clear A230
            have H' := Aside0.mk H
            clear H
            have hnb24 := NB335_334.out
            have hnc24 := NB334_335.out
            have hcz25_0 : wc.cell? ⟨gb335, 0, none⟩ = some (.slice A1_0 l1_0.length c1_0) := (blk_cell BK335.out 0).trans rfl
            have hcz25_1 : wc.cell? ⟨gb335, 1, none⟩ = some (.slice A1_1 l1_1.length c1_1) := (blk_cell BK335.out 1).trans rfl
            have hcz25_2 : wc.cell? ⟨gb335, 2, none⟩ = some (.slice A1_2 l1_2.length c1_2) := (blk_cell BK335.out 2).trans rfl
            have hcz25_3 : wc.cell? ⟨gb335, 3, none⟩ = some (.slice A1_3 l1_3.length c1_3) := (blk_cell BK335.out 3).trans rfl
            have hcz25_4 : wc.cell? ⟨gb335, 4, none⟩ = some (.slice A1_4 l1_4.length c1_4) := (blk_cell BK335.out 4).trans rfl
            have hfz25_0 := blk_frozen BK335.out 0
            have hfz25_1 := blk_frozen BK335.out 1
            have hfz25_2 := blk_frozen BK335.out 2
            have hfz25_3 := blk_frozen BK335.out 3
            have hfz25_4 := blk_frozen BK335.out 4
            have hcz26_0 : wc.cell? ⟨gb334, 0, none⟩ = some (.slice A0_0 l0_0.length c0_0) := (blk_cell BK334.out 0).trans rfl
            have hcz26_1 : wc.cell? ⟨gb334, 1, none⟩ = some (.slice A0_1 l0_1.length c0_1) := (blk_cell BK334.out 1).trans rfl
            have hcz26_2 : wc.cell? ⟨gb334, 2, none⟩ = some (.slice A0_2 l0_2.length c0_2) := (blk_cell BK334.out 2).trans rfl
            have hcz26_3 : wc.cell? ⟨gb334, 3, none⟩ = some (.slice A0_3 l0_3.length c0_3) := (blk_cell BK334.out 3).trans rfl
            have hcz26_4 : wc.cell? ⟨gb334, 4, none⟩ = some (.slice A0_4 l0_4.length c0_4) := (blk_cell BK334.out 4).trans rfl
            have hfz26_0 := blk_frozen BK334.out 0
            have hfz26_1 := blk_frozen BK334.out 1
            have hfz26_2 := blk_frozen BK334.out 2
            have hfz26_3 := blk_frozen BK334.out 3
            have hfz26_4 := blk_frozen BK334.out 4
            have p339 : 0 ≤ (x6_1 : Int) := of_decide_eq_true (by first | (with_reducible assumption) | assumption)
            have q339 : x6_1 < (l0_0.length : Int) := of_decide_eq_true (by first | (with_reducible assumption) | assumption)
            obtain ⟨ad339, e339, hx339_0⟩ := Kd.at_string HR0_0.out x6_1 p339 q339
            cases e339
            replace hx339_0 := (HB.out.cell (World.block_lt_of_cell? w _ hx339_0)).trans hx339_0
            replace p339 := eq_true p339
            replace q339 := eq_true q339
            have p340 : 0 ≤ (x7_1 : Int) := of_decide_eq_true (by first | (with_reducible assumption) | assumption)
            have q340 : x7_1 < (l1_0.length : Int) := of_decide_eq_true (by first | (with_reducible assumption) | assumption)
            obtain ⟨ad340, e340, hx340_0⟩ := Kd.at_string HR1_0.out x7_1 p340 q340
            cases e340
            replace hx340_0 := (HB.out.cell (World.block_lt_of_cell? w _ hx340_0)).trans hx340_0
            replace p340 := eq_true p340
            replace q340 := eq_true q340
            go_wp2_with (first | (go_at_call 80; (with_reducible refine (musterref01_Less.calls kj6 (rdOf ByteArray.empty l0_0 x6_1) (rdOf ByteArray.empty l1_0 x7_1) t341 _ A23.out).mono ?_); rintro e w' ⟨rfl, ⟨nd, rfl⟩⟩; (try first | exact ⟨rfl, _, World.drewN_drewN _ _ _⟩ | exact ⟨rfl, _, Eq.trans (World.drewN_drewN _ _ _) (congrArg (World.drewN _) (Nat.add_assoc _ _ _))⟩)))
            repeat (go_quiet (first | (go_at_call 80; (with_reducible refine (musterref01_Less.calls kj6 (rdOf ByteArray.empty l0_0 x6_1) (rdOf ByteArray.empty l1_0 x7_1) t341 _ A23.out).mono ?_); rintro e w' ⟨rfl, ⟨nd, rfl⟩⟩; (try first | exact ⟨rfl, _, World.drewN_drewN _ _ _⟩ | exact ⟨rfl, _, Eq.trans (World.drewN_drewN _ _ _) (congrArg (World.drewN _) (Nat.add_assoc _ _ _))⟩))); try go_wp2_with (first | (go_at_call 80; (with_reducible refine (musterref01_Less.calls kj6 (rdOf ByteArray.empty l0_0 x6_1) (rdOf ByteArray.empty l1_0 x7_1) t341 _ A23.out).mono ?_); rintro e w' ⟨rfl, ⟨nd, rfl⟩⟩; (try first | exact ⟨rfl, _, World.drewN_drewN _ _ _⟩ | exact ⟨rfl, _, Eq.trans (World.drewN_drewN _ _ _) (congrArg (World.drewN _) (Nat.add_assoc _ _ _))⟩))))
            go_meet
            case rel => exact ⟨_, (t341), (by first | rfl | (simp; done) | (simp [*]; done)), H', ⟨by have := HK1.out; have := HJ6.out; first | omega | exact Nat.le_refl _⟩, ⟨by (with_reducible repeat (first | apply Kd.R_alloc | apply Kd.R_drewN | apply Kd.R_drew)); exact HO_5.out⟩, ⟨by (with_reducible repeat (first | refine blk_drewN ?_ _ | refine blk_drew ?_ | refine blk_alloc ?_ _)); exact BK334.out⟩, ⟨by (with_reducible repeat (first | refine blk_drewN ?_ _ | refine blk_drew ?_ | refine blk_alloc ?_ _)); exact BK335.out⟩, ⟨by repeat (first | (with_reducible first | exact HB.out | apply below_alloc | apply pw_below_drewN | apply below_drew1 | refine below_set ?_ GE334.out | refine below_set ?_ GE335.out) | exact HB.out)⟩⟩
           ·rw [if_neg c22] at H
            exact absurd H (by simp)
          ·rw [if_neg c21] at H
           exact absurd H (by simp)
         ·rw [if_neg c20] at H
          exact absurd H (by simp)
        ·rw [if_neg c19] at H
         have c19b0 : decide (x6_1 < (l0_0.length : Int)) = false := decide_eq_false c19
         clear c19
         have H' := Aside0.mk H
         clear H
         have hnb27 := NB335_334.out
         have hnc27 := NB334_335.out
         have hcz28_0 : wc.cell? ⟨gb335, 0, none⟩ = some (.slice A1_0 l1_0.length c1_0) := (blk_cell BK335.out 0).trans rfl
         have hcz28_1 : wc.cell? ⟨gb335, 1, none⟩ = some (.slice A1_1 l1_1.length c1_1) := (blk_cell BK335.out 1).trans rfl
         have hcz28_2 : wc.cell? ⟨gb335, 2, none⟩ = some (.slice A1_2 l1_2.length c1_2) := (blk_cell BK335.out 2).trans rfl
         have hcz28_3 : wc.cell? ⟨gb335, 3, none⟩ = some (.slice A1_3 l1_3.length c1_3) := (blk_cell BK335.out 3).trans rfl
         have hcz28_4 : wc.cell? ⟨gb335, 4, none⟩ = some (.slice A1_4 l1_4.length c1_4) := (blk_cell BK335.out 4).trans rfl
         have hfz28_0 := blk_frozen BK335.out 0
         have hfz28_1 := blk_frozen BK335.out 1
         have hfz28_2 := blk_frozen BK335.out 2
         have hfz28_3 := blk_frozen BK335.out 3
         have hfz28_4 := blk_frozen BK335.out 4
         have hcz29_0 : wc.cell? ⟨gb334, 0, none⟩ = some (.slice A0_0 l0_0.length c0_0) := (blk_cell BK334.out 0).trans rfl
         have hcz29_1 : wc.cell? ⟨gb334, 1, none⟩ = some (.slice A0_1 l0_1.length c0_1) := (blk_cell BK334.out 1).trans rfl
         have hcz29_2 : wc.cell? ⟨gb334, 2, none⟩ = some (.slice A0_2 l0_2.length c0_2) := (blk_cell BK334.out 2).trans rfl
         have hcz29_3 : wc.cell? ⟨gb334, 3, none⟩ = some (.slice A0_3 l0_3.length c0_3) := (blk_cell BK334.out 3).trans rfl
         have hcz29_4 : wc.cell? ⟨gb334, 4, none⟩ = some (.slice A0_4 l0_4.length c0_4) := (blk_cell BK334.out 4).trans rfl
         have hfz29_0 := blk_frozen BK334.out 0
         have hfz29_1 := blk_frozen BK334.out 1
         have hfz29_2 := blk_frozen BK334.out 2
         have hfz29_3 := blk_frozen BK334.out 3
         have hfz29_4 := blk_frozen BK334.out 4
         go_wp2
         repeat (go_quiet (fail); try go_wp2)
         go_meet
         case rel => exact ⟨_, (false), (by first | rfl | (simp; done) | (simp [*]; done)), H', ⟨by have := HK1.out; have := HJ6.out; first | omega | exact Nat.le_refl _⟩, ⟨by (with_reducible repeat (first | apply Kd.R_alloc | apply Kd.R_drewN | apply Kd.R_drew)); exact HO_5.out⟩, ⟨by (with_reducible repeat (first | refine blk_drewN ?_ _ | refine blk_drew ?_ | refine blk_alloc ?_ _)); exact BK334.out⟩, ⟨by (with_reducible repeat (first | refine blk_drewN ?_ _ | refine blk_drew ?_ | refine blk_alloc ?_ _)); exact BK335.out⟩, ⟨by repeat (first | (with_reducible first | exact HB.out | apply below_alloc | apply pw_below_drewN | apply below_drew1 | refine below_set ?_ GE334.out | refine below_set ?_ GE335.out) | exact HB.out)⟩⟩
      case rest =>
       clear HC15
       try clear c1
       try clear c2
       try clear p2
       try clear p3
       try clear q3
       try clear hx3
       try clear c6
       try clear c8
       try clear c8b0
       try clear c9
       try clear c11
       try clear c14
       try clear c16
       try clear c16b0
       try clear c17
       try clear c19
       try clear c19b0
       try clear c20
       try clear c20b0
       try clear c21
       try clear c21b0
       try clear c22
       try clear c22b0
       try clear c24
       try clear c27
       try clear hcz10_0
       try clear hcz10_1
       try clear hcz10_2
       try clear hcz10_3
       try clear hcz10_4
       try clear hcz12_0
       try clear hcz12_1
       try clear hcz12_2
       try clear hcz12_3
       try clear hcz12_4
       try clear hcz13_0
       try clear hcz13_1
       try clear hcz13_2
       try clear hcz13_3
       try clear hcz13_4
       try clear hcz18_0
       try clear hcz18_1
       try clear hcz18_2
       try clear hcz18_3
       try clear hcz18_4
       try clear hcz25_0
       try clear hcz25_1
       try clear hcz25_2
       try clear hcz25_3
       try clear hcz25_4
       try clear hcz26_0
       try clear hcz26_1
       try clear hcz26_2
       try clear hcz26_3
       try clear hcz26_4
       try clear hcz28_0
       try clear hcz28_1
       try clear hcz28_2
       try clear hcz28_3
       try clear hcz28_4
       try clear hcz29_0
       try clear hcz29_1
       try clear hcz29_2
       try clear hcz29_3
       try clear hcz29_4
       try clear hfz10_0
       try clear hfz10_1
       try clear hfz10_2
       try clear hfz10_3
       try clear hfz10_4
       try clear hfz12_0
       try clear hfz12_1
       try clear hfz12_2
       try clear hfz12_3
       try clear hfz12_4
       try clear hfz13_0
       try clear hfz13_1
       try clear hfz13_2
       try clear hfz13_3
       try clear hfz13_4
       try clear hfz18_0
       try clear hfz18_1
       try clear hfz18_2
       try clear hfz18_3
       try clear hfz18_4
       try clear hfz25_0
       try clear hfz25_1
       try clear hfz25_2
       try clear hfz25_3
       try clear hfz25_4
       try clear hfz26_0
       try clear hfz26_1
       try clear hfz26_2
       try clear hfz26_3
       try clear hfz26_4
       try clear hfz28_0
       try clear hfz28_1
       try clear hfz28_2
       try clear hfz28_3
       try clear hfz28_4
       try clear hfz29_0
       try clear hfz29_1
       try clear hfz29_2
       try clear hfz29_3
       try clear hfz29_4
       try clear hx339_0
       try clear hx340_0
       try clear p2
       try clear p339
       try clear p340
       try clear q339
       try clear q340
       obtain ⟨kq, x45_14, rfl, HA, HJ14, HO_5, BK334, BK335, HB⟩ := hcut
       cases kq with
       | zero => exact absurd HA.out (by simp [musterref04_Diff.j2])
       | succ kj14 =>
        have H := HA.out
        clear HA
        simp only [musterref04_Diff.j2] at H
        by_cases c30 : x45_14 = true
        ·subst c30
         have H1 : (if 0 ≤ x6_1 then (if x6_1 < (l0_0.length : Int) then (if x5_1.length < 5864062014805 then (musterref04_Diff.l0 kj14 (x5_1 ++ [(⟨rdOf ByteArray.empty l0_0 x6_1, 2⟩ : S104)]) (wrap64 (x6_1 + 1)) x7_1 l0_0 l0_1 l0_2 l0_3 l0_4 l1_0 l1_1 l1_2 l1_3 l1_4) else (none)) else (none)) else (none)) = some r := by rw [if_pos rfl] at H; exact H
         clear H
         have H := H1
         clear H1
         by_cases c31 : 0 ≤ x6_1
         ·rw [if_pos c31] at H
          have c31b0 : decide (0 ≤ x6_1) = true := decide_eq_true c31
          clear c31
          by_cases c32 : x6_1 < (l0_0.length : Int)
          ·rw [if_pos c32] at H
           have c32b0 : decide (x6_1 < (l0_0.length : Int)) = true := decide_eq_true c32
           clear c32
           by_cases c33 : x5_1.length < 5864062014805
           ·rw [if_pos c33] at H
            have LMc33 := Aside0.mk c33
            clear c33
            obtain ⟨y343, hy343⟩ : ∃ y_ : List (S104), y_ = (x5_1 ++ [(⟨rdOf ByteArray.empty l0_0 x6_1, 2⟩ : S104)]) := ⟨_, rfl⟩
            replace H : (musterref04_Diff.l0 kj14 y343 (wrap64 (x6_1 + 1)) x7_1 l0_0 l0_1 l0_2 l0_3 l0_4 l1_0 l1_1 l1_2 l1_3 l1_4) = some r := by first | (rw [hy343]; with_reducible exact H) | (have H2_ := (Option.bind_some _ _).symm.trans H; rw [hy343]; with_reducible exact H2_) | (have H2_ := (Option.bind_some _ _).symm.trans H; with_reducible exact H2_) | with_reducible exact H | (rw [hy343]; exact H) | exact H
            have Ny343 := Aside0.mk hy343
            clear hy343
            have H' := Aside0.mk H
            clear H
            have hnb34 := NB334_335.out
            have hnc34 := NB335_334.out
            have hcz35_0 : wc.cell? ⟨gb334, 0, none⟩ = some (.slice A0_0 l0_0.length c0_0) := (blk_cell BK334.out 0).trans rfl
            have hcz35_1 : wc.cell? ⟨gb334, 1, none⟩ = some (.slice A0_1 l0_1.length c0_1) := (blk_cell BK334.out 1).trans rfl
            have hcz35_2 : wc.cell? ⟨gb334, 2, none⟩ = some (.slice A0_2 l0_2.length c0_2) := (blk_cell BK334.out 2).trans rfl
            have hcz35_3 : wc.cell? ⟨gb334, 3, none⟩ = some (.slice A0_3 l0_3.length c0_3) := (blk_cell BK334.out 3).trans rfl
            have hcz35_4 : wc.cell? ⟨gb334, 4, none⟩ = some (.slice A0_4 l0_4.length c0_4) := (blk_cell BK334.out 4).trans rfl
            have hfz35_0 := blk_frozen BK334.out 0
            have hfz35_1 := blk_frozen BK334.out 1
            have hfz35_2 := blk_frozen BK334.out 2
            have hfz35_3 := blk_frozen BK334.out 3
            have hfz35_4 := blk_frozen BK334.out 4
            have p342 : 0 ≤ (x6_1 : Int) := of_decide_eq_true (by first | (with_reducible assumption) | assumption)
            have q342 : x6_1 < (l0_0.length : Int) := of_decide_eq_true (by first | (with_reducible assumption) | assumption)
            obtain ⟨ad342, e342, hx342_0⟩ := Kd.at_string HR0_0.out x6_1 p342 q342
            cases e342
            replace hx342_0 := (HB.out.cell (World.block_lt_of_cell? w _ hx342_0)).trans hx342_0
            replace p342 := eq_true p342
            replace q342 := eq_true q342
            go_wp2_with (first | ((with_reducible refine gate_builtin (b := .append) (xs := #[.tmp 46, .tmp 53]) rfl ?_); (try (refine gate_guard (by rfl) ?_; dsimp only)); at_builtin; refine Kd.R_append k104 (w0 := w) w.heap.size rfl (.tmp 46) (.tmp 53) 101 104 (.agg #[(.string ⟨#[]⟩), (.int .i64 0)]) 24 rfl Try.underlying101 info104 rfl (by decide) (by omega) u5 x5_1 (⟨rdOf ByteArray.empty l0_0 x6_1, 2⟩ : S104) [.string (rdOf ByteArray.empty l0_0 x6_1), .int .i64 2] (fun _ => True) (fun _ => False) rfl rfl ?aP (fun _ hk => hk.elim) ?aF ?aO ?aB ?aS ?aL ?_; (case aP => exact k104_mkM _ _ _ (⟨rdOf ByteArray.empty l0_0 x6_1, 2⟩ : S104)); (case aB => exact (by repeat (first | (with_reducible first | exact HB.out | apply below_alloc | apply pw_below_drewN | apply below_drew1 | refine below_set ?_ GE334.out | refine below_set ?_ GE335.out) | exact HB.out))); (case aF => exact (fun _ _ => trivial)); (case aO => exact (by (with_reducible repeat (first | apply Kd.R_alloc | apply Kd.R_drewN | apply Kd.R_drew)); exact HO_5.out)); (case aS => exact (below_size (by repeat (first | (with_reducible first | exact HB.out | apply below_alloc | apply pw_below_drewN | apply below_drew1 | refine below_set ?_ GE334.out | refine below_set ?_ GE335.out) | exact HB.out)))); (case aL => have := LMc33.out; omega); intro v344 w36 ho hb hg hat; rw [← Ny343.out] at ho; have n0_ := Aside0.mk (blk_grown (g := gb334) (o := .cells #[.slice (some ad342) l0_0.length c0_0, .slice A0_1 l0_1.length c0_1, .slice A0_2 l0_2.length c0_2, .slice A0_3 l0_3.length c0_3, .slice A0_4 l0_4.length c0_4] 28 (0, 0)) (by (with_reducible repeat (first | refine blk_drewN ?_ _ | refine blk_drew ?_ | refine blk_alloc ?_ _)); exact BK334.out) hg (Kd.R_ne HO_5.out BK334.out (by decide))); have n1_ := Aside0.mk (blk_grown (g := gb335) (o := .cells #[.slice A1_0 l1_0.length c1_0, .slice A1_1 l1_1.length c1_1, .slice A1_2 l1_2.length c1_2, .slice A1_3 l1_3.length c1_3, .slice A1_4 l1_4.length c1_4] 28 (0, 0)) (by (with_reducible repeat (first | refine blk_drewN ?_ _ | refine blk_drew ?_ | refine blk_alloc ?_ _)); exact BK335.out) hg (Kd.R_ne HO_5.out BK335.out (by decide))); have n2_ := Aside0.mk (hb); have n3_ := Aside0.mk (ho); clear BK334; clear BK335; clear HB; clear HO_5; have BK334 := n0_; have BK335 := n1_; have HB := n2_; have HO345 := n3_; clear n0_ n1_ n2_ n3_; clear ho hb hg hat))
            repeat (go_quiet (first | ((with_reducible refine gate_builtin (b := .append) (xs := #[.tmp 46, .tmp 53]) rfl ?_); (try (refine gate_guard (by rfl) ?_; dsimp only)); at_builtin; refine Kd.R_append k104 (w0 := w) w.heap.size rfl (.tmp 46) (.tmp 53) 101 104 (.agg #[(.string ⟨#[]⟩), (.int .i64 0)]) 24 rfl Try.underlying101 info104 rfl (by decide) (by omega) u5 x5_1 (⟨rdOf ByteArray.empty l0_0 x6_1, 2⟩ : S104) [.string (rdOf ByteArray.empty l0_0 x6_1), .int .i64 2] (fun _ => True) (fun _ => False) rfl rfl ?aP (fun _ hk => hk.elim) ?aF ?aO ?aB ?aS ?aL ?_; (case aP => exact k104_mkM _ _ _ (⟨rdOf ByteArray.empty l0_0 x6_1, 2⟩ : S104)); (case aB => exact (by repeat (first | (with_reducible first | exact HB.out | apply below_alloc | apply pw_below_drewN | apply below_drew1 | refine below_set ?_ GE334.out | refine below_set ?_ GE335.out) | exact HB.out))); (case aF => exact (fun _ _ => trivial)); (case aO => exact (by (with_reducible repeat (first | apply Kd.R_alloc | apply Kd.R_drewN | apply Kd.R_drew)); exact HO_5.out)); (case aS => exact (below_size (by repeat (first | (with_reducible first | exact HB.out | apply below_alloc | apply pw_below_drewN | apply below_drew1 | refine below_set ?_ GE334.out | refine below_set ?_ GE335.out) | exact HB.out)))); (case aL => have := LMc33.out; omega); intro v344 w36 ho hb hg hat; rw [← Ny343.out] at ho; have n0_ := Aside0.mk (blk_grown (g := gb334) (o := .cells #[.slice (some ad342) l0_0.length c0_0, .slice A0_1 l0_1.length c0_1, .slice A0_2 l0_2.length c0_2, .slice A0_3 l0_3.length c0_3, .slice A0_4 l0_4.length c0_4] 28 (0, 0)) (by (with_reducible repeat (first | refine blk_drewN ?_ _ | refine blk_drew ?_ | refine blk_alloc ?_ _)); exact BK334.out) hg (Kd.R_ne HO_5.out BK334.out (by decide))); have n1_ := Aside0.mk (blk_grown (g := gb335) (o := .cells #[.slice A1_0 l1_0.length c1_0, .slice A1_1 l1_1.length c1_1, .slice A1_2 l1_2.length c1_2, .slice A1_3 l1_3.length c1_3, .slice A1_4 l1_4.length c1_4] 28 (0, 0)) (by (with_reducible repeat (first | refine blk_drewN ?_ _ | refine blk_drew ?_ | refine blk_alloc ?_ _)); exact BK335.out) hg (Kd.R_ne HO_5.out BK335.out (by decide))); have n2_ := Aside0.mk (hb); have n3_ := Aside0.mk (ho); clear BK334; clear BK335; clear HB; clear HO_5; have BK334 := n0_; have BK335 := n1_; have HB := n2_; have HO345 := n3_; clear n0_ n1_ n2_ n3_; clear ho hb hg hat)); try go_wp2_with (first | ((with_reducible refine gate_builtin (b := .append) (xs := #[.tmp 46, .tmp 53]) rfl ?_); (try (refine gate_guard (by rfl) ?_; dsimp only)); at_builtin; refine Kd.R_append k104 (w0 := w) w.heap.size rfl (.tmp 46) (.tmp 53) 101 104 (.agg #[(.string ⟨#[]⟩), (.int .i64 0)]) 24 rfl Try.underlying101 info104 rfl (by decide) (by omega) u5 x5_1 (⟨rdOf ByteArray.empty l0_0 x6_1, 2⟩ : S104) [.string (rdOf ByteArray.empty l0_0 x6_1), .int .i64 2] (fun _ => True) (fun _ => False) rfl rfl ?aP (fun _ hk => hk.elim) ?aF ?aO ?aB ?aS ?aL ?_; (case aP => exact k104_mkM _ _ _ (⟨rdOf ByteArray.empty l0_0 x6_1, 2⟩ : S104)); (case aB => exact (by repeat (first | (with_reducible first | exact HB.out | apply below_alloc | apply pw_below_drewN | apply below_drew1 | refine below_set ?_ GE334.out | refine below_set ?_ GE335.out) | exact HB.out))); (case aF => exact (fun _ _ => trivial)); (case aO => exact (by (with_reducible repeat (first | apply Kd.R_alloc | apply Kd.R_drewN | apply Kd.R_drew)); exact HO_5.out)); (case aS => exact (below_size (by repeat (first | (with_reducible first | exact HB.out | apply below_alloc | apply pw_below_drewN | apply below_drew1 | refine below_set ?_ GE334.out | refine below_set ?_ GE335.out) | exact HB.out)))); (case aL => have := LMc33.out; omega); intro v344 w36 ho hb hg hat; rw [← Ny343.out] at ho; have n0_ := Aside0.mk (blk_grown (g := gb334) (o := .cells #[.slice (some ad342) l0_0.length c0_0, .slice A0_1 l0_1.length c0_1, .slice A0_2 l0_2.length c0_2, .slice A0_3 l0_3.length c0_3, .slice A0_4 l0_4.length c0_4] 28 (0, 0)) (by (with_reducible repeat (first | refine blk_drewN ?_ _ | refine blk_drew ?_ | refine blk_alloc ?_ _)); exact BK334.out) hg (Kd.R_ne HO_5.out BK334.out (by decide))); have n1_ := Aside0.mk (blk_grown (g := gb335) (o := .cells #[.slice A1_0 l1_0.length c1_0, .slice A1_1 l1_1.length c1_1, .slice A1_2 l1_2.length c1_2, .slice A1_3 l1_3.length c1_3, .slice A1_4 l1_4.length c1_4] 28 (0, 0)) (by (with_reducible repeat (first | refine blk_drewN ?_ _ | refine blk_drew ?_ | refine blk_alloc ?_ _)); exact BK335.out) hg (Kd.R_ne HO_5.out BK335.out (by decide))); have n2_ := Aside0.mk (hb); have n3_ := Aside0.mk (ho); clear BK334; clear BK335; clear HB; clear HO_5; have BK334 := n0_; have BK335 := n1_; have HB := n2_; have HO345 := n3_; clear n0_ n1_ n2_ n3_; clear ho hb hg hat)))
            go_roundg kj14
            case measure => have := HK1.out; have := HJ6.out; have := HJ14.out; omega
            case rel => exact ⟨(y343), (wrap64 (x6_1 + 1)), (x7_1), (by first | rfl | (simp; done) | (simp [*]; done)), (by first | rfl | (simp; done) | (simp [*]; done)), H', ⟨by have := HK1.out; have := HJ6.out; have := HJ14.out; omega⟩, ⟨by (with_reducible repeat (first | apply Kd.R_alloc | apply Kd.R_drewN | apply Kd.R_drew)); exact HO345.out⟩, ⟨by (with_reducible repeat (first | refine blk_drewN ?_ _ | refine blk_drew ?_ | refine blk_alloc ?_ _)); exact BK334.out⟩, ⟨by (with_reducible repeat (first | refine blk_drewN ?_ _ | refine blk_drew ?_ | refine blk_alloc ?_ _)); exact BK335.out⟩, ⟨by repeat (first | (with_reducible first | exact HB.out | apply below_alloc | apply pw_below_drewN | apply below_drew1 | refine below_set ?_ GE334.out | refine below_set ?_ GE335.out) | exact HB.out)⟩⟩
           ·rw [if_neg c33] at H
            exact absurd H (by simp)
          ·rw [if_neg c32] at H
           exact absurd H (by simp)
         ·rw [if_neg c31] at H
          exact absurd H (by simp)
        ·replace c30 := Bool.eq_false_iff.mpr c30
         subst c30
         have H1 : (if x6_1 ≥ (l0_0.length : Int) then (musterref04_Diff.j3 kj14 x5_1 x6_1 x7_1 true l0_0 l0_1 l0_2 l0_3 l0_4 l1_0 l1_1 l1_2 l1_3 l1_4) else (if 0 ≤ x7_1 then (if x7_1 < (l1_0.length : Int) then (if 0 ≤ x6_1 then (if x6_1 < (l0_0.length : Int) then ((musterref01_Less.f kj14 (rdOf ByteArray.empty l1_0 x7_1) (rdOf ByteArray.empty l0_0 x6_1)).bind fun t348 => (musterref04_Diff.j3 kj14 x5_1 x6_1 x7_1 t348 l0_0 l0_1 l0_2 l0_3 l0_4 l1_0 l1_1 l1_2 l1_3 l1_4)) else (none)) else (none)) else (none)) else (none))) = some r := by rw [if_neg (show ¬ (false = true) by decide)] at H; exact H
         clear H
         have H := H1
         clear H1
         have HC37 := Aside0.mk H
         clear H
         go_upto_region 7 with (fail)
         repeat (go_quiet (fail); go_upto_region 7 with (fail))
         go_cut [74] (fun v74 wc => ∃ (kq : Nat) (x74_36 : Bool), v74 = .bool x74_36 ∧ Aside0 (musterref04_Diff.j3 kq x5_1 x6_1 x7_1 x74_36 l0_0 l0_1 l0_2 l0_3 l0_4 l1_0 l1_1 l1_2 l1_3 l1_4 = some r) ∧ Aside0 (kq ≤ kj14) ∧ Aside0 (Kd.R k104 104 wc w.heap.size (fun _ => True) u5 x5_1) ∧ Aside0 (wc.heap[gb334]? = some (.cells #[(.slice A0_0 l0_0.length c0_0), (.slice A0_1 l0_1.length c0_1), (.slice A0_2 l0_2.length c0_2), (.slice A0_3 l0_3.length c0_3), (.slice A0_4 l0_4.length c0_4)] 28 (0, 0))) ∧ Aside0 (wc.heap[gb335]? = some (.cells #[(.slice A1_0 l1_0.length c1_0), (.slice A1_1 l1_1.length c1_1), (.slice A1_2 l1_2.length c1_2), (.slice A1_3 l1_3.length c1_3), (.slice A1_4 l1_4.length c1_4)] 28 (0, 0))) ∧ Aside0 (Below w.heap.size w wc))
         case first =>
          have H := HC37.out
          clear HC37
          by_cases c38 : x6_1 ≥ (l0_0.length : Int)
          ·rw [if_pos c38] at H
           have c38b0 : decide ((l0_0.length : Int) ≤ x6_1) = true := decide_eq_true c38
           clear c38
           (first | rw [c38b0] | (simp only [i64_w, i32_w]; rw [c38b0]) | skip)
           have H' := Aside0.mk H
           clear H
           have hnb39 := NB334_335.out
           have hnc39 := NB335_334.out
           have hcz40_0 : wc.cell? ⟨gb334, 0, none⟩ = some (.slice A0_0 l0_0.length c0_0) := (blk_cell BK334.out 0).trans rfl
           have hcz40_1 : wc.cell? ⟨gb334, 1, none⟩ = some (.slice A0_1 l0_1.length c0_1) := (blk_cell BK334.out 1).trans rfl
           have hcz40_2 : wc.cell? ⟨gb334, 2, none⟩ = some (.slice A0_2 l0_2.length c0_2) := (blk_cell BK334.out 2).trans rfl
           have hcz40_3 : wc.cell? ⟨gb334, 3, none⟩ = some (.slice A0_3 l0_3.length c0_3) := (blk_cell BK334.out 3).trans rfl
           have hcz40_4 : wc.cell? ⟨gb334, 4, none⟩ = some (.slice A0_4 l0_4.length c0_4) := (blk_cell BK334.out 4).trans rfl
           have hfz40_0 := blk_frozen BK334.out 0
           have hfz40_1 := blk_frozen BK334.out 1
           have hfz40_2 := blk_frozen BK334.out 2
           have hfz40_3 := blk_frozen BK334.out 3
           have hfz40_4 := blk_frozen BK334.out 4
           go_wp2
           repeat (go_quiet (fail); try go_wp2)
           go_meet
           case rel => exact ⟨_, (true), (by first | rfl | (simp; done) | (simp [*]; done)), H', ⟨by have := HK1.out; have := HJ6.out; have := HJ14.out; first | omega | exact Nat.le_refl _⟩, ⟨by (with_reducible repeat (first | apply Kd.R_alloc | apply Kd.R_drewN | apply Kd.R_drew)); exact HO_5.out⟩, ⟨by (with_reducible repeat (first | refine blk_drewN ?_ _ | refine blk_drew ?_ | refine blk_alloc ?_ _)); exact BK334.out⟩, ⟨by (with_reducible repeat (first | refine blk_drewN ?_ _ | refine blk_drew ?_ | refine blk_alloc ?_ _)); exact BK335.out⟩, ⟨by repeat (first | (with_reducible first | exact HB.out | apply below_alloc | apply pw_below_drewN | apply below_drew1 | refine below_set ?_ GE334.out | refine below_set ?_ GE335.out) | exact HB.out)⟩⟩
          ·rw [if_neg c38] at H
           have c38b0 : decide ((l0_0.length : Int) ≤ x6_1) = false := decide_eq_false c38
           clear c38
           (first | rw [c38b0] | (simp only [i64_w, i32_w]; rw [c38b0]) | skip)
           by_cases c41 : 0 ≤ x7_1
           ·rw [if_pos c41] at H
            have c41b0 : decide (0 ≤ x7_1) = true := decide_eq_true c41
            clear c41
            by_cases c42 : x7_1 < (l1_0.length : Int)
            ·rw [if_pos c42] at H
             have c42b0 : decide (x7_1 < (l1_0.length : Int)) = true := decide_eq_true c42
             clear c42
             by_cases c43 : 0 ≤ x6_1
             ·rw [if_pos c43] at H
              have c43b0 : decide (0 ≤ x6_1) = true := decide_eq_true c43
              clear c43
              by_cases c44 : x6_1 < (l0_0.length : Int)
              ·rw [if_pos c44] at H
               have c44b0 : decide (x6_1 < (l0_0.length : Int)) = true := decide_eq_true c44
               clear c44
               replace H := Option.bind_eq_some_iff.mp H
               obtain ⟨t348, A450, H⟩ := H
               replace H : (musterref04_Diff.j3 kj14 x5_1 x6_1 x7_1 t348 l0_0 l0_1 l0_2 l0_3 l0_4 l1_0 l1_1 l1_2 l1_3 l1_4) = some r := H
               have A45 := Aside0.mk A450
               clear A450
               have H' := Aside0.mk H
               clear H
               have hnb46 := NB334_335.out
               have hnc46 := NB335_334.out
               have hcz47_0 : wc.cell? ⟨gb334, 0, none⟩ = some (.slice A0_0 l0_0.length c0_0) := (blk_cell BK334.out 0).trans rfl
               have hcz47_1 : wc.cell? ⟨gb334, 1, none⟩ = some (.slice A0_1 l0_1.length c0_1) := (blk_cell BK334.out 1).trans rfl
               have hcz47_2 : wc.cell? ⟨gb334, 2, none⟩ = some (.slice A0_2 l0_2.length c0_2) := (blk_cell BK334.out 2).trans rfl
               have hcz47_3 : wc.cell? ⟨gb334, 3, none⟩ = some (.slice A0_3 l0_3.length c0_3) := (blk_cell BK334.out 3).trans rfl
               have hcz47_4 : wc.cell? ⟨gb334, 4, none⟩ = some (.slice A0_4 l0_4.length c0_4) := (blk_cell BK334.out 4).trans rfl
               have hfz47_0 := blk_frozen BK334.out 0
               have hfz47_1 := blk_frozen BK334.out 1
               have hfz47_2 := blk_frozen BK334.out 2
               have hfz47_3 := blk_frozen BK334.out 3
               have hfz47_4 := blk_frozen BK334.out 4
               have hcz48_0 : wc.cell? ⟨gb335, 0, none⟩ = some (.slice A1_0 l1_0.length c1_0) := (blk_cell BK335.out 0).trans rfl
               have hcz48_1 : wc.cell? ⟨gb335, 1, none⟩ = some (.slice A1_1 l1_1.length c1_1) := (blk_cell BK335.out 1).trans rfl
               have hcz48_2 : wc.cell? ⟨gb335, 2, none⟩ = some (.slice A1_2 l1_2.length c1_2) := (blk_cell BK335.out 2).trans rfl
               have hcz48_3 : wc.cell? ⟨gb335, 3, none⟩ = some (.slice A1_3 l1_3.length c1_3) := (blk_cell BK335.out 3).trans rfl
               have hcz48_4 : wc.cell? ⟨gb335, 4, none⟩ = some (.slice A1_4 l1_4.length c1_4) := (blk_cell BK335.out 4).trans rfl
               have hfz48_0 := blk_frozen BK335.out 0
               have hfz48_1 := blk_frozen BK335.out 1
               have hfz48_2 := blk_frozen BK335.out 2
               have hfz48_3 := blk_frozen BK335.out 3
               have hfz48_4 := blk_frozen BK335.out 4
               have p346 : 0 ≤ (x7_1 : Int) := of_decide_eq_true (by first | (with_reducible assumption) | assumption)
               have q346 : x7_1 < (l1_0.length : Int) := of_decide_eq_true (by first | (with_reducible assumption) | assumption)
               obtain ⟨ad346, e346, hx346_0⟩ := Kd.at_string HR1_0.out x7_1 p346 q346
               cases e346
               replace hx346_0 := (HB.out.cell (World.block_lt_of_cell? w _ hx346_0)).trans hx346_0
               replace p346 := eq_true p346
               replace q346 := eq_true q346
               have p347 : 0 ≤ (x6_1 : Int) := of_decide_eq_true (by first | (with_reducible assumption) | assumption)
               have q347 : x6_1 < (l0_0.length : Int) := of_decide_eq_true (by first | (with_reducible assumption) | assumption)
               obtain ⟨ad347, e347, hx347_0⟩ := Kd.at_string HR0_0.out x6_1 p347 q347
               cases e347
               replace hx347_0 := (HB.out.cell (World.block_lt_of_cell? w _ hx347_0)).trans hx347_0
               replace p347 := eq_true p347
               replace q347 := eq_true q347
               go_wp2_with (first | (go_at_call 80; (with_reducible refine (musterref01_Less.calls kj14 (rdOf ByteArray.empty l1_0 x7_1) (rdOf ByteArray.empty l0_0 x6_1) t348 _ A45.out).mono ?_); rintro e w' ⟨rfl, ⟨nd, rfl⟩⟩; (try first | exact ⟨rfl, _, World.drewN_drewN _ _ _⟩ | exact ⟨rfl, _, Eq.trans (World.drewN_drewN _ _ _) (congrArg (World.drewN _) (Nat.add_assoc _ _ _))⟩)))
               repeat (go_quiet (first | (go_at_call 80; (with_reducible refine (musterref01_Less.calls kj14 (rdOf ByteArray.empty l1_0 x7_1) (rdOf ByteArray.empty l0_0 x6_1) t348 _ A45.out).mono ?_); rintro e w' ⟨rfl, ⟨nd, rfl⟩⟩; (try first | exact ⟨rfl, _, World.drewN_drewN _ _ _⟩ | exact ⟨rfl, _, Eq.trans (World.drewN_drewN _ _ _) (congrArg (World.drewN _) (Nat.add_assoc _ _ _))⟩))); try go_wp2_with (first | (go_at_call 80; (with_reducible refine (musterref01_Less.calls kj14 (rdOf ByteArray.empty l1_0 x7_1) (rdOf ByteArray.empty l0_0 x6_1) t348 _ A45.out).mono ?_); rintro e w' ⟨rfl, ⟨nd, rfl⟩⟩; (try first | exact ⟨rfl, _, World.drewN_drewN _ _ _⟩ | exact ⟨rfl, _, Eq.trans (World.drewN_drewN _ _ _) (congrArg (World.drewN _) (Nat.add_assoc _ _ _))⟩))))
               go_meet
               case rel => exact ⟨_, (t348), (by first | rfl | (simp; done) | (simp [*]; done)), H', ⟨by have := HK1.out; have := HJ6.out; have := HJ14.out; first | omega | exact Nat.le_refl _⟩, ⟨by (with_reducible repeat (first | apply Kd.R_alloc | apply Kd.R_drewN | apply Kd.R_drew)); exact HO_5.out⟩, ⟨by (with_reducible repeat (first | refine blk_drewN ?_ _ | refine blk_drew ?_ | refine blk_alloc ?_ _)); exact BK334.out⟩, ⟨by (with_reducible repeat (first | refine blk_drewN ?_ _ | refine blk_drew ?_ | refine blk_alloc ?_ _)); exact BK335.out⟩, ⟨by repeat (first | (with_reducible first | exact HB.out | apply below_alloc | apply pw_below_drewN | apply below_drew1 | refine below_set ?_ GE334.out | refine below_set ?_ GE335.out) | exact HB.out)⟩⟩
              ·rw [if_neg c44] at H
               exact absurd H (by simp)
             ·rw [if_neg c43] at H
              exact absurd H (by simp)
            ·rw [if_neg c42] at H
             exact absurd H (by simp)
           ·rw [if_neg c41] at H
            exact absurd H (by simp)
         case rest =>
          clear HC37
          try clear c1
          try clear c2
          try clear p2
          try clear c3
          try clear p3
          try clear q3
          try clear hx3
          try clear c4
          try clear c6
          try clear p6
          try clear c8
          try clear c8b0
          try clear c9
          try clear c11
          try clear c14
          try clear c16
          try clear c16b0
          try clear c17
          try clear c19
          try clear c19b0
          try clear c20
          try clear c20b0
          try clear c21
          try clear c21b0
          try clear c22
          try clear c22b0
          try clear c24
          try clear c27
          try clear c30
          try clear c31
          try clear c31b0
          try clear c32
          try clear c32b0
          try clear c33
          try clear p33
          try clear q33
          try clear hx33
          try clear c34
          try clear p34
          try clear q34
          try clear hx34
          try clear c38
          try clear c38b0
          try clear c39
          try clear c41
          try clear c41b0
          try clear c42
          try clear c42b0
          try clear c43
          try clear c43b0
          try clear c44
          try clear c44b0
          try clear c46
          try clear hcz10_0
          try clear hcz10_1
          try clear hcz10_2
          try clear hcz10_3
          try clear hcz10_4
          try clear hcz12_0
          try clear hcz12_1
          try clear hcz12_2
          try clear hcz12_3
          try clear hcz12_4
          try clear hcz13_0
          try clear hcz13_1
          try clear hcz13_2
          try clear hcz13_3
          try clear hcz13_4
          try clear hcz18_0
          try clear hcz18_1
          try clear hcz18_2
          try clear hcz18_3
          try clear hcz18_4
          try clear hcz25_0
          try clear hcz25_1
          try clear hcz25_2
          try clear hcz25_3
          try clear hcz25_4
          try clear hcz26_0
          try clear hcz26_1
          try clear hcz26_2
          try clear hcz26_3
          try clear hcz26_4
          try clear hcz28_0
          try clear hcz28_1
          try clear hcz28_2
          try clear hcz28_3
          try clear hcz28_4
          try clear hcz29_0
          try clear hcz29_1
          try clear hcz29_2
          try clear hcz29_3
          try clear hcz29_4
          try clear hcz35_0
          try clear hcz35_1
          try clear hcz35_2
          try clear hcz35_3
          try clear hcz35_4
          try clear hcz40_0
          try clear hcz40_1
          try clear hcz40_2
          try clear hcz40_3
          try clear hcz40_4
          try clear hcz47_0
          try clear hcz47_1
          try clear hcz47_2
          try clear hcz47_3
          try clear hcz47_4
          try clear hcz48_0
          try clear hcz48_1
          try clear hcz48_2
          try clear hcz48_3
          try clear hcz48_4
          try clear hfz10_0
          try clear hfz10_1
          try clear hfz10_2
          try clear hfz10_3
          try clear hfz10_4
          try clear hfz12_0
          try clear hfz12_1
          try clear hfz12_2
          try clear hfz12_3
          try clear hfz12_4
          try clear hfz13_0
          try clear hfz13_1
          try clear hfz13_2
          try clear hfz13_3
          try clear hfz13_4
          try clear hfz18_0
          try clear hfz18_1
          try clear hfz18_2
          try clear hfz18_3
          try clear hfz18_4
          try clear hfz25_0
          try clear hfz25_1
          try clear hfz25_2
          try clear hfz25_3
          try clear hfz25_4
          try clear hfz26_0
          try clear hfz26_1
          try clear hfz26_2
          try clear hfz26_3
          try clear hfz26_4
          try clear hfz28_0
          try clear hfz28_1
          try clear hfz28_2
          try clear hfz28_3
          try clear hfz28_4
          try clear hfz29_0
          try clear hfz29_1
          try clear hfz29_2
          try clear hfz29_3
          try clear hfz29_4
          try clear hfz35_0
          try clear hfz35_1
          try clear hfz35_2
          try clear hfz35_3
          try clear hfz35_4
          try clear hfz40_0
          try clear hfz40_1
          try clear hfz40_2
          try clear hfz40_3
          try clear hfz40_4
          try clear hfz47_0
          try clear hfz47_1
          try clear hfz47_2
          try clear hfz47_3
          try clear hfz47_4
          try clear hfz48_0
          try clear hfz48_1
          try clear hfz48_2
          try clear hfz48_3
          try clear hfz48_4
          try clear hx339_0
          try clear hx340_0
          try clear hx342_0
          try clear hx346_0
          try clear hx347_0
          try clear p2
          try clear p3
          try clear p339
          try clear p340
          try clear p342
          try clear p346
          try clear p347
          try clear q3
          try clear q339
          try clear q340
          try clear q342
          try clear q346
          try clear q347
          obtain ⟨kq, x74_36, rfl, HA, HJ36, HO_5, BK334, BK335, HB⟩ := hcut
          cases kq with
          | zero => exact absurd HA.out (by simp [musterref04_Diff.j3])
          | succ kj36 =>
           have H := HA.out
           clear HA
           simp only [musterref04_Diff.j3] at H
           by_cases c49 : x74_36 = true
           ·subst c49
            have H1 : (if 0 ≤ x7_1 then (if x7_1 < (l1_0.length : Int) then (if x5_1.length < 5864062014805 then (musterref04_Diff.l0 kj36 (x5_1 ++ [(⟨rdOf ByteArray.empty l1_0 x7_1, 1⟩ : S104)]) x6_1 (wrap64 (x7_1 + 1)) l0_0 l0_1 l0_2 l0_3 l0_4 l1_0 l1_1 l1_2 l1_3 l1_4) else (none)) else (none)) else (none)) = some r := by rw [if_pos rfl] at H; exact H
            clear H
            have H := H1
            clear H1
            by_cases c50 : 0 ≤ x7_1
            ·rw [if_pos c50] at H
             have c50b0 : decide (0 ≤ x7_1) = true := decide_eq_true c50
             clear c50
             by_cases c51 : x7_1 < (l1_0.length : Int)
             ·rw [if_pos c51] at H
              have c51b0 : decide (x7_1 < (l1_0.length : Int)) = true := decide_eq_true c51
              clear c51
              by_cases c52 : x5_1.length < 5864062014805
              ·rw [if_pos c52] at H
               have LMc52 := Aside0.mk c52
               clear c52
               obtain ⟨y350, hy350⟩ : ∃ y_ : List (S104), y_ = (x5_1 ++ [(⟨rdOf ByteArray.empty l1_0 x7_1, 1⟩ : S104)]) := ⟨_, rfl⟩
               replace H : (musterref04_Diff.l0 kj36 y350 x6_1 (wrap64 (x7_1 + 1)) l0_0 l0_1 l0_2 l0_3 l0_4 l1_0 l1_1 l1_2 l1_3 l1_4) = some r := by first | (rw [hy350]; with_reducible exact H) | (have H2_ := (Option.bind_some _ _).symm.trans H; rw [hy350]; with_reducible exact H2_) | (have H2_ := (Option.bind_some _ _).symm.trans H; with_reducible exact H2_) | with_reducible exact H | (rw [hy350]; exact H) | exact H
               have Ny350 := Aside0.mk hy350
               clear hy350
               have H' := Aside0.mk H
               clear H
               have hnb53 := NB335_334.out
               have hnc53 := NB334_335.out
               have hcz54_0 : wc.cell? ⟨gb335, 0, none⟩ = some (.slice A1_0 l1_0.length c1_0) := (blk_cell BK335.out 0).trans rfl
               have hcz54_1 : wc.cell? ⟨gb335, 1, none⟩ = some (.slice A1_1 l1_1.length c1_1) := (blk_cell BK335.out 1).trans rfl
               have hcz54_2 : wc.cell? ⟨gb335, 2, none⟩ = some (.slice A1_2 l1_2.length c1_2) := (blk_cell BK335.out 2).trans rfl
               have hcz54_3 : wc.cell? ⟨gb335, 3, none⟩ = some (.slice A1_3 l1_3.length c1_3) := (blk_cell BK335.out 3).trans rfl
               have hcz54_4 : wc.cell? ⟨gb335, 4, none⟩ = some (.slice A1_4 l1_4.length c1_4) := (blk_cell BK335.out 4).trans rfl
               have hfz54_0 := blk_frozen BK335.out 0
               have hfz54_1 := blk_frozen BK335.out 1
               have hfz54_2 := blk_frozen BK335.out 2
               have hfz54_3 := blk_frozen BK335.out 3
               have hfz54_4 := blk_frozen BK335.out 4
               have p349 : 0 ≤ (x7_1 : Int) := of_decide_eq_true (by first | (with_reducible assumption) | assumption)
               have q349 : x7_1 < (l1_0.length : Int) := of_decide_eq_true (by first | (with_reducible assumption) | assumption)
               obtain ⟨ad349, e349, hx349_0⟩ := Kd.at_string HR1_0.out x7_1 p349 q349
               cases e349
               replace hx349_0 := (HB.out.cell (World.block_lt_of_cell? w _ hx349_0)).trans hx349_0
               replace p349 := eq_true p349
               replace q349 := eq_true q349
               go_wp2_with (first | ((with_reducible refine gate_builtin (b := .append) (xs := #[.tmp 75, .tmp 82]) rfl ?_); (try (refine gate_guard (by rfl) ?_; dsimp only)); at_builtin; refine Kd.R_append k104 (w0 := w) w.heap.size rfl (.tmp 75) (.tmp 82) 101 104 (.agg #[(.string ⟨#[]⟩), (.int .i64 0)]) 24 rfl Try.underlying101 info104 rfl (by decide) (by omega) u5 x5_1 (⟨rdOf ByteArray.empty l1_0 x7_1, 1⟩ : S104) [.string (rdOf ByteArray.empty l1_0 x7_1), .int .i64 1] (fun _ => True) (fun _ => False) rfl rfl ?aP (fun _ hk => hk.elim) ?aF ?aO ?aB ?aS ?aL ?_; (case aP => exact k104_mkM _ _ _ (⟨rdOf ByteArray.empty l1_0 x7_1, 1⟩ : S104)); (case aB => exact (by repeat (first | (with_reducible first | exact HB.out | apply below_alloc | apply pw_below_drewN | apply below_drew1 | refine below_set ?_ GE334.out | refine below_set ?_ GE335.out) | exact HB.out))); (case aF => exact (fun _ _ => trivial)); (case aO => exact (by (with_reducible repeat (first | apply Kd.R_alloc | apply Kd.R_drewN | apply Kd.R_drew)); exact HO_5.out)); (case aS => exact (below_size (by repeat (first | (with_reducible first | exact HB.out | apply below_alloc | apply pw_below_drewN | apply below_drew1 | refine below_set ?_ GE334.out | refine below_set ?_ GE335.out) | exact HB.out)))); (case aL => have := LMc52.out; omega); intro v351 w55 ho hb hg hat; rw [← Ny350.out] at ho; have n0_ := Aside0.mk (blk_grown (g := gb334) (o := .cells #[.slice A0_0 l0_0.length c0_0, .slice A0_1 l0_1.length c0_1, .slice A0_2 l0_2.length c0_2, .slice A0_3 l0_3.length c0_3, .slice A0_4 l0_4.length c0_4] 28 (0, 0)) (by (with_reducible repeat (first | refine blk_drewN ?_ _ | refine blk_drew ?_ | refine blk_alloc ?_ _)); exact BK334.out) hg (Kd.R_ne HO_5.out BK334.out (by decide))); have n1_ := Aside0.mk (blk_grown (g := gb335) (o := .cells #[.slice (some ad349) l1_0.length c1_0, .slice A1_1 l1_1.length c1_1, .slice A1_2 l1_2.length c1_2, .slice A1_3 l1_3.length c1_3, .slice A1_4 l1_4.length c1_4] 28 (0, 0)) (by (with_reducible repeat (first | refine blk_drewN ?_ _ | refine blk_drew ?_ | refine blk_alloc ?_ _)); exact BK335.out) hg (Kd.R_ne HO_5.out BK335.out (by decide))); have n2_ := Aside0.mk (hb); have n3_ := Aside0.mk (ho); clear BK334; clear BK335; clear HB; clear HO_5; have BK334 := n0_; have BK335 := n1_; have HB := n2_; have HO352 := n3_; clear n0_ n1_ n2_ n3_; clear ho hb hg hat))
               repeat (go_quiet (first | ((with_reducible refine gate_builtin (b := .append) (xs := #[.tmp 75, .tmp 82]) rfl ?_); (try (refine gate_guard (by rfl) ?_; dsimp only)); at_builtin; refine Kd.R_append k104 (w0 := w) w.heap.size rfl (.tmp 75) (.tmp 82) 101 104 (.agg #[(.string ⟨#[]⟩), (.int .i64 0)]) 24 rfl Try.underlying101 info104 rfl (by decide) (by omega) u5 x5_1 (⟨rdOf ByteArray.empty l1_0 x7_1, 1⟩ : S104) [.string (rdOf ByteArray.empty l1_0 x7_1), .int .i64 1] (fun _ => True) (fun _ => False) rfl rfl ?aP (fun _ hk => hk.elim) ?aF ?aO ?aB ?aS ?aL ?_; (case aP => exact k104_mkM _ _ _ (⟨rdOf ByteArray.empty l1_0 x7_1, 1⟩ : S104)); (case aB => exact (by repeat (first | (with_reducible first | exact HB.out | apply below_alloc | apply pw_below_drewN | apply below_drew1 | refine below_set ?_ GE334.out | refine below_set ?_ GE335.out) | exact HB.out))); (case aF => exact (fun _ _ => trivial)); (case aO => exact (by (with_reducible repeat (first | apply Kd.R_alloc | apply Kd.R_drewN | apply Kd.R_drew)); exact HO_5.out)); (case aS => exact (below_size (by repeat (first | (with_reducible first | exact HB.out | apply below_alloc | apply pw_below_drewN | apply below_drew1 | refine below_set ?_ GE334.out | refine below_set ?_ GE335.out) | exact HB.out)))); (case aL => have := LMc52.out; omega); intro v351 w55 ho hb hg hat; rw [← Ny350.out] at ho; have n0_ := Aside0.mk (blk_grown (g := gb334) (o := .cells #[.slice A0_0 l0_0.length c0_0, .slice A0_1 l0_1.length c0_1, .slice A0_2 l0_2.length c0_2, .slice A0_3 l0_3.length c0_3, .slice A0_4 l0_4.length c0_4] 28 (0, 0)) (by (with_reducible repeat (first | refine blk_drewN ?_ _ | refine blk_drew ?_ | refine blk_alloc ?_ _)); exact BK334.out) hg (Kd.R_ne HO_5.out BK334.out (by decide))); have n1_ := Aside0.mk (blk_grown (g := gb335) (o := .cells #[.slice (some ad349) l1_0.length c1_0, .slice A1_1 l1_1.length c1_1, .slice A1_2 l1_2.length c1_2, .slice A1_3 l1_3.length c1_3, .slice A1_4 l1_4.length c1_4] 28 (0, 0)) (by (with_reducible repeat (first | refine blk_drewN ?_ _ | refine blk_drew ?_ | refine blk_alloc ?_ _)); exact BK335.out) hg (Kd.R_ne HO_5.out BK335.out (by decide))); have n2_ := Aside0.mk (hb); have n3_ := Aside0.mk (ho); clear BK334; clear BK335; clear HB; clear HO_5; have BK334 := n0_; have BK335 := n1_; have HB := n2_; have HO352 := n3_; clear n0_ n1_ n2_ n3_; clear ho hb hg hat)); try go_wp2_with (first | ((with_reducible refine gate_builtin (b := .append) (xs := #[.tmp 75, .tmp 82]) rfl ?_); (try (refine gate_guard (by rfl) ?_; dsimp only)); at_builtin; refine Kd.R_append k104 (w0 := w) w.heap.size rfl (.tmp 75) (.tmp 82) 101 104 (.agg #[(.string ⟨#[]⟩), (.int .i64 0)]) 24 rfl Try.underlying101 info104 rfl (by decide) (by omega) u5 x5_1 (⟨rdOf ByteArray.empty l1_0 x7_1, 1⟩ : S104) [.string (rdOf ByteArray.empty l1_0 x7_1), .int .i64 1] (fun _ => True) (fun _ => False) rfl rfl ?aP (fun _ hk => hk.elim) ?aF ?aO ?aB ?aS ?aL ?_; (case aP => exact k104_mkM _ _ _ (⟨rdOf ByteArray.empty l1_0 x7_1, 1⟩ : S104)); (case aB => exact (by repeat (first | (with_reducible first | exact HB.out | apply below_alloc | apply pw_below_drewN | apply below_drew1 | refine below_set ?_ GE334.out | refine below_set ?_ GE335.out) | exact HB.out))); (case aF => exact (fun _ _ => trivial)); (case aO => exact (by (with_reducible repeat (first | apply Kd.R_alloc | apply Kd.R_drewN | apply Kd.R_drew)); exact HO_5.out)); (case aS => exact (below_size (by repeat (first | (with_reducible first | exact HB.out | apply below_alloc | apply pw_below_drewN | apply below_drew1 | refine below_set ?_ GE334.out | refine below_set ?_ GE335.out) | exact HB.out)))); (case aL => have := LMc52.out; omega); intro v351 w55 ho hb hg hat; rw [← Ny350.out] at ho; have n0_ := Aside0.mk (blk_grown (g := gb334) (o := .cells #[.slice A0_0 l0_0.length c0_0, .slice A0_1 l0_1.length c0_1, .slice A0_2 l0_2.length c0_2, .slice A0_3 l0_3.length c0_3, .slice A0_4 l0_4.length c0_4] 28 (0, 0)) (by (with_reducible repeat (first | refine blk_drewN ?_ _ | refine blk_drew ?_ | refine blk_alloc ?_ _)); exact BK334.out) hg (Kd.R_ne HO_5.out BK334.out (by decide))); have n1_ := Aside0.mk (blk_grown (g := gb335) (o := .cells #[.slice (some ad349) l1_0.length c1_0, .slice A1_1 l1_1.length c1_1, .slice A1_2 l1_2.length c1_2, .slice A1_3 l1_3.length c1_3, .slice A1_4 l1_4.length c1_4] 28 (0, 0)) (by (with_reducible repeat (first | refine blk_drewN ?_ _ | refine blk_drew ?_ | refine blk_alloc ?_ _)); exact BK335.out) hg (Kd.R_ne HO_5.out BK335.out (by decide))); have n2_ := Aside0.mk (hb); have n3_ := Aside0.mk (ho); clear BK334; clear BK335; clear HB; clear HO_5; have BK334 := n0_; have BK335 := n1_; have HB := n2_; have HO352 := n3_; clear n0_ n1_ n2_ n3_; clear ho hb hg hat)))
               go_roundg kj36
               case measure => have := HK1.out; have := HJ6.out; have := HJ14.out; have := HJ36.out; omega
               case rel => exact ⟨(y350), (x6_1), (wrap64 (x7_1 + 1)), (by first | rfl | (simp; done) | (simp [*]; done)), (by first | rfl | (simp; done) | (simp [*]; done)), H', ⟨by have := HK1.out; have := HJ6.out; have := HJ14.out; have := HJ36.out; omega⟩, ⟨by (with_reducible repeat (first | apply Kd.R_alloc | apply Kd.R_drewN | apply Kd.R_drew)); exact HO352.out⟩, ⟨by (with_reducible repeat (first | refine blk_drewN ?_ _ | refine blk_drew ?_ | refine blk_alloc ?_ _)); exact BK334.out⟩, ⟨by (with_reducible repeat (first | refine blk_drewN ?_ _ | refine blk_drew ?_ | refine blk_alloc ?_ _)); exact BK335.out⟩, ⟨by repeat (first | (with_reducible first | exact HB.out | apply below_alloc | apply pw_below_drewN | apply below_drew1 | refine below_set ?_ GE334.out | refine below_set ?_ GE335.out) | exact HB.out)⟩⟩
              ·rw [if_neg c52] at H
               exact absurd H (by simp)
             ·rw [if_neg c51] at H
              exact absurd H (by simp)
            ·rw [if_neg c50] at H
             exact absurd H (by simp)
           ·replace c49 := Bool.eq_false_iff.mpr c49
            subst c49
            have H1 : (if 0 ≤ x6_1 then (if x6_1 < (l0_1.length : Int) then (if 0 ≤ x7_1 then (if x7_1 < (l1_1.length : Int) then (if (rd l0_1 x6_1) = (rd l1_1 x7_1) then (musterref04_Diff.l0 kj36 x5_1 (wrap64 (x6_1 + 1)) (wrap64 (x7_1 + 1)) l0_0 l0_1 l0_2 l0_3 l0_4 l1_0 l1_1 l1_2 l1_3 l1_4) else (if x6_1 < (l0_0.length : Int) then (if x5_1.length < 5864062014805 then (musterref04_Diff.l0 kj36 (x5_1 ++ [(⟨rdOf ByteArray.empty l0_0 x6_1, 3⟩ : S104)]) (wrap64 (x6_1 + 1)) (wrap64 (x7_1 + 1)) l0_0 l0_1 l0_2 l0_3 l0_4 l1_0 l1_1 l1_2 l1_3 l1_4) else (none)) else (none))) else (none)) else (none)) else (none)) else (none)) = some r := by rw [if_neg (show ¬ (false = true) by decide)] at H; exact H
            clear H
            have H := H1
            clear H1
            by_cases c56 : 0 ≤ x6_1
            ·rw [if_pos c56] at H
             have c56b0 : decide (0 ≤ x6_1) = true := decide_eq_true c56
             clear c56
             by_cases c57 : x6_1 < (l0_1.length : Int)
             ·rw [if_pos c57] at H
              have c57b0 : decide (x6_1 < (l0_1.length : Int)) = true := decide_eq_true c57
              clear c57
              by_cases c58 : 0 ≤ x7_1
              ·rw [if_pos c58] at H
               have c58b0 : decide (0 ≤ x7_1) = true := decide_eq_true c58
               clear c58
               by_cases c59 : x7_1 < (l1_1.length : Int)
               ·rw [if_pos c59] at H
                have c59b0 : decide (x7_1 < (l1_1.length : Int)) = true := decide_eq_true c59
                clear c59
                by_cases c60 : (rd l0_1 x6_1) = (rd l1_1 x7_1)
                ·rw [if_pos c60] at H
                 have c60b0 : ((rd l0_1 x6_1) == (rd l1_1 x7_1)) = true := beq_iff_eq.mpr c60
                 have c60b1 : ((rd l0_1 x6_1) != (rd l1_1 x7_1)) = false := bne_eq_false_iff_eq.mpr c60
                 clear c60
                 have H' := Aside0.mk H
                 clear H
                 have hnb61 := NB334_335.out
                 have hnc61 := NB335_334.out
                 have hcz62_0 : wc.cell? ⟨gb334, 0, none⟩ = some (.slice A0_0 l0_0.length c0_0) := (blk_cell BK334.out 0).trans rfl
                 have hcz62_1 : wc.cell? ⟨gb334, 1, none⟩ = some (.slice A0_1 l0_1.length c0_1) := (blk_cell BK334.out 1).trans rfl
                 have hcz62_2 : wc.cell? ⟨gb334, 2, none⟩ = some (.slice A0_2 l0_2.length c0_2) := (blk_cell BK334.out 2).trans rfl
                 have hcz62_3 : wc.cell? ⟨gb334, 3, none⟩ = some (.slice A0_3 l0_3.length c0_3) := (blk_cell BK334.out 3).trans rfl
                 have hcz62_4 : wc.cell? ⟨gb334, 4, none⟩ = some (.slice A0_4 l0_4.length c0_4) := (blk_cell BK334.out 4).trans rfl
                 have hfz62_0 := blk_frozen BK334.out 0
                 have hfz62_1 := blk_frozen BK334.out 1
                 have hfz62_2 := blk_frozen BK334.out 2
                 have hfz62_3 := blk_frozen BK334.out 3
                 have hfz62_4 := blk_frozen BK334.out 4
                 have p353 : 0 ≤ (x6_1 : Int) := of_decide_eq_true (by first | (with_reducible assumption) | assumption)
                 have q353 : x6_1 < (l0_1.length : Int) := of_decide_eq_true (by first | (with_reducible assumption) | assumption)
                 obtain ⟨ad353, e353, hx353_0⟩ := Kd.at_int HR0_1.out x6_1 p353 q353
                 cases e353
                 replace hx353_0 := (HB.out.cell (World.block_lt_of_cell? w _ hx353_0)).trans hx353_0
                 replace p353 := eq_true p353
                 replace q353 := eq_true q353
                 have hcz63_0 : wc.cell? ⟨gb335, 0, none⟩ = some (.slice A1_0 l1_0.length c1_0) := (blk_cell BK335.out 0).trans rfl
                 have hcz63_1 : wc.cell? ⟨gb335, 1, none⟩ = some (.slice A1_1 l1_1.length c1_1) := (blk_cell BK335.out 1).trans rfl
                 have hcz63_2 : wc.cell? ⟨gb335, 2, none⟩ = some (.slice A1_2 l1_2.length c1_2) := (blk_cell BK335.out 2).trans rfl
                 have hcz63_3 : wc.cell? ⟨gb335, 3, none⟩ = some (.slice A1_3 l1_3.length c1_3) := (blk_cell BK335.out 3).trans rfl
                 have hcz63_4 : wc.cell? ⟨gb335, 4, none⟩ = some (.slice A1_4 l1_4.length c1_4) := (blk_cell BK335.out 4).trans rfl
                 have hfz63_0 := blk_frozen BK335.out 0
                 have hfz63_1 := blk_frozen BK335.out 1
                 have hfz63_2 := blk_frozen BK335.out 2
                 have hfz63_3 := blk_frozen BK335.out 3
                 have hfz63_4 := blk_frozen BK335.out 4
                 have p354 : 0 ≤ (x7_1 : Int) := of_decide_eq_true (by first | (with_reducible assumption) | assumption)
                 have q354 : x7_1 < (l1_1.length : Int) := of_decide_eq_true (by first | (with_reducible assumption) | assumption)
                 obtain ⟨ad354, e354, hx354_0⟩ := Kd.at_int HR1_1.out x7_1 p354 q354
                 cases e354
                 replace hx354_0 := (HB.out.cell (World.block_lt_of_cell? w _ hx354_0)).trans hx354_0
                 replace p354 := eq_true p354
                 replace q354 := eq_true q354
                 go_wp2
                 repeat (go_quiet (fail); try go_wp2)
                 go_roundg kj36
                 case measure => have := HK1.out; have := HJ6.out; have := HJ14.out; have := HJ36.out; omega
                 case rel => exact ⟨(x5_1), (wrap64 (x6_1 + 1)), (wrap64 (x7_1 + 1)), (by first | rfl | (simp; done) | (simp [*]; done)), (by first | rfl | (simp; done) | (simp [*]; done)), H', ⟨by have := HK1.out; have := HJ6.out; have := HJ14.out; have := HJ36.out; omega⟩, ⟨by (with_reducible repeat (first | apply Kd.R_alloc | apply Kd.R_drewN | apply Kd.R_drew)); exact HO_5.out⟩, ⟨by (with_reducible repeat (first | refine blk_drewN ?_ _ | refine blk_drew ?_ | refine blk_alloc ?_ _)); exact BK334.out⟩, ⟨by (with_reducible repeat (first | refine blk_drewN ?_ _ | refine blk_drew ?_ | refine blk_alloc ?_ _)); exact BK335.out⟩, ⟨by repeat (first | (with_reducible first | exact HB.out | apply below_alloc | apply pw_below_drewN | apply below_drew1 | refine below_set ?_ GE334.out | refine below_set ?_ GE335.out) | exact HB.out)⟩⟩
                ·rw [if_neg c60] at H
                 have c60b0 : ((rd l0_1 x6_1) == (rd l1_1 x7_1)) = false := beq_eq_false_iff_ne.mpr c60
                 have c60b1 : ((rd l0_1 x6_1) != (rd l1_1 x7_1)) = true := bne_iff_ne.mpr c60
                 by_cases c64 : x6_1 < (l0_0.length : Int)
                 ·rw [if_pos c64] at H
                  have c64b0 : decide (x6_1 < (l0_0.length : Int)) = true := decide_eq_true c64
                  clear c64
                  by_cases c65 : x5_1.length < 5864062014805
                  ·rw [if_pos c65] at H
                   have LMc65 := Aside0.mk c65
                   clear c65
                   obtain ⟨y356, hy356⟩ : ∃ y_ : List (S104), y_ = (x5_1 ++ [(⟨rdOf ByteArray.empty l0_0 x6_1, 3⟩ : S104)]) := ⟨_, rfl⟩
                   replace H : (musterref04_Diff.l0 kj36 y356 (wrap64 (x6_1 + 1)) (wrap64 (x7_1 + 1)) l0_0 l0_1 l0_2 l0_3 l0_4 l1_0 l1_1 l1_2 l1_3 l1_4) = some r := by first | (rw [hy356]; with_reducible exact H) | (have H2_ := (Option.bind_some _ _).symm.trans H; rw [hy356]; with_reducible exact H2_) | (have H2_ := (Option.bind_some _ _).symm.trans H; with_reducible exact H2_) | with_reducible exact H | (rw [hy356]; exact H) | exact H
                   have Ny356 := Aside0.mk hy356
                   clear hy356
                   have H' := Aside0.mk H
                   clear H
                   have hnb66 := NB334_335.out
                   have hnc66 := NB335_334.out
                   have hcz67_0 : wc.cell? ⟨gb334, 0, none⟩ = some (.slice A0_0 l0_0.length c0_0) := (blk_cell BK334.out 0).trans rfl
                   have hcz67_1 : wc.cell? ⟨gb334, 1, none⟩ = some (.slice A0_1 l0_1.length c0_1) := (blk_cell BK334.out 1).trans rfl
                   have hcz67_2 : wc.cell? ⟨gb334, 2, none⟩ = some (.slice A0_2 l0_2.length c0_2) := (blk_cell BK334.out 2).trans rfl
                   have hcz67_3 : wc.cell? ⟨gb334, 3, none⟩ = some (.slice A0_3 l0_3.length c0_3) := (blk_cell BK334.out 3).trans rfl
                   have hcz67_4 : wc.cell? ⟨gb334, 4, none⟩ = some (.slice A0_4 l0_4.length c0_4) := (blk_cell BK334.out 4).trans rfl
                   have hfz67_0 := blk_frozen BK334.out 0
                   have hfz67_1 := blk_frozen BK334.out 1
                   have hfz67_2 := blk_frozen BK334.out 2
                   have hfz67_3 := blk_frozen BK334.out 3
                   have hfz67_4 := blk_frozen BK334.out 4
                   have p353 : 0 ≤ (x6_1 : Int) := of_decide_eq_true (by first | (with_reducible assumption) | assumption)
                   have q353 : x6_1 < (l0_1.length : Int) := of_decide_eq_true (by first | (with_reducible assumption) | assumption)
                   obtain ⟨ad353, e353, hx353_0⟩ := Kd.at_int HR0_1.out x6_1 p353 q353
                   cases e353
                   replace hx353_0 := (HB.out.cell (World.block_lt_of_cell? w _ hx353_0)).trans hx353_0
                   replace p353 := eq_true p353
                   replace q353 := eq_true q353
                   have hcz68_0 : wc.cell? ⟨gb335, 0, none⟩ = some (.slice A1_0 l1_0.length c1_0) := (blk_cell BK335.out 0).trans rfl
                   have hcz68_1 : wc.cell? ⟨gb335, 1, none⟩ = some (.slice A1_1 l1_1.length c1_1) := (blk_cell BK335.out 1).trans rfl
                   have hcz68_2 : wc.cell? ⟨gb335, 2, none⟩ = some (.slice A1_2 l1_2.length c1_2) := (blk_cell BK335.out 2).trans rfl
                   have hcz68_3 : wc.cell? ⟨gb335, 3, none⟩ = some (.slice A1_3 l1_3.length c1_3) := (blk_cell BK335.out 3).trans rfl
                   have hcz68_4 : wc.cell? ⟨gb335, 4, none⟩ = some (.slice A1_4 l1_4.length c1_4) := (blk_cell BK335.out 4).trans rfl
                   have hfz68_0 := blk_frozen BK335.out 0
                   have hfz68_1 := blk_frozen BK335.out 1
                   have hfz68_2 := blk_frozen BK335.out 2
                   have hfz68_3 := blk_frozen BK335.out 3
                   have hfz68_4 := blk_frozen BK335.out 4
                   have p354 : 0 ≤ (x7_1 : Int) := of_decide_eq_true (by first | (with_reducible assumption) | assumption)
                   have q354 : x7_1 < (l1_1.length : Int) := of_decide_eq_true (by first | (with_reducible assumption) | assumption)
                   obtain ⟨ad354, e354, hx354_0⟩ := Kd.at_int HR1_1.out x7_1 p354 q354
                   cases e354
                   replace hx354_0 := (HB.out.cell (World.block_lt_of_cell? w _ hx354_0)).trans hx354_0
                   replace p354 := eq_true p354
                   replace q354 := eq_true q354
                   have p355 : 0 ≤ (x6_1 : Int) := of_decide_eq_true (by first | (with_reducible assumption) | assumption)
                   have q355 : x6_1 < (l0_0.length : Int) := of_decide_eq_true (by first | (with_reducible assumption) | assumption)
                   obtain ⟨ad355, e355, hx355_0⟩ := Kd.at_string HR0_0.out x6_1 p355 q355
                   cases e355
                   replace hx355_0 := (HB.out.cell (World.block_lt_of_cell? w _ hx355_0)).trans hx355_0
                   replace p355 := eq_true p355
                   replace q355 := eq_true q355
                   go_wp2_with (first | ((with_reducible refine gate_builtin (b := .append) (xs := #[.tmp 97, .tmp 104]) rfl ?_); (try (refine gate_guard (by rfl) ?_; dsimp only)); at_builtin; refine Kd.R_append k104 (w0 := w) w.heap.size rfl (.tmp 97) (.tmp 104) 101 104 (.agg #[(.string ⟨#[]⟩), (.int .i64 0)]) 24 rfl Try.underlying101 info104 rfl (by decide) (by omega) u5 x5_1 (⟨rdOf ByteArray.empty l0_0 x6_1, 3⟩ : S104) [.string (rdOf ByteArray.empty l0_0 x6_1), .int .i64 3] (fun _ => True) (fun _ => False) rfl rfl ?aP (fun _ hk => hk.elim) ?aF ?aO ?aB ?aS ?aL ?_; (case aP => exact k104_mkM _ _ _ (⟨rdOf ByteArray.empty l0_0 x6_1, 3⟩ : S104)); (case aB => exact (by repeat (first | (with_reducible first | exact HB.out | apply below_alloc | apply pw_below_drewN | apply below_drew1 | refine below_set ?_ GE334.out | refine below_set ?_ GE335.out) | exact HB.out))); (case aF => exact (fun _ _ => trivial)); (case aO => exact (by (with_reducible repeat (first | apply Kd.R_alloc | apply Kd.R_drewN | apply Kd.R_drew)); exact HO_5.out)); (case aS => exact (below_size (by repeat (first | (with_reducible first | exact HB.out | apply below_alloc | apply pw_below_drewN | apply below_drew1 | refine below_set ?_ GE334.out | refine below_set ?_ GE335.out) | exact HB.out)))); (case aL => have := LMc65.out; omega); intro v357 w69 ho hb hg hat; rw [← Ny356.out] at ho; have n0_ := Aside0.mk (blk_grown (g := gb334) (o := .cells #[.slice (some ad355) l0_0.length c0_0, .slice (some ad353) l0_1.length c0_1, .slice A0_2 l0_2.length c0_2, .slice A0_3 l0_3.length c0_3, .slice A0_4 l0_4.length c0_4] 28 (0, 0)) (by (with_reducible repeat (first | refine blk_drewN ?_ _ | refine blk_drew ?_ | refine blk_alloc ?_ _)); exact BK334.out) hg (Kd.R_ne HO_5.out BK334.out (by decide))); have n1_ := Aside0.mk (blk_grown (g := gb335) (o := .cells #[.slice A1_0 l1_0.length c1_0, .slice (some ad354) l1_1.length c1_1, .slice A1_2 l1_2.length c1_2, .slice A1_3 l1_3.length c1_3, .slice A1_4 l1_4.length c1_4] 28 (0, 0)) (by (with_reducible repeat (first | refine blk_drewN ?_ _ | refine blk_drew ?_ | refine blk_alloc ?_ _)); exact BK335.out) hg (Kd.R_ne HO_5.out BK335.out (by decide))); have n2_ := Aside0.mk (hb); have n3_ := Aside0.mk (ho); clear BK334; clear BK335; clear HB; clear HO_5; have BK334 := n0_; have BK335 := n1_; have HB := n2_; have HO358 := n3_; clear n0_ n1_ n2_ n3_; clear ho hb hg hat))
                   repeat (go_quiet (first | ((with_reducible refine gate_builtin (b := .append) (xs := #[.tmp 97, .tmp 104]) rfl ?_); (try (refine gate_guard (by rfl) ?_; dsimp only)); at_builtin; refine Kd.R_append k104 (w0 := w) w.heap.size rfl (.tmp 97) (.tmp 104) 101 104 (.agg #[(.string ⟨#[]⟩), (.int .i64 0)]) 24 rfl Try.underlying101 info104 rfl (by decide) (by omega) u5 x5_1 (⟨rdOf ByteArray.empty l0_0 x6_1, 3⟩ : S104) [.string (rdOf ByteArray.empty l0_0 x6_1), .int .i64 3] (fun _ => True) (fun _ => False) rfl rfl ?aP (fun _ hk => hk.elim) ?aF ?aO ?aB ?aS ?aL ?_; (case aP => exact k104_mkM _ _ _ (⟨rdOf ByteArray.empty l0_0 x6_1, 3⟩ : S104)); (case aB => exact (by repeat (first | (with_reducible first | exact HB.out | apply below_alloc | apply pw_below_drewN | apply below_drew1 | refine below_set ?_ GE334.out | refine below_set ?_ GE335.out) | exact HB.out))); (case aF => exact (fun _ _ => trivial)); (case aO => exact (by (with_reducible repeat (first | apply Kd.R_alloc | apply Kd.R_drewN | apply Kd.R_drew)); exact HO_5.out)); (case aS => exact (below_size (by repeat (first | (with_reducible first | exact HB.out | apply below_alloc | apply pw_below_drewN | apply below_drew1 | refine below_set ?_ GE334.out | refine below_set ?_ GE335.out) | exact HB.out)))); (case aL => have := LMc65.out; omega); intro v357 w69 ho hb hg hat; rw [← Ny356.out] at ho; have n0_ := Aside0.mk (blk_grown (g := gb334) (o := .cells #[.slice (some ad355) l0_0.length c0_0, .slice (some ad353) l0_1.length c0_1, .slice A0_2 l0_2.length c0_2, .slice A0_3 l0_3.length c0_3, .slice A0_4 l0_4.length c0_4] 28 (0, 0)) (by (with_reducible repeat (first | refine blk_drewN ?_ _ | refine blk_drew ?_ | refine blk_alloc ?_ _)); exact BK334.out) hg (Kd.R_ne HO_5.out BK334.out (by decide))); have n1_ := Aside0.mk (blk_grown (g := gb335) (o := .cells #[.slice A1_0 l1_0.length c1_0, .slice (some ad354) l1_1.length c1_1, .slice A1_2 l1_2.length c1_2, .slice A1_3 l1_3.length c1_3, .slice A1_4 l1_4.length c1_4] 28 (0, 0)) (by (with_reducible repeat (first | refine blk_drewN ?_ _ | refine blk_drew ?_ | refine blk_alloc ?_ _)); exact BK335.out) hg (Kd.R_ne HO_5.out BK335.out (by decide))); have n2_ := Aside0.mk (hb); have n3_ := Aside0.mk (ho); clear BK334; clear BK335; clear HB; clear HO_5; have BK334 := n0_; have BK335 := n1_; have HB := n2_; have HO358 := n3_; clear n0_ n1_ n2_ n3_; clear ho hb hg hat)); try go_wp2_with (first | ((with_reducible refine gate_builtin (b := .append) (xs := #[.tmp 97, .tmp 104]) rfl ?_); (try (refine gate_guard (by rfl) ?_; dsimp only)); at_builtin; refine Kd.R_append k104 (w0 := w) w.heap.size rfl (.tmp 97) (.tmp 104) 101 104 (.agg #[(.string ⟨#[]⟩), (.int .i64 0)]) 24 rfl Try.underlying101 info104 rfl (by decide) (by omega) u5 x5_1 (⟨rdOf ByteArray.empty l0_0 x6_1, 3⟩ : S104) [.string (rdOf ByteArray.empty l0_0 x6_1), .int .i64 3] (fun _ => True) (fun _ => False) rfl rfl ?aP (fun _ hk => hk.elim) ?aF ?aO ?aB ?aS ?aL ?_; (case aP => exact k104_mkM _ _ _ (⟨rdOf ByteArray.empty l0_0 x6_1, 3⟩ : S104)); (case aB => exact (by repeat (first | (with_reducible first | exact HB.out | apply below_alloc | apply pw_below_drewN | apply below_drew1 | refine below_set ?_ GE334.out | refine below_set ?_ GE335.out) | exact HB.out))); (case aF => exact (fun _ _ => trivial)); (case aO => exact (by (with_reducible repeat (first | apply Kd.R_alloc | apply Kd.R_drewN | apply Kd.R_drew)); exact HO_5.out)); (case aS => exact (below_size (by repeat (first | (with_reducible first | exact HB.out | apply below_alloc | apply pw_below_drewN | apply below_drew1 | refine below_set ?_ GE334.out | refine below_set ?_ GE335.out) | exact HB.out)))); (case aL => have := LMc65.out; omega); intro v357 w69 ho hb hg hat; rw [← Ny356.out] at ho; have n0_ := Aside0.mk (blk_grown (g := gb334) (o := .cells #[.slice (some ad355) l0_0.length c0_0, .slice (some ad353) l0_1.length c0_1, .slice A0_2 l0_2.length c0_2, .slice A0_3 l0_3.length c0_3, .slice A0_4 l0_4.length c0_4] 28 (0, 0)) (by (with_reducible repeat (first | refine blk_drewN ?_ _ | refine blk_drew ?_ | refine blk_alloc ?_ _)); exact BK334.out) hg (Kd.R_ne HO_5.out BK334.out (by decide))); have n1_ := Aside0.mk (blk_grown (g := gb335) (o := .cells #[.slice A1_0 l1_0.length c1_0, .slice (some ad354) l1_1.length c1_1, .slice A1_2 l1_2.length c1_2, .slice A1_3 l1_3.length c1_3, .slice A1_4 l1_4.length c1_4] 28 (0, 0)) (by (with_reducible repeat (first | refine blk_drewN ?_ _ | refine blk_drew ?_ | refine blk_alloc ?_ _)); exact BK335.out) hg (Kd.R_ne HO_5.out BK335.out (by decide))); have n2_ := Aside0.mk (hb); have n3_ := Aside0.mk (ho); clear BK334; clear BK335; clear HB; clear HO_5; have BK334 := n0_; have BK335 := n1_; have HB := n2_; have HO358 := n3_; clear n0_ n1_ n2_ n3_; clear ho hb hg hat)))
                   go_roundg kj36
                   case measure => have := HK1.out; have := HJ6.out; have := HJ14.out; have := HJ36.out; omega
                   case rel => exact ⟨(y356), (wrap64 (x6_1 + 1)), (wrap64 (x7_1 + 1)), (by first | rfl | (simp; done) | (simp [*]; done)), (by first | rfl | (simp; done) | (simp [*]; done)), H', ⟨by have := HK1.out; have := HJ6.out; have := HJ14.out; have := HJ36.out; omega⟩, ⟨by (with_reducible repeat (first | apply Kd.R_alloc | apply Kd.R_drewN | apply Kd.R_drew)); exact HO358.out⟩, ⟨by (with_reducible repeat (first | refine blk_drewN ?_ _ | refine blk_drew ?_ | refine blk_alloc ?_ _)); exact BK334.out⟩, ⟨by (with_reducible repeat (first | refine blk_drewN ?_ _ | refine blk_drew ?_ | refine blk_alloc ?_ _)); exact BK335.out⟩, ⟨by repeat (first | (with_reducible first | exact HB.out | apply below_alloc | apply pw_below_drewN | apply below_drew1 | refine below_set ?_ GE334.out | refine below_set ?_ GE335.out) | exact HB.out)⟩⟩
                  ·rw [if_neg c65] at H
                   exact absurd H (by simp)
                 ·rw [if_neg c64] at H
                  exact absurd H (by simp)
               ·rw [if_neg c59] at H
                exact absurd H (by simp)
              ·rw [if_neg c58] at H
               exact absurd H (by simp)
             ·rw [if_neg c57] at H
              exact absurd H (by simp)
            ·rw [if_neg c56] at H
             exact absurd H (by simp)
     ·replace c14 := Bool.eq_false_iff.mpr c14
      subst c14
      have H1 : (some x5_1) = some r := by rw [if_neg (show ¬ (false = true) by decide)] at H; exact H
      clear H
      have H := H1
      clear H1
      obtain rfl := Option.some.inj H
      go_wp2
      repeat (go_quiet (fail); try go_wp2)
      go_ret
      exact ⟨_, by first | rfl | (simp [errW_none, errW_some] <;> rfl) | (simp [*, errW_none, errW_some] <;> rfl), by (with_reducible repeat (first | apply Kd.R_alloc | apply Kd.R_drewN | apply Kd.R_drew)); exact HO_5.out, by repeat (first | (with_reducible first | exact HB.out | apply below_alloc | apply pw_below_drewN | apply below_drew1 | refine below_set ?_ GE334.out | refine below_set ?_ GE335.out) | exact HB.out)⟩
end Go.Proofs.Ytjhgknagmiekeaa.K
-- Written by a program of this session (wip/tools/printfam.py) out of the translation; hand-proved contracts set in. Lean checks it.
namespace Go.Proofs.Ytjhgknagmiekeaa.K
open Go.RowKit Go.Proofs.YtjhgknagmiekeaaW.PrintWords Go.Proofs.YtjhgknagmiekeaaW.PrintLast Go.Proofs.YtjhgknagmiekeaaW.PrintMore
attribute [local go_sem] max2_int min2_int max_two min_two max_three min_three max_four min_four   -- for this text's walks alone
set_option linter.unusedVariables false
set_option linter.unusedSimpArgs false
theorem eqA104 (d : Nat) (w : World) (x0 y0 : ByteArray) (x1 y1 : Int) :
    (Op.equalIn (d + 2) 104 (.agg #[.string x0, .int .i64 x1]) (.agg #[.string y0, .int .i64 y1])).run Try.prog w = .ok (x0.toList == y0.toList && (x1 == y1)) w := by
  refine eqA_of Try.underlying104 (by kernel_rfl) ?_
  refine eqf_cons (by rfl) (by go_simp; rfl) (by go_simp; rfl) (by go_simp) ?_
  exact eqf_last (by rfl) (by go_simp; rfl) (by go_simp; rfl) (by go_simp)
end Go.Proofs.Ytjhgknagmiekeaa.K
-- Written by a program of this session (wip/tools/printfam.py) out of the translation; hand-proved contracts set in. Lean checks it.
namespace Go.Proofs.Ytjhgknagmiekeaa.K
open Go.RowKit Go.Proofs.YtjhgknagmiekeaaW.PrintWords Go.Proofs.YtjhgknagmiekeaaW.PrintLast Go.Proofs.YtjhgknagmiekeaaW.PrintMore
attribute [local go_sem] max2_int min2_int max_two min_two max_three min_three max_four min_four   -- for this text's walks alone
set_option linter.unusedVariables false
set_option linter.unusedSimpArgs false
attribute [local go_sem high] eqA104
def musterlaw04_sameChanges.l0 : Nat → List (S104) → List (S104) → Int → Int → Option (Bool)
 | 0, _, _, _, _ => none
 | k + 1, x0, x1, x12, x13 => if x13 < x12 then (if 0 ≤ x13 then (if x13 < (x0.length : Int) then (if x13 < (x1.length : Int) then (if (!((((rd_T104 x0 x13).f0).toList) == (((rd_T104 x1 x13).f0).toList)) || (!(((rd_T104 x0 x13).f1) == ((rd_T104 x1 x13).f1)))) = true then (some false) else (musterlaw04_sameChanges.l0 k x0 x1 x12 (wrap64 (x13 + 1)))) else (none)) else (none)) else (none)) else (some true)
def musterlaw04_sameChanges.f (k : Nat) (l0 : List (S104)) (l1 : List (S104)) : Option (Bool) := if (l0.length : Int) = (l1.length : Int) then (musterlaw04_sameChanges.l0 k l0 l1 (l0.length : Int) 0) else (some false)
theorem musterlaw04_sameChanges.mono_l : ∀ k, (∀ y0 y1 y2 y3, LeO (musterlaw04_sameChanges.l0 k y0 y1 y2 y3) (musterlaw04_sameChanges.l0 (k + 1) y0 y1 y2 y3))
 | 0 => fun _ _ _ _ r h => by simp [musterlaw04_sameChanges.l0] at h
 | k + 1 => by
  have ih0 := musterlaw04_sameChanges.mono_l k
  ·intro y0 y1 y2 y3
   unfold musterlaw04_sameChanges.l0
   repeat' first
   | (with_reducible exact ih0 _ _ _ _)
   | (with_reducible exact LeO.refl _)
   | (with_reducible exact LeO.none _)
   | (with_reducible refine LeO.ite ?_ ?_)
   | (with_reducible refine LeO.bind ?_ (fun _ => ?_))
   | exact ih0 _ _ _ _
   | exact LeO.none _
   | refine LeO.ite ?_ ?_
   | refine LeO.bind ?_ (fun _ => ?_)
theorem musterlaw04_sameChanges.mono : ∀ a0 a1 k, LeO (musterlaw04_sameChanges.f k a0 a1) (musterlaw04_sameChanges.f (k + 1) a0 a1) := by
 intro a0 a1 k
 have ih0 := musterlaw04_sameChanges.mono_l k
 unfold musterlaw04_sameChanges.f
 repeat' first
   | (with_reducible exact ih0 _ _ _ _)
   | (with_reducible exact LeO.refl _)
   | (with_reducible exact LeO.none _)
   | (with_reducible refine LeO.ite ?_ ?_)
   | (with_reducible refine LeO.bind ?_ (fun _ => ?_))
   | exact ih0 _ _ _ _
   | exact LeO.none _
   | refine LeO.ite ?_ ?_
   | refine LeO.bind ?_ (fun _ => ?_)
set_option maxHeartbeats 8000000 in
set_option maxRecDepth 100000 in
theorem musterlaw04_sameChanges.calls (k : Nat) (A0 : Option Addr) (c0 : Nat) (l0 : List (S104)) (A1 : Option Addr) (c1 : Nat) (l1 : List (S104)) (r : Bool) (w : World) (hr0 : Kd.C k104 w A0 l0.length l0) (hc0 : l0.length ≤ c0) (hr1 : Kd.C k104 w A1 l1.length l1) (hc1 : l1.length ≤ c1) (h : musterlaw04_sameChanges.f k l0 l1 = some r) :
  Calls Try.prog 68 #[.slice A0 l0.length c0, .slice A1 l1.length c1] w fun e w' => e = .returned (.bool r) ∧ Drawn0 w w' := by
 have hu104 := Try.underlying104
 have HR0 := Aside0.mk hr0
 have HC0 := Aside0.mk hc0
 clear hr0 hc0
 have HR1 := Aside0.mk hr1
 have HC1 := Aside0.mk hc1
 clear hr1 hc1
 have H : (if (l0.length : Int) = (l1.length : Int) then (musterlaw04_sameChanges.l0 k l0 l1 (l0.length : Int) 0) else (some false)) = some r := h
 clear h
 by_cases c3 : (l0.length : Int) = (l1.length : Int)
 ·rw [if_pos c3] at H
  have c3b0 : ((l0.length : Int) == (l1.length : Int)) = true := beq_iff_eq.mpr c3
  have c3b1 : ((l0.length : Int) != (l1.length : Int)) = false := bne_eq_false_iff_eq.mpr c3
  have c3b2 : (l0.length == l1.length) = true := by first | simpa using c3 | (simp at c3 ⊢; omega)
  clear c3
  have H' := Aside0.mk H
  clear H
  go_enter Try.func68, Try.ntmps68
  go_wp2
  repeat (go_quiet (fail); try go_wp2)
  go_loopg [13] k (fun kq v13 w' => ∃ (x13_1 : Int), v13 = .int .i64 x13_1 ∧ Aside0 (musterlaw04_sameChanges.l0 kq l0 l1 (l0.length : Int) x13_1 = some r) ∧ Aside0 (kq ≤ k) ∧ Drawn0 w w')
  case atStart => exact ⟨(0), (by first | rfl | (simp; done) | (simp [*]; done)), H', ⟨Nat.le_refl _⟩, by repeat (first | exact Drawn0.refl _ | apply Drawn0.step)⟩
  case round =>
   clear H'
   try clear c1
   try clear p2
   try clear c3
   try clear c3b0
   try clear c3b1
   try clear c3b2
   obtain ⟨x13_1, rfl, HA, HK1, ⟨m1, rfl⟩⟩ := hrel
   cases gk with
   | zero => exact absurd HA.out (by simp [musterlaw04_sameChanges.l0])
   | succ k1 =>
    have H := HA.out
    clear HA
    simp only [musterlaw04_sameChanges.l0] at H
    by_cases c4 : x13_1 < (l0.length : Int)
    ·rw [if_pos c4] at H
     have c4b0 : decide (x13_1 < (l0.length : Int)) = true := decide_eq_true c4
     clear c4
     by_cases c5 : 0 ≤ x13_1
     ·rw [if_pos c5] at H
      have c5b0 : decide (0 ≤ x13_1) = true := decide_eq_true c5
      clear c5
      by_cases c6 : x13_1 < (l0.length : Int)
      ·rw [if_pos c6] at H
       have c6b0 : decide (x13_1 < (l0.length : Int)) = true := decide_eq_true c6
       clear c6
       by_cases c7 : x13_1 < (l1.length : Int)
       ·rw [if_pos c7] at H
        have c7b0 : decide (x13_1 < (l1.length : Int)) = true := decide_eq_true c7
        clear c7
        by_cases c8 : (!((((rd_T104 l0 x13_1).f0).toList) == (((rd_T104 l1 x13_1).f0).toList)) || (!(((rd_T104 l0 x13_1).f1) == ((rd_T104 l1 x13_1).f1)))) = true
        ·rw [if_pos c8] at H
         have c8b0 : (!((((rd_T104 l0 x13_1).f0).toList) == (((rd_T104 l1 x13_1).f0).toList)) || (!(((rd_T104 l0 x13_1).f1) == ((rd_T104 l1 x13_1).f1)))) = true := c8
         clear c8
         obtain rfl := Option.some.inj H
         have p332 : 0 ≤ (x13_1 : Int) := of_decide_eq_true (by first | (with_reducible assumption) | assumption)
         have q332 : x13_1 < (l0.length : Int) := of_decide_eq_true (by first | (with_reducible assumption) | assumption)
         obtain ⟨ad332, e332, hx332_0, hx332_1⟩ := at_T104 HR0.out x13_1 p332 q332
         cases e332
         replace p332 := eq_true p332
         replace q332 := eq_true q332
         have p333 : 0 ≤ (x13_1 : Int) := of_decide_eq_true (by first | (with_reducible assumption) | assumption)
         have q333 : x13_1 < (l1.length : Int) := of_decide_eq_true (by first | (with_reducible assumption) | assumption)
         obtain ⟨ad333, e333, hx333_0, hx333_1⟩ := at_T104 HR1.out x13_1 p333 q333
         cases e333
         replace p333 := eq_true p333
         replace q333 := eq_true q333
         go_wp2
         repeat (go_quiet (fail); try go_wp2)
         go_ret
         exact ⟨by first | rfl | (simp; done) | (simp [*]; done), by repeat (first | exact Drawn0.refl _ | apply Drawn0.step)⟩
        ·rw [if_neg c8] at H
         have c8b0 : (!((((rd_T104 l0 x13_1).f0).toList) == (((rd_T104 l1 x13_1).f0).toList)) || (!(((rd_T104 l0 x13_1).f1) == ((rd_T104 l1 x13_1).f1)))) = false := by simpa using c8
         clear c8
         have H' := Aside0.mk H
         clear H
         have p332 : 0 ≤ (x13_1 : Int) := of_decide_eq_true (by first | (with_reducible assumption) | assumption)
         have q332 : x13_1 < (l0.length : Int) := of_decide_eq_true (by first | (with_reducible assumption) | assumption)
         obtain ⟨ad332, e332, hx332_0, hx332_1⟩ := at_T104 HR0.out x13_1 p332 q332
         cases e332
         replace p332 := eq_true p332
         replace q332 := eq_true q332
         have p333 : 0 ≤ (x13_1 : Int) := of_decide_eq_true (by first | (with_reducible assumption) | assumption)
         have q333 : x13_1 < (l1.length : Int) := of_decide_eq_true (by first | (with_reducible assumption) | assumption)
         obtain ⟨ad333, e333, hx333_0, hx333_1⟩ := at_T104 HR1.out x13_1 p333 q333
         cases e333
         replace p333 := eq_true p333
         replace q333 := eq_true q333
         go_wp2
         repeat (go_quiet (fail); try go_wp2)
         go_roundg k1
         case measure => have := HK1.out; omega
         case rel => exact ⟨(wrap64 (x13_1 + 1)), (by first | rfl | (simp; done) | (simp [*]; done)), H', ⟨by have := HK1.out; omega⟩, by repeat (first | exact Drawn0.refl _ | apply Drawn0.step)⟩
       ·rw [if_neg c7] at H
        exact absurd H (by simp)
      ·rw [if_neg c6] at H
       exact absurd H (by simp)
     ·rw [if_neg c5] at H
      exact absurd H (by simp)
    ·rw [if_neg c4] at H
     have c4b0 : decide (x13_1 < (l0.length : Int)) = false := decide_eq_false c4
     clear c4
     obtain rfl := Option.some.inj H
     go_wp2
     repeat (go_quiet (fail); try go_wp2)
     go_ret
     exact ⟨by first | rfl | (simp; done) | (simp [*]; done), by repeat (first | exact Drawn0.refl _ | apply Drawn0.step)⟩
 ·rw [if_neg c3] at H
  have c3b0 : ((l0.length : Int) == (l1.length : Int)) = false := beq_eq_false_iff_ne.mpr c3
  have c3b1 : ((l0.length : Int) != (l1.length : Int)) = true := bne_iff_ne.mpr c3
  have c3b2 : (l0.length == l1.length) = false := by first | simpa using c3 | (simp at c3 ⊢; omega)
  obtain rfl := Option.some.inj H
  go_enter Try.func68, Try.ntmps68
  go_wp2
  repeat (go_quiet (fail); try go_wp2)
  go_ret
  exact ⟨by first | rfl | (simp; done) | (simp [*]; done), by repeat (first | exact Drawn0.refl _ | apply Drawn0.step)⟩
end Go.Proofs.Ytjhgknagmiekeaa.K
