/- joined: K96 -/
import Derived.Test.YtjhgknagmiekeaaJR2
import Derived.Test.YtjhgknagmiekeaaJR5
-- Written by a program of this session (wip/tools/printfam.py) out of the translation; hand-proved contracts set in. Lean checks it.
namespace Go.Proofs.Ytjhgknagmiekeaa.K
open Go.RowKit Go.Proofs.YtjhgknagmiekeaaW.PrintWords Go.Proofs.YtjhgknagmiekeaaW.PrintLast Go.Proofs.YtjhgknagmiekeaaW.PrintMore
attribute [local go_sem] max2_int min2_int max_two min_two max_three min_three max_four min_four   -- for this text's walks alone
set_option linter.unusedVariables false
set_option linter.unusedSimpArgs false
mutual
def musterref03_Kids.l0 : Nat → Int → List Int → Int → List ByteArray → List Int → List Int → List ByteArray → List Int → Option (List Int)
  | 0, _, _, _, _, _, _, _, _ => none
  | k + 1, x1, x5, x6, x352000, x352001, x352002, x352003, x352004 => if x6 < (x352003.length : Int) then (if 0 ≤ x6 then (if 0 ≤ x1 then (if x1 < (x352003.length : Int) then ((musterref01_Starts.f (rdOf ByteArray.empty x352003 x6) (rdOf ByteArray.empty x352003 x1)).bind fun t357 => (musterref03_Kids.j1 k x1 x5 x6 t357 x352000 x352001 x352002 x352003 x352004)) else (none)) else (none)) else (none)) else (musterref03_Kids.j1 k x1 x5 x6 false x352000 x352001 x352002 x352003 x352004)
def musterref03_Kids.j1 : Nat → Int → List Int → Int → Bool → List ByteArray → List Int → List Int → List ByteArray → List Int → Option (List Int)
  | 0, _, _, _, _, _, _, _, _, _ => none
  | k + 1, x1, x5, x6, x27, x352000, x352001, x352002, x352003, x352004 => if x27 = true then (if (x5.length : Int) = 0 then (if x5.length < 17592186044416 then (musterref03_Kids.l0 k x1 (x5 ++ [x6]) (wrap64 (x6 + 1)) x352000 x352001 x352002 x352003 x352004) else (none)) else (if 0 ≤ x6 then (if x6 < (x352003.length : Int) then (if 0 ≤ (wrap64 ((x5.length : Int) - 1)) then (if (wrap64 ((x5.length : Int) - 1)) < (x5.length : Int) then (if 0 ≤ (rd x5 (wrap64 ((x5.length : Int) - 1))) then (if (rd x5 (wrap64 ((x5.length : Int) - 1))) < (x352003.length : Int) then ((musterref01_Starts.f (rdOf ByteArray.empty x352003 x6) (rdOf ByteArray.empty x352003 (rd x5 (wrap64 ((x5.length : Int) - 1))))).bind fun t364 => (if t364 = true then (musterref03_Kids.l0 k x1 x5 (wrap64 (x6 + 1)) x352000 x352001 x352002 x352003 x352004) else (if x5.length < 17592186044416 then (musterref03_Kids.l0 k x1 (x5 ++ [x6]) (wrap64 (x6 + 1)) x352000 x352001 x352002 x352003 x352004) else (none)))) else (none)) else (none)) else (none)) else (none)) else (none)) else (none))) else (some x5)
end
def musterref03_Kids.f (k : Nat) (l0_0 : List ByteArray) (l0_1 : List Int) (l0_2 : List Int) (l0_3 : List ByteArray) (l0_4 : List Int) (a1 : Int) : Option (List Int) := musterref03_Kids.l0 k a1 (([] : List Int)) (wrap64 (a1 + 1)) l0_0 l0_1 l0_2 l0_3 l0_4
theorem musterref03_Kids.mono_l : ∀ k, (∀ y0 y1 y2 y3 y4 y5 y6 y7, LeO (musterref03_Kids.l0 k y0 y1 y2 y3 y4 y5 y6 y7) (musterref03_Kids.l0 (k + 1) y0 y1 y2 y3 y4 y5 y6 y7)) ∧ (∀ y0 y1 y2 y3 y4 y5 y6 y7 y8, LeO (musterref03_Kids.j1 k y0 y1 y2 y3 y4 y5 y6 y7 y8) (musterref03_Kids.j1 (k + 1) y0 y1 y2 y3 y4 y5 y6 y7 y8))
  | 0 => ⟨fun _ _ _ _ _ _ _ _ r h => by simp [musterref03_Kids.l0] at h, fun _ _ _ _ _ _ _ _ _ r h => by simp [musterref03_Kids.j1] at h⟩
  | k + 1 => by
    obtain ⟨ih0, ih1⟩ := musterref03_Kids.mono_l k
    refine ⟨?_, ?_⟩
    · intro y0 y1 y2 y3 y4 y5 y6 y7
      unfold musterref03_Kids.l0
      repeat' first
      | (with_reducible exact ih0 _ _ _ _ _ _ _ _)
      | (with_reducible exact ih1 _ _ _ _ _ _ _ _ _)
      | (with_reducible exact LeO.refl _)
      | (with_reducible exact LeO.none _)
      | (with_reducible refine LeO.ite ?_ ?_)
      | (with_reducible refine LeO.bind ?_ (fun _ => ?_))
      | exact ih0 _ _ _ _ _ _ _ _
      | exact ih1 _ _ _ _ _ _ _ _ _
      | exact LeO.none _
      | refine LeO.ite ?_ ?_
      | refine LeO.bind ?_ (fun _ => ?_)
    · intro y0 y1 y2 y3 y4 y5 y6 y7 y8
      unfold musterref03_Kids.j1
      repeat' first
      | (with_reducible exact ih0 _ _ _ _ _ _ _ _)
      | (with_reducible exact ih1 _ _ _ _ _ _ _ _ _)
      | (with_reducible exact LeO.refl _)
      | (with_reducible exact LeO.none _)
      | (with_reducible refine LeO.ite ?_ ?_)
      | (with_reducible refine LeO.bind ?_ (fun _ => ?_))
      | exact ih0 _ _ _ _ _ _ _ _
      | exact ih1 _ _ _ _ _ _ _ _ _
      | exact LeO.none _
      | refine LeO.ite ?_ ?_
      | refine LeO.bind ?_ (fun _ => ?_)
theorem musterref03_Kids.mono : ∀ a0 a1 a2 a3 a4 a5 k, LeO (musterref03_Kids.f k a0 a1 a2 a3 a4 a5) (musterref03_Kids.f (k + 1) a0 a1 a2 a3 a4 a5) := by
  intro a0 a1 a2 a3 a4 a5 k
  obtain ⟨ih0, ih1⟩ := musterref03_Kids.mono_l k
  unfold musterref03_Kids.f
  repeat' first
      | (with_reducible exact ih0 _ _ _ _ _ _ _ _)
      | (with_reducible exact ih1 _ _ _ _ _ _ _ _ _)
      | (with_reducible exact LeO.refl _)
      | (with_reducible exact LeO.none _)
      | (with_reducible refine LeO.ite ?_ ?_)
      | (with_reducible refine LeO.bind ?_ (fun _ => ?_))
      | exact ih0 _ _ _ _ _ _ _ _
      | exact ih1 _ _ _ _ _ _ _ _ _
      | exact LeO.none _
      | refine LeO.ite ?_ ?_
      | refine LeO.bind ?_ (fun _ => ?_)
set_option maxHeartbeats 8000000 in
set_option maxRecDepth 100000 in
theorem musterref03_Kids.calls (k : Nat) (A0_0 : Option Addr) (c0_0 : Nat) (l0_0 : List ByteArray) (A0_1 : Option Addr) (c0_1 : Nat) (l0_1 : List Int) (A0_2 : Option Addr) (c0_2 : Nat) (l0_2 : List Int) (A0_3 : Option Addr) (c0_3 : Nat) (l0_3 : List ByteArray) (A0_4 : Option Addr) (c0_4 : Nat) (l0_4 : List Int) (a1 : Int) (r : List Int) (w : World) (hr0_0 : Kd.C Kd.string w A0_0 l0_0.length l0_0) (hc0_0 : l0_0.length ≤ c0_0) (hr0_1 : Kd.C (Kd.int .i64) w A0_1 l0_1.length l0_1) (hc0_1 : l0_1.length ≤ c0_1) (hr0_2 : Kd.C (Kd.int .i64) w A0_2 l0_2.length l0_2) (hc0_2 : l0_2.length ≤ c0_2) (hr0_3 : Kd.C Kd.string w A0_3 l0_3.length l0_3) (hc0_3 : l0_3.length ≤ c0_3) (hr0_4 : Kd.C (Kd.int .i64) w A0_4 l0_4.length l0_4) (hc0_4 : l0_4.length ≤ c0_4) (h : musterref03_Kids.f k l0_0 l0_1 l0_2 l0_3 l0_4 a1 = some r) :
    Calls Try.prog 96 #[.agg #[.slice A0_0 l0_0.length c0_0, .slice A0_1 l0_1.length c0_1, .slice A0_2 l0_2.length c0_2, .slice A0_3 l0_3.length c0_3, .slice A0_4 l0_4.length c0_4], .int .i64 a1] w fun e w' => ∃ v0_ : Value, e = .returned (v0_) ∧ Kd.R (Kd.int .i64) 3 w' w.heap.size (fun _ => True) v0_ r ∧ Below w.heap.size w w' := by
  have hu28 := Try.underlying28
  have HR0_0 := Aside0.mk hr0_0
  have HC0_0 := Aside0.mk hc0_0
  clear hr0_0 hc0_0
  have HR0_1 := Aside0.mk hr0_1
  have HC0_1 := Aside0.mk hc0_1
  clear hr0_1 hc0_1
  have HR0_2 := Aside0.mk hr0_2
  have HC0_2 := Aside0.mk hc0_2
  clear hr0_2 hc0_2
  have HR0_3 := Aside0.mk hr0_3
  have HC0_3 := Aside0.mk hc0_3
  clear hr0_3 hc0_3
  have HR0_4 := Aside0.mk hr0_4
  have HC0_4 := Aside0.mk hc0_4
  clear hr0_4 hc0_4
  have HB := Aside0.mk (Below.refl w.heap.size w)
  have H : (musterref03_Kids.l0 k a1 (([] : List Int)) (wrap64 (a1 + 1)) l0_0 l0_1 l0_2 l0_3 l0_4) = some r := h
  clear h
  obtain ⟨y352, hy352⟩ : ∃ y_ : List Int, y_ = (([] : List Int)) := ⟨_, rfl⟩
  replace H : (musterref03_Kids.l0 k a1 y352 (wrap64 (a1 + 1)) l0_0 l0_1 l0_2 l0_3 l0_4) = some r := by first | (rw [hy352]; with_reducible exact H) | (have H2_ := (Option.bind_some _ _).symm.trans H; rw [hy352]; with_reducible exact H2_) | (have H2_ := (Option.bind_some _ _).symm.trans H; with_reducible exact H2_) | with_reducible exact H | (rw [hy352]; exact H) | exact H
  have Ny352 := Aside0.mk hy352
  clear hy352
  have H' := Aside0.mk H
  clear H
  go_enter Try.func96, Try.ntmps96
  go_wp2_with (first | ((with_reducible refine gate_dst (N := 2) rfl ?_); (try (refine gate_guard (by rfl) ?_; dsimp only)); refine box_event ?hg (N := 2) ?hd (cs := #[.slice A0_0 l0_0.length c0_0, .slice A0_1 l0_1.length c0_1, .slice A0_2 l0_2.length c0_2, .slice A0_3 l0_3.length c0_3, .slice A0_4 l0_4.length c0_4]) (t := 28) ?hr ?_; (case hd => rfl); (case hg => rfl); (case hr => first | (go_simp; done) | (go_simp; rfl)); intro gb351 hg w3 hbox hb; have n0_ := Aside0.mk (below_step (by repeat (first | (with_reducible first | exact HB.out | apply below_alloc | apply pw_below_drewN | apply below_drew1) | exact HB.out)) hb); have n1_ := Aside0.mk (hbox); have n2_ := Aside0.mk ((by rw [hg]; exact (below_size (by repeat (first | (with_reducible first | exact HB.out | apply below_alloc | apply pw_below_drewN | apply below_drew1) | exact HB.out))) : w.heap.size ≤ gb351)); have n3_ := Aside0.mk ((by rw [hg]; exact (below_size (by repeat (first | (with_reducible first | exact HB.out | apply below_alloc | apply pw_below_drewN | apply below_drew1) | exact HB.out))) : w.heap.size ≤ gb351)); clear HB; have HB := n0_; have BK351 := n1_; have GW351 := n2_; have GE351 := n3_; clear n0_ n1_ n2_ n3_; clear hb hbox hg) | ((with_reducible refine gate_dst (N := 7) rfl ?_); (try (refine gate_guard (by rfl) ?_; dsimp only)); refine Kd.R_lit (Kd.int .i64) _ 3 ?hg (N := 7) ?hd (xs := ([] : List Int)) (inner := []) (ok := fun _ => True) (okp := fun _ => True) ?hr ?hp (fun _ hk => hk) trivial (Below.refl _ _) (Nat.le_refl _) (by simp) ?_; (case hd => rfl); (case hg => rfl); (case hr => first | (go_simp; done) | (go_simp; rfl)); (case hp => exact (Reps.none _ _)); intro v353 w4 ho5 hb hg_ hnew_; clear hg_ hnew_; (first | rw [← Ny352.out] at ho5 | (simp only [Int.reduceToNat] at ho5; rw [← Ny352.out] at ho5)); have n0_ := Aside0.mk (Kd.R_lower ho5 (below_size (by repeat (first | (with_reducible first | exact HB.out | apply below_alloc | apply pw_below_drewN | apply below_drew1 | refine below_set ?_ GE351.out) | exact HB.out)))); have n1_ := Aside0.mk (blk_below (g := gb351) (o := .cells #[.slice A0_0 l0_0.length c0_0, .slice A0_1 l0_1.length c0_1, .slice A0_2 l0_2.length c0_2, .slice A0_3 l0_3.length c0_3, .slice A0_4 l0_4.length c0_4] 28 (0, 0)) (by (with_reducible repeat (first | refine blk_drewN ?_ _ | refine blk_drew ?_ | refine blk_alloc ?_ _)); exact BK351.out) hb); have n2_ := Aside0.mk (below_step (by repeat (first | (with_reducible first | exact HB.out | apply below_alloc | apply pw_below_drewN | apply below_drew1 | refine below_set ?_ GE351.out) | exact HB.out)) hb); clear BK351; clear HB; have HO354 := n0_; have BK351 := n1_; have HB := n2_; clear n0_ n1_ n2_; clear hb ho5))
  repeat (go_quiet (first | ((with_reducible refine gate_dst (N := 2) rfl ?_); (try (refine gate_guard (by rfl) ?_; dsimp only)); refine box_event ?hg (N := 2) ?hd (cs := #[.slice A0_0 l0_0.length c0_0, .slice A0_1 l0_1.length c0_1, .slice A0_2 l0_2.length c0_2, .slice A0_3 l0_3.length c0_3, .slice A0_4 l0_4.length c0_4]) (t := 28) ?hr ?_; (case hd => rfl); (case hg => rfl); (case hr => first | (go_simp; done) | (go_simp; rfl)); intro gb351 hg w3 hbox hb; have n0_ := Aside0.mk (below_step (by repeat (first | (with_reducible first | exact HB.out | apply below_alloc | apply pw_below_drewN | apply below_drew1) | exact HB.out)) hb); have n1_ := Aside0.mk (hbox); have n2_ := Aside0.mk ((by rw [hg]; exact (below_size (by repeat (first | (with_reducible first | exact HB.out | apply below_alloc | apply pw_below_drewN | apply below_drew1) | exact HB.out))) : w.heap.size ≤ gb351)); have n3_ := Aside0.mk ((by rw [hg]; exact (below_size (by repeat (first | (with_reducible first | exact HB.out | apply below_alloc | apply pw_below_drewN | apply below_drew1) | exact HB.out))) : w.heap.size ≤ gb351)); clear HB; have HB := n0_; have BK351 := n1_; have GW351 := n2_; have GE351 := n3_; clear n0_ n1_ n2_ n3_; clear hb hbox hg) | ((with_reducible refine gate_dst (N := 7) rfl ?_); (try (refine gate_guard (by rfl) ?_; dsimp only)); refine Kd.R_lit (Kd.int .i64) _ 3 ?hg (N := 7) ?hd (xs := ([] : List Int)) (inner := []) (ok := fun _ => True) (okp := fun _ => True) ?hr ?hp (fun _ hk => hk) trivial (Below.refl _ _) (Nat.le_refl _) (by simp) ?_; (case hd => rfl); (case hg => rfl); (case hr => first | (go_simp; done) | (go_simp; rfl)); (case hp => exact (Reps.none _ _)); intro v353 w4 ho5 hb hg_ hnew_; clear hg_ hnew_; (first | rw [← Ny352.out] at ho5 | (simp only [Int.reduceToNat] at ho5; rw [← Ny352.out] at ho5)); have n0_ := Aside0.mk (Kd.R_lower ho5 (below_size (by repeat (first | (with_reducible first | exact HB.out | apply below_alloc | apply pw_below_drewN | apply below_drew1 | refine below_set ?_ GE351.out) | exact HB.out)))); have n1_ := Aside0.mk (blk_below (g := gb351) (o := .cells #[.slice A0_0 l0_0.length c0_0, .slice A0_1 l0_1.length c0_1, .slice A0_2 l0_2.length c0_2, .slice A0_3 l0_3.length c0_3, .slice A0_4 l0_4.length c0_4] 28 (0, 0)) (by (with_reducible repeat (first | refine blk_drewN ?_ _ | refine blk_drew ?_ | refine blk_alloc ?_ _)); exact BK351.out) hb); have n2_ := Aside0.mk (below_step (by repeat (first | (with_reducible first | exact HB.out | apply below_alloc | apply pw_below_drewN | apply below_drew1 | refine below_set ?_ GE351.out) | exact HB.out)) hb); clear BK351; clear HB; have HO354 := n0_; have BK351 := n1_; have HB := n2_; clear n0_ n1_ n2_; clear hb ho5)); try go_wp2_with (first | ((with_reducible refine gate_dst (N := 2) rfl ?_); (try (refine gate_guard (by rfl) ?_; dsimp only)); refine box_event ?hg (N := 2) ?hd (cs := #[.slice A0_0 l0_0.length c0_0, .slice A0_1 l0_1.length c0_1, .slice A0_2 l0_2.length c0_2, .slice A0_3 l0_3.length c0_3, .slice A0_4 l0_4.length c0_4]) (t := 28) ?hr ?_; (case hd => rfl); (case hg => rfl); (case hr => first | (go_simp; done) | (go_simp; rfl)); intro gb351 hg w3 hbox hb; have n0_ := Aside0.mk (below_step (by repeat (first | (with_reducible first | exact HB.out | apply below_alloc | apply pw_below_drewN | apply below_drew1) | exact HB.out)) hb); have n1_ := Aside0.mk (hbox); have n2_ := Aside0.mk ((by rw [hg]; exact (below_size (by repeat (first | (with_reducible first | exact HB.out | apply below_alloc | apply pw_below_drewN | apply below_drew1) | exact HB.out))) : w.heap.size ≤ gb351)); have n3_ := Aside0.mk ((by rw [hg]; exact (below_size (by repeat (first | (with_reducible first | exact HB.out | apply below_alloc | apply pw_below_drewN | apply below_drew1) | exact HB.out))) : w.heap.size ≤ gb351)); clear HB; have HB := n0_; have BK351 := n1_; have GW351 := n2_; have GE351 := n3_; clear n0_ n1_ n2_ n3_; clear hb hbox hg) | ((with_reducible refine gate_dst (N := 7) rfl ?_); (try (refine gate_guard (by rfl) ?_; dsimp only)); refine Kd.R_lit (Kd.int .i64) _ 3 ?hg (N := 7) ?hd (xs := ([] : List Int)) (inner := []) (ok := fun _ => True) (okp := fun _ => True) ?hr ?hp (fun _ hk => hk) trivial (Below.refl _ _) (Nat.le_refl _) (by simp) ?_; (case hd => rfl); (case hg => rfl); (case hr => first | (go_simp; done) | (go_simp; rfl)); (case hp => exact (Reps.none _ _)); intro v353 w4 ho5 hb hg_ hnew_; clear hg_ hnew_; (first | rw [← Ny352.out] at ho5 | (simp only [Int.reduceToNat] at ho5; rw [← Ny352.out] at ho5)); have n0_ := Aside0.mk (Kd.R_lower ho5 (below_size (by repeat (first | (with_reducible first | exact HB.out | apply below_alloc | apply pw_below_drewN | apply below_drew1 | refine below_set ?_ GE351.out) | exact HB.out)))); have n1_ := Aside0.mk (blk_below (g := gb351) (o := .cells #[.slice A0_0 l0_0.length c0_0, .slice A0_1 l0_1.length c0_1, .slice A0_2 l0_2.length c0_2, .slice A0_3 l0_3.length c0_3, .slice A0_4 l0_4.length c0_4] 28 (0, 0)) (by (with_reducible repeat (first | refine blk_drewN ?_ _ | refine blk_drew ?_ | refine blk_alloc ?_ _)); exact BK351.out) hb); have n2_ := Aside0.mk (below_step (by repeat (first | (with_reducible first | exact HB.out | apply below_alloc | apply pw_below_drewN | apply below_drew1 | refine below_set ?_ GE351.out) | exact HB.out)) hb); clear BK351; clear HB; have HO354 := n0_; have BK351 := n1_; have HB := n2_; clear n0_ n1_ n2_; clear hb ho5)))
  go_loopg [5, 6] k (fun kq v5 v6 w' => ∃ (x5_1 : List Int) (x6_1 : Int), v6 = .int .i64 x6_1 ∧ Aside0 (musterref03_Kids.l0 kq a1 x5_1 x6_1 l0_0 l0_1 l0_2 l0_3 l0_4 = some r) ∧ Aside0 (kq ≤ k) ∧ Aside0 (Kd.R (Kd.int .i64) 3 w' w.heap.size (fun _ => True) v5 x5_1) ∧ Aside0 (w'.heap[gb351]? = some (.cells #[(.slice A0_0 l0_0.length c0_0), (.slice A0_1 l0_1.length c0_1), (.slice A0_2 l0_2.length c0_2), (.slice A0_3 l0_3.length c0_3), (.slice A0_4 l0_4.length c0_4)] 28 (0, 0))) ∧ Aside0 (Below w.heap.size w w'))
  case atStart => exact ⟨(y352), (wrap64 (a1 + 1)), (by first | rfl | (simp; done) | (simp [*]; done)), H', ⟨Nat.le_refl _⟩, ⟨by (with_reducible repeat (first | apply Kd.R_alloc | apply Kd.R_drewN | apply Kd.R_drew)); exact HO354.out⟩, ⟨by (with_reducible repeat (first | refine blk_drewN ?_ _ | refine blk_drew ?_ | refine blk_alloc ?_ _)); exact BK351.out⟩, ⟨by repeat (first | (with_reducible first | exact HB.out | apply below_alloc | apply pw_below_drewN | apply below_drew1 | refine below_set ?_ GE351.out) | exact HB.out)⟩⟩
  case round =>
    clear H'
    try clear p2
    obtain ⟨x5_1, x6_1, rfl, HA, HK1, HO_5, BK351, HB⟩ := hrel
    cases gk with
    | zero => exact absurd HA.out (by simp [musterref03_Kids.l0])
    | succ k1 =>
      have H := HA.out
      clear HA
      simp only [musterref03_Kids.l0] at H
      have HC6 := Aside0.mk H
      clear H
      go_upto_region 3 with (fail)
      repeat (go_quiet (fail); go_upto_region 3 with (fail))
      go_cut [27] (fun v27 wc => ∃ (kq : Nat) (x27_5 : Bool), v27 = .bool x27_5 ∧ Aside0 (musterref03_Kids.j1 kq a1 x5_1 x6_1 x27_5 l0_0 l0_1 l0_2 l0_3 l0_4 = some r) ∧ Aside0 (kq ≤ k1) ∧ Aside0 (Kd.R (Kd.int .i64) 3 wc w.heap.size (fun _ => True) u5 x5_1) ∧ Aside0 (wc.heap[gb351]? = some (.cells #[(.slice A0_0 l0_0.length c0_0), (.slice A0_1 l0_1.length c0_1), (.slice A0_2 l0_2.length c0_2), (.slice A0_3 l0_3.length c0_3), (.slice A0_4 l0_4.length c0_4)] 28 (0, 0))) ∧ Aside0 (Below w.heap.size w wc))
      case first =>
        have H := HC6.out
        clear HC6
        by_cases c7 : x6_1 < (l0_3.length : Int)
        · rw [if_pos c7] at H
          have c7b0 : decide (x6_1 < (l0_3.length : Int)) = true := decide_eq_true c7
          clear c7
          (first | rw [c7b0] | (simp only [i64_w, i32_w]; rw [c7b0]) | skip)
          by_cases c8 : 0 ≤ x6_1
          · rw [if_pos c8] at H
            have c8b0 : decide (0 ≤ x6_1) = true := decide_eq_true c8
            clear c8
            by_cases c9 : 0 ≤ a1
            · rw [if_pos c9] at H
              have c9b0 : decide (0 ≤ a1) = true := decide_eq_true c9
              clear c9
              by_cases c10 : a1 < (l0_3.length : Int)
              · rw [if_pos c10] at H
                have c10b0 : decide (a1 < (l0_3.length : Int)) = true := decide_eq_true c10
                clear c10
                replace H := Option.bind_eq_some_iff.mp H
                obtain ⟨t357, A110, H⟩ := H
                replace H : (musterref03_Kids.j1 k1 a1 x5_1 x6_1 t357 l0_0 l0_1 l0_2 l0_3 l0_4) = some r := H
                have A11 := Aside0.mk A110
                clear A110
                have H' := Aside0.mk H
                clear H
                have hcz12_0 : wr.cell? ⟨gb351, 0, none⟩ = some (.slice A0_0 l0_0.length c0_0) := (blk_cell BK351.out 0).trans rfl
                have hcz12_1 : wr.cell? ⟨gb351, 1, none⟩ = some (.slice A0_1 l0_1.length c0_1) := (blk_cell BK351.out 1).trans rfl
                have hcz12_2 : wr.cell? ⟨gb351, 2, none⟩ = some (.slice A0_2 l0_2.length c0_2) := (blk_cell BK351.out 2).trans rfl
                have hcz12_3 : wr.cell? ⟨gb351, 3, none⟩ = some (.slice A0_3 l0_3.length c0_3) := (blk_cell BK351.out 3).trans rfl
                have hcz12_4 : wr.cell? ⟨gb351, 4, none⟩ = some (.slice A0_4 l0_4.length c0_4) := (blk_cell BK351.out 4).trans rfl
                have hfz12_0 := blk_frozen BK351.out 0
                have hfz12_1 := blk_frozen BK351.out 1
                have hfz12_2 := blk_frozen BK351.out 2
                have hfz12_3 := blk_frozen BK351.out 3
                have hfz12_4 := blk_frozen BK351.out 4
                have p355 : 0 ≤ (x6_1 : Int) := of_decide_eq_true (by first | (with_reducible assumption) | assumption)
                have q355 : x6_1 < (l0_3.length : Int) := of_decide_eq_true (by first | (with_reducible assumption) | assumption)
                obtain ⟨ad355, e355, hx355_0⟩ := Kd.at_string HR0_3.out x6_1 p355 q355
                cases e355
                replace hx355_0 := (HB.out.cell (World.block_lt_of_cell? w _ hx355_0)).trans hx355_0
                replace p355 := eq_true p355
                replace q355 := eq_true q355
                have p356 : 0 ≤ (a1 : Int) := of_decide_eq_true (by first | (with_reducible assumption) | assumption)
                have q356 : a1 < (l0_3.length : Int) := of_decide_eq_true (by first | (with_reducible assumption) | assumption)
                obtain ⟨ad356, e356, hx356_0⟩ := Kd.at_string HR0_3.out a1 p356 q356
                obtain rfl : ad355 = ad356 := (by injection e356)
                replace hx356_0 := (HB.out.cell (World.block_lt_of_cell? w _ hx356_0)).trans hx356_0
                replace p356 := eq_true p356
                replace q356 := eq_true q356
                go_wp2_with (first | (go_at_call 75; (with_reducible refine (musterref01_Starts.calls (rdOf ByteArray.empty l0_3 x6_1) (rdOf ByteArray.empty l0_3 a1) t357 _ A11.out).mono ?_); rintro e w' ⟨rfl, ⟨nd, rfl⟩⟩; (try first | exact ⟨rfl, _, World.drewN_drewN _ _ _⟩ | exact ⟨rfl, _, Eq.trans (World.drewN_drewN _ _ _) (congrArg (World.drewN _) (Nat.add_assoc _ _ _))⟩)))
                repeat (go_quiet (first | (go_at_call 75; (with_reducible refine (musterref01_Starts.calls (rdOf ByteArray.empty l0_3 x6_1) (rdOf ByteArray.empty l0_3 a1) t357 _ A11.out).mono ?_); rintro e w' ⟨rfl, ⟨nd, rfl⟩⟩; (try first | exact ⟨rfl, _, World.drewN_drewN _ _ _⟩ | exact ⟨rfl, _, Eq.trans (World.drewN_drewN _ _ _) (congrArg (World.drewN _) (Nat.add_assoc _ _ _))⟩))); try go_wp2_with (first | (go_at_call 75; (with_reducible refine (musterref01_Starts.calls (rdOf ByteArray.empty l0_3 x6_1) (rdOf ByteArray.empty l0_3 a1) t357 _ A11.out).mono ?_); rintro e w' ⟨rfl, ⟨nd, rfl⟩⟩; (try first | exact ⟨rfl, _, World.drewN_drewN _ _ _⟩ | exact ⟨rfl, _, Eq.trans (World.drewN_drewN _ _ _) (congrArg (World.drewN _) (Nat.add_assoc _ _ _))⟩))))
                go_meet
                case rel => exact ⟨_, (t357), (by first | rfl | (simp; done) | (simp [*]; done)), H', ⟨by have := HK1.out; first | omega | exact Nat.le_refl _⟩, ⟨by (with_reducible repeat (first | apply Kd.R_alloc | apply Kd.R_drewN | apply Kd.R_drew)); exact HO_5.out⟩, ⟨by (with_reducible repeat (first | refine blk_drewN ?_ _ | refine blk_drew ?_ | refine blk_alloc ?_ _)); exact BK351.out⟩, ⟨by repeat (first | (with_reducible first | exact HB.out | apply below_alloc | apply pw_below_drewN | apply below_drew1 | refine below_set ?_ GE351.out) | exact HB.out)⟩⟩
              · rw [if_neg c10] at H
                exact absurd H (by simp)
            · rw [if_neg c9] at H
              exact absurd H (by simp)
          · rw [if_neg c8] at H
            exact absurd H (by simp)
        · rw [if_neg c7] at H
          have c7b0 : decide (x6_1 < (l0_3.length : Int)) = false := decide_eq_false c7
          clear c7
          (first | rw [c7b0] | (simp only [i64_w, i32_w]; rw [c7b0]) | skip)
          have H' := Aside0.mk H
          clear H
          have hcz13_0 : wr.cell? ⟨gb351, 0, none⟩ = some (.slice A0_0 l0_0.length c0_0) := (blk_cell BK351.out 0).trans rfl
          have hcz13_1 : wr.cell? ⟨gb351, 1, none⟩ = some (.slice A0_1 l0_1.length c0_1) := (blk_cell BK351.out 1).trans rfl
          have hcz13_2 : wr.cell? ⟨gb351, 2, none⟩ = some (.slice A0_2 l0_2.length c0_2) := (blk_cell BK351.out 2).trans rfl
          have hcz13_3 : wr.cell? ⟨gb351, 3, none⟩ = some (.slice A0_3 l0_3.length c0_3) := (blk_cell BK351.out 3).trans rfl
          have hcz13_4 : wr.cell? ⟨gb351, 4, none⟩ = some (.slice A0_4 l0_4.length c0_4) := (blk_cell BK351.out 4).trans rfl
          have hfz13_0 := blk_frozen BK351.out 0
          have hfz13_1 := blk_frozen BK351.out 1
          have hfz13_2 := blk_frozen BK351.out 2
          have hfz13_3 := blk_frozen BK351.out 3
          have hfz13_4 := blk_frozen BK351.out 4
          go_wp2
          repeat (go_quiet (fail); try go_wp2)
          go_meet
          case rel => exact ⟨_, (false), (by first | rfl | (simp; done) | (simp [*]; done)), H', ⟨by have := HK1.out; first | omega | exact Nat.le_refl _⟩, ⟨by (with_reducible repeat (first | apply Kd.R_alloc | apply Kd.R_drewN | apply Kd.R_drew)); exact HO_5.out⟩, ⟨by (with_reducible repeat (first | refine blk_drewN ?_ _ | refine blk_drew ?_ | refine blk_alloc ?_ _)); exact BK351.out⟩, ⟨by repeat (first | (with_reducible first | exact HB.out | apply below_alloc | apply pw_below_drewN | apply below_drew1 | refine below_set ?_ GE351.out) | exact HB.out)⟩⟩
      case rest =>
        clear HC6
        try clear c1
        try clear p2
        try clear p3
        try clear q3
        try clear hx3
        try clear p6
        try clear c7
        try clear c7b0
        try clear c8
        try clear c8b0
        try clear c9
        try clear c9b0
        try clear c10
        try clear c10b0
        try clear hcz12_0
        try clear hcz12_1
        try clear hcz12_2
        try clear hcz12_3
        try clear hcz12_4
        try clear hcz13_0
        try clear hcz13_1
        try clear hcz13_2
        try clear hcz13_3
        try clear hcz13_4
        try clear hfz12_0
        try clear hfz12_1
        try clear hfz12_2
        try clear hfz12_3
        try clear hfz12_4
        try clear hfz13_0
        try clear hfz13_1
        try clear hfz13_2
        try clear hfz13_3
        try clear hfz13_4
        try clear hx355_0
        try clear hx356_0
        try clear p2
        try clear p355
        try clear p356
        try clear q355
        try clear q356
        obtain ⟨kq, x27_5, rfl, HA, HJ5, HO_5, BK351, HB⟩ := hcut
        cases kq with
        | zero => exact absurd HA.out (by simp [musterref03_Kids.j1])
        | succ kj5 =>
          have H := HA.out
          clear HA
          simp only [musterref03_Kids.j1] at H
          by_cases c14 : x27_5 = true
          · subst c14
            have H1 : (if (x5_1.length : Int) = 0 then (if x5_1.length < 17592186044416 then (musterref03_Kids.l0 kj5 a1 (x5_1 ++ [x6_1]) (wrap64 (x6_1 + 1)) l0_0 l0_1 l0_2 l0_3 l0_4) else (none)) else (if 0 ≤ x6_1 then (if x6_1 < (l0_3.length : Int) then (if 0 ≤ (wrap64 ((x5_1.length : Int) - 1)) then (if (wrap64 ((x5_1.length : Int) - 1)) < (x5_1.length : Int) then (if 0 ≤ (rd x5_1 (wrap64 ((x5_1.length : Int) - 1))) then (if (rd x5_1 (wrap64 ((x5_1.length : Int) - 1))) < (l0_3.length : Int) then ((musterref01_Starts.f (rdOf ByteArray.empty l0_3 x6_1) (rdOf ByteArray.empty l0_3 (rd x5_1 (wrap64 ((x5_1.length : Int) - 1))))).bind fun t364 => (if t364 = true then (musterref03_Kids.l0 kj5 a1 x5_1 (wrap64 (x6_1 + 1)) l0_0 l0_1 l0_2 l0_3 l0_4) else (if x5_1.length < 17592186044416 then (musterref03_Kids.l0 kj5 a1 (x5_1 ++ [x6_1]) (wrap64 (x6_1 + 1)) l0_0 l0_1 l0_2 l0_3 l0_4) else (none)))) else (none)) else (none)) else (none)) else (none)) else (none)) else (none))) = some r := by rw [if_pos rfl] at H; exact H
            clear H
            have H := H1
            clear H1
            by_cases c15 : (x5_1.length : Int) = 0
            · rw [if_pos c15] at H
              have c15b0 : ((x5_1.length : Int) == 0) = true := beq_iff_eq.mpr c15
              have c15b1 : ((x5_1.length : Int) != 0) = false := bne_eq_false_iff_eq.mpr c15
              clear c15
              by_cases c16 : x5_1.length < 17592186044416
              · rw [if_pos c16] at H
                have LMc16 := Aside0.mk c16
                clear c16
                obtain ⟨y358, hy358⟩ : ∃ y_ : List Int, y_ = (x5_1 ++ [x6_1]) := ⟨_, rfl⟩
                replace H : (musterref03_Kids.l0 kj5 a1 y358 (wrap64 (x6_1 + 1)) l0_0 l0_1 l0_2 l0_3 l0_4) = some r := by first | (rw [hy358]; with_reducible exact H) | (have H2_ := (Option.bind_some _ _).symm.trans H; rw [hy358]; with_reducible exact H2_) | (have H2_ := (Option.bind_some _ _).symm.trans H; with_reducible exact H2_) | with_reducible exact H | (rw [hy358]; exact H) | exact H
                have Ny358 := Aside0.mk hy358
                clear hy358
                have H' := Aside0.mk H
                clear H
                obtain ⟨Ao17, co17, eo17⟩ := Kd.R_slice HO_5.out
                subst eo17
                go_wp2_with (first | ((with_reducible refine gate_builtin (b := .append) (xs := #[.tmp 52, .tmp 54]) rfl ?_); (try (refine gate_guard (by rfl) ?_; dsimp only)); at_builtin; refine Kd.R_append (Kd.int .i64) (w0 := w) w.heap.size rfl (.tmp 52) (.tmp 54) 26 3 (.int .i64 0) 8 rfl Try.underlying26 info3 rfl (by decide) (by omega) (.slice Ao17 x5_1.length co17) x5_1 x6_1 [.int .i64 x6_1] (fun _ => True) (fun _ => False) rfl rfl ?aP (fun _ hk => hk.elim) ?aF ?aO ?aB ?aS ?aL ?_; (case aP => exact rfl); (case aB => exact (by repeat (first | (with_reducible first | exact HB.out | apply below_alloc | apply pw_below_drewN | apply below_drew1 | refine below_set ?_ GE351.out) | exact HB.out))); (case aF => exact (fun _ _ => trivial)); (case aO => exact (by (with_reducible repeat (first | apply Kd.R_alloc | apply Kd.R_drewN | apply Kd.R_drew)); exact HO_5.out)); (case aS => exact (below_size (by repeat (first | (with_reducible first | exact HB.out | apply below_alloc | apply pw_below_drewN | apply below_drew1 | refine below_set ?_ GE351.out) | exact HB.out)))); (case aL => have := LMc16.out; omega); intro v359 w18 ho hb hg hat; rw [← Ny358.out] at ho; have n0_ := Aside0.mk (blk_grown (g := gb351) (o := .cells #[.slice A0_0 l0_0.length c0_0, .slice A0_1 l0_1.length c0_1, .slice A0_2 l0_2.length c0_2, .slice A0_3 l0_3.length c0_3, .slice A0_4 l0_4.length c0_4] 28 (0, 0)) (by (with_reducible repeat (first | refine blk_drewN ?_ _ | refine blk_drew ?_ | refine blk_alloc ?_ _)); exact BK351.out) hg (Kd.R_ne HO_5.out BK351.out (by decide))); have n1_ := Aside0.mk (hb); have n2_ := Aside0.mk (ho); clear BK351; clear HB; clear HO_5; have BK351 := n0_; have HB := n1_; have HO360 := n2_; clear n0_ n1_ n2_; clear ho hb hg hat))
                repeat (go_quiet (first | ((with_reducible refine gate_builtin (b := .append) (xs := #[.tmp 52, .tmp 54]) rfl ?_); (try (refine gate_guard (by rfl) ?_; dsimp only)); at_builtin; refine Kd.R_append (Kd.int .i64) (w0 := w) w.heap.size rfl (.tmp 52) (.tmp 54) 26 3 (.int .i64 0) 8 rfl Try.underlying26 info3 rfl (by decide) (by omega) (.slice Ao17 x5_1.length co17) x5_1 x6_1 [.int .i64 x6_1] (fun _ => True) (fun _ => False) rfl rfl ?aP (fun _ hk => hk.elim) ?aF ?aO ?aB ?aS ?aL ?_; (case aP => exact rfl); (case aB => exact (by repeat (first | (with_reducible first | exact HB.out | apply below_alloc | apply pw_below_drewN | apply below_drew1 | refine below_set ?_ GE351.out) | exact HB.out))); (case aF => exact (fun _ _ => trivial)); (case aO => exact (by (with_reducible repeat (first | apply Kd.R_alloc | apply Kd.R_drewN | apply Kd.R_drew)); exact HO_5.out)); (case aS => exact (below_size (by repeat (first | (with_reducible first | exact HB.out | apply below_alloc | apply pw_below_drewN | apply below_drew1 | refine below_set ?_ GE351.out) | exact HB.out)))); (case aL => have := LMc16.out; omega); intro v359 w18 ho hb hg hat; rw [← Ny358.out] at ho; have n0_ := Aside0.mk (blk_grown (g := gb351) (o := .cells #[.slice A0_0 l0_0.length c0_0, .slice A0_1 l0_1.length c0_1, .slice A0_2 l0_2.length c0_2, .slice A0_3 l0_3.length c0_3, .slice A0_4 l0_4.length c0_4] 28 (0, 0)) (by (with_reducible repeat (first | refine blk_drewN ?_ _ | refine blk_drew ?_ | refine blk_alloc ?_ _)); exact BK351.out) hg (Kd.R_ne HO_5.out BK351.out (by decide))); have n1_ := Aside0.mk (hb); have n2_ := Aside0.mk (ho); clear BK351; clear HB; clear HO_5; have BK351 := n0_; have HB := n1_; have HO360 := n2_; clear n0_ n1_ n2_; clear ho hb hg hat)); try go_wp2_with (first | ((with_reducible refine gate_builtin (b := .append) (xs := #[.tmp 52, .tmp 54]) rfl ?_); (try (refine gate_guard (by rfl) ?_; dsimp only)); at_builtin; refine Kd.R_append (Kd.int .i64) (w0 := w) w.heap.size rfl (.tmp 52) (.tmp 54) 26 3 (.int .i64 0) 8 rfl Try.underlying26 info3 rfl (by decide) (by omega) (.slice Ao17 x5_1.length co17) x5_1 x6_1 [.int .i64 x6_1] (fun _ => True) (fun _ => False) rfl rfl ?aP (fun _ hk => hk.elim) ?aF ?aO ?aB ?aS ?aL ?_; (case aP => exact rfl); (case aB => exact (by repeat (first | (with_reducible first | exact HB.out | apply below_alloc | apply pw_below_drewN | apply below_drew1 | refine below_set ?_ GE351.out) | exact HB.out))); (case aF => exact (fun _ _ => trivial)); (case aO => exact (by (with_reducible repeat (first | apply Kd.R_alloc | apply Kd.R_drewN | apply Kd.R_drew)); exact HO_5.out)); (case aS => exact (below_size (by repeat (first | (with_reducible first | exact HB.out | apply below_alloc | apply pw_below_drewN | apply below_drew1 | refine below_set ?_ GE351.out) | exact HB.out)))); (case aL => have := LMc16.out; omega); intro v359 w18 ho hb hg hat; rw [← Ny358.out] at ho; have n0_ := Aside0.mk (blk_grown (g := gb351) (o := .cells #[.slice A0_0 l0_0.length c0_0, .slice A0_1 l0_1.length c0_1, .slice A0_2 l0_2.length c0_2, .slice A0_3 l0_3.length c0_3, .slice A0_4 l0_4.length c0_4] 28 (0, 0)) (by (with_reducible repeat (first | refine blk_drewN ?_ _ | refine blk_drew ?_ | refine blk_alloc ?_ _)); exact BK351.out) hg (Kd.R_ne HO_5.out BK351.out (by decide))); have n1_ := Aside0.mk (hb); have n2_ := Aside0.mk (ho); clear BK351; clear HB; clear HO_5; have BK351 := n0_; have HB := n1_; have HO360 := n2_; clear n0_ n1_ n2_; clear ho hb hg hat)))
                go_roundg kj5
                case measure => have := HK1.out; have := HJ5.out; omega
                case rel => exact ⟨(y358), (wrap64 (x6_1 + 1)), (by first | rfl | (simp; done) | (simp [*]; done)), H', ⟨by have := HK1.out; have := HJ5.out; omega⟩, ⟨by (with_reducible repeat (first | apply Kd.R_alloc | apply Kd.R_drewN | apply Kd.R_drew)); exact HO360.out⟩, ⟨by (with_reducible repeat (first | refine blk_drewN ?_ _ | refine blk_drew ?_ | refine blk_alloc ?_ _)); exact BK351.out⟩, ⟨by repeat (first | (with_reducible first | exact HB.out | apply below_alloc | apply pw_below_drewN | apply below_drew1 | refine below_set ?_ GE351.out) | exact HB.out)⟩⟩
              · rw [if_neg c16] at H
                exact absurd H (by simp)
            · rw [if_neg c15] at H
              have c15b0 : ((x5_1.length : Int) == 0) = false := beq_eq_false_iff_ne.mpr c15
              have c15b1 : ((x5_1.length : Int) != 0) = true := bne_iff_ne.mpr c15
              have c15b2 : ¬ (x5_1 = []) := fun h_ => c15 (by rw [h_]; rfl)
              by_cases c19 : 0 ≤ x6_1
              · rw [if_pos c19] at H
                have c19b0 : decide (0 ≤ x6_1) = true := decide_eq_true c19
                clear c19
                by_cases c20 : x6_1 < (l0_3.length : Int)
                · rw [if_pos c20] at H
                  have c20b0 : decide (x6_1 < (l0_3.length : Int)) = true := decide_eq_true c20
                  clear c20
                  obtain ⟨ji21, hji21⟩ : ∃ j_ : Int, (wrap64 ((x5_1.length : Int) - 1)) = j_ := ⟨_, rfl⟩
                  replace H : (if 0 ≤ (ji21) then (if (ji21) < (x5_1.length : Int) then (if 0 ≤ (rd x5_1 (ji21)) then (if (rd x5_1 (ji21)) < (l0_3.length : Int) then ((musterref01_Starts.f (rdOf ByteArray.empty l0_3 x6_1) (rdOf ByteArray.empty l0_3 (rd x5_1 (ji21)))).bind fun t364 => (if t364 = true then (musterref03_Kids.l0 kj5 a1 x5_1 (wrap64 (x6_1 + 1)) l0_0 l0_1 l0_2 l0_3 l0_4) else (if x5_1.length < 17592186044416 then (musterref03_Kids.l0 kj5 a1 (x5_1 ++ [x6_1]) (wrap64 (x6_1 + 1)) l0_0 l0_1 l0_2 l0_3 l0_4) else (none)))) else (none)) else (none)) else (none)) else (none)) = some r := by first | (rw [hji21] at H; exact H) | (simp only [hji21] at H ⊢; exact H)
                  have hji21w : (IntKind.i64.wrap ((x5_1.length : Int) - 1)) = ji21 := (i64_w _).trans hji21
                  by_cases c22 : 0 ≤ (ji21)
                  · rw [if_pos c22] at H
                    have c22b0 : decide (0 ≤ (ji21)) = true := decide_eq_true c22
                    clear c22
                    by_cases c23 : (ji21) < (x5_1.length : Int)
                    · rw [if_pos c23] at H
                      have c23b0 : decide ((ji21) < (x5_1.length : Int)) = true := decide_eq_true c23
                      clear c23
                      by_cases c24 : 0 ≤ (rd x5_1 (ji21))
                      · rw [if_pos c24] at H
                        have c24b0 : decide (0 ≤ (rd x5_1 (ji21))) = true := decide_eq_true c24
                        clear c24
                        by_cases c25 : (rd x5_1 (ji21)) < (l0_3.length : Int)
                        · rw [if_pos c25] at H
                          have c25b0 : decide ((rd x5_1 (ji21)) < (l0_3.length : Int)) = true := decide_eq_true c25
                          clear c25
                          replace H := Option.bind_eq_some_iff.mp H
                          obtain ⟨t364, A260, H⟩ := H
                          replace H : (if t364 = true then (musterref03_Kids.l0 kj5 a1 x5_1 (wrap64 (x6_1 + 1)) l0_0 l0_1 l0_2 l0_3 l0_4) else (if x5_1.length < 17592186044416 then (musterref03_Kids.l0 kj5 a1 (x5_1 ++ [x6_1]) (wrap64 (x6_1 + 1)) l0_0 l0_1 l0_2 l0_3 l0_4) else (none))) = some r := H
                          have A26 := Aside0.mk A260
                          clear A260
                          by_cases c27 : t364 = true
                          · subst c27
                            have H1 : (musterref03_Kids.l0 kj5 a1 x5_1 (wrap64 (x6_1 + 1)) l0_0 l0_1 l0_2 l0_3 l0_4) = some r := by rw [if_pos rfl] at H; exact H
                            clear H
                            have H := H1
                            clear H1
                            have H' := Aside0.mk H
                            clear H
                            obtain ⟨Ao28, co28, eo28⟩ := Kd.R_slice HO_5.out
                            subst eo28
                            have hcz29_0 : wc.cell? ⟨gb351, 0, none⟩ = some (.slice A0_0 l0_0.length c0_0) := (blk_cell BK351.out 0).trans rfl
                            have hcz29_1 : wc.cell? ⟨gb351, 1, none⟩ = some (.slice A0_1 l0_1.length c0_1) := (blk_cell BK351.out 1).trans rfl
                            have hcz29_2 : wc.cell? ⟨gb351, 2, none⟩ = some (.slice A0_2 l0_2.length c0_2) := (blk_cell BK351.out 2).trans rfl
                            have hcz29_3 : wc.cell? ⟨gb351, 3, none⟩ = some (.slice A0_3 l0_3.length c0_3) := (blk_cell BK351.out 3).trans rfl
                            have hcz29_4 : wc.cell? ⟨gb351, 4, none⟩ = some (.slice A0_4 l0_4.length c0_4) := (blk_cell BK351.out 4).trans rfl
                            have hfz29_0 := blk_frozen BK351.out 0
                            have hfz29_1 := blk_frozen BK351.out 1
                            have hfz29_2 := blk_frozen BK351.out 2
                            have hfz29_3 := blk_frozen BK351.out 3
                            have hfz29_4 := blk_frozen BK351.out 4
                            have p361 : 0 ≤ (x6_1 : Int) := of_decide_eq_true (by first | (with_reducible assumption) | assumption)
                            have q361 : x6_1 < (l0_3.length : Int) := of_decide_eq_true (by first | (with_reducible assumption) | assumption)
                            obtain ⟨ad361, e361, hx361_0⟩ := Kd.at_string HR0_3.out x6_1 p361 q361
                            cases e361
                            replace hx361_0 := (HB.out.cell (World.block_lt_of_cell? w _ hx361_0)).trans hx361_0
                            replace p361 := eq_true p361
                            replace q361 := eq_true q361
                            have p362 : 0 ≤ ((ji21) : Int) := of_decide_eq_true (by first | (with_reducible assumption) | assumption)
                            have q362 : (ji21) < (x5_1.length : Int) := of_decide_eq_true (by first | (with_reducible assumption) | assumption)
                            obtain ⟨ad362, e362, hx362_0⟩ := Kd.at_int (Kd.R_reads' HO_5.out).2.2 (ji21) p362 q362
                            cases e362
                            replace p362 := eq_true p362
                            replace q362 := eq_true q362
                            have p363 : 0 ≤ ((rd x5_1 (ji21)) : Int) := of_decide_eq_true (by first | (with_reducible assumption) | assumption)
                            have q363 : (rd x5_1 (ji21)) < (l0_3.length : Int) := of_decide_eq_true (by first | (with_reducible assumption) | assumption)
                            obtain ⟨ad363, e363, hx363_0⟩ := Kd.at_string HR0_3.out (rd x5_1 (ji21)) p363 q363
                            obtain rfl : ad361 = ad363 := (by injection e363)
                            replace hx363_0 := (HB.out.cell (World.block_lt_of_cell? w _ hx363_0)).trans hx363_0
                            replace p363 := eq_true p363
                            replace q363 := eq_true q363
                            go_wp2_with (first | (go_at_call 75; (with_reducible refine (musterref01_Starts.calls (rdOf ByteArray.empty l0_3 x6_1) (rdOf ByteArray.empty l0_3 (rd x5_1 (ji21))) true _ A26.out).mono ?_); rintro e w' ⟨rfl, ⟨nd, rfl⟩⟩; (try first | exact ⟨rfl, _, World.drewN_drewN _ _ _⟩ | exact ⟨rfl, _, Eq.trans (World.drewN_drewN _ _ _) (congrArg (World.drewN _) (Nat.add_assoc _ _ _))⟩)))
                            repeat (go_quiet (first | (go_at_call 75; (with_reducible refine (musterref01_Starts.calls (rdOf ByteArray.empty l0_3 x6_1) (rdOf ByteArray.empty l0_3 (rd x5_1 (ji21))) true _ A26.out).mono ?_); rintro e w' ⟨rfl, ⟨nd, rfl⟩⟩; (try first | exact ⟨rfl, _, World.drewN_drewN _ _ _⟩ | exact ⟨rfl, _, Eq.trans (World.drewN_drewN _ _ _) (congrArg (World.drewN _) (Nat.add_assoc _ _ _))⟩))); try go_wp2_with (first | (go_at_call 75; (with_reducible refine (musterref01_Starts.calls (rdOf ByteArray.empty l0_3 x6_1) (rdOf ByteArray.empty l0_3 (rd x5_1 (ji21))) true _ A26.out).mono ?_); rintro e w' ⟨rfl, ⟨nd, rfl⟩⟩; (try first | exact ⟨rfl, _, World.drewN_drewN _ _ _⟩ | exact ⟨rfl, _, Eq.trans (World.drewN_drewN _ _ _) (congrArg (World.drewN _) (Nat.add_assoc _ _ _))⟩))))
                            go_roundg kj5
                            case measure => have := HK1.out; have := HJ5.out; omega
                            case rel => exact ⟨(x5_1), (wrap64 (x6_1 + 1)), (by first | rfl | (simp; done) | (simp [*]; done)), H', ⟨by have := HK1.out; have := HJ5.out; omega⟩, ⟨by (with_reducible repeat (first | apply Kd.R_alloc | apply Kd.R_drewN | apply Kd.R_drew)); exact HO_5.out⟩, ⟨by (with_reducible repeat (first | refine blk_drewN ?_ _ | refine blk_drew ?_ | refine blk_alloc ?_ _)); exact BK351.out⟩, ⟨by repeat (first | (with_reducible first | exact HB.out | apply below_alloc | apply pw_below_drewN | apply below_drew1 | refine below_set ?_ GE351.out) | exact HB.out)⟩⟩
                          · replace c27 := Bool.eq_false_iff.mpr c27
                            subst c27
                            have H1 : (if x5_1.length < 17592186044416 then (musterref03_Kids.l0 kj5 a1 (x5_1 ++ [x6_1]) (wrap64 (x6_1 + 1)) l0_0 l0_1 l0_2 l0_3 l0_4) else (none)) = some r := by rw [if_neg (show ¬ (false = true) by decide)] at H; exact H
                            clear H
                            have H := H1
                            clear H1
                            by_cases c30 : x5_1.length < 17592186044416
                            · rw [if_pos c30] at H
                              have LMc30 := Aside0.mk c30
                              clear c30
                              obtain ⟨y365, hy365⟩ : ∃ y_ : List Int, y_ = (x5_1 ++ [x6_1]) := ⟨_, rfl⟩
                              replace H : (musterref03_Kids.l0 kj5 a1 y365 (wrap64 (x6_1 + 1)) l0_0 l0_1 l0_2 l0_3 l0_4) = some r := by first | (rw [hy365]; with_reducible exact H) | (have H2_ := (Option.bind_some _ _).symm.trans H; rw [hy365]; with_reducible exact H2_) | (have H2_ := (Option.bind_some _ _).symm.trans H; with_reducible exact H2_) | with_reducible exact H | (rw [hy365]; exact H) | exact H
                              have Ny365 := Aside0.mk hy365
                              clear hy365
                              have H' := Aside0.mk H
                              clear H
                              obtain ⟨Ao31, co31, eo31⟩ := Kd.R_slice HO_5.out
                              subst eo31
                              have hcz32_0 : wc.cell? ⟨gb351, 0, none⟩ = some (.slice A0_0 l0_0.length c0_0) := (blk_cell BK351.out 0).trans rfl
                              have hcz32_1 : wc.cell? ⟨gb351, 1, none⟩ = some (.slice A0_1 l0_1.length c0_1) := (blk_cell BK351.out 1).trans rfl
                              have hcz32_2 : wc.cell? ⟨gb351, 2, none⟩ = some (.slice A0_2 l0_2.length c0_2) := (blk_cell BK351.out 2).trans rfl
                              have hcz32_3 : wc.cell? ⟨gb351, 3, none⟩ = some (.slice A0_3 l0_3.length c0_3) := (blk_cell BK351.out 3).trans rfl
                              have hcz32_4 : wc.cell? ⟨gb351, 4, none⟩ = some (.slice A0_4 l0_4.length c0_4) := (blk_cell BK351.out 4).trans rfl
                              have hfz32_0 := blk_frozen BK351.out 0
                              have hfz32_1 := blk_frozen BK351.out 1
                              have hfz32_2 := blk_frozen BK351.out 2
                              have hfz32_3 := blk_frozen BK351.out 3
                              have hfz32_4 := blk_frozen BK351.out 4
                              have p361 : 0 ≤ (x6_1 : Int) := of_decide_eq_true (by first | (with_reducible assumption) | assumption)
                              have q361 : x6_1 < (l0_3.length : Int) := of_decide_eq_true (by first | (with_reducible assumption) | assumption)
                              obtain ⟨ad361, e361, hx361_0⟩ := Kd.at_string HR0_3.out x6_1 p361 q361
                              cases e361
                              replace hx361_0 := (HB.out.cell (World.block_lt_of_cell? w _ hx361_0)).trans hx361_0
                              replace p361 := eq_true p361
                              replace q361 := eq_true q361
                              have p362 : 0 ≤ ((ji21) : Int) := of_decide_eq_true (by first | (with_reducible assumption) | assumption)
                              have q362 : (ji21) < (x5_1.length : Int) := of_decide_eq_true (by first | (with_reducible assumption) | assumption)
                              obtain ⟨ad362, e362, hx362_0⟩ := Kd.at_int (Kd.R_reads' HO_5.out).2.2 (ji21) p362 q362
                              cases e362
                              replace p362 := eq_true p362
                              replace q362 := eq_true q362
                              have p363 : 0 ≤ ((rd x5_1 (ji21)) : Int) := of_decide_eq_true (by first | (with_reducible assumption) | assumption)
                              have q363 : (rd x5_1 (ji21)) < (l0_3.length : Int) := of_decide_eq_true (by first | (with_reducible assumption) | assumption)
                              obtain ⟨ad363, e363, hx363_0⟩ := Kd.at_string HR0_3.out (rd x5_1 (ji21)) p363 q363
                              obtain rfl : ad361 = ad363 := (by injection e363)
                              replace hx363_0 := (HB.out.cell (World.block_lt_of_cell? w _ hx363_0)).trans hx363_0
                              replace p363 := eq_true p363
                              replace q363 := eq_true q363
                              go_wp2_with (first | (go_at_call 75; (with_reducible refine (musterref01_Starts.calls (rdOf ByteArray.empty l0_3 x6_1) (rdOf ByteArray.empty l0_3 (rd x5_1 (ji21))) false _ A26.out).mono ?_); rintro e w' ⟨rfl, ⟨nd, rfl⟩⟩; (try first | exact ⟨rfl, _, World.drewN_drewN _ _ _⟩ | exact ⟨rfl, _, Eq.trans (World.drewN_drewN _ _ _) (congrArg (World.drewN _) (Nat.add_assoc _ _ _))⟩)) | ((with_reducible refine gate_builtin (b := .append) (xs := #[.tmp 52, .tmp 54]) rfl ?_); (try (refine gate_guard (by rfl) ?_; dsimp only)); at_builtin; refine Kd.R_append (Kd.int .i64) (w0 := w) w.heap.size rfl (.tmp 52) (.tmp 54) 26 3 (.int .i64 0) 8 rfl Try.underlying26 info3 rfl (by decide) (by omega) (.slice (some ad362) x5_1.length co31) x5_1 x6_1 [.int .i64 x6_1] (fun _ => True) (fun _ => False) rfl rfl ?aP (fun _ hk => hk.elim) ?aF ?aO ?aB ?aS ?aL ?_; (case aP => exact rfl); (case aB => exact (by repeat (first | (with_reducible first | exact HB.out | apply below_alloc | apply pw_below_drewN | apply below_drew1 | refine below_set ?_ GE351.out) | exact HB.out))); (case aF => exact (fun _ _ => trivial)); (case aO => exact (by (with_reducible repeat (first | apply Kd.R_alloc | apply Kd.R_drewN | apply Kd.R_drew)); exact HO_5.out)); (case aS => exact (below_size (by repeat (first | (with_reducible first | exact HB.out | apply below_alloc | apply pw_below_drewN | apply below_drew1 | refine below_set ?_ GE351.out) | exact HB.out)))); (case aL => have := LMc30.out; omega); intro v366 w33 ho hb hg hat; rw [← Ny365.out] at ho; have n0_ := Aside0.mk (blk_grown (g := gb351) (o := .cells #[.slice A0_0 l0_0.length c0_0, .slice A0_1 l0_1.length c0_1, .slice A0_2 l0_2.length c0_2, .slice (some ad361) l0_3.length c0_3, .slice A0_4 l0_4.length c0_4] 28 (0, 0)) (by (with_reducible repeat (first | refine blk_drewN ?_ _ | refine blk_drew ?_ | refine blk_alloc ?_ _)); exact BK351.out) hg (Kd.R_ne HO_5.out BK351.out (by decide))); have n1_ := Aside0.mk (hb); have n2_ := Aside0.mk (ho); clear BK351; clear HB; clear HO_5; have BK351 := n0_; have HB := n1_; have HO367 := n2_; clear n0_ n1_ n2_; clear ho hb hg hat))
                              repeat (go_quiet (first | (go_at_call 75; (with_reducible refine (musterref01_Starts.calls (rdOf ByteArray.empty l0_3 x6_1) (rdOf ByteArray.empty l0_3 (rd x5_1 (ji21))) false _ A26.out).mono ?_); rintro e w' ⟨rfl, ⟨nd, rfl⟩⟩; (try first | exact ⟨rfl, _, World.drewN_drewN _ _ _⟩ | exact ⟨rfl, _, Eq.trans (World.drewN_drewN _ _ _) (congrArg (World.drewN _) (Nat.add_assoc _ _ _))⟩)) | ((with_reducible refine gate_builtin (b := .append) (xs := #[.tmp 52, .tmp 54]) rfl ?_); (try (refine gate_guard (by rfl) ?_; dsimp only)); at_builtin; refine Kd.R_append (Kd.int .i64) (w0 := w) w.heap.size rfl (.tmp 52) (.tmp 54) 26 3 (.int .i64 0) 8 rfl Try.underlying26 info3 rfl (by decide) (by omega) (.slice (some ad362) x5_1.length co31) x5_1 x6_1 [.int .i64 x6_1] (fun _ => True) (fun _ => False) rfl rfl ?aP (fun _ hk => hk.elim) ?aF ?aO ?aB ?aS ?aL ?_; (case aP => exact rfl); (case aB => exact (by repeat (first | (with_reducible first | exact HB.out | apply below_alloc | apply pw_below_drewN | apply below_drew1 | refine below_set ?_ GE351.out) | exact HB.out))); (case aF => exact (fun _ _ => trivial)); (case aO => exact (by (with_reducible repeat (first | apply Kd.R_alloc | apply Kd.R_drewN | apply Kd.R_drew)); exact HO_5.out)); (case aS => exact (below_size (by repeat (first | (with_reducible first | exact HB.out | apply below_alloc | apply pw_below_drewN | apply below_drew1 | refine below_set ?_ GE351.out) | exact HB.out)))); (case aL => have := LMc30.out; omega); intro v366 w33 ho hb hg hat; rw [← Ny365.out] at ho; have n0_ := Aside0.mk (blk_grown (g := gb351) (o := .cells #[.slice A0_0 l0_0.length c0_0, .slice A0_1 l0_1.length c0_1, .slice A0_2 l0_2.length c0_2, .slice (some ad361) l0_3.length c0_3, .slice A0_4 l0_4.length c0_4] 28 (0, 0)) (by (with_reducible repeat (first | refine blk_drewN ?_ _ | refine blk_drew ?_ | refine blk_alloc ?_ _)); exact BK351.out) hg (Kd.R_ne HO_5.out BK351.out (by decide))); have n1_ := Aside0.mk (hb); have n2_ := Aside0.mk (ho); clear BK351; clear HB; clear HO_5; have BK351 := n0_; have HB := n1_; have HO367 := n2_; clear n0_ n1_ n2_; clear ho hb hg hat)); try go_wp2_with (first | (go_at_call 75; (with_reducible refine (musterref01_Starts.calls (rdOf ByteArray.empty l0_3 x6_1) (rdOf ByteArray.empty l0_3 (rd x5_1 (ji21))) false _ A26.out).mono ?_); rintro e w' ⟨rfl, ⟨nd, rfl⟩⟩; (try first | exact ⟨rfl, _, World.drewN_drewN _ _ _⟩ | exact ⟨rfl, _, Eq.trans (World.drewN_drewN _ _ _) (congrArg (World.drewN _) (Nat.add_assoc _ _ _))⟩)) | ((with_reducible refine gate_builtin (b := .append) (xs := #[.tmp 52, .tmp 54]) rfl ?_); (try (refine gate_guard (by rfl) ?_; dsimp only)); at_builtin; refine Kd.R_append (Kd.int .i64) (w0 := w) w.heap.size rfl (.tmp 52) (.tmp 54) 26 3 (.int .i64 0) 8 rfl Try.underlying26 info3 rfl (by decide) (by omega) (.slice (some ad362) x5_1.length co31) x5_1 x6_1 [.int .i64 x6_1] (fun _ => True) (fun _ => False) rfl rfl ?aP (fun _ hk => hk.elim) ?aF ?aO ?aB ?aS ?aL ?_; (case aP => exact rfl); (case aB => exact (by repeat (first | (with_reducible first | exact HB.out | apply below_alloc | apply pw_below_drewN | apply below_drew1 | refine below_set ?_ GE351.out) | exact HB.out))); (case aF => exact (fun _ _ => trivial)); (case aO => exact (by (with_reducible repeat (first | apply Kd.R_alloc | apply Kd.R_drewN | apply Kd.R_drew)); exact HO_5.out)); (case aS => exact (below_size (by repeat (first | (with_reducible first | exact HB.out | apply below_alloc | apply pw_below_drewN | apply below_drew1 | refine below_set ?_ GE351.out) | exact HB.out)))); (case aL => have := LMc30.out; omega); intro v366 w33 ho hb hg hat; rw [← Ny365.out] at ho; have n0_ := Aside0.mk (blk_grown (g := gb351) (o := .cells #[.slice A0_0 l0_0.length c0_0, .slice A0_1 l0_1.length c0_1, .slice A0_2 l0_2.length c0_2, .slice (some ad361) l0_3.length c0_3, .slice A0_4 l0_4.length c0_4] 28 (0, 0)) (by (with_reducible repeat (first | refine blk_drewN ?_ _ | refine blk_drew ?_ | refine blk_alloc ?_ _)); exact BK351.out) hg (Kd.R_ne HO_5.out BK351.out (by decide))); have n1_ := Aside0.mk (hb); have n2_ := Aside0.mk (ho); clear BK351; clear HB; clear HO_5; have BK351 := n0_; have HB := n1_; have HO367 := n2_; clear n0_ n1_ n2_; clear ho hb hg hat)))
                              go_roundg kj5
                              case measure => have := HK1.out; have := HJ5.out; omega
                              case rel => exact ⟨(y365), (wrap64 (x6_1 + 1)), (by first | rfl | (simp; done) | (simp [*]; done)), H', ⟨by have := HK1.out; have := HJ5.out; omega⟩, ⟨by (with_reducible repeat (first | apply Kd.R_alloc | apply Kd.R_drewN | apply Kd.R_drew)); exact HO367.out⟩, ⟨by (with_reducible repeat (first | refine blk_drewN ?_ _ | refine blk_drew ?_ | refine blk_alloc ?_ _)); exact BK351.out⟩, ⟨by repeat (first | (with_reducible first | exact HB.out | apply below_alloc | apply pw_below_drewN | apply below_drew1 | refine below_set ?_ GE351.out) | exact HB.out)⟩⟩
                            · rw [if_neg c30] at H
                              exact absurd H (by simp)
                        · rw [if_neg c25] at H
                          exact absurd H (by simp)
                      · rw [if_neg c24] at H
                        exact absurd H (by simp)
                    · rw [if_neg c23] at H
                      exact absurd H (by simp)
                  · rw [if_neg c22] at H
                    exact absurd H (by simp)
                · rw [if_neg c20] at H
                  exact absurd H (by simp)
              · rw [if_neg c19] at H
                exact absurd H (by simp)
          · replace c14 := Bool.eq_false_iff.mpr c14
            subst c14
            have H1 : (some x5_1) = some r := by rw [if_neg (show ¬ (false = true) by decide)] at H; exact H
            clear H
            have H := H1
            clear H1
            obtain rfl := Option.some.inj H
            go_wp2
            repeat (go_quiet (fail); try go_wp2)
            go_ret
            exact ⟨_, by first | rfl | (simp [errW_none, errW_some] <;> rfl) | (simp [*, errW_none, errW_some] <;> rfl), by (with_reducible repeat (first | apply Kd.R_alloc | apply Kd.R_drewN | apply Kd.R_drew)); exact HO_5.out, by repeat (first | (with_reducible first | exact HB.out | apply below_alloc | apply pw_below_drewN | apply below_drew1 | refine below_set ?_ GE351.out) | exact HB.out)⟩
end Go.Proofs.Ytjhgknagmiekeaa.K
