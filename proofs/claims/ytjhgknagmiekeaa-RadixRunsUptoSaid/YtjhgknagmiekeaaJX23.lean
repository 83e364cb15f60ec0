/- joined: Q9 V11 Q10 -/
import Derived.Test.YtjhgknagmiekeaaJX22
import Derived.Test.YtjhgknagmiekeaaJX2
import Derived.Test.YtjhgknagmiekeaaRows
import Derived.Deep.Slices
import Derived.Deep.Fields
import Derived.ChangeSame
import Derived.SizedLaws
import Derived.ProofKit
set_option linter.unusedVariables false
set_option linter.unusedSimpArgs false
namespace Go.Proofs.Ytjhgknagmiekeaa.N
open Go.RowKit Go.Lib Go.Proofs
open Go.Proofs.Ytjhgknagmiekeaa.K Go.Proofs.YtjhgknagmiekeaaW.PrintLast
open Go.Proofs.YtjhgknagmiekeaaW.PrintWords hiding Kept
open Go.Proofs.Ytjhgknagmiekeaa.T (L Nd Fine IntVals valT findT Tr ptr All)
def rr13_T : Bool × List (List Nat × List Nat) := (true, [([], []), ([], []), ([0, 1], [0, 1]), ([2], [2]), ([], []), ([], []), ([4, 5], [4, 5]), ([6], [6]), ([], []), ([], []), ([3, 7, 8, 9], [3, 7, 8, 9]), ([10], [10]), ([11], [11]), ([11], [11]), ([11], [11]), ([11], [11]), ([], []), ([12, 10, 0, 1, 2, 3, 4, 5, 6, 7, 8, 9, 10, 11, 12, 16], [12]), ([16, 13, 17, 0, 1, 2, 3, 4, 5, 6, 7, 8, 9, 10, 11, 12, 13, 16, 17], [13, 16]), ([14, 18, 0, 1, 2, 3, 4, 5, 6, 7, 8, 9, 10, 11, 12, 13, 14, 16, 17, 18], [14]), ([15, 19, 0, 1, 2, 3, 4, 5, 6, 7, 8, 9, 10, 11, 12, 13, 14, 15, 16, 17, 18, 19], [15])])
def rr13_B : List Nat := [0, 0, 3, 7, 0, 0, 48, 112, 0, 0, 1023, 2047, 4095, 4095, 4095, 4095, 0, 73727, 212991, 491519, 1048575]
theorem rr13_bits : waitsOk rr13_T.2 rr13_B = true := by kernel_rfl
theorem rr13_tab : rtab .any (opsOf Try.f14 13) = rr13_T := by kernel_rfl
def rr20_T : Bool × List (List Nat × List Nat) := (true, [([], []), ([], []), ([0, 1], [0, 1]), ([2], [2]), ([], []), ([], []), ([4, 5], [4, 5]), ([6], [6]), ([], []), ([8], [8]), ([3, 7, 9], [3, 7, 9]), ([10], [10])])
def rr20_B : List Nat := [0, 0, 3, 7, 0, 0, 48, 112, 0, 256, 1023, 2047]
theorem rr20_bits : waitsOk rr20_T.2 rr20_B = true := by kernel_rfl
theorem rr20_tab : rtab .any (opsOf Try.f14 20) = rr20_T := by kernel_rfl
def rr23_T : Bool × List (List Nat × List Nat) := (true, [([], []), ([], []), ([0, 1], [0, 1]), ([2], [2]), ([], []), ([], []), ([4, 5], [4, 5]), ([6], [6]), ([3, 7], [3, 7]), ([8], [8])])
def rr23_B : List Nat := [0, 0, 3, 7, 0, 0, 48, 112, 255, 511]
theorem rr23_bits : waitsOk rr23_T.2 rr23_B = true := by kernel_rfl
theorem rr23_tab : rtab .any (opsOf Try.f14 23) = rr23_T := by kernel_rfl
def rr29_T : Bool × List (List Nat × List Nat) := (true, [([], []), ([], []), ([0, 1], [0, 1]), ([2], [2]), ([], []), ([], []), ([4, 5], [4, 5]), ([6], [6]), ([3, 7], [3, 7]), ([8], [8])])
def rr29_B : List Nat := [0, 0, 3, 7, 0, 0, 48, 112, 255, 511]
theorem rr29_bits : waitsOk rr29_T.2 rr29_B = true := by kernel_rfl
theorem rr29_tab : rtab .any (opsOf Try.f14 29) = rr29_T := by kernel_rfl
attribute [local go_sem] Oper.semAt_some
set_option maxRecDepth 100000 in
set_option maxHeartbeats 8000000 in
theorem runsLaw (A : Option Addr) (c : Nat) (os : List Opn) (w : World) (hA : OpsAt w A os) (hlen : os.length < 1000000000) (hs : ∀ o ∈ os, o.key.size < 4000000000000) :
    Calls Try.prog 14 #[.slice A os.length c] w fun e w' => e = .returned (.bool true) ∧ Below w.heap.size w w' := by
  have qa := Aside0.mk (T.alive w)
  have qb := Aside0.mk (fun w1 => newRtC w1)
  have qc := Aside0.mk (fun w1 => T.newC w1)
  have HS := Aside0.mk (And.intro hs hA)
  obtain ⟨n, en⟩ : ∃ n, os.length = n := ⟨_, rfl⟩
  have HN := Aside0.mk en
  obtain ⟨iT, hiT, hzT0, hzT1, hzT2⟩ := info_parts info24
  obtain ⟨iM, hiM, hzM0, hzM1, hzM2⟩ := info_parts info28
  rw [en] at hlen ⊢
  clear hA hs en
  unfold ptr at qc
  go_enter Try.func14, Try.ntmps14
  go_wp2_with fail
  go_at_call 36
  refine qa.out.mono ?_
  rintro e w0 ⟨rfl, hb0⟩
  have HB0 := Aside0.mk hb0
  clear hb0 qa
  go_wp2_with fail
  go_at_call 51
  refine (qb.out w0).mono ?_
  rintro e w1 ⟨v0, v1, v2, v3, v4, rfl, hr, hb⟩
  obtain ⟨⟨E0, y0, g0, rfl⟩, ⟨E1, y1, g1, rfl⟩, ⟨E2, y2, g2, rfl⟩, ⟨E3, y3, g3, rfl⟩, ⟨E4, y4, g4, rfl⟩⟩ := (hr w1 (fun _ _ _ => rfl)).forms
  have HB1 := Aside0.mk (T.belowAt HB0.out hb)
  have HR1 := Aside0.mk (rtOff_rob hr)
  have HZ1 := Aside0.mk hb.size
  clear hr hb qb
  go_wp2_with fail
  obtain ⟨C, eC⟩ : ∃ C, w1.heap.size = C := ⟨_, rfl⟩
  obtain ⟨W1, eW1⟩ : ∃ W1, w1.alloc (Obj.cells #[.slice E0 y0 g0, .slice E1 y1 g1, .slice E2 y2 g2, .slice E3 y3 g3, .slice E4 y4 g4] 28) = W1 := ⟨_, rfl⟩
  have HW1 : Aside0 (W1.heap[C]? = some (.cells #[.slice E0 y0 g0, .slice E1 y1 g1, .slice E2 y2 g2, .slice E3 y3 g3, .slice E4 y4 g4] 28 (0, 0)) ∧ Below w1.heap.size w1 W1) := ⟨by rw [← eW1, ← eC]; exact World.alloc_heap_new w1 _, by rw [← eW1]; exact (Below.refl _ w1).alloc (Nat.le_refl _) _⟩
  rw [eW1, eC]
  go_at_call 45
  refine (qc.out W1).mono ?_
  rintro e w2 ⟨tb, root, rfl, ht, hv, hl, hb⟩
  have HB2 := Aside0.mk (T.belowAt (T.belowAt HB1.out HW1.out.2) hb)
  have HM2 := Aside0.mk ((hb.block _ (Array.getElem?_eq_some_iff.1 HW1.out.1).1).trans HW1.out.1)
  have HR2 : Aside0 (RtOff (fun k => C ≤ k) w2 rt0 (.slice E0 y0 g0) (.slice E1 y1 g1) (.slice E2 y2 g2) (.slice E3 y3 g3) (.slice E4 y4 g4)) := ⟨((HR1.out.below HW1.out.2).below hb).imp (fun k _ hk => .inl (.inr (by rw [eC]; exact hk)))⟩
  have H2 := Aside0.mk (And.intro ht (And.intro hv hl))
  have hC : w.heap.size ≤ C := by have := HB1.out.size; omega
  clear ht hv hl hb eW1 eC qc
  go_upto_region 5 with fail
  obtain ⟨D, eD⟩ : ∃ D, w2.heap.size = D := ⟨_, rfl⟩
  obtain ⟨W2, eW2⟩ : ∃ W2, w2.alloc (Obj.cells #[.pointer (some ⟨tb, 0, none⟩)] 24) = W2 := ⟨_, rfl⟩
  have HW2 : Aside0 (W2.heap[D]? = some (.cells #[.pointer (some ⟨tb, 0, none⟩)] 24 (0, 0)) ∧ Below w2.heap.size w2 W2) := ⟨by rw [← eW2, ← eD]; exact World.alloc_heap_new w2 _, by rw [← eW2]; exact (Below.refl _ w2).alloc (Nat.le_refl _) _⟩
  have hm2 := (HW2.out.2.block _ (Array.getElem?_eq_some_iff.1 HM2.out).1).trans HM2.out
  have hD : C < D := by rw [← eD]; exact (Array.getElem?_eq_some_iff.1 HM2.out).1
  have hDW : D < W2.heap.size := (Array.getElem?_eq_some_iff.1 HW2.out.1).1
  have m0 : W2.cell? ⟨C, 0, none⟩ = some (.slice E0 y0 g0) := by rw [blk_cell hm2]; rfl
  have m1 : W2.cell? ⟨C, 1, none⟩ = some (.slice E1 y1 g1) := by rw [blk_cell hm2]; rfl
  have m2 : W2.cell? ⟨C, 2, none⟩ = some (.slice E2 y2 g2) := by rw [blk_cell hm2]; rfl
  have m3 : W2.cell? ⟨C, 3, none⟩ = some (.slice E3 y3 g3) := by rw [blk_cell hm2]; rfl
  have m4 : W2.cell? ⟨C, 4, none⟩ = some (.slice E4 y4 g4) := by rw [blk_cell hm2]; rfl
  rw [eW2, eD]
  clear hm2 eW2
  go_wp2_with fail
  obtain ⟨F, eF⟩ : ∃ F, W2.heap.size = F := ⟨_, rfl⟩
  obtain ⟨W3, eW3⟩ : ∃ W3, W2.alloc (Obj.cells #[.slice E0 y0 g0, .slice E1 y1 g1, .slice E2 y2 g2, .slice E3 y3 g3, .slice E4 y4 g4] 28) = W3 := ⟨_, rfl⟩
  have HW3 : Aside0 (W3.heap[F]? = some (.cells #[.slice E0 y0 g0, .slice E1 y1 g1, .slice E2 y2 g2, .slice E3 y3 g3, .slice E4 y4 g4] 28 (0, 0)) ∧ Below W2.heap.size W2 W3) := ⟨by rw [← eW3, ← eF]; exact World.alloc_heap_new W2 _, by rw [← eW3]; exact (Below.refl _ W2).alloc (Nat.le_refl _) _⟩
  rw [eW3, eF]
  have HB3 := Aside0.mk (T.belowAt (T.belowAt HB2.out HW2.out.2) HW3.out.2)
  have HV3 : Aside0 (Vers W3 w.heap.size (.slice (some ⟨D, 0, none⟩) 1 1) (.slice (some ⟨F, 0, none⟩) 1 1) [⟨tb, root, rt0, .slice E0 y0 g0, .slice E1 y1 g1, .slice E2 y2 g2, .slice E3 y3 g3, .slice E4 y4 g4⟩] [⟨tb, root, rt0, .slice E0 y0 g0, .slice E1 y1 g1, .slice E2 y2 g2, .slice E3 y3 g3, .slice E4 y4 g4⟩] [⟨tb, root, rt0, .slice E0 y0 g0, .slice E1 y1 g1, .slice E2 y2 g2, .slice E3 y3 g3, .slice E4 y4 g4⟩] 0) := by
    refine ⟨⟨⟨rfl, .inr ⟨D, 1, _, rfl, by omega, (HW3.out.2.block D hDW).trans HW2.out.1, Nat.le_refl _, by decide, rfl, rfl⟩⟩, ⟨rfl, .inr ⟨F, 1, _, rfl, by omega, HW3.out.1, Nat.le_refl _, by decide, rfl, rfl⟩⟩, fun x hx => ?_⟩⟩
    rw [List.mem_singleton.1 hx]
    refine ⟨(H2.out.1.keep (T.Kept.of HW2.out.2)).keep (T.Kept.of HW3.out.2), ((HR2.out.below HW2.out.2).below HW3.out.2).imp (fun k _ hk => ?_), rokP0, ?_, Nat.zero_le _⟩
    · rcases hk with hk | hk
      · have hk' : D = k := by simpa [Value.ownBlock] using hk
        exact .inl (.inl (by omega))
      · have hk' : F = k := by simpa [Value.ownBlock] using hk
        exact .inl (.inl (by omega))
    · unfold Agree
      rw [H2.out.2.2]
      rfl
  clear m0 m1 m2 m3 m4 hD hDW hC eW3 eD eF
  go_loopg [4, 5, 6, 27] (n + 1) (fun kq v4 v5 v6 v27 W => ∃ (j : Nat) (nx : Int) (l : List Vr) (N gT cT gM cM : Nat), v4 = .int .i64 nx ∧ v5 = .slice (some ⟨gT, 0, none⟩) (N + 1) cT ∧ v6 = .slice (some ⟨gM, 0, none⟩) (N + 1) cM ∧ v27 = .int .i64 (j : Int) ∧ Aside0 (j + kq = n + 1 ∧ j ≤ n ∧ l.length = N + 1 ∧ N ≤ j) ∧ Aside0 (Vers W w.heap.size (.slice (some ⟨gT, 0, none⟩) (N + 1) cT) (.slice (some ⟨gM, 0, none⟩) (N + 1) cM) l l l j) ∧ Aside0 (Below w.heap.size w W))
  case atStart => exact ⟨0, 1, _, 0, D, 1, F, 1, rfl, rfl, rfl, rfl, ⟨by omega, Nat.zero_le _, rfl, Nat.le_refl _⟩, HV3, HB3⟩
  case round =>
    obtain ⟨j, nx, l, N, gT, cT, gM, cM, rfl, rfl, rfl, rfl, HI, HV, HB⟩ := hrel
    by_cases hi : j < n
    · have hi' : j < os.length := by rw [HN.out]; exact hi
      obtain ⟨ad, ea, k0, k1, k2, k3⟩ := (HS.out.2.keep (T.Kept.of HB.out)) j hi'
      obtain ⟨o, eo⟩ : ∃ o, os[j] = o := ⟨_, rfl⟩
      have hks : Aside0 (o.key.size < 4000000000000) := ⟨HS.out.1 o (by rw [← eo]; exact List.getElem_mem _)⟩
      rw [eo] at k0 k1 k2 k3
      obtain ⟨kind, on, key, val⟩ := o
      dsimp only at k0 k1 k2 k3 hks
      have k1' : wr.cell? ⟨(ad.add (j * 4)).block, (ad.add (j * 4)).off + 1, none⟩ = some (.int .i64 on) := by rw [← add_field _ _ 1 (by omega)]; exact k1
      have k2' : wr.cell? ⟨(ad.add (j * 4)).block, (ad.add (j * 4)).off + 2, none⟩ = some (.string key) := by rw [← add_field _ _ 2 (by omega)]; exact k2
      have k3' : wr.cell? ⟨(ad.add (j * 4)).block, (ad.add (j * 4)).off + 3, none⟩ = some (.int .i64 val) := by rw [← add_field _ _ 3 (by omega)]; exact k3
      subst ea
      clear k1 k2 k3 eo hi'
      obtain ⟨i, hiN, qp⟩ := place_calls on (N + 1) (by omega) (by have := HI.out; omega)
      have QP := Aside0.mk qp
      clear qp
      have hjn : (j : Int) < (n : Int) := by omega
      go_upto_region 9 with fail
      obtain ⟨G, eG⟩ : ∃ G, wr.heap.size = G := ⟨_, rfl⟩
      obtain ⟨W4, eW4⟩ : ∃ W4, wr.alloc (Obj.cells #[.int .i64 kind, .int .i64 on, .string key, .int .i64 val] 67) = W4 := ⟨_, rfl⟩
      have HW4 : Aside0 (W4.heap[G]? = some (.cells #[.int .i64 kind, .int .i64 on, .string key, .int .i64 val] 67 (0, 0)) ∧ Below wr.heap.size wr W4) := ⟨by rw [← eW4, ← eG]; exact World.alloc_heap_new wr _, by rw [← eW4]; exact (Below.refl _ wr).alloc (Nat.le_refl _) _⟩
      rw [eW4, eG]
      have hb4 := HW4.out.1
      have b0 : W4.cell? ⟨G, 0, none⟩ = some (.int .i64 kind) := by rw [blk_cell hb4]; rfl
      have b1 : W4.cell? ⟨G, 1, none⟩ = some (.int .i64 on) := by rw [blk_cell hb4]; rfl
      have b2 : W4.cell? ⟨G, 2, none⟩ = some (.string key) := by rw [blk_cell hb4]; rfl
      have b3 : W4.cell? ⟨G, 3, none⟩ = some (.int .i64 val) := by rw [blk_cell hb4]; rfl
      clear hb4 eW4 eG k0 k1' k2' k3' hjn
      go_wp2_with fail
      go_at_call 52
      refine (QP.out _).mono ?_
      rintro e w5 ⟨rfl, hb5⟩
      have HB5 := Aside0.mk (T.belowAt HW4.out.2 hb5)
      have HV5 := Aside0.mk (HV.out.below HB5.out (Nat.le_refl _))
      have HG5 := Aside0.mk ((hb5.block _ (Array.getElem?_eq_some_iff.1 HW4.out.1).1).trans HW4.out.1)
      have hg5 := HG5.out
      have o0 : w5.cell? ⟨G, 0, none⟩ = some (.int .i64 kind) := by rw [blk_cell hg5]; rfl
      have o1 : w5.cell? ⟨G, 1, none⟩ = some (.int .i64 on) := by rw [blk_cell hg5]; rfl
      have o2 : w5.cell? ⟨G, 2, none⟩ = some (.string key) := by rw [blk_cell hg5]; rfl
      have o3 : w5.cell? ⟨G, 3, none⟩ = some (.int .i64 val) := by rw [blk_cell hg5]; rfl
      clear hb5 hg5 b0 b1 b2 b3 QP
      have hil : i < l.length := by have := HI.out; omega
      obtain ⟨x, ex⟩ : ∃ x, l[i] = x := ⟨_, rfl⟩
      have hxl : x ∈ l := by rw [← ex]; exact List.getElem_mem _
      have hv := HV5.out.all x hxl
      have htc := Vers.cellT (c := cT) (by rw [show l.length = N + 1 from HI.out.2.2.1]; exact HV5.out) i hil
      have hmc := Vers.cellM (c := cM) (by rw [show l.length = N + 1 from HI.out.2.2.1]; exact HV5.out) i hil
      rw [ex] at htc hmc
      obtain ⟨tb1, root1, t1, a0, a1, a2, a3, a4⟩ := x
      obtain ⟨⟨P0, p0, r0, e0⟩, ⟨P1, p1, r1, e1⟩, ⟨P2, p2, r2, e2⟩, ⟨P3, p3, r3, e3⟩, ⟨P4, p4, r4, e4⟩⟩ := hv.rt.here.forms
      dsimp only at e0 e1 e2 e3 e4
      subst e0 e1 e2 e3 e4
      have ct : w5.cell? ⟨gT, i, none⟩ = some (.pointer (some ⟨tb1, 0, none⟩)) := htc
      have x0 : w5.cell? ⟨gM, i * 5, none⟩ = some (.slice P0 p0 r0) := hmc 0 (by omega)
      have x1 : w5.cell? ⟨gM, i * 5 + 1, none⟩ = some (.slice P1 p1 r1) := hmc 1 (by omega)
      have x2 : w5.cell? ⟨gM, i * 5 + 2, none⟩ = some (.slice P2 p2 r2) := hmc 2 (by omega)
      have x3 : w5.cell? ⟨gM, i * 5 + 3, none⟩ = some (.slice P3 p3 r3) := hmc 3 (by omega)
      have x4 : w5.cell? ⟨gM, i * 5 + 4, none⟩ = some (.slice P4 p4 r4) := hmc 4 (by omega)
      have HX := Aside0.mk hv
      have hiI : (i : Int) < ((N + 1 : Nat) : Int) := by omega
      have hiI2 : (i : Int) < (N : Int) + 1 := by omega
      clear htc hmc hv ex hxl hil
      by_cases hk0 : kind = 0
      · subst hk0
        have hbd := below_drew (Below.refl w5.heap.size w5)
        have hfew : t1.ks.length ≤ j := HX.out.few
        have hal : (All root1).length = t1.ks.length := all_len HX.out.ok.toRok HX.out.ag
        have hrl : ∀ k, InRows (.slice (some ⟨gT, 0, none⟩) (N + 1) cT) (.slice (some ⟨gM, 0, none⟩) (N + 1) cM) k → k < w5.heap.size := fun k hk => hk.elim (fun h => (HV5.out.rT.lt k h).2) (fun h => (HV5.out.rM.lt k h).2)
        have q1 := Aside0.mk (fun (M : Nat → Prop) (W : World) (h : Below w5.heap.size w5 W) (hM : ∀ k, M k → InRows (.slice (some ⟨gT, 0, none⟩) (N + 1) cT) (.slice (some ⟨gM, 0, none⟩) (N + 1) cM) k ∨ w5.heap.size ≤ k) => grownIO W tb1 root1 (HX.out.tr.keep (T.Kept.of h)) t1 HX.out.ok HX.out.ag _ _ _ _ _ M ((HX.out.rt.below h).imp (fun k _ hk => hM k hk)) key on val nx hks.out (by have := HI.out; omega) (by have := HI.out; omega))
        have HBD := Aside0.mk hbd
        have HRL := Aside0.mk hrl
        clear hbd hrl hfew hal
        unfold ptr at q1
        go_upto_region 13 with fail
        refine start_ (n := 21) (S := (fun Z => Z.cell? ⟨gT, i, none⟩ = some (.pointer (some ⟨tb1, 0, none⟩)) ∧ Z.cell? ⟨gM, i * 5, none⟩ = some (.slice P0 p0 r0) ∧ Z.cell? ⟨gM, i * 5 + 1, none⟩ = some (.slice P1 p1 r1) ∧ Z.cell? ⟨gM, i * 5 + 2, none⟩ = some (.slice P2 p2 r2) ∧ Z.cell? ⟨gM, i * 5 + 3, none⟩ = some (.slice P3 p3 r3) ∧ Z.cell? ⟨gM, i * 5 + 4, none⟩ = some (.slice P4 p4 r4) ∧ Z.cell? ⟨G, 0, none⟩ = some (.int .i64 0) ∧ Z.cell? ⟨G, 1, none⟩ = some (.int .i64 on) ∧ Z.cell? ⟨G, 2, none⟩ = some (.string key) ∧ Z.cell? ⟨G, 3, none⟩ = some (.int .i64 val))) (ds := [18]) #[false, false, false, false, false, false, false, false, false, false, false, false, false, false, false, false, false, false, false, false, false] (by kernel_rfl) rfl rfl ⟨ct, x0, x1, x2, x3, x4, o0, o1, o2, o3⟩ (fun hHeld => ?_); refine with_tabW rr13_tab rr13_bits (fun HT_ HW_ => ?_)
        refine pure_ (i := 0) (N := some 42) (v := ?_) (a' := ?_) #[true, false, false, false, false, false, false, false, false, false, false, false, false, false, false, false, false, false, false, false, false] rfl rfl (any_of HT_.out (by kernel_rfl)) (fun _ _ _ h => h) (Or.inl ⟨by rfl, ?_⟩) ?_ ?_
        rotate_left
        · intro w'
          go_simp
          with_reducible rfl
        rotate_left
        · simp only [Act.put, List.setIfInBounds_toArray, List.set_cons_zero, List.set_cons_succ, i64_w, i32_w]
          rfl
        refine pure_ (i := 1) (N := some 43) (v := ?_) (a' := ?_) #[true, true, false, false, false, false, false, false, false, false, false, false, false, false, false, false, false, false, false, false, false] rfl rfl (any_of HT_.out (by kernel_rfl)) (fun _ _ _ h => h) (Or.inl ⟨by rfl, ?_⟩) ?_ ?_
        rotate_left
        · intro w'
          go_simp
          with_reducible rfl
        rotate_left
        · simp only [Act.put, List.setIfInBounds_toArray, List.set_cons_zero, List.set_cons_succ, i64_w, i32_w]
          rfl
        refine pure_ (i := 2) (N := some 44) (v := ?_) (a' := ?_) #[true, true, true, false, false, false, false, false, false, false, false, false, false, false, false, false, false, false, false, false, false] rfl rfl (any_of HT_.out (by kernel_rfl)) (fun _ _ _ h => h) (Or.inl ⟨by rfl, ?_⟩) ?_ ?_
        rotate_left
        · intro w'
          go_simp
          with_reducible rfl
        rotate_left
        · simp only [Act.put, List.setIfInBounds_toArray, List.set_cons_zero, List.set_cons_succ, i64_w, i32_w]
          rfl
        refine pure_ (i := 4) (N := some 46) (v := ?_) (a' := ?_) #[true, true, true, false, true, false, false, false, false, false, false, false, false, false, false, false, false, false, false, false, false] rfl rfl (any_of HT_.out (by kernel_rfl)) (fun _ _ _ h => h) (Or.inl ⟨by rfl, ?_⟩) ?_ ?_
        rotate_left
        · intro w'
          go_simp
          with_reducible rfl
        rotate_left
        · simp only [Act.put, List.setIfInBounds_toArray, List.set_cons_zero, List.set_cons_succ, i64_w, i32_w]
          rfl
        refine pure_ (i := 5) (N := some 47) (v := ?_) (a' := ?_) #[true, true, true, false, true, true, false, false, false, false, false, false, false, false, false, false, false, false, false, false, false] rfl rfl (any_of HT_.out (by kernel_rfl)) (fun _ _ _ h => h) (Or.inl ⟨by rfl, ?_⟩) ?_ ?_
        rotate_left
        · intro w'
          go_simp
          with_reducible rfl
        rotate_left
        · simp only [Act.put, List.setIfInBounds_toArray, List.set_cons_zero, List.set_cons_succ, i64_w, i32_w]
          rfl
        refine pure_ (i := 6) (N := some 48) (v := ?_) (a' := ?_) #[true, true, true, false, true, true, true, false, false, false, false, false, false, false, false, false, false, false, false, false, false] rfl rfl (any_of HT_.out (by kernel_rfl)) (fun _ _ _ h => h) (Or.inl ⟨by rfl, ?_⟩) ?_ ?_
        rotate_left
        · intro w'
          go_simp
          with_reducible rfl
        rotate_left
        · simp only [Act.put, List.setIfInBounds_toArray, List.set_cons_zero, List.set_cons_succ, i64_w, i32_w]
          rfl
        refine pure_ (i := 9) (N := some 51) (v := ?_) (a' := ?_) #[true, true, true, false, true, true, true, false, false, true, false, false, false, false, false, false, false, false, false, false, false] rfl rfl (any_of HT_.out (by kernel_rfl)) (fun _ _ _ h => h) (Or.inl ⟨by rfl, ?_⟩) ?_ ?_
        rotate_left
        · intro w'
          go_simp
          with_reducible rfl
        rotate_left
        · simp only [Act.put, List.setIfInBounds_toArray, List.set_cons_zero, List.set_cons_succ, i64_w, i32_w]
          rfl
        refine take_ (i := 3) (N := some 45) (v := ?_) (a' := ?_) #[true, true, true, true, true, true, true, false, false, true, false, false, false, false, false, false, false, false, false, false, false] rfl rfl (take_ofW HT_.out HW_.out (by kernel_rfl)) (fun _ _ _ h => h) (Or.inl ⟨by rfl, ?_⟩) hHeld ?_ ?_
        rotate_left
        · rintro w' ⟨s0, s1, s2, s3, s4, s5, s6, s7, s8, s9⟩
          go_simp
          with_reducible rfl
        rotate_left
        · simp only [Act.put, List.setIfInBounds_toArray, List.set_cons_zero, List.set_cons_succ, i64_w, i32_w]
          rfl
        refine take_ (i := 7) (N := some 49) (v := ?_) (a' := ?_) #[true, true, true, true, true, true, true, true, false, true, false, false, false, false, false, false, false, false, false, false, false] rfl rfl (take_ofW HT_.out HW_.out (by kernel_rfl)) (fun _ _ _ h => h) (Or.inl ⟨by rfl, ?_⟩) hHeld ?_ ?_
        rotate_left
        · rintro w' ⟨s0, s1, s2, s3, s4, s5, s6, s7, s8, s9⟩
          go_simp
          with_reducible rfl
        rotate_left
        · simp only [Act.put, List.setIfInBounds_toArray, List.set_cons_zero, List.set_cons_succ, i64_w, i32_w]
          rfl
        refine take_ (i := 8) (N := some 50) (v := ?_) (a' := ?_) #[true, true, true, true, true, true, true, true, true, true, false, false, false, false, false, false, false, false, false, false, false] rfl rfl (take_ofW HT_.out HW_.out (by kernel_rfl)) (fun _ _ _ h => h) (Or.inl ⟨by rfl, ?_⟩) hHeld ?_ ?_
        rotate_left
        · rintro w' ⟨s0, s1, s2, s3, s4, s5, s6, s7, s8, s9⟩
          go_simp
          with_reducible rfl
        rotate_left
        · simp only [Act.put, List.setIfInBounds_toArray, List.set_cons_zero, List.set_cons_succ, i64_w, i32_w]
          rfl
        refine join_ (σ := Nat × Vr × Int) 4 #[true, true, true, true, true, true, true, true, true, true, true, true, true, true, true, true, true, false, false, false, false] (fun s => [(52, .tuple #[.pointer (some ⟨s.2.1.tb, 0, none⟩), .agg #[s.2.1.v0, s.2.1.v1, s.2.1.v2, s.2.1.v3, s.2.1.v4], .int .i64 s.2.2, .bool true]), (41, .tuple #[.pointer (some ⟨s.2.1.tb, 0, none⟩), .agg #[s.2.1.v0, s.2.1.v1, s.2.1.v2, s.2.1.v3, s.2.1.v4], .int .i64 s.2.2, .bool true]), (53, .pointer (some ⟨s.2.1.tb, 0, none⟩)), (54, .agg #[s.2.1.v0, s.2.1.v1, s.2.1.v2, s.2.1.v3, s.2.1.v4]), (55, .int .i64 s.2.2), (56, .bool true), (11, .pointer (some ⟨s.1, 0, none⟩))]) (fun s W => Aside0 (W.heap[s.1]? = some (.cells #[.slice none 0 0, .slice none 0 0, .slice none 0 0, .slice none 0 0, .slice none 0 0] 28 (0, 0)) ∧ w5.heap.size ≤ s.1 ∧ Below w5.heap.size w5 W ∧ VOk (fun k => InRows (.slice (some ⟨gT, 0, none⟩) (N + 1) cT) (.slice (some ⟨gM, 0, none⟩) (N + 1) cM) k ∨ k = s.1) W (j + 1) s.2.1)) ?_ ?_
        rotate_left
        · intro hcont
          simp only [putAll, Act.put, List.setIfInBounds_toArray, List.set_cons_zero, List.set_cons_succ] at hcont
          refine two_ (i := 10) (j := 16) (Ni := some 52) (Nj := some 11) #[true, true, true, true, true, true, true, true, true, true, true, false, false, false, false, false, false, false, false, false, false] #[true, true, true, true, true, true, true, true, true, true, false, false, false, false, false, false, true, false, false, false, false] rfl rfl rfl rfl (two_of HT_.out (by kernel_rfl)) (by decide) (by decide) (fun K hK => ?_) (fun K hK => ?_)
          · refine goes_ Try.func46 (by kernel_rfl) rfl #[.pointer (some ⟨tb1, 0, none⟩), .agg #[.slice P0 p0 r0, .slice P1 p1 r1, .slice P2 p2 r2, .slice P3 p3 r3, .slice P4 p4 r4], .agg #[.int .i64 0, .int .i64 on, .string key, .int .i64 val], .int .i64 nx] (by rfl) rfl rfl (by (try simp only [List.map_toArray, List.map_cons, List.map_nil]); first | done | rfl) ?_
            refine (q1.out (fun k => InRows (.slice (some ⟨gT, 0, none⟩) (N + 1) cT) (.slice (some ⟨gM, 0, none⟩) (N + 1) cM) k ∨ w5.heap.size ≤ k) _ HBD.out (fun k hk => hk)).mono ?_
            rintro e w6 ⟨tb2, root2, t2, old, bb, nx2, u0, u1, u2, u3, u4, rfl, htr, hrt, hok2, hag2, hfew2, -, hbz⟩
            have HB6 := Aside0.mk (T.belowAt HBD.out hbz)
            have HV6 := Aside0.mk (And.intro htr (And.intro hrt (And.intro hok2 (And.intro hag2 hfew2))))
            have h1 : (fun Z => Z.cell? ⟨gT, i, none⟩ = some (.pointer (some ⟨tb1, 0, none⟩)) ∧ Z.cell? ⟨gM, i * 5, none⟩ = some (.slice P0 p0 r0) ∧ Z.cell? ⟨gM, i * 5 + 1, none⟩ = some (.slice P1 p1 r1) ∧ Z.cell? ⟨gM, i * 5 + 2, none⟩ = some (.slice P2 p2 r2) ∧ Z.cell? ⟨gM, i * 5 + 3, none⟩ = some (.slice P3 p3 r3) ∧ Z.cell? ⟨gM, i * 5 + 4, none⟩ = some (.slice P4 p4 r4) ∧ Z.cell? ⟨G, 0, none⟩ = some (.int .i64 0) ∧ Z.cell? ⟨G, 1, none⟩ = some (.int .i64 on) ∧ Z.cell? ⟨G, 2, none⟩ = some (.string key) ∧ Z.cell? ⟨G, 3, none⟩ = some (.int .i64 val)) w6 := ⟨(T.Kept.of hbz).cell ct, (T.Kept.of hbz).cell x0, (T.Kept.of hbz).cell x1, (T.Kept.of hbz).cell x2, (T.Kept.of hbz).cell x3, (T.Kept.of hbz).cell x4, (T.Kept.of hbz).cell o0, (T.Kept.of hbz).cell o1, (T.Kept.of hbz).cell o2, (T.Kept.of hbz).cell o3⟩
            clear htr hrt hok2 hag2 hfew2 hbz
            refine ⟨_, rfl, ?_⟩
            clear hHeld
            refine hK.out _ _ h1 (fun hHeld => ?_)
            clear hK K
            refine norm_ (a' := ?_) ?_ ?_
            rotate_left
            · show Act.put _ (some 52) _ = _
              simp only [Act.put, List.setIfInBounds_toArray, List.set_cons_zero, List.set_cons_succ, i64_w, i32_w]
              rfl
            refine pure_ (i := 11) (N := some 41) (v := ?_) (a' := ?_) #[true, true, true, true, true, true, true, true, true, true, true, true, false, false, false, false, false, false, false, false, false] rfl rfl (any_of HT_.out (by kernel_rfl)) (fun _ _ _ h => h) (Or.inl ⟨by rfl, ?_⟩) ?_ ?_
            rotate_left
            · intro w'
              go_simp
              with_reducible rfl
            rotate_left
            · simp only [Act.put, List.setIfInBounds_toArray, List.set_cons_zero, List.set_cons_succ, i64_w, i32_w]
              rfl
            refine pure_ (i := 12) (N := some 53) (v := ?_) (a' := ?_) #[true, true, true, true, true, true, true, true, true, true, true, true, true, false, false, false, false, false, false, false, false] rfl rfl (any_of HT_.out (by kernel_rfl)) (fun _ _ _ h => h) (Or.inl ⟨by rfl, ?_⟩) ?_ ?_
            rotate_left
            · intro w'
              go_simp
              with_reducible rfl
            rotate_left
            · simp only [Act.put, List.setIfInBounds_toArray, List.set_cons_zero, List.set_cons_succ, i64_w, i32_w]
              rfl
            refine pure_ (i := 13) (N := some 54) (v := ?_) (a' := ?_) #[true, true, true, true, true, true, true, true, true, true, true, true, true, true, false, false, false, false, false, false, false] rfl rfl (any_of HT_.out (by kernel_rfl)) (fun _ _ _ h => h) (Or.inl ⟨by rfl, ?_⟩) ?_ ?_
            rotate_left
            · intro w'
              go_simp
              with_reducible rfl
            rotate_left
            · simp only [Act.put, List.setIfInBounds_toArray, List.set_cons_zero, List.set_cons_succ, i64_w, i32_w]
              rfl
            refine pure_ (i := 14) (N := some 55) (v := ?_) (a' := ?_) #[true, true, true, true, true, true, true, true, true, true, true, true, true, true, true, false, false, false, false, false, false] rfl rfl (any_of HT_.out (by kernel_rfl)) (fun _ _ _ h => h) (Or.inl ⟨by rfl, ?_⟩) ?_ ?_
            rotate_left
            · intro w'
              go_simp
              with_reducible rfl
            rotate_left
            · simp only [Act.put, List.setIfInBounds_toArray, List.set_cons_zero, List.set_cons_succ, i64_w, i32_w]
              rfl
            refine pure_ (i := 15) (N := some 56) (v := ?_) (a' := ?_) #[true, true, true, true, true, true, true, true, true, true, true, true, true, true, true, true, false, false, false, false, false] rfl rfl (any_of HT_.out (by kernel_rfl)) (fun _ _ _ h => h) (Or.inl ⟨by rfl, ?_⟩) ?_ ?_
            rotate_left
            · intro w'
              go_simp
              with_reducible rfl
            rotate_left
            · simp only [Act.put, List.setIfInBounds_toArray, List.set_cons_zero, List.set_cons_succ, i64_w, i32_w]
              rfl
            refine one_ (i := 16) (N := some 11) #[true, true, true, true, true, true, true, true, true, true, true, true, true, true, true, true, true, false, false, false, false] rfl rfl (one_of HT_.out (by kernel_rfl)) (by decide) (fun K hK => ?_)
            refine value_ (w1 := w6.alloc (Obj.cells #[.slice none 0 0, .slice none 0 0, .slice none 0 0, .slice none 0 0, .slice none 0 0] 28)) (v := .pointer (some ⟨w6.heap.size, 0, none⟩)) (by rfl) rfl (by go_simp) ?_
            have hbz := (Below.refl w6.heap.size w6).alloc (Nat.le_refl _) (Obj.cells #[.slice none 0 0, .slice none 0 0, .slice none 0 0, .slice none 0 0, .slice none 0 0] 28)
            have h2 : (fun Z => Z.cell? ⟨gT, i, none⟩ = some (.pointer (some ⟨tb1, 0, none⟩)) ∧ Z.cell? ⟨gM, i * 5, none⟩ = some (.slice P0 p0 r0) ∧ Z.cell? ⟨gM, i * 5 + 1, none⟩ = some (.slice P1 p1 r1) ∧ Z.cell? ⟨gM, i * 5 + 2, none⟩ = some (.slice P2 p2 r2) ∧ Z.cell? ⟨gM, i * 5 + 3, none⟩ = some (.slice P3 p3 r3) ∧ Z.cell? ⟨gM, i * 5 + 4, none⟩ = some (.slice P4 p4 r4) ∧ Z.cell? ⟨G, 0, none⟩ = some (.int .i64 0) ∧ Z.cell? ⟨G, 1, none⟩ = some (.int .i64 on) ∧ Z.cell? ⟨G, 2, none⟩ = some (.string key) ∧ Z.cell? ⟨G, 3, none⟩ = some (.int .i64 val)) (w6.alloc (Obj.cells #[.slice none 0 0, .slice none 0 0, .slice none 0 0, .slice none 0 0, .slice none 0 0] 28)) := ⟨(T.Kept.of hbz).cell h1.1, (T.Kept.of hbz).cell h1.2.1, (T.Kept.of hbz).cell h1.2.2.1, (T.Kept.of hbz).cell h1.2.2.2.1, (T.Kept.of hbz).cell h1.2.2.2.2.1, (T.Kept.of hbz).cell h1.2.2.2.2.2.1, (T.Kept.of hbz).cell h1.2.2.2.2.2.2.1, (T.Kept.of hbz).cell h1.2.2.2.2.2.2.2.1, (T.Kept.of hbz).cell h1.2.2.2.2.2.2.2.2.1, (T.Kept.of hbz).cell h1.2.2.2.2.2.2.2.2.2⟩
            clear hHeld
            refine hK.out _ _ h2 (fun hHeld => ?_)
            clear hK K
            refine norm_ (a' := ?_) ?_ ?_
            rotate_left
            · show Act.put _ (some 11) _ = _
              simp only [Act.put, List.setIfInBounds_toArray, List.set_cons_zero, List.set_cons_succ, i64_w, i32_w]
              rfl
            exact hcont (w6.heap.size, ⟨tb2, root2, t2, u0, u1, u2, u3, u4⟩, nx2) _ ⟨World.alloc_heap_new w6 _, HB6.out.size, T.belowAt HB6.out ((Below.refl w6.heap.size w6).alloc (Nat.le_refl _) _), ⟨HV6.out.1.keep (T.Kept.of ((Below.refl w6.heap.size w6).alloc (Nat.le_refl _) _)), (HV6.out.2.1.out.below ((Below.refl w6.heap.size w6).alloc (Nat.le_refl _) _)).imp (fun k _ hk => hk.elim (fun h => .inl ⟨.inl h, HRL.out k h⟩) (fun h => .inr (by rw [h]; exact Nat.le_refl _))), HV6.out.2.2.1, HV6.out.2.2.2.1, by have := HV6.out.2.2.2.2; have h9 : t1.ks.length ≤ j := HX.out.few; show t2.ks.length ≤ j + 1; omega⟩⟩
          · refine value_ (w1 := w5.drew.alloc (Obj.cells #[.slice none 0 0, .slice none 0 0, .slice none 0 0, .slice none 0 0, .slice none 0 0] 28)) (v := .pointer (some ⟨w5.heap.size, 0, none⟩)) (by rfl) rfl (by go_simp) ?_
            have hbz := (Below.refl w5.drew.heap.size w5.drew).alloc (Nat.le_refl _) (Obj.cells #[.slice none 0 0, .slice none 0 0, .slice none 0 0, .slice none 0 0, .slice none 0 0] 28)
            have h1 : (fun Z => Z.cell? ⟨gT, i, none⟩ = some (.pointer (some ⟨tb1, 0, none⟩)) ∧ Z.cell? ⟨gM, i * 5, none⟩ = some (.slice P0 p0 r0) ∧ Z.cell? ⟨gM, i * 5 + 1, none⟩ = some (.slice P1 p1 r1) ∧ Z.cell? ⟨gM, i * 5 + 2, none⟩ = some (.slice P2 p2 r2) ∧ Z.cell? ⟨gM, i * 5 + 3, none⟩ = some (.slice P3 p3 r3) ∧ Z.cell? ⟨gM, i * 5 + 4, none⟩ = some (.slice P4 p4 r4) ∧ Z.cell? ⟨G, 0, none⟩ = some (.int .i64 0) ∧ Z.cell? ⟨G, 1, none⟩ = some (.int .i64 on) ∧ Z.cell? ⟨G, 2, none⟩ = some (.string key) ∧ Z.cell? ⟨G, 3, none⟩ = some (.int .i64 val)) (w5.drew.alloc (Obj.cells #[.slice none 0 0, .slice none 0 0, .slice none 0 0, .slice none 0 0, .slice none 0 0] 28)) := ⟨(T.Kept.of hbz).cell ct, (T.Kept.of hbz).cell x0, (T.Kept.of hbz).cell x1, (T.Kept.of hbz).cell x2, (T.Kept.of hbz).cell x3, (T.Kept.of hbz).cell x4, (T.Kept.of hbz).cell o0, (T.Kept.of hbz).cell o1, (T.Kept.of hbz).cell o2, (T.Kept.of hbz).cell o3⟩
            have HB6 := Aside0.mk (T.belowAt HBD.out hbz)
            clear hHeld hbz
            refine hK.out _ _ h1 (fun hHeld => ?_)
            clear hK K
            refine norm_ (a' := ?_) ?_ ?_
            rotate_left
            · show Act.put _ (some 11) _ = _
              simp only [Act.put, List.setIfInBounds_toArray, List.set_cons_zero, List.set_cons_succ, i64_w, i32_w]
              rfl
            refine one_ (i := 10) (N := some 52) #[true, true, true, true, true, true, true, true, true, true, true, false, false, false, false, false, true, false, false, false, false] rfl rfl (one_of HT_.out (by kernel_rfl)) (by decide) (fun K hK => ?_)
            refine goes_ Try.func46 (by kernel_rfl) rfl #[.pointer (some ⟨tb1, 0, none⟩), .agg #[.slice P0 p0 r0, .slice P1 p1 r1, .slice P2 p2 r2, .slice P3 p3 r3, .slice P4 p4 r4], .agg #[.int .i64 0, .int .i64 on, .string key, .int .i64 val], .int .i64 nx] (by rfl) rfl rfl (by (try simp only [List.map_toArray, List.map_cons, List.map_nil]); first | done | rfl) ?_
            refine (q1.out (fun k => InRows (.slice (some ⟨gT, 0, none⟩) (N + 1) cT) (.slice (some ⟨gM, 0, none⟩) (N + 1) cM) k ∨ k = w5.heap.size) _ HB6.out (fun k hk => hk.elim .inl (fun h => .inr (by rw [h]; exact Nat.le_refl _)))).mono ?_
            rintro e w6 ⟨tb2, root2, t2, old, bb, nx2, u0, u1, u2, u3, u4, rfl, htr, hrt, hok2, hag2, hfew2, -, hbz⟩
            have h2 : (fun Z => Z.cell? ⟨gT, i, none⟩ = some (.pointer (some ⟨tb1, 0, none⟩)) ∧ Z.cell? ⟨gM, i * 5, none⟩ = some (.slice P0 p0 r0) ∧ Z.cell? ⟨gM, i * 5 + 1, none⟩ = some (.slice P1 p1 r1) ∧ Z.cell? ⟨gM, i * 5 + 2, none⟩ = some (.slice P2 p2 r2) ∧ Z.cell? ⟨gM, i * 5 + 3, none⟩ = some (.slice P3 p3 r3) ∧ Z.cell? ⟨gM, i * 5 + 4, none⟩ = some (.slice P4 p4 r4) ∧ Z.cell? ⟨G, 0, none⟩ = some (.int .i64 0) ∧ Z.cell? ⟨G, 1, none⟩ = some (.int .i64 on) ∧ Z.cell? ⟨G, 2, none⟩ = some (.string key) ∧ Z.cell? ⟨G, 3, none⟩ = some (.int .i64 val)) w6 := ⟨(T.Kept.of hbz).cell h1.1, (T.Kept.of hbz).cell h1.2.1, (T.Kept.of hbz).cell h1.2.2.1, (T.Kept.of hbz).cell h1.2.2.2.1, (T.Kept.of hbz).cell h1.2.2.2.2.1, (T.Kept.of hbz).cell h1.2.2.2.2.2.1, (T.Kept.of hbz).cell h1.2.2.2.2.2.2.1, (T.Kept.of hbz).cell h1.2.2.2.2.2.2.2.1, (T.Kept.of hbz).cell h1.2.2.2.2.2.2.2.2.1, (T.Kept.of hbz).cell h1.2.2.2.2.2.2.2.2.2⟩
            have HZ6 := Aside0.mk ((hbz.block _ (Array.getElem?_eq_some_iff.1 (World.alloc_heap_new w5.drew (Obj.cells #[.slice none 0 0, .slice none 0 0, .slice none 0 0, .slice none 0 0, .slice none 0 0] 28))).1).trans (World.alloc_heap_new w5.drew (Obj.cells #[.slice none 0 0, .slice none 0 0, .slice none 0 0, .slice none 0 0, .slice none 0 0] 28)))
            have HV6 := Aside0.mk (And.intro htr (And.intro hrt (And.intro hok2 (And.intro hag2 (And.intro hfew2 (T.belowAt HB6.out hbz))))))
            clear htr hrt hok2 hag2 hfew2 hbz
            refine ⟨_, rfl, ?_⟩
            clear hHeld
            refine hK.out _ _ h2 (fun hHeld => ?_)
            clear hK K
            refine norm_ (a' := ?_) ?_ ?_
            rotate_left
            · show Act.put _ (some 52) _ = _
              simp only [Act.put, List.setIfInBounds_toArray, List.set_cons_zero, List.set_cons_succ, i64_w, i32_w]
              rfl
            refine pure_ (i := 11) (N := some 41) (v := ?_) (a' := ?_) #[true, true, true, true, true, true, true, true, true, true, true, true, false, false, false, false, true, false, false, false, false] rfl rfl (any_of HT_.out (by kernel_rfl)) (fun _ _ _ h => h) (Or.inl ⟨by rfl, ?_⟩) ?_ ?_
            rotate_left
            · intro w'
              go_simp
              with_reducible rfl
            rotate_left
            · simp only [Act.put, List.setIfInBounds_toArray, List.set_cons_zero, List.set_cons_succ, i64_w, i32_w]
              rfl
            refine pure_ (i := 12) (N := some 53) (v := ?_) (a' := ?_) #[true, true, true, true, true, true, true, true, true, true, true, true, true, false, false, false, true, false, false, false, false] rfl rfl (any_of HT_.out (by kernel_rfl)) (fun _ _ _ h => h) (Or.inl ⟨by rfl, ?_⟩) ?_ ?_
            rotate_left
            · intro w'
              go_simp
              with_reducible rfl
            rotate_left
            · simp only [Act.put, List.setIfInBounds_toArray, List.set_cons_zero, List.set_cons_succ, i64_w, i32_w]
              rfl
            refine pure_ (i := 13) (N := some 54) (v := ?_) (a' := ?_) #[true, true, true, true, true, true, true, true, true, true, true, true, true, true, false, false, true, false, false, false, false] rfl rfl (any_of HT_.out (by kernel_rfl)) (fun _ _ _ h => h) (Or.inl ⟨by rfl, ?_⟩) ?_ ?_
            rotate_left
            · intro w'
              go_simp
              with_reducible rfl
            rotate_left
            · simp only [Act.put, List.setIfInBounds_toArray, List.set_cons_zero, List.set_cons_succ, i64_w, i32_w]
              rfl
            refine pure_ (i := 14) (N := some 55) (v := ?_) (a' := ?_) #[true, true, true, true, true, true, true, true, true, true, true, true, true, true, true, false, true, false, false, false, false] rfl rfl (any_of HT_.out (by kernel_rfl)) (fun _ _ _ h => h) (Or.inl ⟨by rfl, ?_⟩) ?_ ?_
            rotate_left
            · intro w'
              go_simp
              with_reducible rfl
            rotate_left
            · simp only [Act.put, List.setIfInBounds_toArray, List.set_cons_zero, List.set_cons_succ, i64_w, i32_w]
              rfl
            refine pure_ (i := 15) (N := some 56) (v := ?_) (a' := ?_) #[true, true, true, true, true, true, true, true, true, true, true, true, true, true, true, true, true, false, false, false, false] rfl rfl (any_of HT_.out (by kernel_rfl)) (fun _ _ _ h => h) (Or.inl ⟨by rfl, ?_⟩) ?_ ?_
            rotate_left
            · intro w'
              go_simp
              with_reducible rfl
            rotate_left
            · simp only [Act.put, List.setIfInBounds_toArray, List.set_cons_zero, List.set_cons_succ, i64_w, i32_w]
              rfl
            exact hcont (w5.heap.size, ⟨tb2, root2, t2, u0, u1, u2, u3, u4⟩, nx2) _ ⟨HZ6.out, Nat.le_refl _, HV6.out.2.2.2.2.2, ⟨HV6.out.1, HV6.out.2.1.out.imp (fun k _ hk => ⟨hk, hk.elim (fun h => by have := HRL.out k h; rw [World.size_alloc]; exact Nat.lt_succ_of_lt this) (fun h => by rw [h, World.size_alloc]; exact Nat.lt_succ_self _)⟩), HV6.out.2.2.1, HV6.out.2.2.2.1, by have := HV6.out.2.2.2.2.1; have h9 : t1.ks.length ≤ j := HX.out.few; show t2.ks.length ≤ j + 1; omega⟩⟩
        rintro ⟨b, ⟨tb2, root2, t2, u0, u1, u2, u3, u4⟩, nx2⟩ w6 HF6
        have hvo := HF6.out.2.2.2
        obtain ⟨⟨B0, k0, d0, f0⟩, ⟨B1, k1, d1, f1⟩, ⟨B2, k2, d2, f2⟩, ⟨B3, k3, d3, f3⟩, ⟨B4, k4, d4, f4⟩⟩ := hvo.rt.here.forms
        dsimp only at f0 f1 f2 f3 f4
        subst f0 f1 f2 f3 f4
        have hz6 := HF6.out.1
        have z0 : w6.cell? ⟨b, 0, none⟩ = some (.slice none 0 0) := by rw [blk_cell hz6]; rfl
        have z1 : w6.cell? ⟨b, 1, none⟩ = some (.slice none 0 0) := by rw [blk_cell hz6]; rfl
        have z2 : w6.cell? ⟨b, 2, none⟩ = some (.slice none 0 0) := by rw [blk_cell hz6]; rfl
        have z3 : w6.cell? ⟨b, 3, none⟩ = some (.slice none 0 0) := by rw [blk_cell hz6]; rfl
        have z4 : w6.cell? ⟨b, 4, none⟩ = some (.slice none 0 0) := by rw [blk_cell hz6]; rfl
        have f0 : w6.frozen? ⟨b, 0, none⟩ = false := blk_frozen hz6 0
        have f1 : w6.frozen? ⟨b, 1, none⟩ = false := blk_frozen hz6 1
        have f2 : w6.frozen? ⟨b, 2, none⟩ = false := blk_frozen hz6 2
        have f3 : w6.frozen? ⟨b, 3, none⟩ = false := blk_frozen hz6 3
        have f4 : w6.frozen? ⟨b, 4, none⟩ = false := blk_frozen hz6 4
        clear hvo hz6 q1 hHeld ct x0 x1 x2 x3 x4 o0 o1 o2 o3
        refine norm_ (a' := ?_) ?_ ?_
        rotate_left
        · show putAll _ _ = _
          simp only [putAll, Act.put, List.setIfInBounds_toArray, List.set_cons_zero, List.set_cons_succ]
          rfl
        refine pure_ (i := 17) (N := some 10) (v := ?_) (a' := ?_) #[true, true, true, true, true, true, true, true, true, true, true, true, true, true, true, true, true, true, false, false, false] rfl rfl (any_of HT_.out (by kernel_rfl)) (fun _ _ _ h => h) (Or.inl ⟨by rfl, ?_⟩) ?_ ?_
        rotate_left
        · intro w'
          go_simp
          with_reducible rfl
        rotate_left
        · simp only [Act.put, List.setIfInBounds_toArray, List.set_cons_zero, List.set_cons_succ, i64_w, i32_w]
          rfl
        refine last_ (i := 18) (N := none) #[true, true, true, true, true, true, true, true, true, true, true, true, true, true, true, true, true, true, true, false, false] rfl rfl (one_of HT_.out (by kernel_rfl)) (by decide) (fun K hK => ?_)
        refine skip_ (w1 := ?_) (by rfl) rfl ?_ ?_
        rotate_left
        · go_simp
          rfl
        refine hK.out _ _ ?_
        clear hK K
        refine pure_ (i := 19) (N := some 12) (v := ?_) (a' := ?_) #[true, true, true, true, true, true, true, true, true, true, true, true, true, true, true, true, true, true, true, true, false] rfl rfl (any_of HT_.out (by kernel_rfl)) (fun _ _ _ h => h) (Or.inl ⟨by rfl, ?_⟩) ?_ ?_
        rotate_left
        · intro w'
          go_simp
          with_reducible rfl
        rotate_left
        · simp only [Act.put, List.setIfInBounds_toArray, List.set_cons_zero, List.set_cons_succ, i64_w, i32_w]
          rfl
        refine pure_ (i := 20) (N := some 13) (v := ?_) (a' := ?_) #[true, true, true, true, true, true, true, true, true, true, true, true, true, true, true, true, true, true, true, true, true] rfl rfl (any_of HT_.out (by kernel_rfl)) (fun _ _ _ h => h) (Or.inl ⟨by rfl, ?_⟩) ?_ ?_
        rotate_left
        · intro w'
          go_simp
          with_reducible rfl
        rotate_left
        · simp only [Act.put, List.setIfInBounds_toArray, List.set_cons_zero, List.set_cons_succ, i64_w, i32_w]
          rfl
        refine done_ (done_of HT_.out (by kernel_rfl)) ?_
        clear HT_ HW_ z0 z1 z2 z3 z4 f0 f1 f2 f3 f4
        go_upto_region 16 with fail
        obtain ⟨W7, e7⟩ : ∃ W7, V.set5 w6 b (.slice B0 k0 d0) (.slice B1 k1 d1) (.slice B2 k2 d2) (.slice B3 k3 d3) (.slice B4 k4 d4) = W7 := ⟨_, rfl⟩
        have e8 : ((((w6.setCell { block := b, off := 0 } (.slice B0 k0 d0)).setCell { block := b, off := 1 } (.slice B1 k1 d1)).setCell { block := b, off := 2 } (.slice B2 k2 d2)).setCell { block := b, off := 3 } (.slice B3 k3 d3)).setCell { block := b, off := 4 } (.slice B4 k4 d4) = W7 := e7
        have HZ7 : Aside0 (W7.heap[b]? = some (.cells #[.slice B0 k0 d0, .slice B1 k1 d1, .slice B2 k2 d2, .slice B3 k3 d3, .slice B4 k4 d4] 28 (0, 0)) ∧ W7.heap.size = w6.heap.size ∧ (∀ k, k ≠ b → W7.heap[k]? = w6.heap[k]?) ∧ Below w5.heap.size w5 W7) := ⟨by rw [← e7]; exact V.set5_at HF6.out.1 _ _ _ _ _, by rw [← e7]; simp [V.set5, T.size_setCell], fun k hk => by rw [← e7]; exact V.set5_far _ _ _ _ _ _ _ k hk, by rw [← e7]; exact V.set5_below HF6.out.2.2.1 HF6.out.2.1 _ _ _ _ _⟩
        have HV7 : Aside0 (Vers W7 w.heap.size (.slice (some ⟨gT, 0, none⟩) (N + 1) cT) (.slice (some ⟨gM, 0, none⟩) (N + 1) cM) l l (l ++ [⟨tb2, root2, t2, .slice B0 k0 d0, .slice B1 k1 d1, .slice B2 k2 d2, .slice B3 k3 d3, .slice B4 k4 d4⟩]) (j + 1)) := ⟨(HV5.out.below HZ7.out.2.2.2 (by omega)).add (VOk.put HF6.out.2.2.2 HF6.out.1 HZ7.out.2.1 HZ7.out.2.2.1)⟩
        rw [e8]
        clear e7 e8
        have hll : l.length = N + 1 := HI.out.2.2.1
        have HLL := Aside0.mk hll
        have hszw : w.heap.size ≤ W7.heap.size := Nat.le_trans (T.belowAt HB.out HB5.out).size HZ7.out.2.2.2.size
        have hownT := HV7.out.rT.alloc (Obj.cells #[.pointer (some ⟨tb2, 0, none⟩)] 24)
        rw [hll] at hownT
        have HOT := Aside0.mk hownT
        have hNs := HI.out
        have hN9 : N < 2000000000 := by omega
        clear hownT hll hNs
        go_wp2_with (at_builtin; refine wpList_append_own_at _ rfl _ _ 78 rfl w.heap.size 24 iT (.pointer none) 1 8 Try.underlying78 hiT hzT0 hzT1 hzT2 rfl (by decide) (.slice (some ⟨gT, 0, none⟩) (N + 1) cT) (N + 1) (trees l) rfl HOT.out ⟨W7.heap.size, 0, none⟩ 1 1 [.pointer (some ⟨tb2, 0, none⟩)] rfl rfl (cell_one_new _ _ _) (by simp [Value.oneCell']) (by unfold maxLen; omega) (by omega) (by rw [World.size_alloc]; omega) ?_)
        intro v8 w8 hown8 hg8 _ hat8
        obtain ⟨gT2, cT2, rfl⟩ := own_slice hown8
        have HV8 := Aside0.mk (HV7.out.growT (x := ⟨tb2, root2, t2, .slice B0 k0 d0, .slice B1 k1 d1, .slice B2 k2 d2, .slice B3 k3 d3, .slice B4 k4 d4⟩) (by rw [HLL.out]; exact hown8) hg8 hat8)
        have hb8 := (grow_block hg8 b (Array.getElem?_eq_some_iff.1 HZ7.out.1).1 (own_ne HV7.out.rT HZ7.out.1 (by decide))).trans HZ7.out.1
        have HB8 := Aside0.mk (below_grow HV7.out.rT hszw hg8)
        have hsz8 : w.heap.size ≤ w8.heap.size := Nat.le_trans hszw HB8.out.size
        have y0 : w8.cell? ⟨b, 0, none⟩ = some (.slice B0 k0 d0) := by rw [blk_cell hb8]; rfl
        have y1 : w8.cell? ⟨b, 1, none⟩ = some (.slice B1 k1 d1) := by rw [blk_cell hb8]; rfl
        have y2 : w8.cell? ⟨b, 2, none⟩ = some (.slice B2 k2 d2) := by rw [blk_cell hb8]; rfl
        have y3 : w8.cell? ⟨b, 3, none⟩ = some (.slice B3 k3 d3) := by rw [blk_cell hb8]; rfl
        have y4 : w8.cell? ⟨b, 4, none⟩ = some (.slice B4 k4 d4) := by rw [blk_cell hb8]; rfl
        clear hown8 hg8 hat8 hb8 HOT
        have hownM := HV8.out.rM.alloc (Obj.cells #[.slice B0 k0 d0, .slice B1 k1 d1, .slice B2 k2 d2, .slice B3 k3 d3, .slice B4 k4 d4] 28)
        rw [HLL.out] at hownM
        have HOM := Aside0.mk hownM
        clear hownM
        go_wp2_with (at_builtin; refine wpList_append_own_at _ rfl _ _ 79 rfl w.heap.size 28 iM (.agg #[.slice none 0 0, .slice none 0 0, .slice none 0 0, .slice none 0 0, .slice none 0 0]) 5 120 Try.underlying79 hiM hzM0 hzM1 hzM2 rfl (by decide) (.slice (some ⟨gM, 0, none⟩) (N + 1) cM) (N + 1) (models l) rfl HOM.out ⟨w8.heap.size, 0, none⟩ 1 1 [.slice B0 k0 d0, .slice B1 k1 d1, .slice B2 k2 d2, .slice B3 k3 d3, .slice B4 k4 d4] rfl rfl (cell_five_new _ _ _ _ _ _ _) (by simp [Value.oneCell']) (by unfold maxLen; omega) (by omega) (by rw [World.size_alloc]; omega) ?_)
        intro v9 w9 hown9 hg9 _ hat9
        obtain ⟨gM2, cM2, rfl⟩ := own_slice hown9
        have HV9 := Aside0.mk (HV8.out.growM (x := ⟨tb2, root2, t2, .slice B0 k0 d0, .slice B1 k1 d1, .slice B2 k2 d2, .slice B3 k3 d3, .slice B4 k4 d4⟩) (by rw [HLL.out]; exact hown9) hg9 hat9)
        have HB9 := Aside0.mk ((HB8.out.trans (below_grow HV8.out.rM hsz8 hg9)))
        clear hown9 hg9 hat9 HOM y0 y1 y2 y3 y4
        go_wp2_with fail
        go_roundg (n - j)
        case measure => have := HI.out; omega
        case rel =>
          refine ⟨j + 1, nx2, l ++ [⟨tb2, root2, t2, .slice B0 k0 d0, .slice B1 k1 d1, .slice B2 k2 d2, .slice B3 k3 d3, .slice B4 k4 d4⟩], N + 1, gT2, cT2, gM2, cM2, rfl, rfl, rfl, by simp, ⟨by have := HI.out; omega, by omega, by rw [List.length_append, HLL.out]; rfl, by have := HI.out; omega⟩, HV9, ⟨?_⟩⟩
          exact ((HB.out.trans (HB5.out.mono HB.out.size)).trans (HZ7.out.2.2.2.mono (T.belowAt HB.out HB5.out).size)).trans HB9.out
      by_cases hk1 : kind = 1
      · subst hk1
        have hbd := below_drew (Below.refl w5.heap.size w5)
        have hfew : t1.ks.length ≤ j := HX.out.few
        have hal : (All root1).length = t1.ks.length := all_len HX.out.ok.toRok HX.out.ag
        have hrl : ∀ k, InRows (.slice (some ⟨gT, 0, none⟩) (N + 1) cT) (.slice (some ⟨gM, 0, none⟩) (N + 1) cM) k → k < w5.heap.size := fun k hk => hk.elim (fun h => (HV5.out.rT.lt k h).2) (fun h => (HV5.out.rM.lt k h).2)
        have q1 := Aside0.mk (fun (M : Nat → Prop) (W : World) (h : Below w5.heap.size w5 W) (hM : ∀ k, M k → InRows (.slice (some ⟨gT, 0, none⟩) (N + 1) cT) (.slice (some ⟨gM, 0, none⟩) (N + 1) cM) k ∨ w5.heap.size ≤ k) => grownDO W tb1 root1 (HX.out.tr.keep (T.Kept.of h)) t1 HX.out.ok HX.out.ag _ _ _ _ _ M ((HX.out.rt.below h).imp (fun k _ hk => hM k hk)) key on val nx hks.out (by have := HI.out; omega) (by have := HI.out; omega))
        have HBD := Aside0.mk hbd
        have HRL := Aside0.mk hrl
        clear hbd hrl hfew hal
        unfold ptr at q1
        go_upto_region 13 with fail
        refine start_ (n := 21) (S := (fun Z => Z.cell? ⟨gT, i, none⟩ = some (.pointer (some ⟨tb1, 0, none⟩)) ∧ Z.cell? ⟨gM, i * 5, none⟩ = some (.slice P0 p0 r0) ∧ Z.cell? ⟨gM, i * 5 + 1, none⟩ = some (.slice P1 p1 r1) ∧ Z.cell? ⟨gM, i * 5 + 2, none⟩ = some (.slice P2 p2 r2) ∧ Z.cell? ⟨gM, i * 5 + 3, none⟩ = some (.slice P3 p3 r3) ∧ Z.cell? ⟨gM, i * 5 + 4, none⟩ = some (.slice P4 p4 r4) ∧ Z.cell? ⟨G, 0, none⟩ = some (.int .i64 1) ∧ Z.cell? ⟨G, 1, none⟩ = some (.int .i64 on) ∧ Z.cell? ⟨G, 2, none⟩ = some (.string key) ∧ Z.cell? ⟨G, 3, none⟩ = some (.int .i64 val))) (ds := [18]) #[false, false, false, false, false, false, false, false, false, false, false, false, false, false, false, false, false, false, false, false, false] (by kernel_rfl) rfl rfl ⟨ct, x0, x1, x2, x3, x4, o0, o1, o2, o3⟩ (fun hHeld => ?_); refine with_tabW rr13_tab rr13_bits (fun HT_ HW_ => ?_)
        refine pure_ (i := 0) (N := some 42) (v := ?_) (a' := ?_) #[true, false, false, false, false, false, false, false, false, false, false, false, false, false, false, false, false, false, false, false, false] rfl rfl (any_of HT_.out (by kernel_rfl)) (fun _ _ _ h => h) (Or.inl ⟨by rfl, ?_⟩) ?_ ?_
        rotate_left
        · intro w'
          go_simp
          with_reducible rfl
        rotate_left
        · simp only [Act.put, List.setIfInBounds_toArray, List.set_cons_zero, List.set_cons_succ, i64_w, i32_w]
          rfl
        refine pure_ (i := 1) (N := some 43) (v := ?_) (a' := ?_) #[true, true, false, false, false, false, false, false, false, false, false, false, false, false, false, false, false, false, false, false, false] rfl rfl (any_of HT_.out (by kernel_rfl)) (fun _ _ _ h => h) (Or.inl ⟨by rfl, ?_⟩) ?_ ?_
        rotate_left
        · intro w'
          go_simp
          with_reducible rfl
        rotate_left
        · simp only [Act.put, List.setIfInBounds_toArray, List.set_cons_zero, List.set_cons_succ, i64_w, i32_w]
          rfl
        refine pure_ (i := 2) (N := some 44) (v := ?_) (a' := ?_) #[true, true, true, false, false, false, false, false, false, false, false, false, false, false, false, false, false, false, false, false, false] rfl rfl (any_of HT_.out (by kernel_rfl)) (fun _ _ _ h => h) (Or.inl ⟨by rfl, ?_⟩) ?_ ?_
        rotate_left
        · intro w'
          go_simp
          with_reducible rfl
        rotate_left
        · simp only [Act.put, List.setIfInBounds_toArray, List.set_cons_zero, List.set_cons_succ, i64_w, i32_w]
          rfl
        refine pure_ (i := 4) (N := some 46) (v := ?_) (a' := ?_) #[true, true, true, false, true, false, false, false, false, false, false, false, false, false, false, false, false, false, false, false, false] rfl rfl (any_of HT_.out (by kernel_rfl)) (fun _ _ _ h => h) (Or.inl ⟨by rfl, ?_⟩) ?_ ?_
        rotate_left
        · intro w'
          go_simp
          with_reducible rfl
        rotate_left
        · simp only [Act.put, List.setIfInBounds_toArray, List.set_cons_zero, List.set_cons_succ, i64_w, i32_w]
          rfl
        refine pure_ (i := 5) (N := some 47) (v := ?_) (a' := ?_) #[true, true, true, false, true, true, false, false, false, false, false, false, false, false, false, false, false, false, false, false, false] rfl rfl (any_of HT_.out (by kernel_rfl)) (fun _ _ _ h => h) (Or.inl ⟨by rfl, ?_⟩) ?_ ?_
        rotate_left
        · intro w'
          go_simp
          with_reducible rfl
        rotate_left
        · simp only [Act.put, List.setIfInBounds_toArray, List.set_cons_zero, List.set_cons_succ, i64_w, i32_w]
          rfl
        refine pure_ (i := 6) (N := some 48) (v := ?_) (a' := ?_) #[true, true, true, false, true, true, true, false, false, false, false, false, false, false, false, false, false, false, false, false, false] rfl rfl (any_of HT_.out (by kernel_rfl)) (fun _ _ _ h => h) (Or.inl ⟨by rfl, ?_⟩) ?_ ?_
        rotate_left
        · intro w'
          go_simp
          with_reducible rfl
        rotate_left
        · simp only [Act.put, List.setIfInBounds_toArray, List.set_cons_zero, List.set_cons_succ, i64_w, i32_w]
          rfl
        refine pure_ (i := 9) (N := some 51) (v := ?_) (a' := ?_) #[true, true, true, false, true, true, true, false, false, true, false, false, false, false, false, false, false, false, false, false, false] rfl rfl (any_of HT_.out (by kernel_rfl)) (fun _ _ _ h => h) (Or.inl ⟨by rfl, ?_⟩) ?_ ?_
        rotate_left
        · intro w'
          go_simp
          with_reducible rfl
        rotate_left
        · simp only [Act.put, List.setIfInBounds_toArray, List.set_cons_zero, List.set_cons_succ, i64_w, i32_w]
          rfl
        refine take_ (i := 3) (N := some 45) (v := ?_) (a' := ?_) #[true, true, true, true, true, true, true, false, false, true, false, false, false, false, false, false, false, false, false, false, false] rfl rfl (take_ofW HT_.out HW_.out (by kernel_rfl)) (fun _ _ _ h => h) (Or.inl ⟨by rfl, ?_⟩) hHeld ?_ ?_
        rotate_left
        · rintro w' ⟨s0, s1, s2, s3, s4, s5, s6, s7, s8, s9⟩
          go_simp
          with_reducible rfl
        rotate_left
        · simp only [Act.put, List.setIfInBounds_toArray, List.set_cons_zero, List.set_cons_succ, i64_w, i32_w]
          rfl
        refine take_ (i := 7) (N := some 49) (v := ?_) (a' := ?_) #[true, true, true, true, true, true, true, true, false, true, false, false, false, false, false, false, false, false, false, false, false] rfl rfl (take_ofW HT_.out HW_.out (by kernel_rfl)) (fun _ _ _ h => h) (Or.inl ⟨by rfl, ?_⟩) hHeld ?_ ?_
        rotate_left
        · rintro w' ⟨s0, s1, s2, s3, s4, s5, s6, s7, s8, s9⟩
          go_simp
          with_reducible rfl
        rotate_left
        · simp only [Act.put, List.setIfInBounds_toArray, List.set_cons_zero, List.set_cons_succ, i64_w, i32_w]
          rfl
        refine take_ (i := 8) (N := some 50) (v := ?_) (a' := ?_) #[true, true, true, true, true, true, true, true, true, true, false, false, false, false, false, false, false, false, false, false, false] rfl rfl (take_ofW HT_.out HW_.out (by kernel_rfl)) (fun _ _ _ h => h) (Or.inl ⟨by rfl, ?_⟩) hHeld ?_ ?_
        rotate_left
        · rintro w' ⟨s0, s1, s2, s3, s4, s5, s6, s7, s8, s9⟩
          go_simp
          with_reducible rfl
        rotate_left
        · simp only [Act.put, List.setIfInBounds_toArray, List.set_cons_zero, List.set_cons_succ, i64_w, i32_w]
          rfl
        refine join_ (σ := Nat × Vr × Int) 4 #[true, true, true, true, true, true, true, true, true, true, true, true, true, true, true, true, true, false, false, false, false] (fun s => [(52, .tuple #[.pointer (some ⟨s.2.1.tb, 0, none⟩), .agg #[s.2.1.v0, s.2.1.v1, s.2.1.v2, s.2.1.v3, s.2.1.v4], .int .i64 s.2.2, .bool true]), (41, .tuple #[.pointer (some ⟨s.2.1.tb, 0, none⟩), .agg #[s.2.1.v0, s.2.1.v1, s.2.1.v2, s.2.1.v3, s.2.1.v4], .int .i64 s.2.2, .bool true]), (53, .pointer (some ⟨s.2.1.tb, 0, none⟩)), (54, .agg #[s.2.1.v0, s.2.1.v1, s.2.1.v2, s.2.1.v3, s.2.1.v4]), (55, .int .i64 s.2.2), (56, .bool true), (11, .pointer (some ⟨s.1, 0, none⟩))]) (fun s W => Aside0 (W.heap[s.1]? = some (.cells #[.slice none 0 0, .slice none 0 0, .slice none 0 0, .slice none 0 0, .slice none 0 0] 28 (0, 0)) ∧ w5.heap.size ≤ s.1 ∧ Below w5.heap.size w5 W ∧ VOk (fun k => InRows (.slice (some ⟨gT, 0, none⟩) (N + 1) cT) (.slice (some ⟨gM, 0, none⟩) (N + 1) cM) k ∨ k = s.1) W (j + 1) s.2.1)) ?_ ?_
        rotate_left
        · intro hcont
          simp only [putAll, Act.put, List.setIfInBounds_toArray, List.set_cons_zero, List.set_cons_succ] at hcont
          refine two_ (i := 10) (j := 16) (Ni := some 52) (Nj := some 11) #[true, true, true, true, true, true, true, true, true, true, true, false, false, false, false, false, false, false, false, false, false] #[true, true, true, true, true, true, true, true, true, true, false, false, false, false, false, false, true, false, false, false, false] rfl rfl rfl rfl (two_of HT_.out (by kernel_rfl)) (by decide) (by decide) (fun K hK => ?_) (fun K hK => ?_)
          · refine goes_ Try.func46 (by kernel_rfl) rfl #[.pointer (some ⟨tb1, 0, none⟩), .agg #[.slice P0 p0 r0, .slice P1 p1 r1, .slice P2 p2 r2, .slice P3 p3 r3, .slice P4 p4 r4], .agg #[.int .i64 1, .int .i64 on, .string key, .int .i64 val], .int .i64 nx] (by rfl) rfl rfl (by (try simp only [List.map_toArray, List.map_cons, List.map_nil]); first | done | rfl) ?_
            refine (q1.out (fun k => InRows (.slice (some ⟨gT, 0, none⟩) (N + 1) cT) (.slice (some ⟨gM, 0, none⟩) (N + 1) cM) k ∨ w5.heap.size ≤ k) _ HBD.out (fun k hk => hk)).mono ?_
            rintro e w6 ⟨tb2, root2, t2, old, bb, nx2, u0, u1, u2, u3, u4, rfl, htr, hrt, hok2, hag2, hfew2, -, hbz⟩
            have HB6 := Aside0.mk (T.belowAt HBD.out hbz)
            have HV6 := Aside0.mk (And.intro htr (And.intro hrt (And.intro hok2 (And.intro hag2 hfew2))))
            have h1 : (fun Z => Z.cell? ⟨gT, i, none⟩ = some (.pointer (some ⟨tb1, 0, none⟩)) ∧ Z.cell? ⟨gM, i * 5, none⟩ = some (.slice P0 p0 r0) ∧ Z.cell? ⟨gM, i * 5 + 1, none⟩ = some (.slice P1 p1 r1) ∧ Z.cell? ⟨gM, i * 5 + 2, none⟩ = some (.slice P2 p2 r2) ∧ Z.cell? ⟨gM, i * 5 + 3, none⟩ = some (.slice P3 p3 r3) ∧ Z.cell? ⟨gM, i * 5 + 4, none⟩ = some (.slice P4 p4 r4) ∧ Z.cell? ⟨G, 0, none⟩ = some (.int .i64 1) ∧ Z.cell? ⟨G, 1, none⟩ = some (.int .i64 on) ∧ Z.cell? ⟨G, 2, none⟩ = some (.string key) ∧ Z.cell? ⟨G, 3, none⟩ = some (.int .i64 val)) w6 := ⟨(T.Kept.of hbz).cell ct, (T.Kept.of hbz).cell x0, (T.Kept.of hbz).cell x1, (T.Kept.of hbz).cell x2, (T.Kept.of hbz).cell x3, (T.Kept.of hbz).cell x4, (T.Kept.of hbz).cell o0, (T.Kept.of hbz).cell o1, (T.Kept.of hbz).cell o2, (T.Kept.of hbz).cell o3⟩
            clear htr hrt hok2 hag2 hfew2 hbz
            refine ⟨_, rfl, ?_⟩
            clear hHeld
            refine hK.out _ _ h1 (fun hHeld => ?_)
            clear hK K
            refine norm_ (a' := ?_) ?_ ?_
            rotate_left
            · show Act.put _ (some 52) _ = _
              simp only [Act.put, List.setIfInBounds_toArray, List.set_cons_zero, List.set_cons_succ, i64_w, i32_w]
              rfl
            refine pure_ (i := 11) (N := some 41) (v := ?_) (a' := ?_) #[true, true, true, true, true, true, true, true, true, true, true, true, false, false, false, false, false, false, false, false, false] rfl rfl (any_of HT_.out (by kernel_rfl)) (fun _ _ _ h => h) (Or.inl ⟨by rfl, ?_⟩) ?_ ?_
            rotate_left
            · intro w'
              go_simp
              with_reducible rfl
            rotate_left
            · simp only [Act.put, List.setIfInBounds_toArray, List.set_cons_zero, List.set_cons_succ, i64_w, i32_w]
              rfl
            refine pure_ (i := 12) (N := some 53) (v := ?_) (a' := ?_) #[true, true, true, true, true, true, true, true, true, true, true, true, true, false, false, false, false, false, false, false, false] rfl rfl (any_of HT_.out (by kernel_rfl)) (fun _ _ _ h => h) (Or.inl ⟨by rfl, ?_⟩) ?_ ?_
            rotate_left
            · intro w'
              go_simp
              with_reducible rfl
            rotate_left
            · simp only [Act.put, List.setIfInBounds_toArray, List.set_cons_zero, List.set_cons_succ, i64_w, i32_w]
              rfl
            refine pure_ (i := 13) (N := some 54) (v := ?_) (a' := ?_) #[true, true, true, true, true, true, true, true, true, true, true, true, true, true, false, false, false, false, false, false, false] rfl rfl (any_of HT_.out (by kernel_rfl)) (fun _ _ _ h => h) (Or.inl ⟨by rfl, ?_⟩) ?_ ?_
            rotate_left
            · intro w'
              go_simp
              with_reducible rfl
            rotate_left
            · simp only [Act.put, List.setIfInBounds_toArray, List.set_cons_zero, List.set_cons_succ, i64_w, i32_w]
              rfl
            refine pure_ (i := 14) (N := some 55) (v := ?_) (a' := ?_) #[true, true, true, true, true, true, true, true, true, true, true, true, true, true, true, false, false, false, false, false, false] rfl rfl (any_of HT_.out (by kernel_rfl)) (fun _ _ _ h => h) (Or.inl ⟨by rfl, ?_⟩) ?_ ?_
            rotate_left
            · intro w'
              go_simp
              with_reducible rfl
            rotate_left
            · simp only [Act.put, List.setIfInBounds_toArray, List.set_cons_zero, List.set_cons_succ, i64_w, i32_w]
              rfl
            refine pure_ (i := 15) (N := some 56) (v := ?_) (a' := ?_) #[true, true, true, true, true, true, true, true, true, true, true, true, true, true, true, true, false, false, false, false, false] rfl rfl (any_of HT_.out (by kernel_rfl)) (fun _ _ _ h => h) (Or.inl ⟨by rfl, ?_⟩) ?_ ?_
            rotate_left
            · intro w'
              go_simp
              with_reducible rfl
            rotate_left
            · simp only [Act.put, List.setIfInBounds_toArray, List.set_cons_zero, List.set_cons_succ, i64_w, i32_w]
              rfl
            refine one_ (i := 16) (N := some 11) #[true, true, true, true, true, true, true, true, true, true, true, true, true, true, true, true, true, false, false, false, false] rfl rfl (one_of HT_.out (by kernel_rfl)) (by decide) (fun K hK => ?_)
            refine value_ (w1 := w6.alloc (Obj.cells #[.slice none 0 0, .slice none 0 0, .slice none 0 0, .slice none 0 0, .slice none 0 0] 28)) (v := .pointer (some ⟨w6.heap.size, 0, none⟩)) (by rfl) rfl (by go_simp) ?_
            have hbz := (Below.refl w6.heap.size w6).alloc (Nat.le_refl _) (Obj.cells #[.slice none 0 0, .slice none 0 0, .slice none 0 0, .slice none 0 0, .slice none 0 0] 28)
            have h2 : (fun Z => Z.cell? ⟨gT, i, none⟩ = some (.pointer (some ⟨tb1, 0, none⟩)) ∧ Z.cell? ⟨gM, i * 5, none⟩ = some (.slice P0 p0 r0) ∧ Z.cell? ⟨gM, i * 5 + 1, none⟩ = some (.slice P1 p1 r1) ∧ Z.cell? ⟨gM, i * 5 + 2, none⟩ = some (.slice P2 p2 r2) ∧ Z.cell? ⟨gM, i * 5 + 3, none⟩ = some (.slice P3 p3 r3) ∧ Z.cell? ⟨gM, i * 5 + 4, none⟩ = some (.slice P4 p4 r4) ∧ Z.cell? ⟨G, 0, none⟩ = some (.int .i64 1) ∧ Z.cell? ⟨G, 1, none⟩ = some (.int .i64 on) ∧ Z.cell? ⟨G, 2, none⟩ = some (.string key) ∧ Z.cell? ⟨G, 3, none⟩ = some (.int .i64 val)) (w6.alloc (Obj.cells #[.slice none 0 0, .slice none 0 0, .slice none 0 0, .slice none 0 0, .slice none 0 0] 28)) := ⟨(T.Kept.of hbz).cell h1.1, (T.Kept.of hbz).cell h1.2.1, (T.Kept.of hbz).cell h1.2.2.1, (T.Kept.of hbz).cell h1.2.2.2.1, (T.Kept.of hbz).cell h1.2.2.2.2.1, (T.Kept.of hbz).cell h1.2.2.2.2.2.1, (T.Kept.of hbz).cell h1.2.2.2.2.2.2.1, (T.Kept.of hbz).cell h1.2.2.2.2.2.2.2.1, (T.Kept.of hbz).cell h1.2.2.2.2.2.2.2.2.1, (T.Kept.of hbz).cell h1.2.2.2.2.2.2.2.2.2⟩
            clear hHeld
            refine hK.out _ _ h2 (fun hHeld => ?_)
            clear hK K
            refine norm_ (a' := ?_) ?_ ?_
            rotate_left
            · show Act.put _ (some 11) _ = _
              simp only [Act.put, List.setIfInBounds_toArray, List.set_cons_zero, List.set_cons_succ, i64_w, i32_w]
              rfl
            exact hcont (w6.heap.size, ⟨tb2, root2, t2, u0, u1, u2, u3, u4⟩, nx2) _ ⟨World.alloc_heap_new w6 _, HB6.out.size, T.belowAt HB6.out ((Below.refl w6.heap.size w6).alloc (Nat.le_refl _) _), ⟨HV6.out.1.keep (T.Kept.of ((Below.refl w6.heap.size w6).alloc (Nat.le_refl _) _)), (HV6.out.2.1.out.below ((Below.refl w6.heap.size w6).alloc (Nat.le_refl _) _)).imp (fun k _ hk => hk.elim (fun h => .inl ⟨.inl h, HRL.out k h⟩) (fun h => .inr (by rw [h]; exact Nat.le_refl _))), HV6.out.2.2.1, HV6.out.2.2.2.1, by have := HV6.out.2.2.2.2; have h9 : t1.ks.length ≤ j := HX.out.few; show t2.ks.length ≤ j + 1; omega⟩⟩
          · refine value_ (w1 := w5.drew.alloc (Obj.cells #[.slice none 0 0, .slice none 0 0, .slice none 0 0, .slice none 0 0, .slice none 0 0] 28)) (v := .pointer (some ⟨w5.heap.size, 0, none⟩)) (by rfl) rfl (by go_simp) ?_
            have hbz := (Below.refl w5.drew.heap.size w5.drew).alloc (Nat.le_refl _) (Obj.cells #[.slice none 0 0, .slice none 0 0, .slice none 0 0, .slice none 0 0, .slice none 0 0] 28)
            have h1 : (fun Z => Z.cell? ⟨gT, i, none⟩ = some (.pointer (some ⟨tb1, 0, none⟩)) ∧ Z.cell? ⟨gM, i * 5, none⟩ = some (.slice P0 p0 r0) ∧ Z.cell? ⟨gM, i * 5 + 1, none⟩ = some (.slice P1 p1 r1) ∧ Z.cell? ⟨gM, i * 5 + 2, none⟩ = some (.slice P2 p2 r2) ∧ Z.cell? ⟨gM, i * 5 + 3, none⟩ = some (.slice P3 p3 r3) ∧ Z.cell? ⟨gM, i * 5 + 4, none⟩ = some (.slice P4 p4 r4) ∧ Z.cell? ⟨G, 0, none⟩ = some (.int .i64 1) ∧ Z.cell? ⟨G, 1, none⟩ = some (.int .i64 on) ∧ Z.cell? ⟨G, 2, none⟩ = some (.string key) ∧ Z.cell? ⟨G, 3, none⟩ = some (.int .i64 val)) (w5.drew.alloc (Obj.cells #[.slice none 0 0, .slice none 0 0, .slice none 0 0, .slice none 0 0, .slice none 0 0] 28)) := ⟨(T.Kept.of hbz).cell ct, (T.Kept.of hbz).cell x0, (T.Kept.of hbz).cell x1, (T.Kept.of hbz).cell x2, (T.Kept.of hbz).cell x3, (T.Kept.of hbz).cell x4, (T.Kept.of hbz).cell o0, (T.Kept.of hbz).cell o1, (T.Kept.of hbz).cell o2, (T.Kept.of hbz).cell o3⟩
            have HB6 := Aside0.mk (T.belowAt HBD.out hbz)
            clear hHeld hbz
            refine hK.out _ _ h1 (fun hHeld => ?_)
            clear hK K
            refine norm_ (a' := ?_) ?_ ?_
            rotate_left
            · show Act.put _ (some 11) _ = _
              simp only [Act.put, List.setIfInBounds_toArray, List.set_cons_zero, List.set_cons_succ, i64_w, i32_w]
              rfl
            refine one_ (i := 10) (N := some 52) #[true, true, true, true, true, true, true, true, true, true, true, false, false, false, false, false, true, false, false, false, false] rfl rfl (one_of HT_.out (by kernel_rfl)) (by decide) (fun K hK => ?_)
            refine goes_ Try.func46 (by kernel_rfl) rfl #[.pointer (some ⟨tb1, 0, none⟩), .agg #[.slice P0 p0 r0, .slice P1 p1 r1, .slice P2 p2 r2, .slice P3 p3 r3, .slice P4 p4 r4], .agg #[.int .i64 1, .int .i64 on, .string key, .int .i64 val], .int .i64 nx] (by rfl) rfl rfl (by (try simp only [List.map_toArray, List.map_cons, List.map_nil]); first | done | rfl) ?_
            refine (q1.out (fun k => InRows (.slice (some ⟨gT, 0, none⟩) (N + 1) cT) (.slice (some ⟨gM, 0, none⟩) (N + 1) cM) k ∨ k = w5.heap.size) _ HB6.out (fun k hk => hk.elim .inl (fun h => .inr (by rw [h]; exact Nat.le_refl _)))).mono ?_
            rintro e w6 ⟨tb2, root2, t2, old, bb, nx2, u0, u1, u2, u3, u4, rfl, htr, hrt, hok2, hag2, hfew2, -, hbz⟩
            have h2 : (fun Z => Z.cell? ⟨gT, i, none⟩ = some (.pointer (some ⟨tb1, 0, none⟩)) ∧ Z.cell? ⟨gM, i * 5, none⟩ = some (.slice P0 p0 r0) ∧ Z.cell? ⟨gM, i * 5 + 1, none⟩ = some (.slice P1 p1 r1) ∧ Z.cell? ⟨gM, i * 5 + 2, none⟩ = some (.slice P2 p2 r2) ∧ Z.cell? ⟨gM, i * 5 + 3, none⟩ = some (.slice P3 p3 r3) ∧ Z.cell? ⟨gM, i * 5 + 4, none⟩ = some (.slice P4 p4 r4) ∧ Z.cell? ⟨G, 0, none⟩ = some (.int .i64 1) ∧ Z.cell? ⟨G, 1, none⟩ = some (.int .i64 on) ∧ Z.cell? ⟨G, 2, none⟩ = some (.string key) ∧ Z.cell? ⟨G, 3, none⟩ = some (.int .i64 val)) w6 := ⟨(T.Kept.of hbz).cell h1.1, (T.Kept.of hbz).cell h1.2.1, (T.Kept.of hbz).cell h1.2.2.1, (T.Kept.of hbz).cell h1.2.2.2.1, (T.Kept.of hbz).cell h1.2.2.2.2.1, (T.Kept.of hbz).cell h1.2.2.2.2.2.1, (T.Kept.of hbz).cell h1.2.2.2.2.2.2.1, (T.Kept.of hbz).cell h1.2.2.2.2.2.2.2.1, (T.Kept.of hbz).cell h1.2.2.2.2.2.2.2.2.1, (T.Kept.of hbz).cell h1.2.2.2.2.2.2.2.2.2⟩
            have HZ6 := Aside0.mk ((hbz.block _ (Array.getElem?_eq_some_iff.1 (World.alloc_heap_new w5.drew (Obj.cells #[.slice none 0 0, .slice none 0 0, .slice none 0 0, .slice none 0 0, .slice none 0 0] 28))).1).trans (World.alloc_heap_new w5.drew (Obj.cells #[.slice none 0 0, .slice none 0 0, .slice none 0 0, .slice none 0 0, .slice none 0 0] 28)))
            have HV6 := Aside0.mk (And.intro htr (And.intro hrt (And.intro hok2 (And.intro hag2 (And.intro hfew2 (T.belowAt HB6.out hbz))))))
            clear htr hrt hok2 hag2 hfew2 hbz
            refine ⟨_, rfl, ?_⟩
            clear hHeld
            refine hK.out _ _ h2 (fun hHeld => ?_)
            clear hK K
            refine norm_ (a' := ?_) ?_ ?_
            rotate_left
            · show Act.put _ (some 52) _ = _
              simp only [Act.put, List.setIfInBounds_toArray, List.set_cons_zero, List.set_cons_succ, i64_w, i32_w]
              rfl
            refine pure_ (i := 11) (N := some 41) (v := ?_) (a' := ?_) #[true, true, true, true, true, true, true, true, true, true, true, true, false, false, false, false, true, false, false, false, false] rfl rfl (any_of HT_.out (by kernel_rfl)) (fun _ _ _ h => h) (Or.inl ⟨by rfl, ?_⟩) ?_ ?_
            rotate_left
            · intro w'
              go_simp
              with_reducible rfl
            rotate_left
            · simp only [Act.put, List.setIfInBounds_toArray, List.set_cons_zero, List.set_cons_succ, i64_w, i32_w]
              rfl
            refine pure_ (i := 12) (N := some 53) (v := ?_) (a' := ?_) #[true, true, true, true, true, true, true, true, true, true, true, true, true, false, false, false, true, false, false, false, false] rfl rfl (any_of HT_.out (by kernel_rfl)) (fun _ _ _ h => h) (Or.inl ⟨by rfl, ?_⟩) ?_ ?_
            rotate_left
            · intro w'
              go_simp
              with_reducible rfl
            rotate_left
            · simp only [Act.put, List.setIfInBounds_toArray, List.set_cons_zero, List.set_cons_succ, i64_w, i32_w]
              rfl
            refine pure_ (i := 13) (N := some 54) (v := ?_) (a' := ?_) #[true, true, true, true, true, true, true, true, true, true, true, true, true, true, false, false, true, false, false, false, false] rfl rfl (any_of HT_.out (by kernel_rfl)) (fun _ _ _ h => h) (Or.inl ⟨by rfl, ?_⟩) ?_ ?_
            rotate_left
            · intro w'
              go_simp
              with_reducible rfl
            rotate_left
            · simp only [Act.put, List.setIfInBounds_toArray, List.set_cons_zero, List.set_cons_succ, i64_w, i32_w]
              rfl
            refine pure_ (i := 14) (N := some 55) (v := ?_) (a' := ?_) #[true, true, true, true, true, true, true, true, true, true, true, true, true, true, true, false, true, false, false, false, false] rfl rfl (any_of HT_.out (by kernel_rfl)) (fun _ _ _ h => h) (Or.inl ⟨by rfl, ?_⟩) ?_ ?_
            rotate_left
            · intro w'
              go_simp
              with_reducible rfl
            rotate_left
            · simp only [Act.put, List.setIfInBounds_toArray, List.set_cons_zero, List.set_cons_succ, i64_w, i32_w]
              rfl
            refine pure_ (i := 15) (N := some 56) (v := ?_) (a' := ?_) #[true, true, true, true, true, true, true, true, true, true, true, true, true, true, true, true, true, false, false, false, false] rfl rfl (any_of HT_.out (by kernel_rfl)) (fun _ _ _ h => h) (Or.inl ⟨by rfl, ?_⟩) ?_ ?_
            rotate_left
            · intro w'
              go_simp
              with_reducible rfl
            rotate_left
            · simp only [Act.put, List.setIfInBounds_toArray, List.set_cons_zero, List.set_cons_succ, i64_w, i32_w]
              rfl
            exact hcont (w5.heap.size, ⟨tb2, root2, t2, u0, u1, u2, u3, u4⟩, nx2) _ ⟨HZ6.out, Nat.le_refl _, HV6.out.2.2.2.2.2, ⟨HV6.out.1, HV6.out.2.1.out.imp (fun k _ hk => ⟨hk, hk.elim (fun h => by have := HRL.out k h; rw [World.size_alloc]; exact Nat.lt_succ_of_lt this) (fun h => by rw [h, World.size_alloc]; exact Nat.lt_succ_self _)⟩), HV6.out.2.2.1, HV6.out.2.2.2.1, by have := HV6.out.2.2.2.2.1; have h9 : t1.ks.length ≤ j := HX.out.few; show t2.ks.length ≤ j + 1; omega⟩⟩
        rintro ⟨b, ⟨tb2, root2, t2, u0, u1, u2, u3, u4⟩, nx2⟩ w6 HF6
        have hvo := HF6.out.2.2.2
        obtain ⟨⟨B0, k0, d0, f0⟩, ⟨B1, k1, d1, f1⟩, ⟨B2, k2, d2, f2⟩, ⟨B3, k3, d3, f3⟩, ⟨B4, k4, d4, f4⟩⟩ := hvo.rt.here.forms
        dsimp only at f0 f1 f2 f3 f4
        subst f0 f1 f2 f3 f4
        have hz6 := HF6.out.1
        have z0 : w6.cell? ⟨b, 0, none⟩ = some (.slice none 0 0) := by rw [blk_cell hz6]; rfl
        have z1 : w6.cell? ⟨b, 1, none⟩ = some (.slice none 0 0) := by rw [blk_cell hz6]; rfl
        have z2 : w6.cell? ⟨b, 2, none⟩ = some (.slice none 0 0) := by rw [blk_cell hz6]; rfl
        have z3 : w6.cell? ⟨b, 3, none⟩ = some (.slice none 0 0) := by rw [blk_cell hz6]; rfl
        have z4 : w6.cell? ⟨b, 4, none⟩ = some (.slice none 0 0) := by rw [blk_cell hz6]; rfl
        have f0 : w6.frozen? ⟨b, 0, none⟩ = false := blk_frozen hz6 0
        have f1 : w6.frozen? ⟨b, 1, none⟩ = false := blk_frozen hz6 1
        have f2 : w6.frozen? ⟨b, 2, none⟩ = false := blk_frozen hz6 2
        have f3 : w6.frozen? ⟨b, 3, none⟩ = false := blk_frozen hz6 3
        have f4 : w6.frozen? ⟨b, 4, none⟩ = false := blk_frozen hz6 4
        clear hvo hz6 q1 hHeld ct x0 x1 x2 x3 x4 o0 o1 o2 o3
        refine norm_ (a' := ?_) ?_ ?_
        rotate_left
        · show putAll _ _ = _
          simp only [putAll, Act.put, List.setIfInBounds_toArray, List.set_cons_zero, List.set_cons_succ]
          rfl
        refine pure_ (i := 17) (N := some 10) (v := ?_) (a' := ?_) #[true, true, true, true, true, true, true, true, true, true, true, true, true, true, true, true, true, true, false, false, false] rfl rfl (any_of HT_.out (by kernel_rfl)) (fun _ _ _ h => h) (Or.inl ⟨by rfl, ?_⟩) ?_ ?_
        rotate_left
        · intro w'
          go_simp
          with_reducible rfl
        rotate_left
        · simp only [Act.put, List.setIfInBounds_toArray, List.set_cons_zero, List.set_cons_succ, i64_w, i32_w]
          rfl
        refine last_ (i := 18) (N := none) #[true, true, true, true, true, true, true, true, true, true, true, true, true, true, true, true, true, true, true, false, false] rfl rfl (one_of HT_.out (by kernel_rfl)) (by decide) (fun K hK => ?_)
        refine skip_ (w1 := ?_) (by rfl) rfl ?_ ?_
        rotate_left
        · go_simp
          rfl
        refine hK.out _ _ ?_
        clear hK K
        refine pure_ (i := 19) (N := some 12) (v := ?_) (a' := ?_) #[true, true, true, true, true, true, true, true, true, true, true, true, true, true, true, true, true, true, true, true, false] rfl rfl (any_of HT_.out (by kernel_rfl)) (fun _ _ _ h => h) (Or.inl ⟨by rfl, ?_⟩) ?_ ?_
        rotate_left
        · intro w'
          go_simp
          with_reducible rfl
        rotate_left
        · simp only [Act.put, List.setIfInBounds_toArray, List.set_cons_zero, List.set_cons_succ, i64_w, i32_w]
          rfl
        refine pure_ (i := 20) (N := some 13) (v := ?_) (a' := ?_) #[true, true, true, true, true, true, true, true, true, true, true, true, true, true, true, true, true, true, true, true, true] rfl rfl (any_of HT_.out (by kernel_rfl)) (fun _ _ _ h => h) (Or.inl ⟨by rfl, ?_⟩) ?_ ?_
        rotate_left
        · intro w'
          go_simp
          with_reducible rfl
        rotate_left
        · simp only [Act.put, List.setIfInBounds_toArray, List.set_cons_zero, List.set_cons_succ, i64_w, i32_w]
          rfl
        refine done_ (done_of HT_.out (by kernel_rfl)) ?_
        clear HT_ HW_ z0 z1 z2 z3 z4 f0 f1 f2 f3 f4
        go_upto_region 16 with fail
        obtain ⟨W7, e7⟩ : ∃ W7, V.set5 w6 b (.slice B0 k0 d0) (.slice B1 k1 d1) (.slice B2 k2 d2) (.slice B3 k3 d3) (.slice B4 k4 d4) = W7 := ⟨_, rfl⟩
        have e8 : ((((w6.setCell { block := b, off := 0 } (.slice B0 k0 d0)).setCell { block := b, off := 1 } (.slice B1 k1 d1)).setCell { block := b, off := 2 } (.slice B2 k2 d2)).setCell { block := b, off := 3 } (.slice B3 k3 d3)).setCell { block := b, off := 4 } (.slice B4 k4 d4) = W7 := e7
        have HZ7 : Aside0 (W7.heap[b]? = some (.cells #[.slice B0 k0 d0, .slice B1 k1 d1, .slice B2 k2 d2, .slice B3 k3 d3, .slice B4 k4 d4] 28 (0, 0)) ∧ W7.heap.size = w6.heap.size ∧ (∀ k, k ≠ b → W7.heap[k]? = w6.heap[k]?) ∧ Below w5.heap.size w5 W7) := ⟨by rw [← e7]; exact V.set5_at HF6.out.1 _ _ _ _ _, by rw [← e7]; simp [V.set5, T.size_setCell], fun k hk => by rw [← e7]; exact V.set5_far _ _ _ _ _ _ _ k hk, by rw [← e7]; exact V.set5_below HF6.out.2.2.1 HF6.out.2.1 _ _ _ _ _⟩
        have HV7 : Aside0 (Vers W7 w.heap.size (.slice (some ⟨gT, 0, none⟩) (N + 1) cT) (.slice (some ⟨gM, 0, none⟩) (N + 1) cM) l l (l ++ [⟨tb2, root2, t2, .slice B0 k0 d0, .slice B1 k1 d1, .slice B2 k2 d2, .slice B3 k3 d3, .slice B4 k4 d4⟩]) (j + 1)) := ⟨(HV5.out.below HZ7.out.2.2.2 (by omega)).add (VOk.put HF6.out.2.2.2 HF6.out.1 HZ7.out.2.1 HZ7.out.2.2.1)⟩
        rw [e8]
        clear e7 e8
        have hll : l.length = N + 1 := HI.out.2.2.1
        have HLL := Aside0.mk hll
        have hszw : w.heap.size ≤ W7.heap.size := Nat.le_trans (T.belowAt HB.out HB5.out).size HZ7.out.2.2.2.size
        have hownT := HV7.out.rT.alloc (Obj.cells #[.pointer (some ⟨tb2, 0, none⟩)] 24)
        rw [hll] at hownT
        have HOT := Aside0.mk hownT
        have hNs := HI.out
        have hN9 : N < 2000000000 := by omega
        clear hownT hll hNs
        go_wp2_with (at_builtin; refine wpList_append_own_at _ rfl _ _ 78 rfl w.heap.size 24 iT (.pointer none) 1 8 Try.underlying78 hiT hzT0 hzT1 hzT2 rfl (by decide) (.slice (some ⟨gT, 0, none⟩) (N + 1) cT) (N + 1) (trees l) rfl HOT.out ⟨W7.heap.size, 0, none⟩ 1 1 [.pointer (some ⟨tb2, 0, none⟩)] rfl rfl (cell_one_new _ _ _) (by simp [Value.oneCell']) (by unfold maxLen; omega) (by omega) (by rw [World.size_alloc]; omega) ?_)
        intro v8 w8 hown8 hg8 _ hat8
        obtain ⟨gT2, cT2, rfl⟩ := own_slice hown8
        have HV8 := Aside0.mk (HV7.out.growT (x := ⟨tb2, root2, t2, .slice B0 k0 d0, .slice B1 k1 d1, .slice B2 k2 d2, .slice B3 k3 d3, .slice B4 k4 d4⟩) (by rw [HLL.out]; exact hown8) hg8 hat8)
        have hb8 := (grow_block hg8 b (Array.getElem?_eq_some_iff.1 HZ7.out.1).1 (own_ne HV7.out.rT HZ7.out.1 (by decide))).trans HZ7.out.1
        have HB8 := Aside0.mk (below_grow HV7.out.rT hszw hg8)
        have hsz8 : w.heap.size ≤ w8.heap.size := Nat.le_trans hszw HB8.out.size
        have y0 : w8.cell? ⟨b, 0, none⟩ = some (.slice B0 k0 d0) := by rw [blk_cell hb8]; rfl
        have y1 : w8.cell? ⟨b, 1, none⟩ = some (.slice B1 k1 d1) := by rw [blk_cell hb8]; rfl
        have y2 : w8.cell? ⟨b, 2, none⟩ = some (.slice B2 k2 d2) := by rw [blk_cell hb8]; rfl
        have y3 : w8.cell? ⟨b, 3, none⟩ = some (.slice B3 k3 d3) := by rw [blk_cell hb8]; rfl
        have y4 : w8.cell? ⟨b, 4, none⟩ = some (.slice B4 k4 d4) := by rw [blk_cell hb8]; rfl
        clear hown8 hg8 hat8 hb8 HOT
        have hownM := HV8.out.rM.alloc (Obj.cells #[.slice B0 k0 d0, .slice B1 k1 d1, .slice B2 k2 d2, .slice B3 k3 d3, .slice B4 k4 d4] 28)
        rw [HLL.out] at hownM
        have HOM := Aside0.mk hownM
        clear hownM
        go_wp2_with (at_builtin; refine wpList_append_own_at _ rfl _ _ 79 rfl w.heap.size 28 iM (.agg #[.slice none 0 0, .slice none 0 0, .slice none 0 0, .slice none 0 0, .slice none 0 0]) 5 120 Try.underlying79 hiM hzM0 hzM1 hzM2 rfl (by decide) (.slice (some ⟨gM, 0, none⟩) (N + 1) cM) (N + 1) (models l) rfl HOM.out ⟨w8.heap.size, 0, none⟩ 1 1 [.slice B0 k0 d0, .slice B1 k1 d1, .slice B2 k2 d2, .slice B3 k3 d3, .slice B4 k4 d4] rfl rfl (cell_five_new _ _ _ _ _ _ _) (by simp [Value.oneCell']) (by unfold maxLen; omega) (by omega) (by rw [World.size_alloc]; omega) ?_)
        intro v9 w9 hown9 hg9 _ hat9
        obtain ⟨gM2, cM2, rfl⟩ := own_slice hown9
        have HV9 := Aside0.mk (HV8.out.growM (x := ⟨tb2, root2, t2, .slice B0 k0 d0, .slice B1 k1 d1, .slice B2 k2 d2, .slice B3 k3 d3, .slice B4 k4 d4⟩) (by rw [HLL.out]; exact hown9) hg9 hat9)
        have HB9 := Aside0.mk ((HB8.out.trans (below_grow HV8.out.rM hsz8 hg9)))
        clear hown9 hg9 hat9 HOM y0 y1 y2 y3 y4
        go_wp2_with fail
        go_roundg (n - j)
        case measure => have := HI.out; omega
        case rel =>
          refine ⟨j + 1, nx2, l ++ [⟨tb2, root2, t2, .slice B0 k0 d0, .slice B1 k1 d1, .slice B2 k2 d2, .slice B3 k3 d3, .slice B4 k4 d4⟩], N + 1, gT2, cT2, gM2, cM2, rfl, rfl, rfl, by simp, ⟨by have := HI.out; omega, by omega, by rw [List.length_append, HLL.out]; rfl, by have := HI.out; omega⟩, HV9, ⟨?_⟩⟩
          exact ((HB.out.trans (HB5.out.mono HB.out.size)).trans (HZ7.out.2.2.2.mono (T.belowAt HB.out HB5.out).size)).trans HB9.out
      by_cases hk2 : kind = 2
      · subst hk2
        have hbd := below_drew (Below.refl w5.heap.size w5)
        have hfew : t1.ks.length ≤ j := HX.out.few
        have q1 := Aside0.mk (fun (W : World) (h : Below w5.heap.size w5 W) => looksC W tb1 root1 (HX.out.tr.keep (T.Kept.of h)) t1 HX.out.ok HX.out.ag _ _ _ _ _ (HX.out.rt.here.below h) key hks.out (by have := HI.out; omega))
        have HBD := Aside0.mk hbd
        clear hbd hfew
        unfold ptr at q1
        go_upto_region 20 with fail
        refine start_ (n := 12) (S := (fun Z => Z.cell? ⟨gT, i, none⟩ = some (.pointer (some ⟨tb1, 0, none⟩)) ∧ Z.cell? ⟨gM, i * 5, none⟩ = some (.slice P0 p0 r0) ∧ Z.cell? ⟨gM, i * 5 + 1, none⟩ = some (.slice P1 p1 r1) ∧ Z.cell? ⟨gM, i * 5 + 2, none⟩ = some (.slice P2 p2 r2) ∧ Z.cell? ⟨gM, i * 5 + 3, none⟩ = some (.slice P3 p3 r3) ∧ Z.cell? ⟨gM, i * 5 + 4, none⟩ = some (.slice P4 p4 r4) ∧ Z.cell? ⟨G, 2, none⟩ = some (.string key))) (ds := []) #[false, false, false, false, false, false, false, false, false, false, false, false] (by kernel_rfl) rfl rfl ⟨ct, x0, x1, x2, x3, x4, o2⟩ (fun hHeld => ?_); refine with_tabW rr20_tab rr20_bits (fun HT_ HW_ => ?_)
        refine pure_ (i := 0) (N := some 70) (v := ?_) (a' := ?_) #[true, false, false, false, false, false, false, false, false, false, false, false] rfl rfl (any_of HT_.out (by kernel_rfl)) (fun _ _ _ h => h) (Or.inl ⟨by rfl, ?_⟩) ?_ ?_
        rotate_left
        · intro w'
          go_simp
          with_reducible rfl
        rotate_left
        · simp only [Act.put, List.setIfInBounds_toArray, List.set_cons_zero, List.set_cons_succ, i64_w, i32_w]
          rfl
        refine pure_ (i := 1) (N := some 71) (v := ?_) (a' := ?_) #[true, true, false, false, false, false, false, false, false, false, false, false] rfl rfl (any_of HT_.out (by kernel_rfl)) (fun _ _ _ h => h) (Or.inl ⟨by rfl, ?_⟩) ?_ ?_
        rotate_left
        · intro w'
          go_simp
          with_reducible rfl
        rotate_left
        · simp only [Act.put, List.setIfInBounds_toArray, List.set_cons_zero, List.set_cons_succ, i64_w, i32_w]
          rfl
        refine pure_ (i := 2) (N := some 72) (v := ?_) (a' := ?_) #[true, true, true, false, false, false, false, false, false, false, false, false] rfl rfl (any_of HT_.out (by kernel_rfl)) (fun _ _ _ h => h) (Or.inl ⟨by rfl, ?_⟩) ?_ ?_
        rotate_left
        · intro w'
          go_simp
          with_reducible rfl
        rotate_left
        · simp only [Act.put, List.setIfInBounds_toArray, List.set_cons_zero, List.set_cons_succ, i64_w, i32_w]
          rfl
        refine pure_ (i := 4) (N := some 74) (v := ?_) (a' := ?_) #[true, true, true, false, true, false, false, false, false, false, false, false] rfl rfl (any_of HT_.out (by kernel_rfl)) (fun _ _ _ h => h) (Or.inl ⟨by rfl, ?_⟩) ?_ ?_
        rotate_left
        · intro w'
          go_simp
          with_reducible rfl
        rotate_left
        · simp only [Act.put, List.setIfInBounds_toArray, List.set_cons_zero, List.set_cons_succ, i64_w, i32_w]
          rfl
        refine pure_ (i := 5) (N := some 75) (v := ?_) (a' := ?_) #[true, true, true, false, true, true, false, false, false, false, false, false] rfl rfl (any_of HT_.out (by kernel_rfl)) (fun _ _ _ h => h) (Or.inl ⟨by rfl, ?_⟩) ?_ ?_
        rotate_left
        · intro w'
          go_simp
          with_reducible rfl
        rotate_left
        · simp only [Act.put, List.setIfInBounds_toArray, List.set_cons_zero, List.set_cons_succ, i64_w, i32_w]
          rfl
        refine pure_ (i := 6) (N := some 76) (v := ?_) (a' := ?_) #[true, true, true, false, true, true, true, false, false, false, false, false] rfl rfl (any_of HT_.out (by kernel_rfl)) (fun _ _ _ h => h) (Or.inl ⟨by rfl, ?_⟩) ?_ ?_
        rotate_left
        · intro w'
          go_simp
          with_reducible rfl
        rotate_left
        · simp only [Act.put, List.setIfInBounds_toArray, List.set_cons_zero, List.set_cons_succ, i64_w, i32_w]
          rfl
        refine take_ (i := 3) (N := some 73) (v := ?_) (a' := ?_) #[true, true, true, true, true, true, true, false, false, false, false, false] rfl rfl (take_ofW HT_.out HW_.out (by kernel_rfl)) (fun _ _ _ h => h) (Or.inl ⟨by rfl, ?_⟩) hHeld ?_ ?_
        rotate_left
        · rintro w' ⟨s0, s1, s2, s3, s4, s5, s6⟩
          go_simp
          with_reducible rfl
        rotate_left
        · simp only [Act.put, List.setIfInBounds_toArray, List.set_cons_zero, List.set_cons_succ, i64_w, i32_w]
          rfl
        refine take_ (i := 7) (N := some 77) (v := ?_) (a' := ?_) #[true, true, true, true, true, true, true, true, false, false, false, false] rfl rfl (take_ofW HT_.out HW_.out (by kernel_rfl)) (fun _ _ _ h => h) (Or.inl ⟨by rfl, ?_⟩) hHeld ?_ ?_
        rotate_left
        · rintro w' ⟨s0, s1, s2, s3, s4, s5, s6⟩
          go_simp
          with_reducible rfl
        rotate_left
        · simp only [Act.put, List.setIfInBounds_toArray, List.set_cons_zero, List.set_cons_succ, i64_w, i32_w]
          rfl
        refine pure_ (i := 8) (N := some 78) (v := ?_) (a' := ?_) #[true, true, true, true, true, true, true, true, true, false, false, false] rfl rfl (any_of HT_.out (by kernel_rfl)) (fun _ _ _ h => h) (Or.inl ⟨by rfl, ?_⟩) ?_ ?_
        rotate_left
        · intro w'
          go_simp
          with_reducible rfl
        rotate_left
        · simp only [Act.put, List.setIfInBounds_toArray, List.set_cons_zero, List.set_cons_succ, i64_w, i32_w]
          rfl
        refine take_ (i := 9) (N := some 79) (v := ?_) (a' := ?_) #[true, true, true, true, true, true, true, true, true, true, false, false] rfl rfl (take_ofW HT_.out HW_.out (by kernel_rfl)) (fun _ _ _ h => h) (Or.inl ⟨by rfl, ?_⟩) hHeld ?_ ?_
        rotate_left
        · rintro w' ⟨s0, s1, s2, s3, s4, s5, s6⟩
          go_simp
          with_reducible rfl
        rotate_left
        · simp only [Act.put, List.setIfInBounds_toArray, List.set_cons_zero, List.set_cons_succ, i64_w, i32_w]
          rfl
        refine one_ (i := 10) (N := some 80) #[true, true, true, true, true, true, true, true, true, true, true, false] rfl rfl (one_of HT_.out (by kernel_rfl)) (by decide) (fun K hK => ?_)
        refine goes_ Try.func53 (by kernel_rfl) rfl #[.pointer (some ⟨tb1, 0, none⟩), .agg #[.slice P0 p0 r0, .slice P1 p1 r1, .slice P2 p2 r2, .slice P3 p3 r3, .slice P4 p4 r4], .string key] (by rfl) rfl rfl (by (try simp only [List.map_toArray, List.map_cons, List.map_nil]); first | done | rfl) ?_
        refine (q1.out _ HBD.out).mono ?_
        rintro e w6 ⟨rfl, hb6⟩
        have HB6 := Aside0.mk (T.belowAt HBD.out hb6)
        have h1 : (fun Z => Z.cell? ⟨gT, i, none⟩ = some (.pointer (some ⟨tb1, 0, none⟩)) ∧ Z.cell? ⟨gM, i * 5, none⟩ = some (.slice P0 p0 r0) ∧ Z.cell? ⟨gM, i * 5 + 1, none⟩ = some (.slice P1 p1 r1) ∧ Z.cell? ⟨gM, i * 5 + 2, none⟩ = some (.slice P2 p2 r2) ∧ Z.cell? ⟨gM, i * 5 + 3, none⟩ = some (.slice P3 p3 r3) ∧ Z.cell? ⟨gM, i * 5 + 4, none⟩ = some (.slice P4 p4 r4) ∧ Z.cell? ⟨G, 2, none⟩ = some (.string key)) w6 := ⟨(T.Kept.of hb6).cell ct, (T.Kept.of hb6).cell x0, (T.Kept.of hb6).cell x1, (T.Kept.of hb6).cell x2, (T.Kept.of hb6).cell x3, (T.Kept.of hb6).cell x4, (T.Kept.of hb6).cell o2⟩
        clear hb6
        refine ⟨_, rfl, ?_⟩
        clear hHeld
        refine hK.out _ _ h1 (fun hHeld => ?_)
        clear hK K
        refine norm_ (a' := ?_) ?_ ?_
        rotate_left
        · show Act.put _ (some 80) _ = _
          simp only [Act.put, List.setIfInBounds_toArray, List.set_cons_zero, List.set_cons_succ, i64_w, i32_w]
          rfl
        refine pure_ (i := 11) (N := some 81) (v := ?_) (a' := ?_) #[true, true, true, true, true, true, true, true, true, true, true, true] rfl rfl (any_of HT_.out (by kernel_rfl)) (fun _ _ _ h => h) (Or.inl ⟨by rfl, ?_⟩) ?_ ?_
        rotate_left
        · intro w'
          go_simp
          with_reducible rfl
        rotate_left
        · simp only [Act.put, List.setIfInBounds_toArray, List.set_cons_zero, List.set_cons_succ, i64_w, i32_w]
          rfl
        refine done_ (done_of HT_.out (by kernel_rfl)) ?_
        clear hHeld h1 q1 HT_ HW_ ct x0 x1 x2 x3 x4 o2
        go_wp2_with fail
        go_roundg (n - j)
        case measure => have := HI.out; omega
        case rel =>
          exact ⟨j + 1, nx, l, N, gT, cT, gM, cM, rfl, rfl, rfl, by simp, ⟨by have := HI.out; omega, by omega, HI.out.2.2.1, by have := HI.out; omega⟩, ⟨HV5.out.below HB6.out (by omega)⟩, ⟨T.belowAt (T.belowAt HB.out HB5.out) HB6.out⟩⟩
      by_cases hk3 : kind = 3
      · subst hk3
        have hbd := below_drew (Below.refl w5.heap.size w5)
        have hfew : t1.ks.length ≤ j := HX.out.few
        have q1 := Aside0.mk (fun (W : World) (h : Below w5.heap.size w5 W) => sameC W tb1 root1 (HX.out.tr.keep (T.Kept.of h)) t1 HX.out.ok HX.out.ag _ _ _ _ _ (HX.out.rt.here.below h) (by have := HI.out; omega))
        have HBD := Aside0.mk hbd
        clear hbd hfew
        unfold ptr at q1
        go_upto_region 23 with fail
        refine start_ (n := 10) (S := (fun Z => Z.cell? ⟨gT, i, none⟩ = some (.pointer (some ⟨tb1, 0, none⟩)) ∧ Z.cell? ⟨gM, i * 5, none⟩ = some (.slice P0 p0 r0) ∧ Z.cell? ⟨gM, i * 5 + 1, none⟩ = some (.slice P1 p1 r1) ∧ Z.cell? ⟨gM, i * 5 + 2, none⟩ = some (.slice P2 p2 r2) ∧ Z.cell? ⟨gM, i * 5 + 3, none⟩ = some (.slice P3 p3 r3) ∧ Z.cell? ⟨gM, i * 5 + 4, none⟩ = some (.slice P4 p4 r4))) (ds := []) #[false, false, false, false, false, false, false, false, false, false] (by kernel_rfl) rfl rfl ⟨ct, x0, x1, x2, x3, x4⟩ (fun hHeld => ?_); refine with_tabW rr23_tab rr23_bits (fun HT_ HW_ => ?_)
        refine pure_ (i := 0) (N := some 84) (v := ?_) (a' := ?_) #[true, false, false, false, false, false, false, false, false, false] rfl rfl (any_of HT_.out (by kernel_rfl)) (fun _ _ _ h => h) (Or.inl ⟨by rfl, ?_⟩) ?_ ?_
        rotate_left
        · intro w'
          go_simp
          with_reducible rfl
        rotate_left
        · simp only [Act.put, List.setIfInBounds_toArray, List.set_cons_zero, List.set_cons_succ, i64_w, i32_w]
          rfl
        refine pure_ (i := 1) (N := some 85) (v := ?_) (a' := ?_) #[true, true, false, false, false, false, false, false, false, false] rfl rfl (any_of HT_.out (by kernel_rfl)) (fun _ _ _ h => h) (Or.inl ⟨by rfl, ?_⟩) ?_ ?_
        rotate_left
        · intro w'
          go_simp
          with_reducible rfl
        rotate_left
        · simp only [Act.put, List.setIfInBounds_toArray, List.set_cons_zero, List.set_cons_succ, i64_w, i32_w]
          rfl
        refine pure_ (i := 2) (N := some 86) (v := ?_) (a' := ?_) #[true, true, true, false, false, false, false, false, false, false] rfl rfl (any_of HT_.out (by kernel_rfl)) (fun _ _ _ h => h) (Or.inl ⟨by rfl, ?_⟩) ?_ ?_
        rotate_left
        · intro w'
          go_simp
          with_reducible rfl
        rotate_left
        · simp only [Act.put, List.setIfInBounds_toArray, List.set_cons_zero, List.set_cons_succ, i64_w, i32_w]
          rfl
        refine pure_ (i := 4) (N := some 88) (v := ?_) (a' := ?_) #[true, true, true, false, true, false, false, false, false, false] rfl rfl (any_of HT_.out (by kernel_rfl)) (fun _ _ _ h => h) (Or.inl ⟨by rfl, ?_⟩) ?_ ?_
        rotate_left
        · intro w'
          go_simp
          with_reducible rfl
        rotate_left
        · simp only [Act.put, List.setIfInBounds_toArray, List.set_cons_zero, List.set_cons_succ, i64_w, i32_w]
          rfl
        refine pure_ (i := 5) (N := some 89) (v := ?_) (a' := ?_) #[true, true, true, false, true, true, false, false, false, false] rfl rfl (any_of HT_.out (by kernel_rfl)) (fun _ _ _ h => h) (Or.inl ⟨by rfl, ?_⟩) ?_ ?_
        rotate_left
        · intro w'
          go_simp
          with_reducible rfl
        rotate_left
        · simp only [Act.put, List.setIfInBounds_toArray, List.set_cons_zero, List.set_cons_succ, i64_w, i32_w]
          rfl
        refine pure_ (i := 6) (N := some 90) (v := ?_) (a' := ?_) #[true, true, true, false, true, true, true, false, false, false] rfl rfl (any_of HT_.out (by kernel_rfl)) (fun _ _ _ h => h) (Or.inl ⟨by rfl, ?_⟩) ?_ ?_
        rotate_left
        · intro w'
          go_simp
          with_reducible rfl
        rotate_left
        · simp only [Act.put, List.setIfInBounds_toArray, List.set_cons_zero, List.set_cons_succ, i64_w, i32_w]
          rfl
        refine take_ (i := 3) (N := some 87) (v := ?_) (a' := ?_) #[true, true, true, true, true, true, true, false, false, false] rfl rfl (take_ofW HT_.out HW_.out (by kernel_rfl)) (fun _ _ _ h => h) (Or.inl ⟨by rfl, ?_⟩) hHeld ?_ ?_
        rotate_left
        · rintro w' ⟨s0, s1, s2, s3, s4, s5⟩
          go_simp
          with_reducible rfl
        rotate_left
        · simp only [Act.put, List.setIfInBounds_toArray, List.set_cons_zero, List.set_cons_succ, i64_w, i32_w]
          rfl
        refine take_ (i := 7) (N := some 91) (v := ?_) (a' := ?_) #[true, true, true, true, true, true, true, true, false, false] rfl rfl (take_ofW HT_.out HW_.out (by kernel_rfl)) (fun _ _ _ h => h) (Or.inl ⟨by rfl, ?_⟩) hHeld ?_ ?_
        rotate_left
        · rintro w' ⟨s0, s1, s2, s3, s4, s5⟩
          go_simp
          with_reducible rfl
        rotate_left
        · simp only [Act.put, List.setIfInBounds_toArray, List.set_cons_zero, List.set_cons_succ, i64_w, i32_w]
          rfl
        refine one_ (i := 8) (N := some 92) #[true, true, true, true, true, true, true, true, true, false] rfl rfl (one_of HT_.out (by kernel_rfl)) (by decide) (fun K hK => ?_)
        refine goes_ Try.func54 (by kernel_rfl) rfl #[.pointer (some ⟨tb1, 0, none⟩), .agg #[.slice P0 p0 r0, .slice P1 p1 r1, .slice P2 p2 r2, .slice P3 p3 r3, .slice P4 p4 r4]] (by rfl) rfl rfl (by (try simp only [List.map_toArray, List.map_cons, List.map_nil]); first | done | rfl) ?_
        refine (q1.out _ HBD.out).mono ?_
        rintro e w6 ⟨rfl, hb6⟩
        have HB6 := Aside0.mk (T.belowAt HBD.out hb6)
        have h1 : (fun Z => Z.cell? ⟨gT, i, none⟩ = some (.pointer (some ⟨tb1, 0, none⟩)) ∧ Z.cell? ⟨gM, i * 5, none⟩ = some (.slice P0 p0 r0) ∧ Z.cell? ⟨gM, i * 5 + 1, none⟩ = some (.slice P1 p1 r1) ∧ Z.cell? ⟨gM, i * 5 + 2, none⟩ = some (.slice P2 p2 r2) ∧ Z.cell? ⟨gM, i * 5 + 3, none⟩ = some (.slice P3 p3 r3) ∧ Z.cell? ⟨gM, i * 5 + 4, none⟩ = some (.slice P4 p4 r4)) w6 := ⟨(T.Kept.of hb6).cell ct, (T.Kept.of hb6).cell x0, (T.Kept.of hb6).cell x1, (T.Kept.of hb6).cell x2, (T.Kept.of hb6).cell x3, (T.Kept.of hb6).cell x4⟩
        clear hb6
        refine ⟨_, rfl, ?_⟩
        clear hHeld
        refine hK.out _ _ h1 (fun hHeld => ?_)
        clear hK K
        refine norm_ (a' := ?_) ?_ ?_
        rotate_left
        · show Act.put _ (some 92) _ = _
          simp only [Act.put, List.setIfInBounds_toArray, List.set_cons_zero, List.set_cons_succ, i64_w, i32_w]
          rfl
        refine pure_ (i := 9) (N := some 93) (v := ?_) (a' := ?_) #[true, true, true, true, true, true, true, true, true, true] rfl rfl (any_of HT_.out (by kernel_rfl)) (fun _ _ _ h => h) (Or.inl ⟨by rfl, ?_⟩) ?_ ?_
        rotate_left
        · intro w'
          go_simp
          with_reducible rfl
        rotate_left
        · simp only [Act.put, List.setIfInBounds_toArray, List.set_cons_zero, List.set_cons_succ, i64_w, i32_w]
          rfl
        refine done_ (done_of HT_.out (by kernel_rfl)) ?_
        clear hHeld h1 q1 HT_ HW_ ct x0 x1 x2 x3 x4
        go_wp2_with fail
        go_roundg (n - j)
        case measure => have := HI.out; omega
        case rel =>
          exact ⟨j + 1, nx, l, N, gT, cT, gM, cM, rfl, rfl, rfl, by simp, ⟨by have := HI.out; omega, by omega, HI.out.2.2.1, by have := HI.out; omega⟩, ⟨HV5.out.below HB6.out (by omega)⟩, ⟨T.belowAt (T.belowAt HB.out HB5.out) HB6.out⟩⟩
      have hk0b : (kind == 0) = false := beq_eq_false_iff_ne.mpr hk0
      have hk1b : (kind == 1) = false := beq_eq_false_iff_ne.mpr hk1
      have hk2b : (kind == 2) = false := beq_eq_false_iff_ne.mpr hk2
      have hk3b : (kind == 3) = false := beq_eq_false_iff_ne.mpr hk3
      clear ct x0 x1 x2 x3 x4 hk0 hk1 hk2 hk3
      go_wp2_with fail
      go_roundg (n - j)
      case measure => have := HI.out; omega
      case rel =>
        exact ⟨j + 1, nx, l, N, gT, cT, gM, cM, rfl, rfl, rfl, by simp, ⟨by have := HI.out; omega, by omega, HI.out.2.2.1, by have := HI.out; omega⟩, ⟨HV5.out.below (Below.refl _ _) (by omega)⟩, ⟨T.belowAt HB.out HB5.out⟩⟩

    · have hin : j = n := by have := HI.out; omega
      subst hin
      go_wp2_with fail
      go_loopg [97] (N + 1 + 1) (fun kq v97 W => ∃ q : Nat, v97 = .int .i64 (q : Int) ∧ Aside0 (q + kq = N + 1 + 1 ∧ q ≤ N + 1) ∧ Aside0 (Below wr.heap.size wr W))
      case atStart => exact ⟨0, rfl, ⟨by omega, Nat.zero_le _⟩, ⟨Below.refl _ _⟩⟩
      case round =>
        obtain ⟨i, rfl, HQ, HW⟩ := hrel
        by_cases hq : i < N + 1
        · have HV5 := Aside0.mk (HV.out.below HW.out (Nat.le_refl _))
          have hil : i < l.length := by have := HI.out; omega
          obtain ⟨x, ex⟩ : ∃ x, l[i] = x := ⟨_, rfl⟩
          have hxl : x ∈ l := by rw [← ex]; exact List.getElem_mem _
          have hv := HV5.out.all x hxl
          have htc := Vers.cellT (c := cT) (by rw [show l.length = N + 1 from HI.out.2.2.1]; exact HV5.out) i hil
          have hmc := Vers.cellM (c := cM) (by rw [show l.length = N + 1 from HI.out.2.2.1]; exact HV5.out) i hil
          rw [ex] at htc hmc
          obtain ⟨tb1, root1, t1, a0, a1, a2, a3, a4⟩ := x
          obtain ⟨⟨P0, p0, r0, e0⟩, ⟨P1, p1, r1, e1⟩, ⟨P2, p2, r2, e2⟩, ⟨P3, p3, r3, e3⟩, ⟨P4, p4, r4, e4⟩⟩ := hv.rt.here.forms
          dsimp only at e0 e1 e2 e3 e4
          subst e0 e1 e2 e3 e4
          have ct : wr.cell? ⟨gT, i, none⟩ = some (.pointer (some ⟨tb1, 0, none⟩)) := htc
          have x0 : wr.cell? ⟨gM, i * 5, none⟩ = some (.slice P0 p0 r0) := hmc 0 (by omega)
          have x1 : wr.cell? ⟨gM, i * 5 + 1, none⟩ = some (.slice P1 p1 r1) := hmc 1 (by omega)
          have x2 : wr.cell? ⟨gM, i * 5 + 2, none⟩ = some (.slice P2 p2 r2) := hmc 2 (by omega)
          have x3 : wr.cell? ⟨gM, i * 5 + 3, none⟩ = some (.slice P3 p3 r3) := hmc 3 (by omega)
          have x4 : wr.cell? ⟨gM, i * 5 + 4, none⟩ = some (.slice P4 p4 r4) := hmc 4 (by omega)
          have hiI : (i : Int) < ((N + 1 : Nat) : Int) := by omega
          have hiI2 : (i : Int) < (N : Int) + 1 := by omega
          have HBD := Aside0.mk (below_drew (Below.refl wr.heap.size wr))
          have hfew : t1.ks.length ≤ j := hv.few
          have q1 := Aside0.mk (fun (W : World) (h : Below wr.heap.size wr W) => sameC W tb1 root1 (hv.tr.keep (T.Kept.of h)) t1 hv.ok hv.ag _ _ _ _ _ (hv.rt.here.below h) (by have := HI.out; omega))
          clear htc hmc hv ex hxl hil hfew
          unfold ptr at q1
          go_upto_region 29 with fail
          refine start_ (n := 10) (S := (fun Z => Z.cell? ⟨gT, i, none⟩ = some (.pointer (some ⟨tb1, 0, none⟩)) ∧ Z.cell? ⟨gM, i * 5, none⟩ = some (.slice P0 p0 r0) ∧ Z.cell? ⟨gM, i * 5 + 1, none⟩ = some (.slice P1 p1 r1) ∧ Z.cell? ⟨gM, i * 5 + 2, none⟩ = some (.slice P2 p2 r2) ∧ Z.cell? ⟨gM, i * 5 + 3, none⟩ = some (.slice P3 p3 r3) ∧ Z.cell? ⟨gM, i * 5 + 4, none⟩ = some (.slice P4 p4 r4))) (ds := []) #[false, false, false, false, false, false, false, false, false, false] (by kernel_rfl) rfl rfl ⟨ct, x0, x1, x2, x3, x4⟩ (fun hHeld => ?_); refine with_tabW rr29_tab rr29_bits (fun HT_ HW_ => ?_)
          refine pure_ (i := 0) (N := some 100) (v := ?_) (a' := ?_) #[true, false, false, false, false, false, false, false, false, false] rfl rfl (any_of HT_.out (by kernel_rfl)) (fun _ _ _ h => h) (Or.inl ⟨by rfl, ?_⟩) ?_ ?_
          rotate_left
          · intro w'
            go_simp
            with_reducible rfl
          rotate_left
          · simp only [Act.put, List.setIfInBounds_toArray, List.set_cons_zero, List.set_cons_succ, i64_w, i32_w]
            rfl
          refine pure_ (i := 1) (N := some 101) (v := ?_) (a' := ?_) #[true, true, false, false, false, false, false, false, false, false] rfl rfl (any_of HT_.out (by kernel_rfl)) (fun _ _ _ h => h) (Or.inl ⟨by rfl, ?_⟩) ?_ ?_
          rotate_left
          · intro w'
            go_simp
            with_reducible rfl
          rotate_left
          · simp only [Act.put, List.setIfInBounds_toArray, List.set_cons_zero, List.set_cons_succ, i64_w, i32_w]
            rfl
          refine pure_ (i := 2) (N := some 102) (v := ?_) (a' := ?_) #[true, true, true, false, false, false, false, false, false, false] rfl rfl (any_of HT_.out (by kernel_rfl)) (fun _ _ _ h => h) (Or.inl ⟨by rfl, ?_⟩) ?_ ?_
          rotate_left
          · intro w'
            go_simp
            with_reducible rfl
          rotate_left
          · simp only [Act.put, List.setIfInBounds_toArray, List.set_cons_zero, List.set_cons_succ, i64_w, i32_w]
            rfl
          refine pure_ (i := 4) (N := some 104) (v := ?_) (a' := ?_) #[true, true, true, false, true, false, false, false, false, false] rfl rfl (any_of HT_.out (by kernel_rfl)) (fun _ _ _ h => h) (Or.inl ⟨by rfl, ?_⟩) ?_ ?_
          rotate_left
          · intro w'
            go_simp
            with_reducible rfl
          rotate_left
          · simp only [Act.put, List.setIfInBounds_toArray, List.set_cons_zero, List.set_cons_succ, i64_w, i32_w]
            rfl
          refine pure_ (i := 5) (N := some 105) (v := ?_) (a' := ?_) #[true, true, true, false, true, true, false, false, false, false] rfl rfl (any_of HT_.out (by kernel_rfl)) (fun _ _ _ h => h) (Or.inl ⟨by rfl, ?_⟩) ?_ ?_
          rotate_left
          · intro w'
            go_simp
            with_reducible rfl
          rotate_left
          · simp only [Act.put, List.setIfInBounds_toArray, List.set_cons_zero, List.set_cons_succ, i64_w, i32_w]
            rfl
          refine pure_ (i := 6) (N := some 106) (v := ?_) (a' := ?_) #[true, true, true, false, true, true, true, false, false, false] rfl rfl (any_of HT_.out (by kernel_rfl)) (fun _ _ _ h => h) (Or.inl ⟨by rfl, ?_⟩) ?_ ?_
          rotate_left
          · intro w'
            go_simp
            with_reducible rfl
          rotate_left
          · simp only [Act.put, List.setIfInBounds_toArray, List.set_cons_zero, List.set_cons_succ, i64_w, i32_w]
            rfl
          refine take_ (i := 3) (N := some 103) (v := ?_) (a' := ?_) #[true, true, true, true, true, true, true, false, false, false] rfl rfl (take_ofW HT_.out HW_.out (by kernel_rfl)) (fun _ _ _ h => h) (Or.inl ⟨by rfl, ?_⟩) hHeld ?_ ?_
          rotate_left
          · rintro w' ⟨s0, s1, s2, s3, s4, s5⟩
            go_simp
            with_reducible rfl
          rotate_left
          · simp only [Act.put, List.setIfInBounds_toArray, List.set_cons_zero, List.set_cons_succ, i64_w, i32_w]
            rfl
          refine take_ (i := 7) (N := some 107) (v := ?_) (a' := ?_) #[true, true, true, true, true, true, true, true, false, false] rfl rfl (take_ofW HT_.out HW_.out (by kernel_rfl)) (fun _ _ _ h => h) (Or.inl ⟨by rfl, ?_⟩) hHeld ?_ ?_
          rotate_left
          · rintro w' ⟨s0, s1, s2, s3, s4, s5⟩
            go_simp
            with_reducible rfl
          rotate_left
          · simp only [Act.put, List.setIfInBounds_toArray, List.set_cons_zero, List.set_cons_succ, i64_w, i32_w]
            rfl
          refine one_ (i := 8) (N := some 108) #[true, true, true, true, true, true, true, true, true, false] rfl rfl (one_of HT_.out (by kernel_rfl)) (by decide) (fun K hK => ?_)
          refine goes_ Try.func54 (by kernel_rfl) rfl #[.pointer (some ⟨tb1, 0, none⟩), .agg #[.slice P0 p0 r0, .slice P1 p1 r1, .slice P2 p2 r2, .slice P3 p3 r3, .slice P4 p4 r4]] (by rfl) rfl rfl (by (try simp only [List.map_toArray, List.map_cons, List.map_nil]); first | done | rfl) ?_
          refine (q1.out _ HBD.out).mono ?_
          rintro e w6 ⟨rfl, hb6⟩
          have HB6 := Aside0.mk (T.belowAt HBD.out hb6)
          have h1 : (fun Z => Z.cell? ⟨gT, i, none⟩ = some (.pointer (some ⟨tb1, 0, none⟩)) ∧ Z.cell? ⟨gM, i * 5, none⟩ = some (.slice P0 p0 r0) ∧ Z.cell? ⟨gM, i * 5 + 1, none⟩ = some (.slice P1 p1 r1) ∧ Z.cell? ⟨gM, i * 5 + 2, none⟩ = some (.slice P2 p2 r2) ∧ Z.cell? ⟨gM, i * 5 + 3, none⟩ = some (.slice P3 p3 r3) ∧ Z.cell? ⟨gM, i * 5 + 4, none⟩ = some (.slice P4 p4 r4)) w6 := ⟨(T.Kept.of hb6).cell ct, (T.Kept.of hb6).cell x0, (T.Kept.of hb6).cell x1, (T.Kept.of hb6).cell x2, (T.Kept.of hb6).cell x3, (T.Kept.of hb6).cell x4⟩
          clear hb6
          refine ⟨_, rfl, ?_⟩
          clear hHeld
          refine hK.out _ _ h1 (fun hHeld => ?_)
          clear hK K
          refine norm_ (a' := ?_) ?_ ?_
          rotate_left
          · show Act.put _ (some 108) _ = _
            simp only [Act.put, List.setIfInBounds_toArray, List.set_cons_zero, List.set_cons_succ, i64_w, i32_w]
            rfl
          refine pure_ (i := 9) (N := some 109) (v := ?_) (a' := ?_) #[true, true, true, true, true, true, true, true, true, true] rfl rfl (any_of HT_.out (by kernel_rfl)) (fun _ _ _ h => h) (Or.inl ⟨by rfl, ?_⟩) ?_ ?_
          rotate_left
          · intro w'
            go_simp
            with_reducible rfl
          rotate_left
          · simp only [Act.put, List.setIfInBounds_toArray, List.set_cons_zero, List.set_cons_succ, i64_w, i32_w]
            rfl
          refine done_ (done_of HT_.out (by kernel_rfl)) ?_
          clear hHeld h1 q1 HT_ HW_ ct x0 x1 x2 x3 x4
          go_wp2_with fail
          go_roundg (N + 1 - i)
          case measure => have := HQ.out; omega
          case rel => exact ⟨i + 1, by simp; unfold wrap64; have := HI.out; omega, ⟨by have := HQ.out; omega, by omega⟩, ⟨T.belowAt HW.out HB6.out⟩⟩
        · have hin : i = N + 1 := by have := HQ.out; omega
          subst hin
          go_wp2_with fail
          go_ret
          exact ⟨rfl, T.belowAt HB.out HW.out⟩
end Go.Proofs.Ytjhgknagmiekeaa.N
set_option linter.unusedVariables false
set_option linter.unusedSimpArgs false
namespace Go.Proofs.Ytjhgknagmiekeaa.R
open Go.ChangeShapes Go.WideShapes Go.Deep Go.RowKit
open Go.Proofs.YtjhgknagmiekeaaW.PrintWords Go.Proofs.Ytjhgknagmiekeaa.K
section
variable {H : Type} {enc : TypeId × Value → H} {P : Program} {w : World} {base : Nat} {spare : Nat → Bool} {held : Bool}
theorem open_slice_fields {t e : TypeId} {fs : Array Field} {fuel : Nat} {cs : List Value} {x : DataW H × List MemPlace} (ht : P.underlying t = some (.slice e)) (he : P.underlying e = some (.struct fs))
    (hone : oneCellFields P fs = true) (hC : P.cellsOf e = fs.size) (h : DataW.trod enc P w base spare held fuel t cs = some x) :
    (cs = [.slice none 0 0] ∧ x = (.nil, [])) ∨
    ∃ (a : Addr) (len cap m : Nat) (D : Nat → DataW H) (Pl : Nat → List MemPlace), cs = [.slice (some a) len cap] ∧ base ≤ a.block ∧ len ≤ cap ∧ cap ≤ maxLen ∧ m = (if spare a.block then cap else len) ∧
      x = (.slice ((List.range len).map D) ((List.range (m - len)).map fun j => D (len + j)), MemPlace.row a (m * fs.size) ++ (List.range m).flatMap Pl) ∧
      ∀ i, i < m → ∃ (ys : List (DataW H × List MemPlace)) (n : Nat), D i = .agg (ys.map (·.1)) ∧ Pl i = ys.flatMap (·.2) ∧ ys.length = fs.size ∧
        ∀ (j : Nat) (f : Field), fs[j]? = some f → ∃ (v : Value) (y : DataW H × List MemPlace), w.cell? (a.add (i * fs.size + j)) = some v ∧ ys[j]? = some y ∧ DataW.trod enc P w base spare held n f.type [v] = some y := by
  rcases open_slice ht h with h0 | ⟨a, len, cap, m, n, D, Pl, hcs, hb, hl, hm, hmm, hx, hi⟩
  · exact .inl h0
  · refine .inr ⟨a, len, cap, m, D, Pl, hcs, hb, hl, hm, hmm, by rw [hC] at hx; exact hx, fun i him => ?_⟩
    obtain ⟨cs', hc, ht'⟩ := hi i him
    rw [hC] at hc
    obtain ⟨ys, n', hn', hy, hlen, hyl, hf⟩ := DataW.trod_struct he ht'
    obtain ⟨_, hcl, hat⟩ := World.cells?_some hc
    simp only [Prod.mk.injEq] at hy
    refine ⟨ys, n', hy.1, hy.2, hyl, fun j f hj => ?_⟩
    obtain ⟨ho, hk⟩ := hone_of hone j f hj
    have hjl : j < fs.size := (Array.getElem?_eq_some_iff.1 hj).1
    have hcell := hat j hjl
    have hv : cs'[j]? = some (cs'[j]'(by omega)) := List.getElem?_eq_getElem (by omega)
    have h1 := hf j f hj
    rw [ho, hk] at h1
    have hone' : (cs'.drop j).take 1 = [cs'[j]'(by omega)] := by
      rw [List.drop_eq_getElem_cons (by omega)]
      rfl
    rw [hone'] at h1
    have hys : ys[j]? = some (ys[j]'(by omega)) := List.getElem?_eq_getElem (by omega)
    refine ⟨_, _, ?_, hys, h1.trans hys⟩
    rw [← Go.Deep.add_add, hcell, hv]
end
def wt : List S35 → Nat
  | [] => 0
  | p :: ps => p.f0.size + 1 + wt ps
end Go.Proofs.Ytjhgknagmiekeaa.R
set_option linter.unusedVariables false
set_option linter.unusedSimpArgs false
namespace Go.Proofs.Ytjhgknagmiekeaa.R
open Go.ChangeShapes Go.WideShapes Go.Deep Go.RowKit
open Go.Proofs.YtjhgknagmiekeaaW.PrintWords Go.Proofs.Ytjhgknagmiekeaa.K Go.Proofs.Ytjhgknagmiekeaa.N
def dO {H : Type} (p : Opn) : DataW H := .agg [.lit (.int .i64 p.kind), .lit (.int .i64 p.on), .lit (.string p.key.data.toList), .lit (.int .i64 p.val)]
theorem open_opns {H : Type} {enc : TypeId × Value → H} {W : World} {base : Nat} {spare : Nat → Bool} {held : Bool} {a : Option Addr} {len cap : Nat} {d : DataW H} {ps : List MemPlace}
    (h : DataW.Trod enc Try.prog W base spare held 75 (.slice a len cap) d ps) :
    ∃ l : List Opn, len = l.length ∧ OpsAt W a l ∧ ((d = .nil ∧ l = []) ∨ ∃ sp, d = .slice (l.map dO) sp) := by
  obtain ⟨fuel, hf⟩ := h
  rcases open_slice_fields (fs := #[_, _, _, _]) Try.underlying75 Try.underlying67 (by kernel_rfl) (by kernel_rfl) hf with ⟨hcs, hx⟩ | ⟨ad, len', cap', m, D, Pl, hcs, _, hl, hm, hmm, hx, hi⟩
  · simp [Value.cells] at hcs
    obtain ⟨rfl, rfl, rfl⟩ := hcs
    obtain ⟨rfl, _⟩ := Prod.mk.inj hx
    exact ⟨[], rfl, fun i hi => by simp at hi, .inl ⟨rfl, rfl⟩⟩
  · simp [Value.cells] at hcs
    obtain ⟨rfl, rfl, rfl⟩ := hcs
    obtain ⟨hx, _⟩ := Prod.mk.inj hx
    subst hx
    have hlm : len ≤ m := by rw [hmm]; split; exact hl; exact Nat.le_refl _
    have each : ∀ i : Nat, ∃ p : Opn, i < len → D i = dO p ∧ W.cell? (ad.add (i * 4)) = some (.int .i64 p.kind) ∧ W.cell? (ad.add (i * 4 + 1)) = some (.int .i64 p.on) ∧ W.cell? (ad.add (i * 4 + 2)) = some (.string p.key) ∧ W.cell? (ad.add (i * 4 + 3)) = some (.int .i64 p.val) := by
      intro i
      by_cases hil : i < len
      · obtain ⟨ys, n, hD, _, hyl, hj⟩ := hi i (by omega)
        obtain ⟨v0, y0, c0, e0, t0⟩ := hj 0 _ rfl
        obtain ⟨v1, y1, c1, e1, t1⟩ := hj 1 _ rfl
        obtain ⟨v2, y2, c2, e2, t2⟩ := hj 2 _ rfl
        obtain ⟨v3, y3, c3, e3, t3⟩ := hj 3 _ rfl
        obtain ⟨n0, q0, r0, w0⟩ := DataW.trod_int Try.underlying3 t0
        obtain ⟨n1, q1, r1, w1⟩ := DataW.trod_int Try.underlying3 t1
        obtain ⟨s2, q2, r2, w2⟩ := DataW.trod_string Try.underlying9 t2
        obtain ⟨n3, q3, r3, w3⟩ := DataW.trod_int Try.underlying3 t3
        simp only [List.cons.injEq, and_true] at q0 q1 q2 q3
        subst q0 q1 q2 q3 r0 r1 r2 r3
        refine ⟨⟨n0, n1, s2, n3⟩, fun _ => ⟨?_, c0, c1, c2, c3⟩⟩
        have hys : ys = [(.lit (.int .i64 n0), []), (.lit (.int .i64 n1), []), (.lit (.string s2.data.toList), []), (.lit (.int .i64 n3), [])] := by
          match ys, hyl, e0, e1, e2, e3 with
          | [a, b, c, d], _, e0, e1, e2, e3 => simp at e0 e1 e2 e3; rw [e0, e1, e2, e3]
        rw [hD, hys]
        rfl
      · exact ⟨⟨0, 0, ⟨#[]⟩, 0⟩, fun h => absurd h hil⟩
    obtain ⟨g, hg⟩ := Classical.axiomOfChoice each
    refine ⟨(List.range len).map g, by simp, fun i hil => ?_, .inr ⟨(List.range (m - len)).map fun j => D (len + j), ?_⟩⟩
    · have hi2 : i < len := by simpa using hil
      have he : ((List.range len).map g)[i] = g i := by simp
      rw [he]
      exact ⟨ad, rfl, (hg i hi2).2⟩
    · congr 1
      rw [List.map_map]
      apply List.map_congr_left
      intro j hj
      exact (hg j (List.mem_range.1 hj)).1
def wtO : List Opn → Nat
  | [] => 0
  | p :: ps => p.key.size + 1 + wtO ps
theorem wtO_bulk {H : Type} (l : List Opn) : wtO l ≤ Rows.uptoBulkAll (l.map (dO (H := H))) := by
  induction l with
  | nil => exact Nat.zero_le _
  | cons p ps ih =>
    have e : p.key.data.toList.length = p.key.size := T.L_len _
    simp only [List.map_cons, Rows.uptoBulkAll, wtO, dO, Rows.uptoBulk, e]
    omega
theorem wtO_of {H : Type} {d : DataW H} {l : List Opn} (h : (d = .nil ∧ l = []) ∨ ∃ sp, d = .slice (l.map dO) sp) : wtO l ≤ Rows.uptoBulk d := by
  rcases h with ⟨rfl, rfl⟩ | ⟨sp, rfl⟩
  · exact Nat.zero_le _
  · have := wtO_bulk (H := H) l
    simp only [Rows.uptoBulk]
    omega
theorem wtO_len : ∀ (l : List Opn), l.length ≤ wtO l
  | [] => Nat.zero_le _
  | p :: ps => by have := wtO_len ps; simp only [List.length_cons, wtO]; omega
theorem wtO_mem : ∀ (l : List Opn) (p : Opn), p ∈ l → p.key.size ≤ wtO l
  | q :: l, p, h => by
    simp only [wtO]
    rcases List.mem_cons.1 h with e | e
    · rw [e]; omega
    · have := wtO_mem l p e; omega
end Go.Proofs.Ytjhgknagmiekeaa.R
