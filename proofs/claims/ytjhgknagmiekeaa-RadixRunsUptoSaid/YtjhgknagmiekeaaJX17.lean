/- joined: F7 N18 N17 N19 F8 F9 -/
import Derived.Test.YtjhgknagmiekeaaJX15
import Derived.Test.YtjhgknagmiekeaaJX16
import Derived.Test.YtjhgknagmiekeaaJX10
import Derived.Deep.RegionHeld3
set_option linter.unusedVariables false
set_option linter.unusedSimpArgs false
namespace Go.Proofs.Ytjhgknagmiekeaa.N
open Go.RowKit Go.Lib Go.Proofs
open Go.Proofs.Ytjhgknagmiekeaa.K Go.Proofs.YtjhgknagmiekeaaW.PrintWords Go.Proofs.YtjhgknagmiekeaaW.PrintLast
open Go.Proofs.Ytjhgknagmiekeaa.T (L)
attribute [local go_sem] Oper.semAt_some
end Go.Proofs.Ytjhgknagmiekeaa.N
set_option linter.unusedVariables false
set_option linter.unusedSimpArgs false
namespace Go.Proofs.Ytjhgknagmiekeaa.N
open Go.RowKit Go.Lib Go.Proofs
open Go.Proofs.Ytjhgknagmiekeaa.K Go.Proofs.YtjhgknagmiekeaaW.PrintWords Go.Proofs.YtjhgknagmiekeaaW.PrintLast
structure InS (w W : World) (B : Nat) (bt bz : Array Value) (v0 v1 v2 : Value) (x0 : List ByteArray) (x1 x2 : List Int) : Prop where
  r0 : Kd.R Kd.string 9 W w.heap.size (fun _ => True) v0 x0
  r1 : Kd.R (Kd.int .i64) 3 W w.heap.size (fun k => some k ≠ v2.ownBlock) v1 x1
  r2 : Kd.R (Kd.int .i64) 3 W w.heap.size (fun k => some k ≠ v1.ownBlock) v2 x2
  bt : W.heap[w.heap.size]? = some (.cells bt 28 (0, 0))
  bz : W.heap[w.heap.size + 1]? = some (.cells bz 28 (0, 0))
  bu : W.heap[B]? = some (.cells #[v0, v1, v2, .slice none 0 0, .slice none 0 0] 28 (0, 0))
  bl : Below w.heap.size w W
  hB : w.heap.size + 2 ≤ B
theorem R_self {α : Type} {enc : α → Value} {h1 : ∀ x, (enc x).oneCell' = true} {e base : Nat} {ok : Nat → Prop} {w : World} {v : Value} {xs : List α} (h : (Kd.scalar enc h1).R e w base ok v xs) : (Kd.scalar enc h1).R e w base (fun k => v.ownBlock = some k) v xs := Kd.R_of_own (Kd.own_of_R h) (fun k hk => hk)
section
variable {w W w1 : World} {B : Nat} {bt bz : Array Value} {v0 v1 v2 v' : Value} {x0 x0' : List ByteArray} {x1 x2 x' : List Int}
theorem InS.drew (h : InS w W B bt bz v0 v1 v2 x0 x1 x2) : InS w W.drew B bt bz v0 v1 v2 x0 x1 x2 := ⟨Kd.R_drew h.r0, Kd.R_drew h.r1, Kd.R_drew h.r2, h.bt, h.bz, h.bu, below_drew h.bl, h.hB⟩
theorem InS.app0 (h : InS w W B bt bz v0 v1 v2 x0 x1 x2) (HO : Kd.R Kd.string 9 w1 w.heap.size (fun _ => True) v' x0') (hb : Below w.heap.size w w1) (hg : W.grownBy w1 v0.ownBlock) (hat : v'.ownBlock = v0.ownBlock ∨ ∃ b, v'.ownBlock = some b ∧ W.heap.size ≤ b) :
    w1.heap[w.heap.size]? = some (.cells bt 28 (0, 0)) ∧ w1.heap[B]? = some (.cells #[v0, v1, v2, .slice none 0 0, .slice none 0 0] 28 (0, 0)) ∧ InS w (w1.setCell ⟨B, 0, none⟩ v') B bt bz v' v1 v2 x0' x1 x2 := by
  have b1 := blk_grown h.bt hg (Kd.R_ne h.r0 h.bt (by decide))
  have b2 := blk_grown h.bz hg (Kd.R_ne h.r0 h.bz (by decide))
  have b3 := blk_grown h.bu hg (Kd.R_ne h.r0 h.bu (by decide))
  have hB := h.hB
  exact ⟨b1, b3, Kd.R_set HO b3 (by decide) 0 v', Kd.R_set (Kd.R_over' h.r1 (Kd.R_typed h.r0) (by decide) hg) b3 (by decide) 0 v', Kd.R_set (Kd.R_over' h.r2 (Kd.R_typed h.r0) (by decide) hg) b3 (by decide) 0 v', (Below.heap_setCell _ _ _ _ (by show _ ≠ B; omega)).trans b1, (Below.heap_setCell _ _ _ _ (by show _ ≠ B; omega)).trans b2, V.set_at b3 0 v', hb.setCell (by show w.heap.size ≤ B; omega) _, h.hB⟩
theorem InS.app1 (h : InS w W B bt bz v0 v1 v2 x0 x1 x2) (HO : Kd.R (Kd.int .i64) 3 w1 w.heap.size (fun k => some k ≠ v2.ownBlock) v' x') (hb : Below w.heap.size w w1) (hg : W.grownBy w1 v1.ownBlock) (hat : v'.ownBlock = v1.ownBlock ∨ ∃ b, v'.ownBlock = some b ∧ W.heap.size ≤ b) :
    w1.heap[w.heap.size]? = some (.cells bt 28 (0, 0)) ∧ w1.heap[B]? = some (.cells #[v0, v1, v2, .slice none 0 0, .slice none 0 0] 28 (0, 0)) ∧ InS w (w1.setCell ⟨B, 1, none⟩ v') B bt bz v0 v' v2 x0 x' x2 := by
  have b1 := blk_grown h.bt hg (Kd.R_ne h.r1 h.bt (by decide))
  have b2 := blk_grown h.bz hg (Kd.R_ne h.r1 h.bz (by decide))
  have b3 := blk_grown h.bu hg (Kd.R_ne h.r1 h.bu (by decide))
  have hB := h.hB
  have q2 : Kd.R (Kd.int .i64) 3 w1 w.heap.size (fun k => some k ≠ v'.ownBlock) v2 x2 := Kd.R_mono (Kd.R_after (ok := fun _ => True) (Kd.R_mono h.r2 (fun _ hk => ⟨trivial, hk⟩)) hg hat) (fun _ hk => hk.2)
  exact ⟨b1, b3, Kd.R_set (Kd.R_over' h.r0 (Kd.R_typed h.r1) (by decide) hg) b3 (by decide) 1 v', Kd.R_set HO b3 (by decide) 1 v', Kd.R_set q2 b3 (by decide) 1 v', (Below.heap_setCell _ _ _ _ (by show _ ≠ B; omega)).trans b1, (Below.heap_setCell _ _ _ _ (by show _ ≠ B; omega)).trans b2, V.set_at b3 1 v', hb.setCell (by show w.heap.size ≤ B; omega) _, h.hB⟩
theorem InS.app2 (h : InS w W B bt bz v0 v1 v2 x0 x1 x2) (HO : Kd.R (Kd.int .i64) 3 w1 w.heap.size (fun k => some k ≠ v1.ownBlock) v' x') (hb : Below w.heap.size w w1) (hg : W.grownBy w1 v2.ownBlock) (hat : v'.ownBlock = v2.ownBlock ∨ ∃ b, v'.ownBlock = some b ∧ W.heap.size ≤ b) :
    w1.heap[w.heap.size]? = some (.cells bt 28 (0, 0)) ∧ w1.heap[B]? = some (.cells #[v0, v1, v2, .slice none 0 0, .slice none 0 0] 28 (0, 0)) ∧ InS w (w1.setCell ⟨B, 2, none⟩ v') B bt bz v0 v1 v' x0 x1 x' := by
  have b1 := blk_grown h.bt hg (Kd.R_ne h.r2 h.bt (by decide))
  have b2 := blk_grown h.bz hg (Kd.R_ne h.r2 h.bz (by decide))
  have b3 := blk_grown h.bu hg (Kd.R_ne h.r2 h.bu (by decide))
  have hB := h.hB
  have q1 : Kd.R (Kd.int .i64) 3 w1 w.heap.size (fun k => some k ≠ v'.ownBlock) v1 x1 := Kd.R_mono (Kd.R_after (ok := fun _ => True) (Kd.R_mono h.r1 (fun _ hk => ⟨trivial, hk⟩)) hg hat) (fun _ hk => hk.2)
  exact ⟨b1, b3, Kd.R_set (Kd.R_over' h.r0 (Kd.R_typed h.r2) (by decide) hg) b3 (by decide) 2 v', Kd.R_set q1 b3 (by decide) 2 v', Kd.R_set HO b3 (by decide) 2 v', (Below.heap_setCell _ _ _ _ (by show _ ≠ B; omega)).trans b1, (Below.heap_setCell _ _ _ _ (by show _ ≠ B; omega)).trans b2, V.set_at b3 2 v', hb.setCell (by show w.heap.size ≤ B; omega) _, h.hB⟩
theorem InS.f1 (h : InS w W B bt bz v0 v1 v2 x0 x1 x2) : ∀ k, W.heap.size ≤ k → some k ≠ v2.ownBlock := fun k hk e => by
  have := Kd.R_lt h.r2 k e.symm; omega
theorem InS.f2 (h : InS w W B bt bz v0 v1 v2 x0 x1 x2) : ∀ k, W.heap.size ≤ k → some k ≠ v1.ownBlock := fun k hk e => by
  have := Kd.R_lt h.r1 k e.symm; omega
theorem InS.sz (h : InS w W B bt bz v0 v1 v2 x0 x1 x2) : w.heap.size ≤ W.heap.size := h.bl.size
end
theorem insert_ex3 (t : Rt) (h : RokP t) (a : ByteArray) (v nx : Int) (n : Nat) (b : Bool) (f1 : n ≤ t.ks.length) (f3 : b = true → n < t.ks.length ∧ gd t.ks n = a) (hc : Cut t.ks a n n) (hb : b = true ↔ a ∈ t.ks) (ha : a.size < 4611686018427387904) (hl : t.ks.length < 100000000000) :
    ∃ (P : List ByteArray) (M : List Int) (nx' : Int), Ev (fun k => musterref03_remade.f k t.ks t.vs t.ls t.ps t.ms (putAt t.ks n b a) (putAt t.vs n b v) (putAt t.ls n b nx) [] [] a (wrap64 (nx + 1))) (putAt t.ks n b a, putAt t.vs n b v, putAt t.ls n b nx, P, M, nx') ∧ RokP ⟨putAt t.ks n b a, putAt t.vs n b v, putAt t.ls n b nx, P, M⟩ ∧ MkR t.ps t.ms a P (wrap64 (nx + 1)) M nx' ∧ (putAt t.ks n b a).length ≤ t.ks.length + 1 := by
  have e1 := putAt_len t.ks n b a f1 (fun e => (f3 e).1)
  have e2 := putAt_len t.vs n b v (by rw [h.v]; exact f1) (fun e => by rw [h.v]; exact (f3 e).1)
  have e3 := putAt_len t.ls n b nx (by rw [h.l]; exact f1) (fun e => by rw [h.l]; exact (f3 e).1)
  have hK : (putAt t.ks n b a).length ≤ t.ks.length + 1 := by rw [e1]; split <;> omega
  have hKs : Sml (putAt t.ks n b a) := fun x hx => by
    rcases mem_putAt hx with h1 | h1
    · exact h.sk x h1
    · rw [h1]; exact ha
  have hp := h.p
  obtain ⟨P, M, nx', r1, r2, r3, r4, r5, r6⟩ := remade_ex2 t.ps t.ms (putAt t.ks n b a) (putAt t.vs n b v) (putAt t.ls n b nx) [] [] t.ks t.vs t.ls a (wrap64 (nx + 1)) h.m (by omega) h.sp h.prise (by omega) hKs
  exact ⟨P, M, nx', r1, ⟨⟨by show (putAt t.vs n b v).length = (putAt t.ks n b a).length; rw [e1, e2, h.v], by show (putAt t.ls n b nx).length = (putAt t.ks n b a).length; rw [e1, e3, h.l], r2.len, r3, hKs, r4, rise_put h.rise hc f3 hb⟩, r5, r6⟩, r2, hK⟩
end Go.Proofs.Ytjhgknagmiekeaa.N
set_option linter.unusedVariables false
set_option linter.unusedSimpArgs false
namespace Go.Proofs.Ytjhgknagmiekeaa.N
open Go.RowKit Go.Proofs.Ytjhgknagmiekeaa.K Go.Proofs.YtjhgknagmiekeaaW.PrintWords Go.Proofs.YtjhgknagmiekeaaW.PrintLast
open Go.Proofs.Ytjhgknagmiekeaa.T (Nd All valT findT IntVals Fine Tr)
theorem rokP0 : RokP rt0 := by
  refine ⟨rok0, by unfold Rise rt0; simp, fun x => ?_⟩
  show x ∈ [(⟨#[]⟩ : ByteArray)] ↔ _
  rw [List.mem_singleton]
  unfold PathOf
  constructor
  · intro h; exact .inl (by rw [h])
  · rintro (h | ⟨j, h, e⟩ | ⟨j, h, e⟩)
    · exact T.L_inj h
    · exact absurd h (Nat.not_lt_zero _)
    · exact absurd h (Nat.not_lt_zero _)
def InsD (t t' : Rt) (a : ByteArray) (v nx nx' old : Int) (b : Bool) : Prop := ∃ n P M, n ≤ t.ks.length ∧ (b = true → n < t.ks.length ∧ gd t.ks n = a) ∧ (b = true ↔ a ∈ t.ks) ∧ Cut t.ks a n n ∧ old = (if b = true then rd t.vs n else 0) ∧ t' = ⟨putAt t.ks n b a, putAt t.vs n b v, putAt t.ls n b nx, P, M⟩ ∧ MkR t.ps t.ms a P (wrap64 (nx + 1)) M nx'
theorem InsD.rt {t t' : Rt} {a : ByteArray} {v nx nx' old : Int} {b : Bool} (h : InsD t t' a v nx nx' old b) (ht : Rok t) (ht' : Rok t') : InsRt t t' a v := by
  obtain ⟨n, P, M, h1, h2, h3, h4, -, rfl, -⟩ := h
  intro root root' g1 g2 g3 g4 g5 g6
  exact agree_ins (L := []) g1.toGood g2 g3.toGood g4 ht g5 h1 h4 h2 h3 ht' g6
end Go.Proofs.Ytjhgknagmiekeaa.N
set_option linter.unusedVariables false
set_option linter.unusedSimpArgs false
namespace Go.Proofs.Ytjhgknagmiekeaa.N
open Go.RowKit Go.Lib Go.Proofs
open Go.Proofs.Ytjhgknagmiekeaa.K Go.Proofs.YtjhgknagmiekeaaW.PrintWords Go.Proofs.YtjhgknagmiekeaaW.PrintLast
def ins_T : Bool × List (List Nat × List Nat) := (true, [([], []), ([0], [0]), ([], []), ([2], [2]), ([], []), ([3, 4], [3, 4]), ([1, 5], [1, 5]), ([0, 1, 2, 3, 4, 5, 6], []), ([7, 6, 6, 0, 1, 2, 3, 4, 5, 6], [6, 7])])
def ins_B : List Nat := [0, 1, 0, 4, 0, 28, 63, 127, 255]
theorem ins_bits : waitsOk ins_T.2 ins_B = true := by kernel_rfl
theorem ins_tab3 : rtab .any (opsOf Try.f66 3) = ins_T := by kernel_rfl
theorem ins_tab4 : rtab .any (opsOf Try.f66 4) = ins_T := by kernel_rfl
theorem ins_tab5 : rtab .any (opsOf Try.f66 5) = ins_T := by kernel_rfl
theorem ins_tab14 : rtab .any (opsOf Try.f66 14) = ins_T := by kernel_rfl
theorem ins_tab15 : rtab .any (opsOf Try.f66 15) = ins_T := by kernel_rfl
theorem ins_tab16 : rtab .any (opsOf Try.f66 16) = ins_T := by kernel_rfl
attribute [local go_sem] Oper.semAt_some
set_option maxRecDepth 100000 in
set_option maxHeartbeats 4000000 in
theorem insRtH (w : World) (t : Rt) (h : RokP t) (v0 v1 v2 v3 v4 : Value) (hm : RtAt w t v0 v1 v2 v3 v4) (a : ByteArray) (v nx : Int) (ha : a.size < 4611686018427387904) (hl : t.ks.length < 100000000000) :
    Calls Try.prog 66 #[.agg #[v0, v1, v2, v3, v4], .string a, .int .i64 v, .int .i64 nx] w fun e w' => ∃ (t' : Rt) (old : Int) (b : Bool) (nx' : Int) (u0 u1 u2 u3 u4 : Value), e = .returned (.tuple #[.agg #[u0, u1, u2, u3, u4], .int .i64 old, .bool b, .int .i64 nx']) ∧ (∀ w2, Rob w.heap.size w' w2 → RtAt w2 t' u0 u1 u2 u3 u4) ∧ RokP t' ∧ InsD t t' a v nx nx' old b ∧ t'.ks.length ≤ t.ks.length + 1 ∧ Below w.heap.size w w' := by
  obtain ⟨n, b, f1, f2, f3, f4⟩ := find_ex t.ks a (by omega) h.sk
  obtain ⟨hc, hb⟩ := f4 h.rise
  obtain ⟨k, hk⟩ := f2.rounds
  have HM := Aside0.mk hm.off
  obtain ⟨⟨A0, c0, rfl, p0, q0⟩, ⟨A1, c1, rfl, p1, q1⟩, ⟨A2, c2, rfl, p2, q2⟩, ⟨A3, c3, rfl, p3, q3⟩, ⟨A4, c4, rfl, p4, q4⟩⟩ := hm
  have qf := Aside0.mk (fun w1 (hB : Below w.heap.size w w1) => musterref03_Find.calls k A0 c0 t.ks a n b w1 (Kd.C_below q0 hB) p0 hk)
  have ev := h.v
  have el := h.l
  obtain ⟨N, eN⟩ : ∃ N, t.ks.length = N := ⟨_, rfl⟩
  obtain ⟨M3, e3⟩ : ∃ N, t.ps.length = N := ⟨_, rfl⟩
  obtain ⟨M4, e4⟩ : ∃ N, t.ms.length = N := ⟨_, rfl⟩
  rw [eN] at ev el hl f1 p0
  rw [ev] at p1
  rw [el] at p2
  rw [e3] at p3
  rw [e4] at p4
  have HQ := Aside0.mk (And.intro q0 (And.intro q1 (And.intro q2 (And.intro q3 q4))))
  have HP := Aside0.mk (And.intro p0 (And.intro p1 (And.intro p2 (And.intro p3 p4))))
  have HE := Aside0.mk (And.intro eN (And.intro ev (And.intro el (And.intro e3 e4))))
  rw [eN] at qf
  rw [ev, el, eN, e3, e4]
  have HB2 := Aside0.mk (((Below.refl w.heap.size w).alloc (Nat.le_refl _) (Obj.cells #[.slice A0 N c0, .slice A1 N c1, .slice A2 N c2, .slice A3 M3 c3, .slice A4 M4 c4] 28)).alloc (by simp) (Obj.cells #[.slice none 0 0, .slice none 0 0, .slice none 0 0, .slice none 0 0, .slice none 0 0] 28))
  have HW0 := Aside0.mk (show ((w.alloc (Obj.cells #[.slice A0 N c0, .slice A1 N c1, .slice A2 N c2, .slice A3 M3 c3, .slice A4 M4 c4] 28)).alloc (Obj.cells #[.slice none 0 0, .slice none 0 0, .slice none 0 0, .slice none 0 0, .slice none 0 0] 28)).heap[w.heap.size]? = some (.cells #[.slice A0 N c0, .slice A1 N c1, .slice A2 N c2, .slice A3 M3 c3, .slice A4 M4 c4] 28 (0, 0)) ∧ ((w.alloc (Obj.cells #[.slice A0 N c0, .slice A1 N c1, .slice A2 N c2, .slice A3 M3 c3, .slice A4 M4 c4] 28)).alloc (Obj.cells #[.slice none 0 0, .slice none 0 0, .slice none 0 0, .slice none 0 0, .slice none 0 0] 28)).heap[w.heap.size + 1]? = some (.cells #[.slice none 0 0, .slice none 0 0, .slice none 0 0, .slice none 0 0, .slice none 0 0] 28 (0, 0)) from
    ⟨(Below.heap_alloc _ _ _ (by simp)).trans (World.alloc_heap_new w _), by have := World.alloc_heap_new (w.alloc (Obj.cells #[.slice A0 N c0, .slice A1 N c1, .slice A2 N c2, .slice A3 M3 c3, .slice A4 M4 c4] 28)) (Obj.cells #[.slice none 0 0, .slice none 0 0, .slice none 0 0, .slice none 0 0, .slice none 0 0] 28); rwa [World.size_alloc] at this⟩)
  have HF := Aside0.mk (And.intro f1 (And.intro f3 (And.intro hc (And.intro hb h))))
  have HL := Aside0.mk (And.intro hl ha)
  clear q0 q1 q2 q3 q4 p0 p1 p2 p3 p4 hk f1 f2 f3 f4 hc hb h ev el eN e3 e4 hl
  go_enter Try.func66, Try.ntmps66
  go_wp2_with fail
  go_at_call 91
  refine (qf.out _ HB2.out).mono ?_
  rintro e w2 ⟨rfl, hd⟩
  have HB := Aside0.mk (HB2.out.trans (hd.below.mono HB2.out.size))
  have bb := (hd.below.block _ (Array.getElem?_eq_some_iff.1 HW0.out.1).1).trans HW0.out.1
  have br := (hd.below.block _ (Array.getElem?_eq_some_iff.1 HW0.out.2).1).trans HW0.out.2
  have HBB := Aside0.mk (And.intro bb br)
  clear bb br hd
  go_wp2_with fail
  have hnN : n ≤ N := HF.out.1
  have hNl := HL.out.1
  obtain ⟨B, eB⟩ : ∃ B, w2.heap.size = B := ⟨_, rfl⟩
  have hB2 : w.heap.size + 2 ≤ B := by have h1 := (Array.getElem?_eq_some_iff.1 HBB.out.2).1; omega
  rw [eB]
  have HI := Aside0.mk (show InS w (w2.alloc (Obj.cells #[.slice none 0 0, .slice none 0 0, .slice none 0 0, .slice none 0 0, .slice none 0 0] 28)) B #[.slice A0 N c0, .slice A1 N c1, .slice A2 N c2, .slice A3 M3 c3, .slice A4 M4 c4] #[.slice none 0 0, .slice none 0 0, .slice none 0 0, .slice none 0 0, .slice none 0 0] (.slice none 0 0) (.slice none 0 0) (.slice none 0 0) [] [] [] from
    ⟨Kd.R_nil _ _ _ _ _, Kd.R_nil _ _ _ _ _, Kd.R_nil _ _ _ _ _, (Below.heap_alloc _ _ _ (by omega)).trans HBB.out.1, (Below.heap_alloc _ _ _ (by omega)).trans HBB.out.2, by rw [← eB]; exact World.alloc_heap_new w2 _, HB.out.alloc HB.out.size (Obj.cells #[.slice none 0 0, .slice none 0 0, .slice none 0 0, .slice none 0 0, .slice none 0 0] 28), hB2⟩)
  generalize (w2.alloc (Obj.cells #[.slice none 0 0, .slice none 0 0, .slice none 0 0, .slice none 0 0, .slice none 0 0] 28)) = W0 at HI ⊢
  clear HB HBB eB HB2 HW0 qf
  have u0 : W0.cell? ⟨B, 0, none⟩ = some (.slice none 0 0) := by rw [blk_cell HI.out.bu]; rfl
  have t0 : W0.cell? ⟨w.heap.size, 0, none⟩ = some (.slice A0 N c0) := by rw [blk_cell HI.out.bt]; rfl
  have QT : Aside0 (∀ W, Below w.heap.size w W → Kd.C Kd.string W A0 n (t.ks.take n)) := ⟨fun W hW => by
    have el := HE.out.1
    have h0 := Kd.C_take (m := n) (Kd.C_below HQ.out.1 hW) (by omega)
    rwa [show (t.ks.take n).length = n by rw [List.length_take]; omega] at h0⟩
  have hnc : n ≤ c0 := by have := HP.out.1; omega
  refine start_ (n := 9) (S := (fun w' => w'.cell? ⟨B, 0, none⟩ = some (.slice none 0 0) ∧ w'.cell? ⟨w.heap.size, 0, none⟩ = some (.slice A0 N c0))) (ds := [8]) #[false, false, false, false, false, false, false, false, false] (by kernel_rfl) rfl rfl ⟨u0, t0⟩ (fun hHeld => ?_); refine with_tabW ins_tab3 ins_bits (fun HT_ HW_ => ?_)
  obtain ⟨Wd, eWd⟩ : ∃ Wd, W0.drew = Wd := ⟨_, rfl⟩
  have HI_ := Aside0.mk HI.out.drew
  clear HI
  have HI := HI_
  clear HI_
  rw [eWd] at HI hHeld ⊢
  clear eWd
  refine pure_ (i := 0) (N := some 25) (v := ?_) (a' := ?_) #[true, false, false, false, false, false, false, false, false] rfl rfl (any_of HT_.out (by kernel_rfl)) (fun _ _ _ h => h) (Or.inl ⟨by rfl, ?_⟩) ?_ ?_
  rotate_left
  · intro w'
    go_simp
    with_reducible rfl
  rotate_left
  · simp only [Act.put, List.setIfInBounds_toArray, List.set_cons_zero, List.set_cons_succ, i64_w, i32_w]
    rfl
  refine pure_ (i := 2) (N := some 27) (v := ?_) (a' := ?_) #[true, false, true, false, false, false, false, false, false] rfl rfl (any_of HT_.out (by kernel_rfl)) (fun _ _ _ h => h) (Or.inl ⟨by rfl, ?_⟩) ?_ ?_
  rotate_left
  · intro w'
    go_simp
    with_reducible rfl
  rotate_left
  · simp only [Act.put, List.setIfInBounds_toArray, List.set_cons_zero, List.set_cons_succ, i64_w, i32_w]
    rfl
  refine pure_ (i := 4) (N := some 29) (v := ?_) (a' := ?_) #[true, false, true, false, true, false, false, false, false] rfl rfl (any_of HT_.out (by kernel_rfl)) (fun _ _ _ h => h) (Or.inl ⟨by rfl, ?_⟩) ?_ ?_
  rotate_left
  · intro w'
    go_simp
    with_reducible rfl
  rotate_left
  · simp only [Act.put, List.setIfInBounds_toArray, List.set_cons_zero, List.set_cons_succ, i64_w, i32_w]
    rfl
  refine take_ (i := 1) (N := some 26) (v := ?_) (a' := ?_) #[true, true, true, false, true, false, false, false, false] rfl rfl (take_ofW HT_.out HW_.out (by kernel_rfl)) (fun _ _ _ h => h) (Or.inl ⟨by rfl, ?_⟩) hHeld ?_ ?_
  rotate_left
  · rintro w' ⟨s0, s1⟩
    go_simp
    with_reducible rfl
  rotate_left
  · simp only [Act.put, List.setIfInBounds_toArray, List.set_cons_zero, List.set_cons_succ, i64_w, i32_w]
    rfl
  refine take_ (i := 3) (N := some 28) (v := ?_) (a' := ?_) #[true, true, true, true, true, false, false, false, false] rfl rfl (take_ofW HT_.out HW_.out (by kernel_rfl)) (fun _ _ _ h => h) (Or.inl ⟨by rfl, ?_⟩) hHeld ?_ ?_
  rotate_left
  · rintro w' ⟨s0, s1⟩
    go_simp
    with_reducible rfl
  rotate_left
  · simp only [Act.put, List.setIfInBounds_toArray, List.set_cons_zero, List.set_cons_succ, i64_w, i32_w]
    rfl
  refine pure_ (i := 5) (N := some 30) (v := ?_) (a' := ?_) #[true, true, true, true, true, true, false, false, false] rfl rfl (any_of HT_.out (by kernel_rfl)) (fun _ _ _ h => h) (Or.inl ⟨by rfl, ?_⟩) ?_ ?_
  rotate_left
  · intro w'
    go_simp
    with_reducible rfl
  rotate_left
  · simp only [Act.put, List.setIfInBounds_toArray, List.set_cons_zero, List.set_cons_succ, i64_w, i32_w]
    rfl
  refine one_ (i := 6) (N := some 31) #[true, true, true, true, true, true, true, false, false] rfl rfl (one_of HT_.out (by kernel_rfl)) (by decide) (fun K hK => ?_)
  refine Kd.R_append_rows_step Kd.string (w0 := w) w.heap.size (by rfl) (.tmp 26) (.tmp 30) 25 9 (.string ⟨#[]⟩) 16 rfl Try.underlying25 info9 rfl (by decide) (by omega) (.slice none 0 0) ([] : List ByteArray) (t.ks.take n) _ _ _ (fun _ => True) (fun _ => False) rfl rfl HI.out.r0 (QT.out _ HI.out.bl) (fun _ _ h => h) (fun _ h => h.elim) (fun _ _ => trivial) HI.out.bl HI.out.sz (by rw [List.length_nil]; omega) ?_
  intro v3_ wa_ ho hb hg hat
  obtain ⟨D3, d3, rfl⟩ := Kd.R_slice ho
  obtain ⟨g1_, g2_, g3_⟩ := HI.out.app0 ho hb hg hat
  have HN := Aside0.mk g3_
  have t1 : wa_.cell? ⟨w.heap.size, 0, none⟩ = some (.slice A0 N c0) := by rw [blk_cell g1_]; rfl
  have u1 : wa_.cell? ⟨B, 0, none⟩ = some (.slice none 0 0) := by rw [blk_cell g2_]; rfl
  have uf1 : wa_.frozen? ⟨B, 0, none⟩ = false := blk_frozen g2_ 0
  obtain ⟨L3, eL3⟩ : ∃ L, (([] : List ByteArray) ++ (t.ks.take n)).length = L := ⟨_, rfl⟩
  rw [eL3] at HN
  rw [eL3]
  have HL3 := Aside0.mk eL3
  clear g1_ g2_ g3_ ho hb hg hat eL3
  clear hHeld
  refine hK.out _ _ ⟨u1, t1⟩ (fun hHeld => ?_)
  clear hK K
  refine norm_ (a' := ?_) ?_ ?_
  rotate_left
  · show Act.put _ (some 31) _ = _
    simp only [Act.put, List.setIfInBounds_toArray, List.set_cons_zero, List.set_cons_succ, i64_w, i32_w]
    rfl
  refine pure_ (i := 7) (N := some 32) (v := ?_) (a' := ?_) #[true, true, true, true, true, true, true, true, false] rfl rfl (any_of HT_.out (by kernel_rfl)) (fun _ _ _ h => h) (Or.inl ⟨by rfl, ?_⟩) ?_ ?_
  rotate_left
  · intro w'
    go_simp
    with_reducible rfl
  rotate_left
  · simp only [Act.put, List.setIfInBounds_toArray, List.set_cons_zero, List.set_cons_succ, i64_w, i32_w]
    rfl
  refine last_ (i := 8) (N := none) #[true, true, true, true, true, true, true, true, true] rfl rfl (one_of HT_.out (by kernel_rfl)) (by decide) (fun K hK => ?_)
  refine skip_ (w1 := ?_) (by rfl) rfl ?_ ?_
  rotate_left
  · go_simp
    rfl
  refine hK.out _ _ ?_
  clear hK K
  refine done_ (done_of HT_.out (by kernel_rfl)) ?_
  generalize (wa_.setCell ⟨B, 0, none⟩ (.slice D3 L3 d3)) = W1 at HN ⊢
  clear HI hHeld t0 t1 u0 u1 uf1 QT hnc HT_ HW_
  have HI := HN
  clear HN
  (try go_wp2)
  have u0 : W1.cell? ⟨B, 1, none⟩ = some (.slice none 0 0) := by rw [blk_cell HI.out.bu]; rfl
  have t0 : W1.cell? ⟨w.heap.size, 1, none⟩ = some (.slice A1 N c1) := by rw [blk_cell HI.out.bt]; rfl
  have QT : Aside0 (∀ W, Below w.heap.size w W → Kd.C (Kd.int .i64) W A1 n (t.vs.take n)) := ⟨fun W hW => by
    have el := HE.out.2.1
    have h0 := Kd.C_take (m := n) (Kd.C_below HQ.out.2.1 hW) (by omega)
    rwa [show (t.vs.take n).length = n by rw [List.length_take]; omega] at h0⟩
  have hnc : n ≤ c1 := by have := HP.out.2.1; omega
  refine start_ (n := 9) (S := (fun w' => w'.cell? ⟨B, 1, none⟩ = some (.slice none 0 0) ∧ w'.cell? ⟨w.heap.size, 1, none⟩ = some (.slice A1 N c1))) (ds := [8]) #[false, false, false, false, false, false, false, false, false] (by kernel_rfl) rfl rfl ⟨u0, t0⟩ (fun hHeld => ?_); refine with_tabW ins_tab4 ins_bits (fun HT_ HW_ => ?_)
  obtain ⟨Wd, eWd⟩ : ∃ Wd, W1.drew = Wd := ⟨_, rfl⟩
  have HI_ := Aside0.mk HI.out.drew
  clear HI
  have HI := HI_
  clear HI_
  rw [eWd] at HI hHeld ⊢
  clear eWd
  refine pure_ (i := 0) (N := some 33) (v := ?_) (a' := ?_) #[true, false, false, false, false, false, false, false, false] rfl rfl (any_of HT_.out (by kernel_rfl)) (fun _ _ _ h => h) (Or.inl ⟨by rfl, ?_⟩) ?_ ?_
  rotate_left
  · intro w'
    go_simp
    with_reducible rfl
  rotate_left
  · simp only [Act.put, List.setIfInBounds_toArray, List.set_cons_zero, List.set_cons_succ, i64_w, i32_w]
    rfl
  refine pure_ (i := 2) (N := some 35) (v := ?_) (a' := ?_) #[true, false, true, false, false, false, false, false, false] rfl rfl (any_of HT_.out (by kernel_rfl)) (fun _ _ _ h => h) (Or.inl ⟨by rfl, ?_⟩) ?_ ?_
  rotate_left
  · intro w'
    go_simp
    with_reducible rfl
  rotate_left
  · simp only [Act.put, List.setIfInBounds_toArray, List.set_cons_zero, List.set_cons_succ, i64_w, i32_w]
    rfl
  refine pure_ (i := 4) (N := some 37) (v := ?_) (a' := ?_) #[true, false, true, false, true, false, false, false, false] rfl rfl (any_of HT_.out (by kernel_rfl)) (fun _ _ _ h => h) (Or.inl ⟨by rfl, ?_⟩) ?_ ?_
  rotate_left
  · intro w'
    go_simp
    with_reducible rfl
  rotate_left
  · simp only [Act.put, List.setIfInBounds_toArray, List.set_cons_zero, List.set_cons_succ, i64_w, i32_w]
    rfl
  refine take_ (i := 1) (N := some 34) (v := ?_) (a' := ?_) #[true, true, true, false, true, false, false, false, false] rfl rfl (take_ofW HT_.out HW_.out (by kernel_rfl)) (fun _ _ _ h => h) (Or.inl ⟨by rfl, ?_⟩) hHeld ?_ ?_
  rotate_left
  · rintro w' ⟨s0, s1⟩
    go_simp
    with_reducible rfl
  rotate_left
  · simp only [Act.put, List.setIfInBounds_toArray, List.set_cons_zero, List.set_cons_succ, i64_w, i32_w]
    rfl
  refine take_ (i := 3) (N := some 36) (v := ?_) (a' := ?_) #[true, true, true, true, true, false, false, false, false] rfl rfl (take_ofW HT_.out HW_.out (by kernel_rfl)) (fun _ _ _ h => h) (Or.inl ⟨by rfl, ?_⟩) hHeld ?_ ?_
  rotate_left
  · rintro w' ⟨s0, s1⟩
    go_simp
    with_reducible rfl
  rotate_left
  · simp only [Act.put, List.setIfInBounds_toArray, List.set_cons_zero, List.set_cons_succ, i64_w, i32_w]
    rfl
  refine pure_ (i := 5) (N := some 38) (v := ?_) (a' := ?_) #[true, true, true, true, true, true, false, false, false] rfl rfl (any_of HT_.out (by kernel_rfl)) (fun _ _ _ h => h) (Or.inl ⟨by rfl, ?_⟩) ?_ ?_
  rotate_left
  · intro w'
    go_simp
    with_reducible rfl
  rotate_left
  · simp only [Act.put, List.setIfInBounds_toArray, List.set_cons_zero, List.set_cons_succ, i64_w, i32_w]
    rfl
  refine one_ (i := 6) (N := some 39) #[true, true, true, true, true, true, true, false, false] rfl rfl (one_of HT_.out (by kernel_rfl)) (by decide) (fun K hK => ?_)
  refine Kd.R_append_rows_step (Kd.int .i64) (w0 := w) w.heap.size (by rfl) (.tmp 34) (.tmp 38) 26 3 (.int .i64 0) 8 rfl Try.underlying26 info3 rfl (by decide) (by omega) (.slice none 0 0) ([] : List Int) (t.vs.take n) _ _ _ (fun k => some k ≠ (.slice none 0 0 : Value).ownBlock) (fun _ => False) rfl rfl HI.out.r1 (QT.out _ HI.out.bl) (fun _ _ h => h) (fun _ h => h.elim) HI.out.f1 HI.out.bl HI.out.sz (by rw [List.length_nil]; omega) ?_
  intro v4_ wa_ ho hb hg hat
  obtain ⟨D4, d4, rfl⟩ := Kd.R_slice ho
  obtain ⟨g1_, g2_, g3_⟩ := HI.out.app1 ho hb hg hat
  have HN := Aside0.mk g3_
  have t1 : wa_.cell? ⟨w.heap.size, 1, none⟩ = some (.slice A1 N c1) := by rw [blk_cell g1_]; rfl
  have u1 : wa_.cell? ⟨B, 1, none⟩ = some (.slice none 0 0) := by rw [blk_cell g2_]; rfl
  have uf1 : wa_.frozen? ⟨B, 1, none⟩ = false := blk_frozen g2_ 1
  obtain ⟨L4, eL4⟩ : ∃ L, (([] : List Int) ++ (t.vs.take n)).length = L := ⟨_, rfl⟩
  rw [eL4] at HN
  rw [eL4]
  have HL4 := Aside0.mk eL4
  clear g1_ g2_ g3_ ho hb hg hat eL4
  clear hHeld
  refine hK.out _ _ ⟨u1, t1⟩ (fun hHeld => ?_)
  clear hK K
  refine norm_ (a' := ?_) ?_ ?_
  rotate_left
  · show Act.put _ (some 39) _ = _
    simp only [Act.put, List.setIfInBounds_toArray, List.set_cons_zero, List.set_cons_succ, i64_w, i32_w]
    rfl
  refine pure_ (i := 7) (N := some 40) (v := ?_) (a' := ?_) #[true, true, true, true, true, true, true, true, false] rfl rfl (any_of HT_.out (by kernel_rfl)) (fun _ _ _ h => h) (Or.inl ⟨by rfl, ?_⟩) ?_ ?_
  rotate_left
  · intro w'
    go_simp
    with_reducible rfl
  rotate_left
  · simp only [Act.put, List.setIfInBounds_toArray, List.set_cons_zero, List.set_cons_succ, i64_w, i32_w]
    rfl
  refine last_ (i := 8) (N := none) #[true, true, true, true, true, true, true, true, true] rfl rfl (one_of HT_.out (by kernel_rfl)) (by decide) (fun K hK => ?_)
  refine skip_ (w1 := ?_) (by rfl) rfl ?_ ?_
  rotate_left
  · go_simp
    rfl
  refine hK.out _ _ ?_
  clear hK K
  refine done_ (done_of HT_.out (by kernel_rfl)) ?_
  generalize (wa_.setCell ⟨B, 1, none⟩ (.slice D4 L4 d4)) = W2 at HN ⊢
  clear HI hHeld t0 t1 u0 u1 uf1 QT hnc HT_ HW_
  have HI := HN
  clear HN
  (try go_wp2)
  have u0 : W2.cell? ⟨B, 2, none⟩ = some (.slice none 0 0) := by rw [blk_cell HI.out.bu]; rfl
  have t0 : W2.cell? ⟨w.heap.size, 2, none⟩ = some (.slice A2 N c2) := by rw [blk_cell HI.out.bt]; rfl
  have QT : Aside0 (∀ W, Below w.heap.size w W → Kd.C (Kd.int .i64) W A2 n (t.ls.take n)) := ⟨fun W hW => by
    have el := HE.out.2.2.1
    have h0 := Kd.C_take (m := n) (Kd.C_below HQ.out.2.2.1 hW) (by omega)
    rwa [show (t.ls.take n).length = n by rw [List.length_take]; omega] at h0⟩
  have hnc : n ≤ c2 := by have := HP.out.2.2.1; omega
  refine start_ (n := 9) (S := (fun w' => w'.cell? ⟨B, 2, none⟩ = some (.slice none 0 0) ∧ w'.cell? ⟨w.heap.size, 2, none⟩ = some (.slice A2 N c2))) (ds := [8]) #[false, false, false, false, false, false, false, false, false] (by kernel_rfl) rfl rfl ⟨u0, t0⟩ (fun hHeld => ?_); refine with_tabW ins_tab5 ins_bits (fun HT_ HW_ => ?_)
  obtain ⟨Wd, eWd⟩ : ∃ Wd, W2.drew = Wd := ⟨_, rfl⟩
  have HI_ := Aside0.mk HI.out.drew
  clear HI
  have HI := HI_
  clear HI_
  rw [eWd] at HI hHeld ⊢
  clear eWd
  refine pure_ (i := 0) (N := some 41) (v := ?_) (a' := ?_) #[true, false, false, false, false, false, false, false, false] rfl rfl (any_of HT_.out (by kernel_rfl)) (fun _ _ _ h => h) (Or.inl ⟨by rfl, ?_⟩) ?_ ?_
  rotate_left
  · intro w'
    go_simp
    with_reducible rfl
  rotate_left
  · simp only [Act.put, List.setIfInBounds_toArray, List.set_cons_zero, List.set_cons_succ, i64_w, i32_w]
    rfl
  refine pure_ (i := 2) (N := some 43) (v := ?_) (a' := ?_) #[true, false, true, false, false, false, false, false, false] rfl rfl (any_of HT_.out (by kernel_rfl)) (fun _ _ _ h => h) (Or.inl ⟨by rfl, ?_⟩) ?_ ?_
  rotate_left
  · intro w'
    go_simp
    with_reducible rfl
  rotate_left
  · simp only [Act.put, List.setIfInBounds_toArray, List.set_cons_zero, List.set_cons_succ, i64_w, i32_w]
    rfl
  refine pure_ (i := 4) (N := some 45) (v := ?_) (a' := ?_) #[true, false, true, false, true, false, false, false, false] rfl rfl (any_of HT_.out (by kernel_rfl)) (fun _ _ _ h => h) (Or.inl ⟨by rfl, ?_⟩) ?_ ?_
  rotate_left
  · intro w'
    go_simp
    with_reducible rfl
  rotate_left
  · simp only [Act.put, List.setIfInBounds_toArray, List.set_cons_zero, List.set_cons_succ, i64_w, i32_w]
    rfl
  refine take_ (i := 1) (N := some 42) (v := ?_) (a' := ?_) #[true, true, true, false, true, false, false, false, false] rfl rfl (take_ofW HT_.out HW_.out (by kernel_rfl)) (fun _ _ _ h => h) (Or.inl ⟨by rfl, ?_⟩) hHeld ?_ ?_
  rotate_left
  · rintro w' ⟨s0, s1⟩
    go_simp
    with_reducible rfl
  rotate_left
  · simp only [Act.put, List.setIfInBounds_toArray, List.set_cons_zero, List.set_cons_succ, i64_w, i32_w]
    rfl
  refine take_ (i := 3) (N := some 44) (v := ?_) (a' := ?_) #[true, true, true, true, true, false, false, false, false] rfl rfl (take_ofW HT_.out HW_.out (by kernel_rfl)) (fun _ _ _ h => h) (Or.inl ⟨by rfl, ?_⟩) hHeld ?_ ?_
  rotate_left
  · rintro w' ⟨s0, s1⟩
    go_simp
    with_reducible rfl
  rotate_left
  · simp only [Act.put, List.setIfInBounds_toArray, List.set_cons_zero, List.set_cons_succ, i64_w, i32_w]
    rfl
  refine pure_ (i := 5) (N := some 46) (v := ?_) (a' := ?_) #[true, true, true, true, true, true, false, false, false] rfl rfl (any_of HT_.out (by kernel_rfl)) (fun _ _ _ h => h) (Or.inl ⟨by rfl, ?_⟩) ?_ ?_
  rotate_left
  · intro w'
    go_simp
    with_reducible rfl
  rotate_left
  · simp only [Act.put, List.setIfInBounds_toArray, List.set_cons_zero, List.set_cons_succ, i64_w, i32_w]
    rfl
  refine one_ (i := 6) (N := some 47) #[true, true, true, true, true, true, true, false, false] rfl rfl (one_of HT_.out (by kernel_rfl)) (by decide) (fun K hK => ?_)
  refine Kd.R_append_rows_step (Kd.int .i64) (w0 := w) w.heap.size (by rfl) (.tmp 42) (.tmp 46) 26 3 (.int .i64 0) 8 rfl Try.underlying26 info3 rfl (by decide) (by omega) (.slice none 0 0) ([] : List Int) (t.ls.take n) _ _ _ (fun k => some k ≠ (.slice D4 L4 d4 : Value).ownBlock) (fun _ => False) rfl rfl HI.out.r2 (QT.out _ HI.out.bl) (fun _ _ h => h) (fun _ h => h.elim) HI.out.f2 HI.out.bl HI.out.sz (by rw [List.length_nil]; omega) ?_
  intro v5_ wa_ ho hb hg hat
  obtain ⟨D5, d5, rfl⟩ := Kd.R_slice ho
  obtain ⟨g1_, g2_, g3_⟩ := HI.out.app2 ho hb hg hat
  have HN := Aside0.mk g3_
  have t1 : wa_.cell? ⟨w.heap.size, 2, none⟩ = some (.slice A2 N c2) := by rw [blk_cell g1_]; rfl
  have u1 : wa_.cell? ⟨B, 2, none⟩ = some (.slice none 0 0) := by rw [blk_cell g2_]; rfl
  have uf1 : wa_.frozen? ⟨B, 2, none⟩ = false := blk_frozen g2_ 2
  obtain ⟨L5, eL5⟩ : ∃ L, (([] : List Int) ++ (t.ls.take n)).length = L := ⟨_, rfl⟩
  rw [eL5] at HN
  rw [eL5]
  have HL5 := Aside0.mk eL5
  clear g1_ g2_ g3_ ho hb hg hat eL5
  clear hHeld
  refine hK.out _ _ ⟨u1, t1⟩ (fun hHeld => ?_)
  clear hK K
  refine norm_ (a' := ?_) ?_ ?_
  rotate_left
  · show Act.put _ (some 47) _ = _
    simp only [Act.put, List.setIfInBounds_toArray, List.set_cons_zero, List.set_cons_succ, i64_w, i32_w]
    rfl
  refine pure_ (i := 7) (N := some 48) (v := ?_) (a' := ?_) #[true, true, true, true, true, true, true, true, false] rfl rfl (any_of HT_.out (by kernel_rfl)) (fun _ _ _ h => h) (Or.inl ⟨by rfl, ?_⟩) ?_ ?_
  rotate_left
  · intro w'
    go_simp
    with_reducible rfl
  rotate_left
  · simp only [Act.put, List.setIfInBounds_toArray, List.set_cons_zero, List.set_cons_succ, i64_w, i32_w]
    rfl
  refine last_ (i := 8) (N := none) #[true, true, true, true, true, true, true, true, true] rfl rfl (one_of HT_.out (by kernel_rfl)) (by decide) (fun K hK => ?_)
  refine skip_ (w1 := ?_) (by rfl) rfl ?_ ?_
  rotate_left
  · go_simp
    rfl
  refine hK.out _ _ ?_
  clear hK K
  refine done_ (done_of HT_.out (by kernel_rfl)) ?_
  generalize (wa_.setCell ⟨B, 2, none⟩ (.slice D5 L5 d5)) = W3 at HN ⊢
  clear HI hHeld t0 t1 u0 u1 uf1 QT hnc HT_ HW_
  have HI := HN
  clear HN

  have u0 : W3.cell? ⟨B, 0, none⟩ = some (.slice D3 L3 d3) := by rw [blk_cell HI.out.bu]; rfl
  go_upto_region 7 with (((with_reducible refine gate_builtin (b := .append) (xs := #[.tmp 50, .tmp 52]) rfl ?_); at_builtin; refine Kd.R_append Kd.string (w0 := w) w.heap.size rfl (.tmp 50) (.tmp 52) 25 9 (.string ⟨#[]⟩) 16 rfl Try.underlying25 info9 rfl (by decide) (by omega) (.slice D3 L3 d3) (([] : List ByteArray) ++ (t.ks.take n)) a [.string a] (fun _ => True) (fun _ => False) rfl (by first | (go_simp; done) | (go_simp; rfl)) rfl (fun _ hk => hk.elim) (fun _ _ => trivial) HI.out.r0 HI.out.bl HI.out.sz (by have := HE.out.1; simp only [List.length_append, List.length_take, List.length_cons, List.length_nil]; omega) ?_; intro v6_ wa6_ ho hb hg hat; obtain ⟨D6, d6, rfl⟩ := Kd.R_slice ho; obtain ⟨g1_, g2_, g3_⟩ := HI.out.app0 ho hb hg hat; have HN := Aside0.mk g3_; have u1 : wa6_.cell? ⟨B, 0, none⟩ = some (.slice D3 L3 d3) := (by rw [blk_cell g2_]; rfl); have uf1 : wa6_.frozen? ⟨B, 0, none⟩ = false := blk_frozen g2_ 0; obtain ⟨L6, eL6⟩ : ∃ L, ((([] : List ByteArray) ++ (t.ks.take n)) ++ [a]).length = L := ⟨_, rfl⟩; rw [eL6] at HN; rw [eL6]; have HL6 := Aside0.mk eL6; clear g1_ g2_ g3_ ho hb hg hat eL6))
  generalize (wa6_.setCell ⟨B, 0, none⟩ (.slice D6 L6 d6)) = W4 at HN ⊢
  clear HI u0 u1 uf1
  have HI := HN
  clear HN
  have u0 : W4.cell? ⟨B, 1, none⟩ = some (.slice D4 L4 d4) := by rw [blk_cell HI.out.bu]; rfl
  go_upto_region 8 with (((with_reducible refine gate_builtin (b := .append) (xs := #[.tmp 56, .tmp 58]) rfl ?_); at_builtin; refine Kd.R_append (Kd.int .i64) (w0 := w) w.heap.size rfl (.tmp 56) (.tmp 58) 26 3 (.int .i64 0) 8 rfl Try.underlying26 info3 rfl (by decide) (by omega) (.slice D4 L4 d4) (([] : List Int) ++ (t.vs.take n)) v [.int .i64 v] (fun k => some k ≠ (.slice D5 L5 d5 : Value).ownBlock) (fun _ => False) rfl (by first | (go_simp; done) | (go_simp; rfl)) rfl (fun _ hk => hk.elim) HI.out.f1 HI.out.r1 HI.out.bl HI.out.sz (by have := HE.out.2.1; simp only [List.length_append, List.length_take, List.length_cons, List.length_nil]; omega) ?_; intro v7_ wa7_ ho hb hg hat; obtain ⟨D7, d7, rfl⟩ := Kd.R_slice ho; obtain ⟨g1_, g2_, g3_⟩ := HI.out.app1 ho hb hg hat; have HN := Aside0.mk g3_; have u1 : wa7_.cell? ⟨B, 1, none⟩ = some (.slice D4 L4 d4) := (by rw [blk_cell g2_]; rfl); have uf1 : wa7_.frozen? ⟨B, 1, none⟩ = false := blk_frozen g2_ 1; obtain ⟨L7, eL7⟩ : ∃ L, ((([] : List Int) ++ (t.vs.take n)) ++ [v]).length = L := ⟨_, rfl⟩; rw [eL7] at HN; rw [eL7]; have HL7 := Aside0.mk eL7; clear g1_ g2_ g3_ ho hb hg hat eL7))
  generalize (wa7_.setCell ⟨B, 1, none⟩ (.slice D7 L7 d7)) = W5 at HN ⊢
  clear HI u0 u1 uf1
  have HI := HN
  clear HN
  have u0 : W5.cell? ⟨B, 2, none⟩ = some (.slice D5 L5 d5) := by rw [blk_cell HI.out.bu]; rfl
  go_upto_region 9 with (((with_reducible refine gate_builtin (b := .append) (xs := #[.tmp 62, .tmp 64]) rfl ?_); at_builtin; refine Kd.R_append (Kd.int .i64) (w0 := w) w.heap.size rfl (.tmp 62) (.tmp 64) 26 3 (.int .i64 0) 8 rfl Try.underlying26 info3 rfl (by decide) (by omega) (.slice D5 L5 d5) (([] : List Int) ++ (t.ls.take n)) nx [.int .i64 nx] (fun k => some k ≠ (.slice D7 L7 d7 : Value).ownBlock) (fun _ => False) rfl (by first | (go_simp; done) | (go_simp; rfl)) rfl (fun _ hk => hk.elim) HI.out.f2 HI.out.r2 HI.out.bl HI.out.sz (by have := HE.out.2.2.1; simp only [List.length_append, List.length_take, List.length_cons, List.length_nil]; omega) ?_; intro v8_ wa8_ ho hb hg hat; obtain ⟨D8, d8, rfl⟩ := Kd.R_slice ho; obtain ⟨g1_, g2_, g3_⟩ := HI.out.app2 ho hb hg hat; have HN := Aside0.mk g3_; have u1 : wa8_.cell? ⟨B, 2, none⟩ = some (.slice D5 L5 d5) := (by rw [blk_cell g2_]; rfl); have uf1 : wa8_.frozen? ⟨B, 2, none⟩ = false := blk_frozen g2_ 2; obtain ⟨L8, eL8⟩ : ∃ L, ((([] : List Int) ++ (t.ls.take n)) ++ [nx]).length = L := ⟨_, rfl⟩; rw [eL8] at HN; rw [eL8]; have HL8 := Aside0.mk eL8; clear g1_ g2_ g3_ ho hb hg hat eL8))
  generalize (wa8_.setCell ⟨B, 2, none⟩ (.slice D8 L8 d8)) = W6 at HN ⊢
  clear HI u0 u1 uf1
  have HI := HN
  clear HN

  obtain ⟨bb, ebb⟩ : ∃ bb, bb = b := ⟨_, rfl⟩
  have HBq := Aside0.mk ebb
  have HFR : Aside0 (∀ fr, fr = (if b = true then n + 1 else n) → ∀ (α : Type) (l : List α) (x : α), [] ++ l.take n ++ [x] ++ l.drop fr = putAt l n bb x) := ⟨fun fr e α l x => by rw [e, ← ebb]; unfold putAt; simp⟩
  have HFb : Aside0 ((bb = true → n < t.ks.length ∧ gd t.ks n = a) ∧ (bb = true ↔ a ∈ t.ks)) := ⟨by rw [ebb]; exact ⟨HF.out.2.1, HF.out.2.2.2.1⟩⟩
  clear ebb
  cases b
  rotate_left
  · have hn : n < N := by have := (HF.out.2.1 rfl).1; rw [HE.out.1] at this; exact this
    have hnI : (n : Int) < (N : Int) := by omega
    obtain ⟨ad, hA1, hadb, hat⟩ := int_at HQ.out.2.1 n (by rw [HE.out.2.1]; exact hn)
    have hcell := hat W6 (HI.out.bl.block ad.block hadb)
    have m1 : W6.cell? ⟨w.heap.size, 1, none⟩ = some (.slice A1 N c1) := by rw [blk_cell HI.out.bt]; rfl
    subst hA1
    clear hat hadb
    go_upto_region 14 with fail
    clear m1 hcell
    obtain ⟨A1, eA1⟩ : ∃ A, some ad = A := ⟨_, rfl⟩
    rw [eA1] at HI HQ HM ⊢
    obtain ⟨fr, efr⟩ : ∃ fr, n + 1 = fr := ⟨_, rfl⟩
    have hfr : fr ≤ N := by omega
    rw [show (n : Int) + 1 = (fr : Int) by omega]
    have HFQ := Aside0.mk (HFR.out fr efr.symm)
    clear hn hnI eA1 efr HFR
    have u0 : W6.cell? ⟨B, 0, none⟩ = some (.slice D6 L6 d6) := by rw [blk_cell HI.out.bu]; rfl
    have t0 : W6.cell? ⟨w.heap.size, 0, none⟩ = some (.slice A0 N c0) := by rw [blk_cell HI.out.bt]; rfl
    have QT : Aside0 (∀ m, m ≤ N → ∀ W, Below w.heap.size w W → Kd.C Kd.string W (if c0 = m then A0 else A0.map (·.add m)) (N - m) (t.ks.drop m)) := ⟨fun m hm W hW => by
      have el := HE.out.1
      have hpc := HP.out.1
      have h0 := Kd.C_drop (m := m) (c := c0) (Kd.C_below HQ.out.1 hW) (by omega) (by omega)
      rw [show m * (Kd.string).sz = m from Nat.mul_one _] at h0
      rwa [show (t.ks.drop m).length = N - m by rw [List.length_drop]; omega] at h0⟩
    have hnc : n ≤ c0 := by have := HP.out.1; omega
    have hfc : fr ≤ c0 := by have := HP.out.1; omega
    refine start_ (n := 9) (S := (fun w' => w'.cell? ⟨B, 0, none⟩ = some (.slice D6 L6 d6) ∧ w'.cell? ⟨w.heap.size, 0, none⟩ = some (.slice A0 N c0))) (ds := [8]) #[false, false, false, false, false, false, false, false, false] (by kernel_rfl) rfl rfl ⟨u0, t0⟩ (fun hHeld => ?_); refine with_tabW ins_tab14 ins_bits (fun HT_ HW_ => ?_)
    obtain ⟨Wd, eWd⟩ : ∃ Wd, W6.drew = Wd := ⟨_, rfl⟩
    have HI_ := Aside0.mk HI.out.drew
    clear HI
    have HI := HI_
    clear HI_
    rw [eWd] at HI hHeld ⊢
    clear eWd
    refine pure_ (i := 0) (N := some 76) (v := ?_) (a' := ?_) #[true, false, false, false, false, false, false, false, false] rfl rfl (any_of HT_.out (by kernel_rfl)) (fun _ _ _ h => h) (Or.inl ⟨by rfl, ?_⟩) ?_ ?_
    rotate_left
    · intro w'
      go_simp
      with_reducible rfl
    rotate_left
    · simp only [Act.put, List.setIfInBounds_toArray, List.set_cons_zero, List.set_cons_succ, i64_w, i32_w]
      rfl
    refine pure_ (i := 2) (N := some 78) (v := ?_) (a' := ?_) #[true, false, true, false, false, false, false, false, false] rfl rfl (any_of HT_.out (by kernel_rfl)) (fun _ _ _ h => h) (Or.inl ⟨by rfl, ?_⟩) ?_ ?_
    rotate_left
    · intro w'
      go_simp
      with_reducible rfl
    rotate_left
    · simp only [Act.put, List.setIfInBounds_toArray, List.set_cons_zero, List.set_cons_succ, i64_w, i32_w]
      rfl
    refine pure_ (i := 4) (N := some 80) (v := ?_) (a' := ?_) #[true, false, true, false, true, false, false, false, false] rfl rfl (any_of HT_.out (by kernel_rfl)) (fun _ _ _ h => h) (Or.inl ⟨by rfl, ?_⟩) ?_ ?_
    rotate_left
    · intro w'
      go_simp
      with_reducible rfl
    rotate_left
    · simp only [Act.put, List.setIfInBounds_toArray, List.set_cons_zero, List.set_cons_succ, i64_w, i32_w]
      rfl
    refine take_ (i := 1) (N := some 77) (v := ?_) (a' := ?_) #[true, true, true, false, true, false, false, false, false] rfl rfl (take_ofW HT_.out HW_.out (by kernel_rfl)) (fun _ _ _ h => h) (Or.inl ⟨by rfl, ?_⟩) hHeld ?_ ?_
    rotate_left
    · rintro w' ⟨s0, s1⟩
      go_simp
      with_reducible rfl
    rotate_left
    · simp only [Act.put, List.setIfInBounds_toArray, List.set_cons_zero, List.set_cons_succ, i64_w, i32_w]
      rfl
    refine take_ (i := 3) (N := some 79) (v := ?_) (a' := ?_) #[true, true, true, true, true, false, false, false, false] rfl rfl (take_ofW HT_.out HW_.out (by kernel_rfl)) (fun _ _ _ h => h) (Or.inl ⟨by rfl, ?_⟩) hHeld ?_ ?_
    rotate_left
    · rintro w' ⟨s0, s1⟩
      go_simp
      with_reducible rfl
    rotate_left
    · simp only [Act.put, List.setIfInBounds_toArray, List.set_cons_zero, List.set_cons_succ, i64_w, i32_w]
      rfl
    refine pure_ (i := 5) (N := some 81) (v := ?_) (a' := ?_) #[true, true, true, true, true, true, false, false, false] rfl rfl (any_of HT_.out (by kernel_rfl)) (fun _ _ _ h => h) (Or.inl ⟨by rfl, ?_⟩) ?_ ?_
    rotate_left
    · intro w'
      go_simp
      with_reducible rfl
    rotate_left
    · simp only [Act.put, List.setIfInBounds_toArray, List.set_cons_zero, List.set_cons_succ, i64_w, i32_w]
      rfl
    refine one_ (i := 6) (N := some 82) #[true, true, true, true, true, true, true, false, false] rfl rfl (one_of HT_.out (by kernel_rfl)) (by decide) (fun K hK => ?_)
    refine Kd.R_append_rows_step Kd.string (w0 := w) w.heap.size (by rfl) (.tmp 77) (.tmp 81) 25 9 (.string ⟨#[]⟩) 16 rfl Try.underlying25 info9 rfl (by decide) (by omega) (.slice D6 L6 d6) ((([] : List ByteArray) ++ (t.ks.take n)) ++ [a]) (t.ks.drop fr) _ _ _ (fun _ => True) (fun _ => False) rfl rfl HI.out.r0 (QT.out _ hfr _ HI.out.bl) (fun _ _ h => h) (fun _ h => h.elim) (fun _ _ => trivial) HI.out.bl HI.out.sz (by have := HE.out.1; simp only [List.length_append, List.length_take, List.length_cons, List.length_nil]; omega) ?_
    intro v14_ wa_ ho hb hg hat
    obtain ⟨D14, d14, rfl⟩ := Kd.R_slice ho
    obtain ⟨g1_, g2_, g3_⟩ := HI.out.app0 ho hb hg hat
    have HN := Aside0.mk g3_
    have t1 : wa_.cell? ⟨w.heap.size, 0, none⟩ = some (.slice A0 N c0) := by rw [blk_cell g1_]; rfl
    have u1 : wa_.cell? ⟨B, 0, none⟩ = some (.slice D6 L6 d6) := by rw [blk_cell g2_]; rfl
    have uf1 : wa_.frozen? ⟨B, 0, none⟩ = false := blk_frozen g2_ 0
    obtain ⟨L14, eL14⟩ : ∃ L, (((([] : List ByteArray) ++ (t.ks.take n)) ++ [a]) ++ (t.ks.drop fr)).length = L := ⟨_, rfl⟩
    rw [eL14] at HN
    rw [eL14]
    have HL14 := Aside0.mk eL14
    clear g1_ g2_ g3_ ho hb hg hat eL14
    clear hHeld
    refine hK.out _ _ ⟨u1, t1⟩ (fun hHeld => ?_)
    clear hK K
    refine norm_ (a' := ?_) ?_ ?_
    rotate_left
    · show Act.put _ (some 82) _ = _
      simp only [Act.put, List.setIfInBounds_toArray, List.set_cons_zero, List.set_cons_succ, i64_w, i32_w]
      rfl
    refine pure_ (i := 7) (N := some 83) (v := ?_) (a' := ?_) #[true, true, true, true, true, true, true, true, false] rfl rfl (any_of HT_.out (by kernel_rfl)) (fun _ _ _ h => h) (Or.inl ⟨by rfl, ?_⟩) ?_ ?_
    rotate_left
    · intro w'
      go_simp
      with_reducible rfl
    rotate_left
    · simp only [Act.put, List.setIfInBounds_toArray, List.set_cons_zero, List.set_cons_succ, i64_w, i32_w]
      rfl
    refine last_ (i := 8) (N := none) #[true, true, true, true, true, true, true, true, true] rfl rfl (one_of HT_.out (by kernel_rfl)) (by decide) (fun K hK => ?_)
    refine skip_ (w1 := ?_) (by rfl) rfl ?_ ?_
    rotate_left
    · go_simp
      rfl
    refine hK.out _ _ ?_
    clear hK K
    refine done_ (done_of HT_.out (by kernel_rfl)) ?_
    generalize (if c0 = fr then A0 else Option.map (fun x => x.add fr) A0) = X14
    generalize (wa_.setCell ⟨B, 0, none⟩ (.slice D14 L14 d14)) = W7 at HN ⊢
    clear HI hHeld t0 t1 u0 u1 uf1 QT hnc hfc HT_ HW_
    have HI := HN
    clear HN
    (try go_wp2)
    have u0 : W7.cell? ⟨B, 1, none⟩ = some (.slice D7 L7 d7) := by rw [blk_cell HI.out.bu]; rfl
    have t0 : W7.cell? ⟨w.heap.size, 1, none⟩ = some (.slice A1 N c1) := by rw [blk_cell HI.out.bt]; rfl
    have QT : Aside0 (∀ m, m ≤ N → ∀ W, Below w.heap.size w W → Kd.C (Kd.int .i64) W (if c1 = m then A1 else A1.map (·.add m)) (N - m) (t.vs.drop m)) := ⟨fun m hm W hW => by
      have el := HE.out.2.1
      have hpc := HP.out.2.1
      have h0 := Kd.C_drop (m := m) (c := c1) (Kd.C_below HQ.out.2.1 hW) (by omega) (by omega)
      rw [show m * ((Kd.int .i64)).sz = m from Nat.mul_one _] at h0
      rwa [show (t.vs.drop m).length = N - m by rw [List.length_drop]; omega] at h0⟩
    have hnc : n ≤ c1 := by have := HP.out.2.1; omega
    have hfc : fr ≤ c1 := by have := HP.out.2.1; omega
    refine start_ (n := 9) (S := (fun w' => w'.cell? ⟨B, 1, none⟩ = some (.slice D7 L7 d7) ∧ w'.cell? ⟨w.heap.size, 1, none⟩ = some (.slice A1 N c1))) (ds := [8]) #[false, false, false, false, false, false, false, false, false] (by kernel_rfl) rfl rfl ⟨u0, t0⟩ (fun hHeld => ?_); refine with_tabW ins_tab15 ins_bits (fun HT_ HW_ => ?_)
    obtain ⟨Wd, eWd⟩ : ∃ Wd, W7.drew = Wd := ⟨_, rfl⟩
    have HI_ := Aside0.mk HI.out.drew
    clear HI
    have HI := HI_
    clear HI_
    rw [eWd] at HI hHeld ⊢
    clear eWd
    refine pure_ (i := 0) (N := some 84) (v := ?_) (a' := ?_) #[true, false, false, false, false, false, false, false, false] rfl rfl (any_of HT_.out (by kernel_rfl)) (fun _ _ _ h => h) (Or.inl ⟨by rfl, ?_⟩) ?_ ?_
    rotate_left
    · intro w'
      go_simp
      with_reducible rfl
    rotate_left
    · simp only [Act.put, List.setIfInBounds_toArray, List.set_cons_zero, List.set_cons_succ, i64_w, i32_w]
      rfl
    refine pure_ (i := 2) (N := some 86) (v := ?_) (a' := ?_) #[true, false, true, false, false, false, false, false, false] rfl rfl (any_of HT_.out (by kernel_rfl)) (fun _ _ _ h => h) (Or.inl ⟨by rfl, ?_⟩) ?_ ?_
    rotate_left
    · intro w'
      go_simp
      with_reducible rfl
    rotate_left
    · simp only [Act.put, List.setIfInBounds_toArray, List.set_cons_zero, List.set_cons_succ, i64_w, i32_w]
      rfl
    refine pure_ (i := 4) (N := some 88) (v := ?_) (a' := ?_) #[true, false, true, false, true, false, false, false, false] rfl rfl (any_of HT_.out (by kernel_rfl)) (fun _ _ _ h => h) (Or.inl ⟨by rfl, ?_⟩) ?_ ?_
    rotate_left
    · intro w'
      go_simp
      with_reducible rfl
    rotate_left
    · simp only [Act.put, List.setIfInBounds_toArray, List.set_cons_zero, List.set_cons_succ, i64_w, i32_w]
      rfl
    refine take_ (i := 1) (N := some 85) (v := ?_) (a' := ?_) #[true, true, true, false, true, false, false, false, false] rfl rfl (take_ofW HT_.out HW_.out (by kernel_rfl)) (fun _ _ _ h => h) (Or.inl ⟨by rfl, ?_⟩) hHeld ?_ ?_
    rotate_left
    · rintro w' ⟨s0, s1⟩
      go_simp
      with_reducible rfl
    rotate_left
    · simp only [Act.put, List.setIfInBounds_toArray, List.set_cons_zero, List.set_cons_succ, i64_w, i32_w]
      rfl
    refine take_ (i := 3) (N := some 87) (v := ?_) (a' := ?_) #[true, true, true, true, true, false, false, false, false] rfl rfl (take_ofW HT_.out HW_.out (by kernel_rfl)) (fun _ _ _ h => h) (Or.inl ⟨by rfl, ?_⟩) hHeld ?_ ?_
    rotate_left
    · rintro w' ⟨s0, s1⟩
      go_simp
      with_reducible rfl
    rotate_left
    · simp only [Act.put, List.setIfInBounds_toArray, List.set_cons_zero, List.set_cons_succ, i64_w, i32_w]
      rfl
    refine pure_ (i := 5) (N := some 89) (v := ?_) (a' := ?_) #[true, true, true, true, true, true, false, false, false] rfl rfl (any_of HT_.out (by kernel_rfl)) (fun _ _ _ h => h) (Or.inl ⟨by rfl, ?_⟩) ?_ ?_
    rotate_left
    · intro w'
      go_simp
      with_reducible rfl
    rotate_left
    · simp only [Act.put, List.setIfInBounds_toArray, List.set_cons_zero, List.set_cons_succ, i64_w, i32_w]
      rfl
    refine one_ (i := 6) (N := some 90) #[true, true, true, true, true, true, true, false, false] rfl rfl (one_of HT_.out (by kernel_rfl)) (by decide) (fun K hK => ?_)
    refine Kd.R_append_rows_step (Kd.int .i64) (w0 := w) w.heap.size (by rfl) (.tmp 85) (.tmp 89) 26 3 (.int .i64 0) 8 rfl Try.underlying26 info3 rfl (by decide) (by omega) (.slice D7 L7 d7) ((([] : List Int) ++ (t.vs.take n)) ++ [v]) (t.vs.drop fr) _ _ _ (fun k => some k ≠ (.slice D8 L8 d8 : Value).ownBlock) (fun _ => False) rfl rfl HI.out.r1 (QT.out _ hfr _ HI.out.bl) (fun _ _ h => h) (fun _ h => h.elim) HI.out.f1 HI.out.bl HI.out.sz (by have := HE.out.2.1; simp only [List.length_append, List.length_take, List.length_cons, List.length_nil]; omega) ?_
    intro v15_ wa_ ho hb hg hat
    obtain ⟨D15, d15, rfl⟩ := Kd.R_slice ho
    obtain ⟨g1_, g2_, g3_⟩ := HI.out.app1 ho hb hg hat
    have HN := Aside0.mk g3_
    have t1 : wa_.cell? ⟨w.heap.size, 1, none⟩ = some (.slice A1 N c1) := by rw [blk_cell g1_]; rfl
    have u1 : wa_.cell? ⟨B, 1, none⟩ = some (.slice D7 L7 d7) := by rw [blk_cell g2_]; rfl
    have uf1 : wa_.frozen? ⟨B, 1, none⟩ = false := blk_frozen g2_ 1
    obtain ⟨L15, eL15⟩ : ∃ L, (((([] : List Int) ++ (t.vs.take n)) ++ [v]) ++ (t.vs.drop fr)).length = L := ⟨_, rfl⟩
    rw [eL15] at HN
    rw [eL15]
    have HL15 := Aside0.mk eL15
    clear g1_ g2_ g3_ ho hb hg hat eL15
    clear hHeld
    refine hK.out _ _ ⟨u1, t1⟩ (fun hHeld => ?_)
    clear hK K
    refine norm_ (a' := ?_) ?_ ?_
    rotate_left
    · show Act.put _ (some 90) _ = _
      simp only [Act.put, List.setIfInBounds_toArray, List.set_cons_zero, List.set_cons_succ, i64_w, i32_w]
      rfl
    refine pure_ (i := 7) (N := some 91) (v := ?_) (a' := ?_) #[true, true, true, true, true, true, true, true, false] rfl rfl (any_of HT_.out (by kernel_rfl)) (fun _ _ _ h => h) (Or.inl ⟨by rfl, ?_⟩) ?_ ?_
    rotate_left
    · intro w'
      go_simp
      with_reducible rfl
    rotate_left
    · simp only [Act.put, List.setIfInBounds_toArray, List.set_cons_zero, List.set_cons_succ, i64_w, i32_w]
      rfl
    refine last_ (i := 8) (N := none) #[true, true, true, true, true, true, true, true, true] rfl rfl (one_of HT_.out (by kernel_rfl)) (by decide) (fun K hK => ?_)
    refine skip_ (w1 := ?_) (by rfl) rfl ?_ ?_
    rotate_left
    · go_simp
      rfl
    refine hK.out _ _ ?_
    clear hK K
    refine done_ (done_of HT_.out (by kernel_rfl)) ?_
    generalize (if c1 = fr then A1 else Option.map (fun x => x.add fr) A1) = X15
    generalize (wa_.setCell ⟨B, 1, none⟩ (.slice D15 L15 d15)) = W8 at HN ⊢
    clear HI hHeld t0 t1 u0 u1 uf1 QT hnc hfc HT_ HW_
    have HI := HN
    clear HN
    (try go_wp2)
    have u0 : W8.cell? ⟨B, 2, none⟩ = some (.slice D8 L8 d8) := by rw [blk_cell HI.out.bu]; rfl
    have t0 : W8.cell? ⟨w.heap.size, 2, none⟩ = some (.slice A2 N c2) := by rw [blk_cell HI.out.bt]; rfl
    have QT : Aside0 (∀ m, m ≤ N → ∀ W, Below w.heap.size w W → Kd.C (Kd.int .i64) W (if c2 = m then A2 else A2.map (·.add m)) (N - m) (t.ls.drop m)) := ⟨fun m hm W hW => by
      have el := HE.out.2.2.1
      have hpc := HP.out.2.2.1
      have h0 := Kd.C_drop (m := m) (c := c2) (Kd.C_below HQ.out.2.2.1 hW) (by omega) (by omega)
      rw [show m * ((Kd.int .i64)).sz = m from Nat.mul_one _] at h0
      rwa [show (t.ls.drop m).length = N - m by rw [List.length_drop]; omega] at h0⟩
    have hnc : n ≤ c2 := by have := HP.out.2.2.1; omega
    have hfc : fr ≤ c2 := by have := HP.out.2.2.1; omega
    refine start_ (n := 9) (S := (fun w' => w'.cell? ⟨B, 2, none⟩ = some (.slice D8 L8 d8) ∧ w'.cell? ⟨w.heap.size, 2, none⟩ = some (.slice A2 N c2))) (ds := [8]) #[false, false, false, false, false, false, false, false, false] (by kernel_rfl) rfl rfl ⟨u0, t0⟩ (fun hHeld => ?_); refine with_tabW ins_tab16 ins_bits (fun HT_ HW_ => ?_)
    obtain ⟨Wd, eWd⟩ : ∃ Wd, W8.drew = Wd := ⟨_, rfl⟩
    have HI_ := Aside0.mk HI.out.drew
    clear HI
    have HI := HI_
    clear HI_
    rw [eWd] at HI hHeld ⊢
    clear eWd
    refine pure_ (i := 0) (N := some 92) (v := ?_) (a' := ?_) #[true, false, false, false, false, false, false, false, false] rfl rfl (any_of HT_.out (by kernel_rfl)) (fun _ _ _ h => h) (Or.inl ⟨by rfl, ?_⟩) ?_ ?_
    rotate_left
    · intro w'
      go_simp
      with_reducible rfl
    rotate_left
    · simp only [Act.put, List.setIfInBounds_toArray, List.set_cons_zero, List.set_cons_succ, i64_w, i32_w]
      rfl
    refine pure_ (i := 2) (N := some 94) (v := ?_) (a' := ?_) #[true, false, true, false, false, false, false, false, false] rfl rfl (any_of HT_.out (by kernel_rfl)) (fun _ _ _ h => h) (Or.inl ⟨by rfl, ?_⟩) ?_ ?_
    rotate_left
    · intro w'
      go_simp
      with_reducible rfl
    rotate_left
    · simp only [Act.put, List.setIfInBounds_toArray, List.set_cons_zero, List.set_cons_succ, i64_w, i32_w]
      rfl
    refine pure_ (i := 4) (N := some 96) (v := ?_) (a' := ?_) #[true, false, true, false, true, false, false, false, false] rfl rfl (any_of HT_.out (by kernel_rfl)) (fun _ _ _ h => h) (Or.inl ⟨by rfl, ?_⟩) ?_ ?_
    rotate_left
    · intro w'
      go_simp
      with_reducible rfl
    rotate_left
    · simp only [Act.put, List.setIfInBounds_toArray, List.set_cons_zero, List.set_cons_succ, i64_w, i32_w]
      rfl
    refine take_ (i := 1) (N := some 93) (v := ?_) (a' := ?_) #[true, true, true, false, true, false, false, false, false] rfl rfl (take_ofW HT_.out HW_.out (by kernel_rfl)) (fun _ _ _ h => h) (Or.inl ⟨by rfl, ?_⟩) hHeld ?_ ?_
    rotate_left
    · rintro w' ⟨s0, s1⟩
      go_simp
      with_reducible rfl
    rotate_left
    · simp only [Act.put, List.setIfInBounds_toArray, List.set_cons_zero, List.set_cons_succ, i64_w, i32_w]
      rfl
    refine take_ (i := 3) (N := some 95) (v := ?_) (a' := ?_) #[true, true, true, true, true, false, false, false, false] rfl rfl (take_ofW HT_.out HW_.out (by kernel_rfl)) (fun _ _ _ h => h) (Or.inl ⟨by rfl, ?_⟩) hHeld ?_ ?_
    rotate_left
    · rintro w' ⟨s0, s1⟩
      go_simp
      with_reducible rfl
    rotate_left
    · simp only [Act.put, List.setIfInBounds_toArray, List.set_cons_zero, List.set_cons_succ, i64_w, i32_w]
      rfl
    refine pure_ (i := 5) (N := some 97) (v := ?_) (a' := ?_) #[true, true, true, true, true, true, false, false, false] rfl rfl (any_of HT_.out (by kernel_rfl)) (fun _ _ _ h => h) (Or.inl ⟨by rfl, ?_⟩) ?_ ?_
    rotate_left
    · intro w'
      go_simp
      with_reducible rfl
    rotate_left
    · simp only [Act.put, List.setIfInBounds_toArray, List.set_cons_zero, List.set_cons_succ, i64_w, i32_w]
      rfl
    refine one_ (i := 6) (N := some 98) #[true, true, true, true, true, true, true, false, false] rfl rfl (one_of HT_.out (by kernel_rfl)) (by decide) (fun K hK => ?_)
    refine Kd.R_append_rows_step (Kd.int .i64) (w0 := w) w.heap.size (by rfl) (.tmp 93) (.tmp 97) 26 3 (.int .i64 0) 8 rfl Try.underlying26 info3 rfl (by decide) (by omega) (.slice D8 L8 d8) ((([] : List Int) ++ (t.ls.take n)) ++ [nx]) (t.ls.drop fr) _ _ _ (fun k => some k ≠ (.slice D15 L15 d15 : Value).ownBlock) (fun _ => False) rfl rfl HI.out.r2 (QT.out _ hfr _ HI.out.bl) (fun _ _ h => h) (fun _ h => h.elim) HI.out.f2 HI.out.bl HI.out.sz (by have := HE.out.2.2.1; simp only [List.length_append, List.length_take, List.length_cons, List.length_nil]; omega) ?_
    intro v16_ wa_ ho hb hg hat
    obtain ⟨D16, d16, rfl⟩ := Kd.R_slice ho
    obtain ⟨g1_, g2_, g3_⟩ := HI.out.app2 ho hb hg hat
    have HN := Aside0.mk g3_
    have t1 : wa_.cell? ⟨w.heap.size, 2, none⟩ = some (.slice A2 N c2) := by rw [blk_cell g1_]; rfl
    have u1 : wa_.cell? ⟨B, 2, none⟩ = some (.slice D8 L8 d8) := by rw [blk_cell g2_]; rfl
    have uf1 : wa_.frozen? ⟨B, 2, none⟩ = false := blk_frozen g2_ 2
    obtain ⟨L16, eL16⟩ : ∃ L, (((([] : List Int) ++ (t.ls.take n)) ++ [nx]) ++ (t.ls.drop fr)).length = L := ⟨_, rfl⟩
    rw [eL16] at HN
    rw [eL16]
    have HL16 := Aside0.mk eL16
    clear g1_ g2_ g3_ ho hb hg hat eL16
    clear hHeld
    refine hK.out _ _ ⟨u1, t1⟩ (fun hHeld => ?_)
    clear hK K
    refine norm_ (a' := ?_) ?_ ?_
    rotate_left
    · show Act.put _ (some 98) _ = _
      simp only [Act.put, List.setIfInBounds_toArray, List.set_cons_zero, List.set_cons_succ, i64_w, i32_w]
      rfl
    refine pure_ (i := 7) (N := some 99) (v := ?_) (a' := ?_) #[true, true, true, true, true, true, true, true, false] rfl rfl (any_of HT_.out (by kernel_rfl)) (fun _ _ _ h => h) (Or.inl ⟨by rfl, ?_⟩) ?_ ?_
    rotate_left
    · intro w'
      go_simp
      with_reducible rfl
    rotate_left
    · simp only [Act.put, List.setIfInBounds_toArray, List.set_cons_zero, List.set_cons_succ, i64_w, i32_w]
      rfl
    refine last_ (i := 8) (N := none) #[true, true, true, true, true, true, true, true, true] rfl rfl (one_of HT_.out (by kernel_rfl)) (by decide) (fun K hK => ?_)
    refine skip_ (w1 := ?_) (by rfl) rfl ?_ ?_
    rotate_left
    · go_simp
      rfl
    refine hK.out _ _ ?_
    clear hK K
    refine done_ (done_of HT_.out (by kernel_rfl)) ?_
    generalize (if c2 = fr then A2 else Option.map (fun x => x.add fr) A2) = X16
    generalize (wa_.setCell ⟨B, 2, none⟩ (.slice D16 L16 d16)) = W9 at HN ⊢
    clear HI hHeld t0 t1 u0 u1 uf1 QT hnc hfc HT_ HW_
    have HI := HN
    clear HN
    have HN : Aside0 (InS w W9 B #[.slice A0 N c0, .slice A1 N c1, .slice A2 N c2, .slice A3 M3 c3, .slice A4 M4 c4] #[.slice none 0 0, .slice none 0 0, .slice none 0 0, .slice none 0 0, .slice none 0 0] (.slice D14 L14 d14) (.slice D15 L15 d15) (.slice D16 L16 d16) (putAt t.ks n bb a) (putAt t.vs n bb v) (putAt t.ls n bb nx)) := ⟨by
      have h0 := HI.out
      rw [HFQ.out, HFQ.out, HFQ.out] at h0
      exact h0⟩
    rw [HFQ.out] at HL14 HL15 HL16
    clear HI HFQ
    have HI := HN
    clear HN
    have hrp := HF.out.2.2.2.2
    obtain ⟨P, Mk, nx', r1, r2, r3, r4⟩ := insert_ex3 t hrp a v nx n bb (by rw [HE.out.1]; exact hnN) HFb.out.1 HF.out.2.2.1 HFb.out.2 HL.out.2 (by rw [HE.out.1]; exact hNl)
    obtain ⟨kk, hkk⟩ := r1.rounds
    have HD := Aside0.mk (And.intro r2 (And.intro r3 r4))
    have hMP : ∀ k, k < w.heap.size → ¬ ((Value.slice D14 L14 d14).ownBlock = some k ∨ (Value.slice D15 L15 d15).ownBlock = some k ∨ (Value.slice D16 L16 d16).ownBlock = some k) := fun k hk h => by
      rcases h with h | h | h
      · have := Kd.R_base HI.out.r0 k h; omega
      · have := Kd.R_base HI.out.r1 k h; omega
      · have := Kd.R_base HI.out.r2 k h; omega
    have hnP : ∀ (g : Nat) (cs : Array Value), W9.heap[g]? = some (.cells cs 28 (0, 0)) → ¬ ((Value.slice D14 L14 d14).ownBlock = some g ∨ (Value.slice D15 L15 d15).ownBlock = some g ∨ (Value.slice D16 L16 d16).ownBlock = some g) := fun g cs hg h => by
      rcases h with h | h | h
      · exact Kd.R_ne HI.out.r0 hg (by decide) h.symm
      · exact Kd.R_ne HI.out.r1 hg (by decide) h.symm
      · exact Kd.R_ne HI.out.r2 hg (by decide) h.symm
    obtain ⟨P0, eP0⟩ : ∃ P0 : Nat → Prop, P0 = fun k => (Value.slice D14 L14 d14).ownBlock = some k := ⟨_, rfl⟩
    obtain ⟨P1, eP1⟩ : ∃ P1 : Nat → Prop, P1 = fun k => (Value.slice D15 L15 d15).ownBlock = some k := ⟨_, rfl⟩
    obtain ⟨P2, eP2⟩ : ∃ P2 : Nat → Prop, P2 = fun k => (Value.slice D16 L16 d16).ownBlock = some k := ⟨_, rfl⟩
    have s0 : Kd.R Kd.string 9 W9 w.heap.size P0 (.slice D14 L14 d14) (putAt t.ks n bb a) := by rw [eP0]; exact R_self HI.out.r0
    have s1 : Kd.R (Kd.int .i64) 3 W9 w.heap.size P1 (.slice D15 L15 d15) (putAt t.vs n bb v) := by rw [eP1]; exact R_self HI.out.r1
    have s2 : Kd.R (Kd.int .i64) 3 W9 w.heap.size P2 (.slice D16 L16 d16) (putAt t.ls n bb nx) := by rw [eP2]; exact R_self HI.out.r2
    have s12 : ∀ k, P1 k → ¬ P2 k := fun k h1 h2 => by rw [eP1] at h1; rw [eP2] at h2; exact HI.out.r1.1 k h1 h2.symm
    have s21 : ∀ k, P2 k → ¬ P1 k := fun k h1 h2 => s12 k h2 h1
    have HMP : Aside0 (∀ k, k < w.heap.size → ¬ (P0 k ∨ P1 k ∨ P2 k)) := ⟨by rw [eP0, eP1, eP2]; exact hMP⟩
    have HNP : Aside0 (∀ (g : Nat) (cs : Array Value), W9.heap[g]? = some (.cells cs 28 (0, 0)) → ¬ (P0 g ∨ P1 g ∨ P2 g)) := ⟨by rw [eP0, eP1, eP2]; exact hnP⟩
    clear eP0 eP1 eP2 hMP hnP
    have HC : Aside0 (∀ W_, Go.Proofs.YtjhgknagmiekeaaW.PrintWords.Kept W9 W_ (fun k => P0 k ∨ P1 k ∨ P2 k) → RtAt W_ t (.slice A0 N c0) (.slice A1 N c1) (.slice A2 N c2) (.slice A3 M3 c3) (.slice A4 M4 c4)) := ⟨fun W_ hk => by
      have h0 := HM.out W_ (Nat.le_trans HI.out.sz hk.1) (fun k h1 _ => (hk.2 k (Nat.lt_of_lt_of_le h1 HI.out.sz) (HMP.out k h1)).trans (HI.out.bl.block k h1))
      rw [HE.out.1, HE.out.2.1, HE.out.2.2.1, HE.out.2.2.2.1, HE.out.2.2.2.2] at h0
      exact h0⟩
    have q := musterref03_remade.calls kk A0 c0 t.ks A1 c1 t.vs A2 c2 t.ls A3 c3 t.ps A4 c4 t.ms P0 (.slice D14 L14 d14) (putAt t.ks n bb a) P1 (.slice D15 L15 d15) (putAt t.vs n bb v) P2 (.slice D16 L16 d16) (putAt t.ls n bb nx) none 0 [] none 0 [] a (wrap64 (nx + 1)) _ _ _ _ _ _ w W9 HI.out.bl
      (fun W_ hk => (HC.out W_ hk).a0.c) (by rw [HE.out.1]; exact HP.out.1) (fun W_ hk => (HC.out W_ hk).a1.c) (by rw [HE.out.2.1]; exact HP.out.2.1) (fun W_ hk => (HC.out W_ hk).a2.c) (by rw [HE.out.2.2.1]; exact HP.out.2.2.1) (fun W_ hk => (HC.out W_ hk).a3.c) (by rw [HE.out.2.2.2.1]; exact HP.out.2.2.2.1) (fun W_ hk => (HC.out W_ hk).a4.c) (by rw [HE.out.2.2.2.2]; exact HP.out.2.2.2.2)
      s0 s1 s12 s2 s21
      (fun W_ _ => Kd.C_nil _ _) (Nat.le_refl _) (fun W_ _ => Kd.C_nil _ _) (Nat.le_refl _) hkk
    rw [HE.out.1, HE.out.2.1, HE.out.2.2.1, HE.out.2.2.2.1, HE.out.2.2.2.2] at q
    have QR := Aside0.mk q
    clear q hkk r1 r2 r3 r4 s0 s1 s2 s12 s21
    have m0 : W9.cell? ⟨w.heap.size, 0, none⟩ = some (.slice A0 N c0) := by rw [blk_cell HI.out.bt]; rfl
    have u0 : W9.cell? ⟨B, 0, none⟩ = some (.slice D14 L14 d14) := by rw [blk_cell HI.out.bu]; rfl
    have m1 : W9.cell? ⟨w.heap.size, 1, none⟩ = some (.slice A1 N c1) := by rw [blk_cell HI.out.bt]; rfl
    have u1 : W9.cell? ⟨B, 1, none⟩ = some (.slice D15 L15 d15) := by rw [blk_cell HI.out.bu]; rfl
    have m2 : W9.cell? ⟨w.heap.size, 2, none⟩ = some (.slice A2 N c2) := by rw [blk_cell HI.out.bt]; rfl
    have u2 : W9.cell? ⟨B, 2, none⟩ = some (.slice D16 L16 d16) := by rw [blk_cell HI.out.bu]; rfl
    have m3 : W9.cell? ⟨w.heap.size, 3, none⟩ = some (.slice A3 M3 c3) := by rw [blk_cell HI.out.bt]; rfl
    have u3 : W9.cell? ⟨B, 3, none⟩ = some (.slice none 0 0) := by rw [blk_cell HI.out.bu]; rfl
    have m4 : W9.cell? ⟨w.heap.size, 4, none⟩ = some (.slice A4 M4 c4) := by rw [blk_cell HI.out.bt]; rfl
    have u4 : W9.cell? ⟨B, 4, none⟩ = some (.slice none 0 0) := by rw [blk_cell HI.out.bu]; rfl
    go_wp2_with (go_at_call 92; refine QR.out.mono ?_)
    rintro e W4 ⟨x0, x1, x2, x3, x4, rfl, R0, R1, R2, R3, R4, hb4, hk4⟩
    obtain ⟨E0, g0, rfl⟩ := Kd.R_slice R0
    obtain ⟨E1, g1, rfl⟩ := Kd.R_slice R1
    obtain ⟨E2, g2, rfl⟩ := Kd.R_slice R2
    obtain ⟨E3, g3, rfl⟩ := Kd.R_slice R3
    obtain ⟨E4, g4, rfl⟩ := Kd.R_slice R4
    have HR := Aside0.mk (And.intro R0 (And.intro R1 (And.intro R2 (And.intro R3 R4))))
    obtain ⟨y0, ey0⟩ : ∃ y, (putAt t.ks n bb a).length = y := ⟨_, rfl⟩
    obtain ⟨y1, ey1⟩ : ∃ y, (putAt t.vs n bb v).length = y := ⟨_, rfl⟩
    obtain ⟨y2, ey2⟩ : ∃ y, (putAt t.ls n bb nx).length = y := ⟨_, rfl⟩
    obtain ⟨y3, ey3⟩ : ∃ y, P.length = y := ⟨_, rfl⟩
    obtain ⟨y4, ey4⟩ : ∃ y, Mk.length = y := ⟨_, rfl⟩
    rw [ey0, ey1, ey2, ey3, ey4] at HR
    rw [ey0, ey1, ey2, ey3, ey4]
    clear R0 R1 R2 R3 R4
    have hbt := blk_kept HI.out.bt hk4 (HNP.out _ _ HI.out.bt)
    have hbz := blk_kept HI.out.bz hk4 (HNP.out _ _ HI.out.bz)
    have hbu := blk_kept HI.out.bu hk4 (HNP.out _ _ HI.out.bu)
    have HU4 := Aside0.mk (And.intro hbt (And.intro hbz hbu))
    have HB4 := Aside0.mk hb4
    have HY := Aside0.mk (And.intro ey0 (And.intro ey1 (And.intro ey2 (And.intro ey3 ey4))))
    clear hbt hbz hk4 hb4 HI QR HC HNP HMP ey0 ey1 ey2 ey3 ey4 m0 u0 m1 u1 m2 u2 m3 u3 m4 u4
    have f0 : W4.frozen? ⟨B, 0, none⟩ = false := blk_frozen hbu 0
    have v0 : W4.cell? ⟨B, 0, none⟩ = some (.slice D14 L14 d14) := by rw [blk_cell hbu]; rfl
    have f1 : W4.frozen? ⟨B, 1, none⟩ = false := blk_frozen hbu 1
    have v1 : W4.cell? ⟨B, 1, none⟩ = some (.slice D15 L15 d15) := by rw [blk_cell hbu]; rfl
    have f2 : W4.frozen? ⟨B, 2, none⟩ = false := blk_frozen hbu 2
    have v2 : W4.cell? ⟨B, 2, none⟩ = some (.slice D16 L16 d16) := by rw [blk_cell hbu]; rfl
    have f3 : W4.frozen? ⟨B, 3, none⟩ = false := blk_frozen hbu 3
    have v3 : W4.cell? ⟨B, 3, none⟩ = some (.slice none 0 0) := by rw [blk_cell hbu]; rfl
    have f4 : W4.frozen? ⟨B, 4, none⟩ = false := blk_frozen hbu 4
    have v4 : W4.cell? ⟨B, 4, none⟩ = some (.slice none 0 0) := by rw [blk_cell hbu]; rfl
    clear hbu
    go_upto_region 18 with fail
    have hz5 := V.set5_at HU4.out.2.2 (.slice E0 y0 g0) (.slice E1 y1 g1) (.slice E2 y2 g2) (.slice E3 y3 g3) (.slice E4 y4 g4)
    obtain ⟨W5, e5⟩ : ∃ W5, V.set5 W4 B (.slice E0 y0 g0) (.slice E1 y1 g1) (.slice E2 y2 g2) (.slice E3 y3 g3) (.slice E4 y4 g4) = W5 := ⟨_, rfl⟩
    have hfar : ∀ k, k ≠ B → W5.heap[k]? = W4.heap[k]? := fun k hk => by rw [← e5]; exact V.set5_far _ _ _ _ _ _ _ k hk
    have hsz5 : W5.heap.size = W4.heap.size := by rw [← e5]; simp [V.set5, T.size_setCell]
    have hb5 : Below w.heap.size w W5 := by rw [← e5]; exact V.set5_below HB4.out (by omega) _ _ _ _ _
    rw [e5] at hz5
    have e6 : ((((W4.setCell { block := B, off := 0 } (.slice E0 y0 g0)).setCell { block := B, off := 1 } (.slice E1 y1 g1)).setCell { block := B, off := 2 } (.slice E2 y2 g2)).setCell { block := B, off := 3 } (.slice E3 y3 g3)).setCell { block := B, off := 4 } (.slice E4 y4 g4) = W5 := e5
    rw [e6]
    clear f0 v0 f1 v1 f2 v2 f3 v3 f4 v4
    have br5 := (hfar (w.heap.size + 1) (by omega)).trans HU4.out.2.1
    have HFAR := Aside0.mk (And.intro hfar (And.intro hsz5 hb5))
    have HZ5 := Aside0.mk (And.intro hz5 br5)
    have k0 : W5.cell? ⟨B, 0, none⟩ = some (.slice E0 y0 g0) := by rw [blk_cell hz5]; rfl
    have z0 : W5.cell? ⟨w.heap.size + 1, 0, none⟩ = some (.slice none 0 0) := by rw [blk_cell br5]; rfl
    have g0_ : W5.frozen? ⟨w.heap.size + 1, 0, none⟩ = false := blk_frozen br5 0
    have k1 : W5.cell? ⟨B, 1, none⟩ = some (.slice E1 y1 g1) := by rw [blk_cell hz5]; rfl
    have z1 : W5.cell? ⟨w.heap.size + 1, 1, none⟩ = some (.slice none 0 0) := by rw [blk_cell br5]; rfl
    have g1_ : W5.frozen? ⟨w.heap.size + 1, 1, none⟩ = false := blk_frozen br5 1
    have k2 : W5.cell? ⟨B, 2, none⟩ = some (.slice E2 y2 g2) := by rw [blk_cell hz5]; rfl
    have z2 : W5.cell? ⟨w.heap.size + 1, 2, none⟩ = some (.slice none 0 0) := by rw [blk_cell br5]; rfl
    have g2_ : W5.frozen? ⟨w.heap.size + 1, 2, none⟩ = false := blk_frozen br5 2
    have k3 : W5.cell? ⟨B, 3, none⟩ = some (.slice E3 y3 g3) := by rw [blk_cell hz5]; rfl
    have z3 : W5.cell? ⟨w.heap.size + 1, 3, none⟩ = some (.slice none 0 0) := by rw [blk_cell br5]; rfl
    have g3_ : W5.frozen? ⟨w.heap.size + 1, 3, none⟩ = false := blk_frozen br5 3
    have k4 : W5.cell? ⟨B, 4, none⟩ = some (.slice E4 y4 g4) := by rw [blk_cell hz5]; rfl
    have z4 : W5.cell? ⟨w.heap.size + 1, 4, none⟩ = some (.slice none 0 0) := by rw [blk_cell br5]; rfl
    have g4_ : W5.frozen? ⟨w.heap.size + 1, 4, none⟩ = false := blk_frozen br5 4
    clear hz5 br5 hfar hsz5 hb5 e6 e5
    go_wp2_with fail
    have hz6 := V.set5_at HZ5.out.2 (.slice E0 y0 g0) (.slice E1 y1 g1) (.slice E2 y2 g2) (.slice E3 y3 g3) (.slice E4 y4 g4)
    obtain ⟨W6, e6⟩ : ∃ W6, V.set5 W5 (w.heap.size + 1) (.slice E0 y0 g0) (.slice E1 y1 g1) (.slice E2 y2 g2) (.slice E3 y3 g3) (.slice E4 y4 g4) = W6 := ⟨_, rfl⟩
    have hfar6 : ∀ k, k ≠ w.heap.size + 1 → W6.heap[k]? = W5.heap[k]? := fun k hk => by rw [← e6]; exact V.set5_far _ _ _ _ _ _ _ k hk
    have hsz6 : W6.heap.size = W5.heap.size := by rw [← e6]; simp [V.set5, T.size_setCell]
    have hb6 : Below w.heap.size w W6 := by rw [← e6]; exact V.set5_below HFAR.out.2.2 (by omega) _ _ _ _ _
    rw [e6] at hz6
    have e7 : ((((W5.setCell { block := w.heap.size + 1, off := 0 } (.slice E0 y0 g0)).setCell { block := w.heap.size + 1, off := 1 } (.slice E1 y1 g1)).setCell { block := w.heap.size + 1, off := 2 } (.slice E2 y2 g2)).setCell { block := w.heap.size + 1, off := 3 } (.slice E3 y3 g3)).setCell { block := w.heap.size + 1, off := 4 } (.slice E4 y4 g4) = W6 := e6
    rw [e7]
    have q0 : W6.cell? ⟨w.heap.size + 1, 0, none⟩ = some (.slice E0 y0 g0) := by rw [blk_cell hz6]; rfl
    have q1 : W6.cell? ⟨w.heap.size + 1, 1, none⟩ = some (.slice E1 y1 g1) := by rw [blk_cell hz6]; rfl
    have q2 : W6.cell? ⟨w.heap.size + 1, 2, none⟩ = some (.slice E2 y2 g2) := by rw [blk_cell hz6]; rfl
    have q3 : W6.cell? ⟨w.heap.size + 1, 3, none⟩ = some (.slice E3 y3 g3) := by rw [blk_cell hz6]; rfl
    have q4 : W6.cell? ⟨w.heap.size + 1, 4, none⟩ = some (.slice E4 y4 g4) := by rw [blk_cell hz6]; rfl
    refine bodyPost_ret (v := .tuple #[.agg #[.slice E0 y0 g0, .slice E1 y1 g1, .slice E2 y2 g2, .slice E3 y3 g3, .slice E4 y4 g4], .int .i64 (rd t.vs n), .bool true, .int .i64 nx']) (by simp [results, Try.results66, go_sem, q0, q1, q2, q3, q4]) rfl ?_
    have hgo : ∀ w2 : World, Rob w.heap.size W6 w2 → ∀ k, w.heap.size ≤ k → k < W4.heap.size → (∀ cells, W4.heap[k]? ≠ some (.cells cells 28 (0, 0))) → w2.heap[k]? = W4.heap[k]? := fun w2 h2 k h3 h4 h5 => by
      have hkB : k ≠ B := fun e => h5 _ (by rw [e]; exact HU4.out.2.2)
      have hkR : k ≠ w.heap.size + 1 := fun e => h5 _ (by rw [e]; exact HU4.out.2.1)
      rw [h2 k h3 (by rw [hsz6, HFAR.out.2.1]; exact h4), hfar6 k hkR, HFAR.out.1 k hkB]
    have hle := HD.out.2.2
    rw [HE.out.1] at hle
    refine ⟨⟨putAt t.ks n bb a, putAt t.vs n bb v, putAt t.ls n bb nx, P, Mk⟩, (rd t.vs n), true, nx', _, _, _, _, _, rfl, fun w2 h2 => ?_, HD.out.1, ⟨n, P, Mk, by rw [HE.out.1]; exact hnN, by have h9 := HFb.out.1; rw [HBq.out] at h9; exact h9, by have h9 := HFb.out.2; rw [HBq.out] at h9; exact h9, HF.out.2.2.1, rfl, by rw [HBq.out], HD.out.2.1⟩, hle, hb6⟩
    obtain ⟨R0, R1, R2, R3, R4⟩ := HR.out
    rw [← HY.out.1] at R0
    rw [← HY.out.2.1] at R1
    rw [← HY.out.2.2.1] at R2
    rw [← HY.out.2.2.2.1] at R3
    rw [← HY.out.2.2.2.2] at R4
    rw [← HY.out.1, ← HY.out.2.1, ← HY.out.2.2.1, ← HY.out.2.2.2.1, ← HY.out.2.2.2.2]
    exact ⟨R_far28 R0 (by decide) (hgo w2 h2), R_far28 R1 (by decide) (hgo w2 h2), R_far28 R2 (by decide) (hgo w2 h2), R_far28 R3 (by decide) (hgo w2 h2), R_far28 R4 (by decide) (hgo w2 h2)⟩
  · go_upto_region 14 with fail
    obtain ⟨fr, efr⟩ : ∃ fr, n = fr := ⟨_, rfl⟩
    have hfr : fr ≤ N := by omega
    rw [efr]
    have HFQ := Aside0.mk (HFR.out fr efr.symm)
    clear efr HFR
    have u0 : W6.cell? ⟨B, 0, none⟩ = some (.slice D6 L6 d6) := by rw [blk_cell HI.out.bu]; rfl
    have t0 : W6.cell? ⟨w.heap.size, 0, none⟩ = some (.slice A0 N c0) := by rw [blk_cell HI.out.bt]; rfl
    have QT : Aside0 (∀ m, m ≤ N → ∀ W, Below w.heap.size w W → Kd.C Kd.string W (if c0 = m then A0 else A0.map (·.add m)) (N - m) (t.ks.drop m)) := ⟨fun m hm W hW => by
      have el := HE.out.1
      have hpc := HP.out.1
      have h0 := Kd.C_drop (m := m) (c := c0) (Kd.C_below HQ.out.1 hW) (by omega) (by omega)
      rw [show m * (Kd.string).sz = m from Nat.mul_one _] at h0
      rwa [show (t.ks.drop m).length = N - m by rw [List.length_drop]; omega] at h0⟩
    have hnc : n ≤ c0 := by have := HP.out.1; omega
    have hfc : fr ≤ c0 := by have := HP.out.1; omega
    refine start_ (n := 9) (S := (fun w' => w'.cell? ⟨B, 0, none⟩ = some (.slice D6 L6 d6) ∧ w'.cell? ⟨w.heap.size, 0, none⟩ = some (.slice A0 N c0))) (ds := [8]) #[false, false, false, false, false, false, false, false, false] (by kernel_rfl) rfl rfl ⟨u0, t0⟩ (fun hHeld => ?_); refine with_tabW ins_tab14 ins_bits (fun HT_ HW_ => ?_)
    obtain ⟨Wd, eWd⟩ : ∃ Wd, W6.drew = Wd := ⟨_, rfl⟩
    have HI_ := Aside0.mk HI.out.drew
    clear HI
    have HI := HI_
    clear HI_
    rw [eWd] at HI hHeld ⊢
    clear eWd
    refine pure_ (i := 0) (N := some 76) (v := ?_) (a' := ?_) #[true, false, false, false, false, false, false, false, false] rfl rfl (any_of HT_.out (by kernel_rfl)) (fun _ _ _ h => h) (Or.inl ⟨by rfl, ?_⟩) ?_ ?_
    rotate_left
    · intro w'
      go_simp
      with_reducible rfl
    rotate_left
    · simp only [Act.put, List.setIfInBounds_toArray, List.set_cons_zero, List.set_cons_succ, i64_w, i32_w]
      rfl
    refine pure_ (i := 2) (N := some 78) (v := ?_) (a' := ?_) #[true, false, true, false, false, false, false, false, false] rfl rfl (any_of HT_.out (by kernel_rfl)) (fun _ _ _ h => h) (Or.inl ⟨by rfl, ?_⟩) ?_ ?_
    rotate_left
    · intro w'
      go_simp
      with_reducible rfl
    rotate_left
    · simp only [Act.put, List.setIfInBounds_toArray, List.set_cons_zero, List.set_cons_succ, i64_w, i32_w]
      rfl
    refine pure_ (i := 4) (N := some 80) (v := ?_) (a' := ?_) #[true, false, true, false, true, false, false, false, false] rfl rfl (any_of HT_.out (by kernel_rfl)) (fun _ _ _ h => h) (Or.inl ⟨by rfl, ?_⟩) ?_ ?_
    rotate_left
    · intro w'
      go_simp
      with_reducible rfl
    rotate_left
    · simp only [Act.put, List.setIfInBounds_toArray, List.set_cons_zero, List.set_cons_succ, i64_w, i32_w]
      rfl
    refine take_ (i := 1) (N := some 77) (v := ?_) (a' := ?_) #[true, true, true, false, true, false, false, false, false] rfl rfl (take_ofW HT_.out HW_.out (by kernel_rfl)) (fun _ _ _ h => h) (Or.inl ⟨by rfl, ?_⟩) hHeld ?_ ?_
    rotate_left
    · rintro w' ⟨s0, s1⟩
      go_simp
      with_reducible rfl
    rotate_left
    · simp only [Act.put, List.setIfInBounds_toArray, List.set_cons_zero, List.set_cons_succ, i64_w, i32_w]
      rfl
    refine take_ (i := 3) (N := some 79) (v := ?_) (a' := ?_) #[true, true, true, true, true, false, false, false, false] rfl rfl (take_ofW HT_.out HW_.out (by kernel_rfl)) (fun _ _ _ h => h) (Or.inl ⟨by rfl, ?_⟩) hHeld ?_ ?_
    rotate_left
    · rintro w' ⟨s0, s1⟩
      go_simp
      with_reducible rfl
    rotate_left
    · simp only [Act.put, List.setIfInBounds_toArray, List.set_cons_zero, List.set_cons_succ, i64_w, i32_w]
      rfl
    refine pure_ (i := 5) (N := some 81) (v := ?_) (a' := ?_) #[true, true, true, true, true, true, false, false, false] rfl rfl (any_of HT_.out (by kernel_rfl)) (fun _ _ _ h => h) (Or.inl ⟨by rfl, ?_⟩) ?_ ?_
    rotate_left
    · intro w'
      go_simp
      with_reducible rfl
    rotate_left
    · simp only [Act.put, List.setIfInBounds_toArray, List.set_cons_zero, List.set_cons_succ, i64_w, i32_w]
      rfl
    refine one_ (i := 6) (N := some 82) #[true, true, true, true, true, true, true, false, false] rfl rfl (one_of HT_.out (by kernel_rfl)) (by decide) (fun K hK => ?_)
    refine Kd.R_append_rows_step Kd.string (w0 := w) w.heap.size (by rfl) (.tmp 77) (.tmp 81) 25 9 (.string ⟨#[]⟩) 16 rfl Try.underlying25 info9 rfl (by decide) (by omega) (.slice D6 L6 d6) ((([] : List ByteArray) ++ (t.ks.take n)) ++ [a]) (t.ks.drop fr) _ _ _ (fun _ => True) (fun _ => False) rfl rfl HI.out.r0 (QT.out _ hfr _ HI.out.bl) (fun _ _ h => h) (fun _ h => h.elim) (fun _ _ => trivial) HI.out.bl HI.out.sz (by have := HE.out.1; simp only [List.length_append, List.length_take, List.length_cons, List.length_nil]; omega) ?_
    intro v14_ wa_ ho hb hg hat
    obtain ⟨D14, d14, rfl⟩ := Kd.R_slice ho
    obtain ⟨g1_, g2_, g3_⟩ := HI.out.app0 ho hb hg hat
    have HN := Aside0.mk g3_
    have t1 : wa_.cell? ⟨w.heap.size, 0, none⟩ = some (.slice A0 N c0) := by rw [blk_cell g1_]; rfl
    have u1 : wa_.cell? ⟨B, 0, none⟩ = some (.slice D6 L6 d6) := by rw [blk_cell g2_]; rfl
    have uf1 : wa_.frozen? ⟨B, 0, none⟩ = false := blk_frozen g2_ 0
    obtain ⟨L14, eL14⟩ : ∃ L, (((([] : List ByteArray) ++ (t.ks.take n)) ++ [a]) ++ (t.ks.drop fr)).length = L := ⟨_, rfl⟩
    rw [eL14] at HN
    rw [eL14]
    have HL14 := Aside0.mk eL14
    clear g1_ g2_ g3_ ho hb hg hat eL14
    clear hHeld
    refine hK.out _ _ ⟨u1, t1⟩ (fun hHeld => ?_)
    clear hK K
    refine norm_ (a' := ?_) ?_ ?_
    rotate_left
    · show Act.put _ (some 82) _ = _
      simp only [Act.put, List.setIfInBounds_toArray, List.set_cons_zero, List.set_cons_succ, i64_w, i32_w]
      rfl
    refine pure_ (i := 7) (N := some 83) (v := ?_) (a' := ?_) #[true, true, true, true, true, true, true, true, false] rfl rfl (any_of HT_.out (by kernel_rfl)) (fun _ _ _ h => h) (Or.inl ⟨by rfl, ?_⟩) ?_ ?_
    rotate_left
    · intro w'
      go_simp
      with_reducible rfl
    rotate_left
    · simp only [Act.put, List.setIfInBounds_toArray, List.set_cons_zero, List.set_cons_succ, i64_w, i32_w]
      rfl
    refine last_ (i := 8) (N := none) #[true, true, true, true, true, true, true, true, true] rfl rfl (one_of HT_.out (by kernel_rfl)) (by decide) (fun K hK => ?_)
    refine skip_ (w1 := ?_) (by rfl) rfl ?_ ?_
    rotate_left
    · go_simp
      rfl
    refine hK.out _ _ ?_
    clear hK K
    refine done_ (done_of HT_.out (by kernel_rfl)) ?_
    generalize (if c0 = fr then A0 else Option.map (fun x => x.add fr) A0) = X14
    generalize (wa_.setCell ⟨B, 0, none⟩ (.slice D14 L14 d14)) = W7 at HN ⊢
    clear HI hHeld t0 t1 u0 u1 uf1 QT hnc hfc HT_ HW_
    have HI := HN
    clear HN
    (try go_wp2)
    have u0 : W7.cell? ⟨B, 1, none⟩ = some (.slice D7 L7 d7) := by rw [blk_cell HI.out.bu]; rfl
    have t0 : W7.cell? ⟨w.heap.size, 1, none⟩ = some (.slice A1 N c1) := by rw [blk_cell HI.out.bt]; rfl
    have QT : Aside0 (∀ m, m ≤ N → ∀ W, Below w.heap.size w W → Kd.C (Kd.int .i64) W (if c1 = m then A1 else A1.map (·.add m)) (N - m) (t.vs.drop m)) := ⟨fun m hm W hW => by
      have el := HE.out.2.1
      have hpc := HP.out.2.1
      have h0 := Kd.C_drop (m := m) (c := c1) (Kd.C_below HQ.out.2.1 hW) (by omega) (by omega)
      rw [show m * ((Kd.int .i64)).sz = m from Nat.mul_one _] at h0
      rwa [show (t.vs.drop m).length = N - m by rw [List.length_drop]; omega] at h0⟩
    have hnc : n ≤ c1 := by have := HP.out.2.1; omega
    have hfc : fr ≤ c1 := by have := HP.out.2.1; omega
    refine start_ (n := 9) (S := (fun w' => w'.cell? ⟨B, 1, none⟩ = some (.slice D7 L7 d7) ∧ w'.cell? ⟨w.heap.size, 1, none⟩ = some (.slice A1 N c1))) (ds := [8]) #[false, false, false, false, false, false, false, false, false] (by kernel_rfl) rfl rfl ⟨u0, t0⟩ (fun hHeld => ?_); refine with_tabW ins_tab15 ins_bits (fun HT_ HW_ => ?_)
    obtain ⟨Wd, eWd⟩ : ∃ Wd, W7.drew = Wd := ⟨_, rfl⟩
    have HI_ := Aside0.mk HI.out.drew
    clear HI
    have HI := HI_
    clear HI_
    rw [eWd] at HI hHeld ⊢
    clear eWd
    refine pure_ (i := 0) (N := some 84) (v := ?_) (a' := ?_) #[true, false, false, false, false, false, false, false, false] rfl rfl (any_of HT_.out (by kernel_rfl)) (fun _ _ _ h => h) (Or.inl ⟨by rfl, ?_⟩) ?_ ?_
    rotate_left
    · intro w'
      go_simp
      with_reducible rfl
    rotate_left
    · simp only [Act.put, List.setIfInBounds_toArray, List.set_cons_zero, List.set_cons_succ, i64_w, i32_w]
      rfl
    refine pure_ (i := 2) (N := some 86) (v := ?_) (a' := ?_) #[true, false, true, false, false, false, false, false, false] rfl rfl (any_of HT_.out (by kernel_rfl)) (fun _ _ _ h => h) (Or.inl ⟨by rfl, ?_⟩) ?_ ?_
    rotate_left
    · intro w'
      go_simp
      with_reducible rfl
    rotate_left
    · simp only [Act.put, List.setIfInBounds_toArray, List.set_cons_zero, List.set_cons_succ, i64_w, i32_w]
      rfl
    refine pure_ (i := 4) (N := some 88) (v := ?_) (a' := ?_) #[true, false, true, false, true, false, false, false, false] rfl rfl (any_of HT_.out (by kernel_rfl)) (fun _ _ _ h => h) (Or.inl ⟨by rfl, ?_⟩) ?_ ?_
    rotate_left
    · intro w'
      go_simp
      with_reducible rfl
    rotate_left
    · simp only [Act.put, List.setIfInBounds_toArray, List.set_cons_zero, List.set_cons_succ, i64_w, i32_w]
      rfl
    refine take_ (i := 1) (N := some 85) (v := ?_) (a' := ?_) #[true, true, true, false, true, false, false, false, false] rfl rfl (take_ofW HT_.out HW_.out (by kernel_rfl)) (fun _ _ _ h => h) (Or.inl ⟨by rfl, ?_⟩) hHeld ?_ ?_
    rotate_left
    · rintro w' ⟨s0, s1⟩
      go_simp
      with_reducible rfl
    rotate_left
    · simp only [Act.put, List.setIfInBounds_toArray, List.set_cons_zero, List.set_cons_succ, i64_w, i32_w]
      rfl
    refine take_ (i := 3) (N := some 87) (v := ?_) (a' := ?_) #[true, true, true, true, true, false, false, false, false] rfl rfl (take_ofW HT_.out HW_.out (by kernel_rfl)) (fun _ _ _ h => h) (Or.inl ⟨by rfl, ?_⟩) hHeld ?_ ?_
    rotate_left
    · rintro w' ⟨s0, s1⟩
      go_simp
      with_reducible rfl
    rotate_left
    · simp only [Act.put, List.setIfInBounds_toArray, List.set_cons_zero, List.set_cons_succ, i64_w, i32_w]
      rfl
    refine pure_ (i := 5) (N := some 89) (v := ?_) (a' := ?_) #[true, true, true, true, true, true, false, false, false] rfl rfl (any_of HT_.out (by kernel_rfl)) (fun _ _ _ h => h) (Or.inl ⟨by rfl, ?_⟩) ?_ ?_
    rotate_left
    · intro w'
      go_simp
      with_reducible rfl
    rotate_left
    · simp only [Act.put, List.setIfInBounds_toArray, List.set_cons_zero, List.set_cons_succ, i64_w, i32_w]
      rfl
    refine one_ (i := 6) (N := some 90) #[true, true, true, true, true, true, true, false, false] rfl rfl (one_of HT_.out (by kernel_rfl)) (by decide) (fun K hK => ?_)
    refine Kd.R_append_rows_step (Kd.int .i64) (w0 := w) w.heap.size (by rfl) (.tmp 85) (.tmp 89) 26 3 (.int .i64 0) 8 rfl Try.underlying26 info3 rfl (by decide) (by omega) (.slice D7 L7 d7) ((([] : List Int) ++ (t.vs.take n)) ++ [v]) (t.vs.drop fr) _ _ _ (fun k => some k ≠ (.slice D8 L8 d8 : Value).ownBlock) (fun _ => False) rfl rfl HI.out.r1 (QT.out _ hfr _ HI.out.bl) (fun _ _ h => h) (fun _ h => h.elim) HI.out.f1 HI.out.bl HI.out.sz (by have := HE.out.2.1; simp only [List.length_append, List.length_take, List.length_cons, List.length_nil]; omega) ?_
    intro v15_ wa_ ho hb hg hat
    obtain ⟨D15, d15, rfl⟩ := Kd.R_slice ho
    obtain ⟨g1_, g2_, g3_⟩ := HI.out.app1 ho hb hg hat
    have HN := Aside0.mk g3_
    have t1 : wa_.cell? ⟨w.heap.size, 1, none⟩ = some (.slice A1 N c1) := by rw [blk_cell g1_]; rfl
    have u1 : wa_.cell? ⟨B, 1, none⟩ = some (.slice D7 L7 d7) := by rw [blk_cell g2_]; rfl
    have uf1 : wa_.frozen? ⟨B, 1, none⟩ = false := blk_frozen g2_ 1
    obtain ⟨L15, eL15⟩ : ∃ L, (((([] : List Int) ++ (t.vs.take n)) ++ [v]) ++ (t.vs.drop fr)).length = L := ⟨_, rfl⟩
    rw [eL15] at HN
    rw [eL15]
    have HL15 := Aside0.mk eL15
    clear g1_ g2_ g3_ ho hb hg hat eL15
    clear hHeld
    refine hK.out _ _ ⟨u1, t1⟩ (fun hHeld => ?_)
    clear hK K
    refine norm_ (a' := ?_) ?_ ?_
    rotate_left
    · show Act.put _ (some 90) _ = _
      simp only [Act.put, List.setIfInBounds_toArray, List.set_cons_zero, List.set_cons_succ, i64_w, i32_w]
      rfl
    refine pure_ (i := 7) (N := some 91) (v := ?_) (a' := ?_) #[true, true, true, true, true, true, true, true, false] rfl rfl (any_of HT_.out (by kernel_rfl)) (fun _ _ _ h => h) (Or.inl ⟨by rfl, ?_⟩) ?_ ?_
    rotate_left
    · intro w'
      go_simp
      with_reducible rfl
    rotate_left
    · simp only [Act.put, List.setIfInBounds_toArray, List.set_cons_zero, List.set_cons_succ, i64_w, i32_w]
      rfl
    refine last_ (i := 8) (N := none) #[true, true, true, true, true, true, true, true, true] rfl rfl (one_of HT_.out (by kernel_rfl)) (by decide) (fun K hK => ?_)
    refine skip_ (w1 := ?_) (by rfl) rfl ?_ ?_
    rotate_left
    · go_simp
      rfl
    refine hK.out _ _ ?_
    clear hK K
    refine done_ (done_of HT_.out (by kernel_rfl)) ?_
    generalize (if c1 = fr then A1 else Option.map (fun x => x.add fr) A1) = X15
    generalize (wa_.setCell ⟨B, 1, none⟩ (.slice D15 L15 d15)) = W8 at HN ⊢
    clear HI hHeld t0 t1 u0 u1 uf1 QT hnc hfc HT_ HW_
    have HI := HN
    clear HN
    (try go_wp2)
    have u0 : W8.cell? ⟨B, 2, none⟩ = some (.slice D8 L8 d8) := by rw [blk_cell HI.out.bu]; rfl
    have t0 : W8.cell? ⟨w.heap.size, 2, none⟩ = some (.slice A2 N c2) := by rw [blk_cell HI.out.bt]; rfl
    have QT : Aside0 (∀ m, m ≤ N → ∀ W, Below w.heap.size w W → Kd.C (Kd.int .i64) W (if c2 = m then A2 else A2.map (·.add m)) (N - m) (t.ls.drop m)) := ⟨fun m hm W hW => by
      have el := HE.out.2.2.1
      have hpc := HP.out.2.2.1
      have h0 := Kd.C_drop (m := m) (c := c2) (Kd.C_below HQ.out.2.2.1 hW) (by omega) (by omega)
      rw [show m * ((Kd.int .i64)).sz = m from Nat.mul_one _] at h0
      rwa [show (t.ls.drop m).length = N - m by rw [List.length_drop]; omega] at h0⟩
    have hnc : n ≤ c2 := by have := HP.out.2.2.1; omega
    have hfc : fr ≤ c2 := by have := HP.out.2.2.1; omega
    refine start_ (n := 9) (S := (fun w' => w'.cell? ⟨B, 2, none⟩ = some (.slice D8 L8 d8) ∧ w'.cell? ⟨w.heap.size, 2, none⟩ = some (.slice A2 N c2))) (ds := [8]) #[false, false, false, false, false, false, false, false, false] (by kernel_rfl) rfl rfl ⟨u0, t0⟩ (fun hHeld => ?_); refine with_tabW ins_tab16 ins_bits (fun HT_ HW_ => ?_)
    obtain ⟨Wd, eWd⟩ : ∃ Wd, W8.drew = Wd := ⟨_, rfl⟩
    have HI_ := Aside0.mk HI.out.drew
    clear HI
    have HI := HI_
    clear HI_
    rw [eWd] at HI hHeld ⊢
    clear eWd
    refine pure_ (i := 0) (N := some 92) (v := ?_) (a' := ?_) #[true, false, false, false, false, false, false, false, false] rfl rfl (any_of HT_.out (by kernel_rfl)) (fun _ _ _ h => h) (Or.inl ⟨by rfl, ?_⟩) ?_ ?_
    rotate_left
    · intro w'
      go_simp
      with_reducible rfl
    rotate_left
    · simp only [Act.put, List.setIfInBounds_toArray, List.set_cons_zero, List.set_cons_succ, i64_w, i32_w]
      rfl
    refine pure_ (i := 2) (N := some 94) (v := ?_) (a' := ?_) #[true, false, true, false, false, false, false, false, false] rfl rfl (any_of HT_.out (by kernel_rfl)) (fun _ _ _ h => h) (Or.inl ⟨by rfl, ?_⟩) ?_ ?_
    rotate_left
    · intro w'
      go_simp
      with_reducible rfl
    rotate_left
    · simp only [Act.put, List.setIfInBounds_toArray, List.set_cons_zero, List.set_cons_succ, i64_w, i32_w]
      rfl
    refine pure_ (i := 4) (N := some 96) (v := ?_) (a' := ?_) #[true, false, true, false, true, false, false, false, false] rfl rfl (any_of HT_.out (by kernel_rfl)) (fun _ _ _ h => h) (Or.inl ⟨by rfl, ?_⟩) ?_ ?_
    rotate_left
    · intro w'
      go_simp
      with_reducible rfl
    rotate_left
    · simp only [Act.put, List.setIfInBounds_toArray, List.set_cons_zero, List.set_cons_succ, i64_w, i32_w]
      rfl
    refine take_ (i := 1) (N := some 93) (v := ?_) (a' := ?_) #[true, true, true, false, true, false, false, false, false] rfl rfl (take_ofW HT_.out HW_.out (by kernel_rfl)) (fun _ _ _ h => h) (Or.inl ⟨by rfl, ?_⟩) hHeld ?_ ?_
    rotate_left
    · rintro w' ⟨s0, s1⟩
      go_simp
      with_reducible rfl
    rotate_left
    · simp only [Act.put, List.setIfInBounds_toArray, List.set_cons_zero, List.set_cons_succ, i64_w, i32_w]
      rfl
    refine take_ (i := 3) (N := some 95) (v := ?_) (a' := ?_) #[true, true, true, true, true, false, false, false, false] rfl rfl (take_ofW HT_.out HW_.out (by kernel_rfl)) (fun _ _ _ h => h) (Or.inl ⟨by rfl, ?_⟩) hHeld ?_ ?_
    rotate_left
    · rintro w' ⟨s0, s1⟩
      go_simp
      with_reducible rfl
    rotate_left
    · simp only [Act.put, List.setIfInBounds_toArray, List.set_cons_zero, List.set_cons_succ, i64_w, i32_w]
      rfl
    refine pure_ (i := 5) (N := some 97) (v := ?_) (a' := ?_) #[true, true, true, true, true, true, false, false, false] rfl rfl (any_of HT_.out (by kernel_rfl)) (fun _ _ _ h => h) (Or.inl ⟨by rfl, ?_⟩) ?_ ?_
    rotate_left
    · intro w'
      go_simp
      with_reducible rfl
    rotate_left
    · simp only [Act.put, List.setIfInBounds_toArray, List.set_cons_zero, List.set_cons_succ, i64_w, i32_w]
      rfl
    refine one_ (i := 6) (N := some 98) #[true, true, true, true, true, true, true, false, false] rfl rfl (one_of HT_.out (by kernel_rfl)) (by decide) (fun K hK => ?_)
    refine Kd.R_append_rows_step (Kd.int .i64) (w0 := w) w.heap.size (by rfl) (.tmp 93) (.tmp 97) 26 3 (.int .i64 0) 8 rfl Try.underlying26 info3 rfl (by decide) (by omega) (.slice D8 L8 d8) ((([] : List Int) ++ (t.ls.take n)) ++ [nx]) (t.ls.drop fr) _ _ _ (fun k => some k ≠ (.slice D15 L15 d15 : Value).ownBlock) (fun _ => False) rfl rfl HI.out.r2 (QT.out _ hfr _ HI.out.bl) (fun _ _ h => h) (fun _ h => h.elim) HI.out.f2 HI.out.bl HI.out.sz (by have := HE.out.2.2.1; simp only [List.length_append, List.length_take, List.length_cons, List.length_nil]; omega) ?_
    intro v16_ wa_ ho hb hg hat
    obtain ⟨D16, d16, rfl⟩ := Kd.R_slice ho
    obtain ⟨g1_, g2_, g3_⟩ := HI.out.app2 ho hb hg hat
    have HN := Aside0.mk g3_
    have t1 : wa_.cell? ⟨w.heap.size, 2, none⟩ = some (.slice A2 N c2) := by rw [blk_cell g1_]; rfl
    have u1 : wa_.cell? ⟨B, 2, none⟩ = some (.slice D8 L8 d8) := by rw [blk_cell g2_]; rfl
    have uf1 : wa_.frozen? ⟨B, 2, none⟩ = false := blk_frozen g2_ 2
    obtain ⟨L16, eL16⟩ : ∃ L, (((([] : List Int) ++ (t.ls.take n)) ++ [nx]) ++ (t.ls.drop fr)).length = L := ⟨_, rfl⟩
    rw [eL16] at HN
    rw [eL16]
    have HL16 := Aside0.mk eL16
    clear g1_ g2_ g3_ ho hb hg hat eL16
    clear hHeld
    refine hK.out _ _ ⟨u1, t1⟩ (fun hHeld => ?_)
    clear hK K
    refine norm_ (a' := ?_) ?_ ?_
    rotate_left
    · show Act.put _ (some 98) _ = _
      simp only [Act.put, List.setIfInBounds_toArray, List.set_cons_zero, List.set_cons_succ, i64_w, i32_w]
      rfl
    refine pure_ (i := 7) (N := some 99) (v := ?_) (a' := ?_) #[true, true, true, true, true, true, true, true, false] rfl rfl (any_of HT_.out (by kernel_rfl)) (fun _ _ _ h => h) (Or.inl ⟨by rfl, ?_⟩) ?_ ?_
    rotate_left
    · intro w'
      go_simp
      with_reducible rfl
    rotate_left
    · simp only [Act.put, List.setIfInBounds_toArray, List.set_cons_zero, List.set_cons_succ, i64_w, i32_w]
      rfl
    refine last_ (i := 8) (N := none) #[true, true, true, true, true, true, true, true, true] rfl rfl (one_of HT_.out (by kernel_rfl)) (by decide) (fun K hK => ?_)
    refine skip_ (w1 := ?_) (by rfl) rfl ?_ ?_
    rotate_left
    · go_simp
      rfl
    refine hK.out _ _ ?_
    clear hK K
    refine done_ (done_of HT_.out (by kernel_rfl)) ?_
    generalize (if c2 = fr then A2 else Option.map (fun x => x.add fr) A2) = X16
    generalize (wa_.setCell ⟨B, 2, none⟩ (.slice D16 L16 d16)) = W9 at HN ⊢
    clear HI hHeld t0 t1 u0 u1 uf1 QT hnc hfc HT_ HW_
    have HI := HN
    clear HN
    have HN : Aside0 (InS w W9 B #[.slice A0 N c0, .slice A1 N c1, .slice A2 N c2, .slice A3 M3 c3, .slice A4 M4 c4] #[.slice none 0 0, .slice none 0 0, .slice none 0 0, .slice none 0 0, .slice none 0 0] (.slice D14 L14 d14) (.slice D15 L15 d15) (.slice D16 L16 d16) (putAt t.ks n bb a) (putAt t.vs n bb v) (putAt t.ls n bb nx)) := ⟨by
      have h0 := HI.out
      rw [HFQ.out, HFQ.out, HFQ.out] at h0
      exact h0⟩
    rw [HFQ.out] at HL14 HL15 HL16
    clear HI HFQ
    have HI := HN
    clear HN
    have hrp := HF.out.2.2.2.2
    obtain ⟨P, Mk, nx', r1, r2, r3, r4⟩ := insert_ex3 t hrp a v nx n bb (by rw [HE.out.1]; exact hnN) HFb.out.1 HF.out.2.2.1 HFb.out.2 HL.out.2 (by rw [HE.out.1]; exact hNl)
    obtain ⟨kk, hkk⟩ := r1.rounds
    have HD := Aside0.mk (And.intro r2 (And.intro r3 r4))
    have hMP : ∀ k, k < w.heap.size → ¬ ((Value.slice D14 L14 d14).ownBlock = some k ∨ (Value.slice D15 L15 d15).ownBlock = some k ∨ (Value.slice D16 L16 d16).ownBlock = some k) := fun k hk h => by
      rcases h with h | h | h
      · have := Kd.R_base HI.out.r0 k h; omega
      · have := Kd.R_base HI.out.r1 k h; omega
      · have := Kd.R_base HI.out.r2 k h; omega
    have hnP : ∀ (g : Nat) (cs : Array Value), W9.heap[g]? = some (.cells cs 28 (0, 0)) → ¬ ((Value.slice D14 L14 d14).ownBlock = some g ∨ (Value.slice D15 L15 d15).ownBlock = some g ∨ (Value.slice D16 L16 d16).ownBlock = some g) := fun g cs hg h => by
      rcases h with h | h | h
      · exact Kd.R_ne HI.out.r0 hg (by decide) h.symm
      · exact Kd.R_ne HI.out.r1 hg (by decide) h.symm
      · exact Kd.R_ne HI.out.r2 hg (by decide) h.symm
    obtain ⟨P0, eP0⟩ : ∃ P0 : Nat → Prop, P0 = fun k => (Value.slice D14 L14 d14).ownBlock = some k := ⟨_, rfl⟩
    obtain ⟨P1, eP1⟩ : ∃ P1 : Nat → Prop, P1 = fun k => (Value.slice D15 L15 d15).ownBlock = some k := ⟨_, rfl⟩
    obtain ⟨P2, eP2⟩ : ∃ P2 : Nat → Prop, P2 = fun k => (Value.slice D16 L16 d16).ownBlock = some k := ⟨_, rfl⟩
    have s0 : Kd.R Kd.string 9 W9 w.heap.size P0 (.slice D14 L14 d14) (putAt t.ks n bb a) := by rw [eP0]; exact R_self HI.out.r0
    have s1 : Kd.R (Kd.int .i64) 3 W9 w.heap.size P1 (.slice D15 L15 d15) (putAt t.vs n bb v) := by rw [eP1]; exact R_self HI.out.r1
    have s2 : Kd.R (Kd.int .i64) 3 W9 w.heap.size P2 (.slice D16 L16 d16) (putAt t.ls n bb nx) := by rw [eP2]; exact R_self HI.out.r2
    have s12 : ∀ k, P1 k → ¬ P2 k := fun k h1 h2 => by rw [eP1] at h1; rw [eP2] at h2; exact HI.out.r1.1 k h1 h2.symm
    have s21 : ∀ k, P2 k → ¬ P1 k := fun k h1 h2 => s12 k h2 h1
    have HMP : Aside0 (∀ k, k < w.heap.size → ¬ (P0 k ∨ P1 k ∨ P2 k)) := ⟨by rw [eP0, eP1, eP2]; exact hMP⟩
    have HNP : Aside0 (∀ (g : Nat) (cs : Array Value), W9.heap[g]? = some (.cells cs 28 (0, 0)) → ¬ (P0 g ∨ P1 g ∨ P2 g)) := ⟨by rw [eP0, eP1, eP2]; exact hnP⟩
    clear eP0 eP1 eP2 hMP hnP
    have HC : Aside0 (∀ W_, Go.Proofs.YtjhgknagmiekeaaW.PrintWords.Kept W9 W_ (fun k => P0 k ∨ P1 k ∨ P2 k) → RtAt W_ t (.slice A0 N c0) (.slice A1 N c1) (.slice A2 N c2) (.slice A3 M3 c3) (.slice A4 M4 c4)) := ⟨fun W_ hk => by
      have h0 := HM.out W_ (Nat.le_trans HI.out.sz hk.1) (fun k h1 _ => (hk.2 k (Nat.lt_of_lt_of_le h1 HI.out.sz) (HMP.out k h1)).trans (HI.out.bl.block k h1))
      rw [HE.out.1, HE.out.2.1, HE.out.2.2.1, HE.out.2.2.2.1, HE.out.2.2.2.2] at h0
      exact h0⟩
    have q := musterref03_remade.calls kk A0 c0 t.ks A1 c1 t.vs A2 c2 t.ls A3 c3 t.ps A4 c4 t.ms P0 (.slice D14 L14 d14) (putAt t.ks n bb a) P1 (.slice D15 L15 d15) (putAt t.vs n bb v) P2 (.slice D16 L16 d16) (putAt t.ls n bb nx) none 0 [] none 0 [] a (wrap64 (nx + 1)) _ _ _ _ _ _ w W9 HI.out.bl
      (fun W_ hk => (HC.out W_ hk).a0.c) (by rw [HE.out.1]; exact HP.out.1) (fun W_ hk => (HC.out W_ hk).a1.c) (by rw [HE.out.2.1]; exact HP.out.2.1) (fun W_ hk => (HC.out W_ hk).a2.c) (by rw [HE.out.2.2.1]; exact HP.out.2.2.1) (fun W_ hk => (HC.out W_ hk).a3.c) (by rw [HE.out.2.2.2.1]; exact HP.out.2.2.2.1) (fun W_ hk => (HC.out W_ hk).a4.c) (by rw [HE.out.2.2.2.2]; exact HP.out.2.2.2.2)
      s0 s1 s12 s2 s21
      (fun W_ _ => Kd.C_nil _ _) (Nat.le_refl _) (fun W_ _ => Kd.C_nil _ _) (Nat.le_refl _) hkk
    rw [HE.out.1, HE.out.2.1, HE.out.2.2.1, HE.out.2.2.2.1, HE.out.2.2.2.2] at q
    have QR := Aside0.mk q
    clear q hkk r1 r2 r3 r4 s0 s1 s2 s12 s21
    have m0 : W9.cell? ⟨w.heap.size, 0, none⟩ = some (.slice A0 N c0) := by rw [blk_cell HI.out.bt]; rfl
    have u0 : W9.cell? ⟨B, 0, none⟩ = some (.slice D14 L14 d14) := by rw [blk_cell HI.out.bu]; rfl
    have m1 : W9.cell? ⟨w.heap.size, 1, none⟩ = some (.slice A1 N c1) := by rw [blk_cell HI.out.bt]; rfl
    have u1 : W9.cell? ⟨B, 1, none⟩ = some (.slice D15 L15 d15) := by rw [blk_cell HI.out.bu]; rfl
    have m2 : W9.cell? ⟨w.heap.size, 2, none⟩ = some (.slice A2 N c2) := by rw [blk_cell HI.out.bt]; rfl
    have u2 : W9.cell? ⟨B, 2, none⟩ = some (.slice D16 L16 d16) := by rw [blk_cell HI.out.bu]; rfl
    have m3 : W9.cell? ⟨w.heap.size, 3, none⟩ = some (.slice A3 M3 c3) := by rw [blk_cell HI.out.bt]; rfl
    have u3 : W9.cell? ⟨B, 3, none⟩ = some (.slice none 0 0) := by rw [blk_cell HI.out.bu]; rfl
    have m4 : W9.cell? ⟨w.heap.size, 4, none⟩ = some (.slice A4 M4 c4) := by rw [blk_cell HI.out.bt]; rfl
    have u4 : W9.cell? ⟨B, 4, none⟩ = some (.slice none 0 0) := by rw [blk_cell HI.out.bu]; rfl
    go_wp2_with (go_at_call 92; refine QR.out.mono ?_)
    rintro e W4 ⟨x0, x1, x2, x3, x4, rfl, R0, R1, R2, R3, R4, hb4, hk4⟩
    obtain ⟨E0, g0, rfl⟩ := Kd.R_slice R0
    obtain ⟨E1, g1, rfl⟩ := Kd.R_slice R1
    obtain ⟨E2, g2, rfl⟩ := Kd.R_slice R2
    obtain ⟨E3, g3, rfl⟩ := Kd.R_slice R3
    obtain ⟨E4, g4, rfl⟩ := Kd.R_slice R4
    have HR := Aside0.mk (And.intro R0 (And.intro R1 (And.intro R2 (And.intro R3 R4))))
    obtain ⟨y0, ey0⟩ : ∃ y, (putAt t.ks n bb a).length = y := ⟨_, rfl⟩
    obtain ⟨y1, ey1⟩ : ∃ y, (putAt t.vs n bb v).length = y := ⟨_, rfl⟩
    obtain ⟨y2, ey2⟩ : ∃ y, (putAt t.ls n bb nx).length = y := ⟨_, rfl⟩
    obtain ⟨y3, ey3⟩ : ∃ y, P.length = y := ⟨_, rfl⟩
    obtain ⟨y4, ey4⟩ : ∃ y, Mk.length = y := ⟨_, rfl⟩
    rw [ey0, ey1, ey2, ey3, ey4] at HR
    rw [ey0, ey1, ey2, ey3, ey4]
    clear R0 R1 R2 R3 R4
    have hbt := blk_kept HI.out.bt hk4 (HNP.out _ _ HI.out.bt)
    have hbz := blk_kept HI.out.bz hk4 (HNP.out _ _ HI.out.bz)
    have hbu := blk_kept HI.out.bu hk4 (HNP.out _ _ HI.out.bu)
    have HU4 := Aside0.mk (And.intro hbt (And.intro hbz hbu))
    have HB4 := Aside0.mk hb4
    have HY := Aside0.mk (And.intro ey0 (And.intro ey1 (And.intro ey2 (And.intro ey3 ey4))))
    clear hbt hbz hk4 hb4 HI QR HC HNP HMP ey0 ey1 ey2 ey3 ey4 m0 u0 m1 u1 m2 u2 m3 u3 m4 u4
    have f0 : W4.frozen? ⟨B, 0, none⟩ = false := blk_frozen hbu 0
    have v0 : W4.cell? ⟨B, 0, none⟩ = some (.slice D14 L14 d14) := by rw [blk_cell hbu]; rfl
    have f1 : W4.frozen? ⟨B, 1, none⟩ = false := blk_frozen hbu 1
    have v1 : W4.cell? ⟨B, 1, none⟩ = some (.slice D15 L15 d15) := by rw [blk_cell hbu]; rfl
    have f2 : W4.frozen? ⟨B, 2, none⟩ = false := blk_frozen hbu 2
    have v2 : W4.cell? ⟨B, 2, none⟩ = some (.slice D16 L16 d16) := by rw [blk_cell hbu]; rfl
    have f3 : W4.frozen? ⟨B, 3, none⟩ = false := blk_frozen hbu 3
    have v3 : W4.cell? ⟨B, 3, none⟩ = some (.slice none 0 0) := by rw [blk_cell hbu]; rfl
    have f4 : W4.frozen? ⟨B, 4, none⟩ = false := blk_frozen hbu 4
    have v4 : W4.cell? ⟨B, 4, none⟩ = some (.slice none 0 0) := by rw [blk_cell hbu]; rfl
    clear hbu
    go_upto_region 18 with fail
    have hz5 := V.set5_at HU4.out.2.2 (.slice E0 y0 g0) (.slice E1 y1 g1) (.slice E2 y2 g2) (.slice E3 y3 g3) (.slice E4 y4 g4)
    obtain ⟨W5, e5⟩ : ∃ W5, V.set5 W4 B (.slice E0 y0 g0) (.slice E1 y1 g1) (.slice E2 y2 g2) (.slice E3 y3 g3) (.slice E4 y4 g4) = W5 := ⟨_, rfl⟩
    have hfar : ∀ k, k ≠ B → W5.heap[k]? = W4.heap[k]? := fun k hk => by rw [← e5]; exact V.set5_far _ _ _ _ _ _ _ k hk
    have hsz5 : W5.heap.size = W4.heap.size := by rw [← e5]; simp [V.set5, T.size_setCell]
    have hb5 : Below w.heap.size w W5 := by rw [← e5]; exact V.set5_below HB4.out (by omega) _ _ _ _ _
    rw [e5] at hz5
    have e6 : ((((W4.setCell { block := B, off := 0 } (.slice E0 y0 g0)).setCell { block := B, off := 1 } (.slice E1 y1 g1)).setCell { block := B, off := 2 } (.slice E2 y2 g2)).setCell { block := B, off := 3 } (.slice E3 y3 g3)).setCell { block := B, off := 4 } (.slice E4 y4 g4) = W5 := e5
    rw [e6]
    clear f0 v0 f1 v1 f2 v2 f3 v3 f4 v4
    have br5 := (hfar (w.heap.size + 1) (by omega)).trans HU4.out.2.1
    have HFAR := Aside0.mk (And.intro hfar (And.intro hsz5 hb5))
    have HZ5 := Aside0.mk (And.intro hz5 br5)
    have k0 : W5.cell? ⟨B, 0, none⟩ = some (.slice E0 y0 g0) := by rw [blk_cell hz5]; rfl
    have z0 : W5.cell? ⟨w.heap.size + 1, 0, none⟩ = some (.slice none 0 0) := by rw [blk_cell br5]; rfl
    have g0_ : W5.frozen? ⟨w.heap.size + 1, 0, none⟩ = false := blk_frozen br5 0
    have k1 : W5.cell? ⟨B, 1, none⟩ = some (.slice E1 y1 g1) := by rw [blk_cell hz5]; rfl
    have z1 : W5.cell? ⟨w.heap.size + 1, 1, none⟩ = some (.slice none 0 0) := by rw [blk_cell br5]; rfl
    have g1_ : W5.frozen? ⟨w.heap.size + 1, 1, none⟩ = false := blk_frozen br5 1
    have k2 : W5.cell? ⟨B, 2, none⟩ = some (.slice E2 y2 g2) := by rw [blk_cell hz5]; rfl
    have z2 : W5.cell? ⟨w.heap.size + 1, 2, none⟩ = some (.slice none 0 0) := by rw [blk_cell br5]; rfl
    have g2_ : W5.frozen? ⟨w.heap.size + 1, 2, none⟩ = false := blk_frozen br5 2
    have k3 : W5.cell? ⟨B, 3, none⟩ = some (.slice E3 y3 g3) := by rw [blk_cell hz5]; rfl
    have z3 : W5.cell? ⟨w.heap.size + 1, 3, none⟩ = some (.slice none 0 0) := by rw [blk_cell br5]; rfl
    have g3_ : W5.frozen? ⟨w.heap.size + 1, 3, none⟩ = false := blk_frozen br5 3
    have k4 : W5.cell? ⟨B, 4, none⟩ = some (.slice E4 y4 g4) := by rw [blk_cell hz5]; rfl
    have z4 : W5.cell? ⟨w.heap.size + 1, 4, none⟩ = some (.slice none 0 0) := by rw [blk_cell br5]; rfl
    have g4_ : W5.frozen? ⟨w.heap.size + 1, 4, none⟩ = false := blk_frozen br5 4
    clear hz5 br5 hfar hsz5 hb5 e6 e5
    go_wp2_with fail
    have hz6 := V.set5_at HZ5.out.2 (.slice E0 y0 g0) (.slice E1 y1 g1) (.slice E2 y2 g2) (.slice E3 y3 g3) (.slice E4 y4 g4)
    obtain ⟨W6, e6⟩ : ∃ W6, V.set5 W5 (w.heap.size + 1) (.slice E0 y0 g0) (.slice E1 y1 g1) (.slice E2 y2 g2) (.slice E3 y3 g3) (.slice E4 y4 g4) = W6 := ⟨_, rfl⟩
    have hfar6 : ∀ k, k ≠ w.heap.size + 1 → W6.heap[k]? = W5.heap[k]? := fun k hk => by rw [← e6]; exact V.set5_far _ _ _ _ _ _ _ k hk
    have hsz6 : W6.heap.size = W5.heap.size := by rw [← e6]; simp [V.set5, T.size_setCell]
    have hb6 : Below w.heap.size w W6 := by rw [← e6]; exact V.set5_below HFAR.out.2.2 (by omega) _ _ _ _ _
    rw [e6] at hz6
    have e7 : ((((W5.setCell { block := w.heap.size + 1, off := 0 } (.slice E0 y0 g0)).setCell { block := w.heap.size + 1, off := 1 } (.slice E1 y1 g1)).setCell { block := w.heap.size + 1, off := 2 } (.slice E2 y2 g2)).setCell { block := w.heap.size + 1, off := 3 } (.slice E3 y3 g3)).setCell { block := w.heap.size + 1, off := 4 } (.slice E4 y4 g4) = W6 := e6
    rw [e7]
    have q0 : W6.cell? ⟨w.heap.size + 1, 0, none⟩ = some (.slice E0 y0 g0) := by rw [blk_cell hz6]; rfl
    have q1 : W6.cell? ⟨w.heap.size + 1, 1, none⟩ = some (.slice E1 y1 g1) := by rw [blk_cell hz6]; rfl
    have q2 : W6.cell? ⟨w.heap.size + 1, 2, none⟩ = some (.slice E2 y2 g2) := by rw [blk_cell hz6]; rfl
    have q3 : W6.cell? ⟨w.heap.size + 1, 3, none⟩ = some (.slice E3 y3 g3) := by rw [blk_cell hz6]; rfl
    have q4 : W6.cell? ⟨w.heap.size + 1, 4, none⟩ = some (.slice E4 y4 g4) := by rw [blk_cell hz6]; rfl
    refine bodyPost_ret (v := .tuple #[.agg #[.slice E0 y0 g0, .slice E1 y1 g1, .slice E2 y2 g2, .slice E3 y3 g3, .slice E4 y4 g4], .int .i64 0, .bool false, .int .i64 nx']) (by simp [results, Try.results66, go_sem, q0, q1, q2, q3, q4]) rfl ?_
    have hgo : ∀ w2 : World, Rob w.heap.size W6 w2 → ∀ k, w.heap.size ≤ k → k < W4.heap.size → (∀ cells, W4.heap[k]? ≠ some (.cells cells 28 (0, 0))) → w2.heap[k]? = W4.heap[k]? := fun w2 h2 k h3 h4 h5 => by
      have hkB : k ≠ B := fun e => h5 _ (by rw [e]; exact HU4.out.2.2)
      have hkR : k ≠ w.heap.size + 1 := fun e => h5 _ (by rw [e]; exact HU4.out.2.1)
      rw [h2 k h3 (by rw [hsz6, HFAR.out.2.1]; exact h4), hfar6 k hkR, HFAR.out.1 k hkB]
    have hle := HD.out.2.2
    rw [HE.out.1] at hle
    refine ⟨⟨putAt t.ks n bb a, putAt t.vs n bb v, putAt t.ls n bb nx, P, Mk⟩, 0, false, nx', _, _, _, _, _, rfl, fun w2 h2 => ?_, HD.out.1, ⟨n, P, Mk, by rw [HE.out.1]; exact hnN, by have h9 := HFb.out.1; rw [HBq.out] at h9; exact h9, by have h9 := HFb.out.2; rw [HBq.out] at h9; exact h9, HF.out.2.2.1, rfl, by rw [HBq.out], HD.out.2.1⟩, hle, hb6⟩
    obtain ⟨R0, R1, R2, R3, R4⟩ := HR.out
    rw [← HY.out.1] at R0
    rw [← HY.out.2.1] at R1
    rw [← HY.out.2.2.1] at R2
    rw [← HY.out.2.2.2.1] at R3
    rw [← HY.out.2.2.2.2] at R4
    rw [← HY.out.1, ← HY.out.2.1, ← HY.out.2.2.1, ← HY.out.2.2.2.1, ← HY.out.2.2.2.2]
    exact ⟨R_far28 R0 (by decide) (hgo w2 h2), R_far28 R1 (by decide) (hgo w2 h2), R_far28 R2 (by decide) (hgo w2 h2), R_far28 R3 (by decide) (hgo w2 h2), R_far28 R4 (by decide) (hgo w2 h2)⟩
end Go.Proofs.Ytjhgknagmiekeaa.N
set_option linter.unusedVariables false
set_option linter.unusedSimpArgs false
namespace Go.Proofs.Ytjhgknagmiekeaa.N
open Go.RowKit Go.Lib Go.Proofs
open Go.Proofs.Ytjhgknagmiekeaa.K Go.Proofs.YtjhgknagmiekeaaW.PrintWords Go.Proofs.YtjhgknagmiekeaaW.PrintLast
open Go.Proofs.Ytjhgknagmiekeaa.T (L Nd Fine IntVals valT insN emptyN fine_ins fine_empty vals_ins vals_empty valT_ins valT_empty numV lastI Strs)
attribute [local go_sem] Oper.semAt_some
end Go.Proofs.Ytjhgknagmiekeaa.N
set_option linter.unusedVariables false
set_option linter.unusedSimpArgs false
namespace Go.Proofs.Ytjhgknagmiekeaa.N
open Go.RowKit Go.Lib Go.Proofs
open Go.Proofs.Ytjhgknagmiekeaa.K Go.Proofs.YtjhgknagmiekeaaW.PrintWords Go.Proofs.YtjhgknagmiekeaaW.PrintLast
open Go.Proofs.Ytjhgknagmiekeaa.T (L Nd Fine IntVals valT wasV All findT)
theorem agree_in {root : Nd} {t : Rt} (hg : T.Good root) (hv : IntVals root) (ht : Rok t) (h : Agree root t) {n : Nat} (hn : n < t.ks.length) : valT root (L (gd t.ks n)) = some (.int .i64 (rd t.vs n)) := by
  rw [← mem_ey hg hv, show (All root).map ey = _ from h, List.mem_map]
  have hj2 : n < (t.ks.zip t.vs).length := by rw [List.length_zip, ht.v]; omega
  refine ⟨(t.ks.zip t.vs)[n], List.getElem_mem hj2, ?_⟩
  rw [List.getElem_zip, gd_get hn]
  have hv2 : n < t.vs.length := by rw [ht.v]; exact hn
  unfold ex rd
  simp [List.getD_eq_getElem?_getD, List.getElem?_eq_getElem hv2]
theorem agree_out {root : Nd} {t : Rt} (hg : T.Good root) (hv : IntVals root) (ht : Rok t) (h : Agree root t) {a : ByteArray} (ha : a ∉ t.ks) : valT root (L a) = none := by
  cases e : valT root (L a) with
  | none => rfl
  | some x =>
    exfalso
    have h1 : findT root (L a) ≠ none := by rw [← T.valT_ne, e]; simp
    obtain ⟨j, hj, ej⟩ := (key_iff hg hv ht h _).1 h1
    exact ha (by rw [T.L_inj ej]; exact gd_mem hj)
theorem was_ins {root : Nd} {t t' : Rt} (hg : T.Good root) (hv : IntVals root) (ht : Rok t) (h : Agree root t) {a : ByteArray} {v nx nx' old : Int} {b : Bool} (hd : InsD t t' a v nx nx' old b) (tb : Nat) : wasV tb (valT root (L a)) = .tuple #[T.ptr tb, .int .i64 old, .bool b] := by
  obtain ⟨n, P, M, h1, h2, h3, -, rfl, -, -⟩ := hd
  cases b with
  | true =>
    obtain ⟨h4, h5⟩ := h2 rfl
    rw [← h5, agree_in hg hv ht h h4]
    rfl
  | false =>
    rw [agree_out hg hv ht h (fun hm => by have := h3.2 hm; simp at this)]
    rfl
theorem was_del {root : Nd} {t t' : Rt} (hg : T.Good root) (hv : IntVals root) (ht : Rok t) (h : Agree root t) {a : ByteArray} {nx nx' old : Int} {b : Bool} (hd : DelRt t t' a nx nx' old b) (tb : Nat) : wasV tb (valT root (L a)) = .tuple #[T.ptr tb, .int .i64 old, .bool b] := by
  rcases hd with ⟨rfl, ha, -, rfl, -⟩ | ⟨n, P, M, rfl, hn, hga, rfl, -, -⟩
  · rw [agree_out hg hv ht h ha]; rfl
  · rw [← hga, agree_in hg hv ht h hn]; rfl
theorem agree_out_of {root root' : Nd} {t t' : Rt} (hf : Fine root) (hv : IntVals root) (hf' : Fine root') (hv' : IntVals root') (ht : Rok t) (ht' : Rok t') (h : Agree root t) {a : ByteArray} {nx nx' old : Int} {b : Bool} (hd : DelRt t t' a nx nx' old b) (hr : ∀ r, valT root' r = if r = L a then none else valT root r) : Agree root' t' := by
  refine agree_of hf'.toGood hv' ht' ((agreeF_del ht (agreeF_of hf.toGood hv h) hd (fun q v e => ?_)).imp (fun q => hr q))
  unfold valT at e
  obtain ⟨l, hl, e2⟩ := Option.map_eq_some_iff.1 e
  obtain ⟨x, ex⟩ := hv _ _ hl
  exact ⟨x, by rw [← e2, ex]⟩
theorem wasV_form (tb : Nat) (o : Option Value) : ∃ a b, wasV tb o = .tuple #[T.ptr tb, a, .bool b] := by cases o <;> exact ⟨_, _, rfl⟩
end Go.Proofs.Ytjhgknagmiekeaa.N
