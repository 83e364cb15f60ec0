/- joined: K27 N5 -/
import Derived.Test.YtjhgknagmiekeaaJC10
import Derived.Test.YtjhgknagmiekeaaJC11
import Derived.Test.YtjhgknagmiekeaaJC9
import Derived.Test.YtjhgknagmiekeaaJC8
-- Written by a program of this session (wip/tools/printfam.py) out of the translation; hand-proved contracts set in. Lean checks it.
namespace Go.Proofs.Ytjhgknagmiekeaa.K
open Go.RowKit Go.Proofs.YtjhgknagmiekeaaW.PrintWords Go.Proofs.YtjhgknagmiekeaaW.PrintLast Go.Proofs.YtjhgknagmiekeaaW.PrintMore
attribute [local go_sem] max2_int min2_int max_two min_two max_three min_three max_four min_four   -- for this text's walks alone
set_option linter.unusedVariables false
set_option linter.unusedSimpArgs false
set_option maxHeartbeats 8000000 in
set_option maxRecDepth 100000 in
theorem musterref03_Insert.calls (k : Nat) (A0_0 : Option Addr) (c0_0 : Nat) (l0_0 : List ByteArray) (A0_1 : Option Addr) (c0_1 : Nat) (l0_1 : List Int) (A0_2 : Option Addr) (c0_2 : Nat) (l0_2 : List Int) (A0_3 : Option Addr) (c0_3 : Nat) (l0_3 : List ByteArray) (A0_4 : Option Addr) (c0_4 : Nat) (l0_4 : List Int) (a1 : ByteArray) (a2 : Int) (a3 : Int) (r1 : List ByteArray) (r2 : List Int) (r3 : List Int) (r4 : List ByteArray) (r5 : List Int) (r6 : Int) (r7 : Bool) (r8 : Int) (w : World) (hr0_0 : Kd.C Kd.string w A0_0 l0_0.length l0_0) (hc0_0 : l0_0.length ≤ c0_0) (hr0_1 : Kd.C (Kd.int .i64) w A0_1 l0_1.length l0_1) (hc0_1 : l0_1.length ≤ c0_1) (hr0_2 : Kd.C (Kd.int .i64) w A0_2 l0_2.length l0_2) (hc0_2 : l0_2.length ≤ c0_2) (hr0_3 : Kd.C Kd.string w A0_3 l0_3.length l0_3) (hc0_3 : l0_3.length ≤ c0_3) (hr0_4 : Kd.C (Kd.int .i64) w A0_4 l0_4.length l0_4) (hc0_4 : l0_4.length ≤ c0_4) (h : musterref03_Insert.f k l0_0 l0_1 l0_2 l0_3 l0_4 a1 a2 a3 = some (r1, r2, r3, r4, r5, r6, r7, r8)) :
    Calls Try.prog 66 #[.agg #[.slice A0_0 l0_0.length c0_0, .slice A0_1 l0_1.length c0_1, .slice A0_2 l0_2.length c0_2, .slice A0_3 l0_3.length c0_3, .slice A0_4 l0_4.length c0_4], .string a1, .int .i64 a2, .int .i64 a3] w fun e w' => ∃ v0_ v1_ v2_ v3_ v4_ : Value, e = .returned (.tuple #[.agg #[v0_, v1_, v2_, v3_, v4_], .int .i64 r6, .bool r7, .int .i64 r8]) ∧ Kd.R Kd.string 9 w' w.heap.size (fun k_ => some k_ ≠ (v3_ : Value).ownBlock) v0_ r1 ∧ Kd.R (Kd.int .i64) 3 w' w.heap.size (fun k_ => some k_ ≠ (v2_ : Value).ownBlock ∧ some k_ ≠ (v4_ : Value).ownBlock) v1_ r2 ∧ Kd.R (Kd.int .i64) 3 w' w.heap.size (fun k_ => some k_ ≠ (v1_ : Value).ownBlock ∧ some k_ ≠ (v4_ : Value).ownBlock) v2_ r3 ∧ Kd.R Kd.string 9 w' w.heap.size (fun k_ => some k_ ≠ (v0_ : Value).ownBlock) v3_ r4 ∧ Kd.R (Kd.int .i64) 3 w' w.heap.size (fun k_ => some k_ ≠ (v1_ : Value).ownBlock ∧ some k_ ≠ (v2_ : Value).ownBlock) v4_ r5 ∧ Below w.heap.size w w' := by
  cases hq : musterref03_Find.f k l0_0 a1 with
  | none =>
    exfalso
    unfold musterref03_Insert.f at h
    rw [hq] at h
    cases h
  | some xy =>
    obtain ⟨x, y⟩ := xy
    cases y with
    | true => exact musterref03_Insert.calls_t k A0_0 c0_0 l0_0 A0_1 c0_1 l0_1 A0_2 c0_2 l0_2 A0_3 c0_3 l0_3 A0_4 c0_4 l0_4 a1 a2 a3 r1 r2 r3 r4 r5 r6 r7 r8 w hr0_0 hc0_0 hr0_1 hc0_1 hr0_2 hc0_2 hr0_3 hc0_3 hr0_4 hc0_4 h (fun a b e => by rw [hq] at e; cases e; rfl)
    | false => exact musterref03_Insert.calls_f k A0_0 c0_0 l0_0 A0_1 c0_1 l0_1 A0_2 c0_2 l0_2 A0_3 c0_3 l0_3 A0_4 c0_4 l0_4 a1 a2 a3 r1 r2 r3 r4 r5 r6 r7 r8 w hr0_0 hc0_0 hr0_1 hc0_1 hr0_2 hc0_2 hr0_3 hc0_3 hr0_4 hc0_4 h (fun a b e => by rw [hq] at e; cases e; rfl)
end Go.Proofs.Ytjhgknagmiekeaa.K
set_option linter.unusedVariables false
set_option linter.unusedSimpArgs false
namespace Go.Proofs.Ytjhgknagmiekeaa.N
open Go.RowKit Go.Proofs.Ytjhgknagmiekeaa.K Go.Proofs.YtjhgknagmiekeaaW.PrintWords Go.Proofs.YtjhgknagmiekeaaW.PrintLast
open Go.Proofs.Ytjhgknagmiekeaa.T (Nd All valT findT IntVals Fine Tr)
def SlS (w : World) (v : Value) (xs : List ByteArray) : Prop := ∃ A c, v = .slice A xs.length c ∧ xs.length ≤ c ∧ Kd.C Kd.string w A xs.length xs
def SlI (w : World) (v : Value) (xs : List Int) : Prop := ∃ A c, v = .slice A xs.length c ∧ xs.length ≤ c ∧ Kd.C (Kd.int .i64) w A xs.length xs
theorem SlS.below {w w' : World} {v : Value} {xs : List ByteArray} (h : SlS w v xs) (hb : Below w.heap.size w w') : SlS w' v xs := by
  obtain ⟨A, c, h1, h2, h3⟩ := h
  exact ⟨A, c, h1, h2, Kd.C_below h3 hb⟩
theorem SlI.below {w w' : World} {v : Value} {xs : List Int} (h : SlI w v xs) (hb : Below w.heap.size w w') : SlI w' v xs := by
  obtain ⟨A, c, h1, h2, h3⟩ := h
  exact ⟨A, c, h1, h2, Kd.C_below h3 hb⟩
structure RtAt (w : World) (t : Rt) (v0 v1 v2 v3 v4 : Value) : Prop where
  a0 : SlS w v0 t.ks
  a1 : SlI w v1 t.vs
  a2 : SlI w v2 t.ls
  a3 : SlS w v3 t.ps
  a4 : SlI w v4 t.ms
theorem RtAt.below {w w' : World} {t : Rt} {v0 v1 v2 v3 v4 : Value} (h : RtAt w t v0 v1 v2 v3 v4) (hb : Below w.heap.size w w') : RtAt w' t v0 v1 v2 v3 v4 := ⟨h.a0.below hb, h.a1.below hb, h.a2.below hb, h.a3.below hb, h.a4.below hb⟩
theorem SlS.form {w : World} {v : Value} {xs : List ByteArray} (h : SlS w v xs) : ∃ A n c, v = .slice A n c := by
  obtain ⟨A, c, h1, -⟩ := h
  exact ⟨A, _, c, h1⟩
theorem SlI.form {w : World} {v : Value} {xs : List Int} (h : SlI w v xs) : ∃ A n c, v = .slice A n c := by
  obtain ⟨A, c, h1, -⟩ := h
  exact ⟨A, _, c, h1⟩
theorem RtAt.forms {w : World} {t : Rt} {v0 v1 v2 v3 v4 : Value} (h : RtAt w t v0 v1 v2 v3 v4) : (∃ A n c, v0 = .slice A n c) ∧ (∃ A n c, v1 = .slice A n c) ∧ (∃ A n c, v2 = .slice A n c) ∧ (∃ A n c, v3 = .slice A n c) ∧ (∃ A n c, v4 = .slice A n c) := ⟨h.a0.form, h.a1.form, h.a2.form, h.a3.form, h.a4.form⟩
def rt0 : Rt := ⟨[], [], [], [⟨#[]⟩], [0]⟩
theorem rok0 : Rok rt0 := by
  refine ⟨rfl, rfl, rfl, by decide, fun k h => (by cases h), fun k h => ?_, List.Pairwise.nil⟩
  have e : k = ⟨#[]⟩ := List.mem_singleton.1 h
  rw [e]
  decide
def Rob (B : Nat) (w w2 : World) : Prop := ∀ k, B ≤ k → k < w.heap.size → w2.heap[k]? = w.heap[k]?
theorem R_rob {α : Type} {d : Kd α} {e B : Nat} {w w2 : World} {ok : Nat → Prop} {v : Value} {xs : List α} (h : d.R e w B ok v xs) (hr : Rob B w w2) : d.R e w2 B ok v xs :=
  Kd.R_mono (Kd.R_move (Kd.R_bound h) (fun k hk => hr k hk.2.1 hk.2.2.1)) (fun _ hk => hk.1)
theorem newRtC (w : World) : Calls Try.prog 51 #[.int .i64 0] w fun e w' => ∃ v0 v1 v2 v3 v4, e = .returned (.tuple #[.agg #[v0, v1, v2, v3, v4], .int .i64 1]) ∧ (∀ w2, Rob w.heap.size w' w2 → RtAt w2 rt0 v0 v1 v2 v3 v4) ∧ Below w.heap.size w w' := by
  refine (musterref03_New.calls 0 [] [] [] [⟨#[]⟩] [0] 1 w (by unfold musterref03_New.f; rw [show wrap64 (0 + 1) = 1 from by unfold wrap64; omega])).mono ?_
  rintro e w' ⟨v0, v1, v2, v3, v4, rfl, h0, h1, h2, h3, h4, hb⟩
  exact ⟨v0, v1, v2, v3, v4, rfl, fun w2 hr => ⟨Kd.R_reads (R_rob h0 hr), Kd.R_reads (R_rob h1 hr), Kd.R_reads (R_rob h2 hr), Kd.R_reads (R_rob h3 hr), Kd.R_reads (R_rob h4 hr)⟩, hb⟩
def InsRt (t t' : Rt) (a : ByteArray) (v : Int) : Prop := ∀ root root' : Nd, Fine root → IntVals root → Fine root' → IntVals root' → Agree root t → (∀ r, valT root' r = if r = T.L a then some (.int .i64 v) else valT root r) → Agree root' t'
theorem insRtC (w : World) (t : Rt) (h : Rok t) (v0 v1 v2 v3 v4 : Value) (hm : RtAt w t v0 v1 v2 v3 v4) (a : ByteArray) (v nx : Int) (ha : a.size < 4611686018427387904) (hl : t.ks.length < 100000000000) :
    Calls Try.prog 66 #[.agg #[v0, v1, v2, v3, v4], .string a, .int .i64 v, .int .i64 nx] w fun e w' => ∃ (t' : Rt) (old : Int) (b : Bool) (nx' : Int) (u0 u1 u2 u3 u4 : Value), e = .returned (.tuple #[.agg #[u0, u1, u2, u3, u4], .int .i64 old, .bool b, .int .i64 nx']) ∧ (∀ w2, Rob w.heap.size w' w2 → RtAt w2 t' u0 u1 u2 u3 u4) ∧ Rok t' ∧ InsRt t t' a v ∧ t'.ks.length ≤ t.ks.length + 1 ∧ Below w.heap.size w w' := by
  obtain ⟨n, b, P, M, old, nx', h1, h2, h3, h4, h5, h6⟩ := insert_ex t h a v nx ha hl
  obtain ⟨k, hk⟩ := h5.rounds
  obtain ⟨⟨A0, c0, rfl, p0, q0⟩, ⟨A1, c1, rfl, p1, q1⟩, ⟨A2, c2, rfl, p2, q2⟩, ⟨A3, c3, rfl, p3, q3⟩, ⟨A4, c4, rfl, p4, q4⟩⟩ := hm
  refine (musterref03_Insert.calls k A0 c0 t.ks A1 c1 t.vs A2 c2 t.ls A3 c3 t.ps A4 c4 t.ms a v nx _ _ _ _ _ _ _ _ w q0 p0 q1 p1 q2 p2 q3 p3 q4 p4 hk).mono ?_
  rintro e w' ⟨u0, u1, u2, u3, u4, rfl, r0, r1, r2, r3, r4, hb⟩
  refine ⟨⟨putAt t.ks n b a, putAt t.vs n b v, putAt t.ls n b nx, P, M⟩, old, b, nx', u0, u1, u2, u3, u4, rfl, fun w2 hr => ⟨Kd.R_reads (R_rob r0 hr), Kd.R_reads (R_rob r1 hr), Kd.R_reads (R_rob r2 hr), Kd.R_reads (R_rob r3 hr), Kd.R_reads (R_rob r4 hr)⟩, h6, ?_, ?_, hb⟩
  · intro root root' g1 g2 g3 g4 g5 g6
    exact agree_ins (L := []) g1.toGood g2 g3.toGood g4 h g5 h1 h4 h2 h3 h6 g6
  · show (putAt t.ks n b a).length ≤ _
    rw [putAt_len t.ks n b a h1 (fun e => (h2 e).1)]
    split <;> omega
end Go.Proofs.Ytjhgknagmiekeaa.N
