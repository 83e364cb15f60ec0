/- joined: V6L N8 -/
import Derived.Test.YtjhgknagmiekeaaJA23
import Derived.Test.YtjhgknagmiekeaaJA16
import Derived.Test.YtjhgknagmiekeaaJA21
set_option linter.unusedVariables false
set_option linter.unusedSimpArgs false
namespace Go.Proofs.Ytjhgknagmiekeaa.VL
open Go.RowKit Go.Lib Go.Proofs Go.Proofs.Ytjhgknagmiekeaa.T Go.Proofs.Ytjhgknagmiekeaa.V
open Go.Proofs.YtjhgknagmiekeaaW.PrintWords hiding blk_cell
theorem seq (w : World) (n NN n₁ : Nat) (M : Nat → Prop) (wB : World) (hkB : Kept wB w) (hnB : wB.heap.size ≤ n₁) (hnw : n₁ ≤ w.heap.size) (hM : ∀ k, k < wB.heap.size → ¬ M k)
    (tb : Nat) (root : Nd) (ht : Tr wB tb root) (bp : Nat) (bt bs bk : Nat) (hc : Closed w bp bt bs bk tb) (p : ByteArray) (hp : Bx w bp p) (hbp : bp < n₁) (hMp : ¬ M bp) (hNN : (ovr (fun q => skL (L p) (L q)) (fun _ => true) ⟨#[]⟩ root).length ≤ NN) :
    SeqStopsK Fence.wide n Try.prog 117 #[ptr bt, ptr bs, ptr bk] (fun x : ByteArray × Int => #[.string x.1, .int .i64 x.2]) (KpM n₁ M) (fun ys => ys = ovr (fun q => skL (L p) (L q)) (fun _ => true) ⟨#[]⟩ root) (fun ys => ys <+: ovr (fun q => skL (L p) (L q)) (fun _ => true) ⟨#[]⟩ root) NN w := by
  intro l J Jx W hw hJ hJx hY hJ0
  have hk : Kept w W := Kept.of hw
  have hc2 : Closed W bp bt bs bk tb := ⟨hk.at hc.1, hk.at hc.2.1, hk.at hc.2.2⟩
  have hbx : ∀ W1, Stnd W n₁ M W1 → Bx W1 bp p := fun W1 h => h bp _ (hk.at hp) hbp hMp
  refine callsIn_wide.2 (walked_calls bp l n₁ NN M J Jx (abd_of hJ) (fun m pre x W1 h1 h2 => yieldDepth m (hY pre x W1 h1 h2)) W wB (hkB.trans hk (Nat.le_trans hnB hnw)) hnB hM (fun q => skL (L p) (L q)) (fun _ => true)
    (fun q W1 h1 => skLC q p bp W1 (hbx W1 h1)) (fun q W1 h1 => alwaysC q W1) tb root ht bt bs bk W hc2 (Stnd.refl W n₁ M) (Nat.le_trans hnw hw.size) hJ0 hNN)
end Go.Proofs.Ytjhgknagmiekeaa.VL
set_option linter.unusedVariables false
set_option linter.unusedSimpArgs false
namespace Go.Proofs.Ytjhgknagmiekeaa.N
open Go.RowKit Go.Proofs.Ytjhgknagmiekeaa.K Go.Proofs.YtjhgknagmiekeaaW.PrintWords Go.Proofs.YtjhgknagmiekeaaW.PrintLast
open Go.Proofs.Ytjhgknagmiekeaa.V (kpF kpU)
def PlAt (w : World) (v : Value) (idx : List Nat) : Prop := SlI w v (ints idx)
theorem PlAt.below {w w' : World} {v : Value} {idx : List Nat} (h : PlAt w v idx) (hb : Below w.heap.size w w') : PlAt w' v idx := SlI.below h hb
def GoAt (w : World) (v : Value) (l : List S35) : Prop := ∃ A c, v = .slice A l.length c ∧ l.length ≤ c ∧ Kd.C k35 w A l.length l
theorem GoAt.below {w w' : World} {v : Value} {l : List S35} (h : GoAt w v l) (hb : Below w.heap.size w w') : GoAt w' v l := by
  obtain ⟨A, c, h1, h2, h3⟩ := h
  exact ⟨A, c, h1, h2, Kd.C_below h3 hb⟩
theorem theseC (w : World) (t : Rt) (h : Rok t) (v0 v1 v2 v3 v4 : Value) (hm : RtAt w t v0 v1 v2 v3 v4) (idx : List Nat) (hi : ∀ i ∈ idx, i < t.ks.length) (hl : idx.length < 100000000000) (g : Value) (hg : GoAt w g (atPl t idx)) (pv : Value) (hp : PlAt w pv idx) :
    Calls Try.prog 23 #[g, .agg #[v0, v1, v2, v3, v4], pv] w fun e w' => e = .returned (.bool true) ∧ Below w.heap.size w w' := by
  obtain ⟨k, hk⟩ := (these_ev t h idx hi hl).rounds
  obtain ⟨⟨A0, c0, rfl, p0, q0⟩, ⟨A1, c1, rfl, p1, q1⟩, ⟨A2, c2, rfl, p2, q2⟩, ⟨A3, c3, rfl, p3, q3⟩, ⟨A4, c4, rfl, p4, q4⟩⟩ := hm
  obtain ⟨A, c, rfl, h1, h2⟩ := hg
  obtain ⟨B, d, rfl, h3, h4⟩ := hp
  exact musterlaw04_these.calls k A c (atPl t idx) A0 c0 t.ks A1 c1 t.vs A2 c2 t.ls A3 c3 t.ps A4 c4 t.ms B d (ints idx) true w h2 h1 q0 p0 q1 p1 q2 p2 q3 p3 q4 p4 h4 h3 hk
theorem plc_len (xs : List ByteArray) (p : ByteArray → Bool) : (plc xs p).length ≤ xs.length := upto_le xs p xs.length
end Go.Proofs.Ytjhgknagmiekeaa.N
