/- joined: V6A N6 -/
import Derived.Test.YtjhgknagmiekeaaJA17
import Derived.Test.YtjhgknagmiekeaaJA16
import Derived.Test.YtjhgknagmiekeaaJA13
set_option linter.unusedVariables false
set_option linter.unusedSimpArgs false
namespace Go.Proofs.Ytjhgknagmiekeaa.VA
open Go.RowKit Go.Lib Go.Proofs Go.Proofs.Ytjhgknagmiekeaa.T Go.Proofs.Ytjhgknagmiekeaa.V
open Go.Proofs.YtjhgknagmiekeaaW.PrintWords hiding blk_cell
theorem seq (w : World) (n NN n₁ : Nat) (M : Nat → Prop) (wB : World) (hkB : Kept wB w) (hnB : wB.heap.size ≤ n₁) (hnw : n₁ ≤ w.heap.size) (hM : ∀ k, k < wB.heap.size → ¬ M k)
    (tb : Nat) (root : Nd) (ht : Tr wB tb root) (bt bs bk : Nat) (hc : Closed w bt bs bk tb) (hNN : (ovr (fun _ => false) (fun _ => true) ⟨#[]⟩ root).length ≤ NN) :
    SeqStopsK Fence.wide n Try.prog 117 #[ptr bt, ptr bs, ptr bk] (fun x : ByteArray × Int => #[.string x.1, .int .i64 x.2]) (KpM n₁ M) (fun ys => ys = ovr (fun _ => false) (fun _ => true) ⟨#[]⟩ root) (fun ys => ys <+: ovr (fun _ => false) (fun _ => true) ⟨#[]⟩ root) NN w := by
  intro l J Jx W hw hJ hJx hY hJ0
  have hk : Kept w W := Kept.of hw
  have hc2 : Closed W bt bs bk tb := ⟨hk.at hc.1, hk.at hc.2.1, hk.at hc.2.2⟩
  refine callsIn_wide.2 (walked_calls l n₁ NN M J Jx (abd_of hJ) (fun m pre x W1 h1 h2 => yieldDepth m (hY pre x W1 h1 h2)) W wB (hkB.trans hk (Nat.le_trans hnB hnw)) hnB hM (fun _ => false) (fun _ => true)
    (fun q W1 h1 => neverC q W1) (fun q W1 h1 => alwaysC q W1) tb root ht bt bs bk W hc2 (Stnd.refl W n₁ M) (Nat.le_trans hnw hw.size) hJ0 hNN)
end Go.Proofs.Ytjhgknagmiekeaa.VA
set_option linter.unusedVariables false
set_option linter.unusedSimpArgs false
namespace Go.Proofs.Ytjhgknagmiekeaa.N
open Go.RowKit Go.Proofs.Ytjhgknagmiekeaa.K Go.Proofs.YtjhgknagmiekeaaW.PrintWords Go.Proofs.YtjhgknagmiekeaaW.PrintLast
open Go.Proofs.Ytjhgknagmiekeaa.T (Nd Lf Ent ents entss All valT findT IntVals Ok Oks mem_all all_rise Fine Tr)
open Go.Proofs.Ytjhgknagmiekeaa.V (valI ovr ovrs ownE ovr_eq pre skU kpU skF kpF skL)
theorem ovr_of {root : Nd} {xs : List (ByteArray × Int)} (hg : T.Good root) (h : (All root).map ey = xs.map ex) (sk kp : List UInt8 → Bool) (hsk : ∀ q r, sk q = true → kp (q ++ r) = false) :
    ovr (fun q => sk (T.L q)) (fun q => kp (T.L q)) ⟨#[]⟩ root = xs.filter (fun x => kp (T.L x.1)) := by
  have e := ovr_all sk kp hsk root ⟨#[]⟩ [] (by
    have := hg.top
    have : T.L root.label = [] := List.eq_nil_of_length_eq_zero (by rw [T.L_len, this])
    rw [this]; rfl)
  rw [show ents [] root = All root from rfl, h, List.filter_map] at e
  refine (List.map_inj_right (fun x y => ex_inj)).1 (e.trans ?_)
  rfl
theorem pre_iff (a b : List UInt8) : pre a b = true ↔ b <+: a := by unfold pre; exact List.isPrefixOf_iff_prefix
theorem pre_false (a b : List UInt8) : pre a b = false ↔ ¬ b <+: a := by rw [← Bool.not_eq_true, pre_iff]
theorem hskA : ∀ q r : List UInt8, (fun _ => false : List UInt8 → Bool) q = true → (fun _ => true : List UInt8 → Bool) (q ++ r) = false := fun q r h => by cases h
theorem hskU (p : List UInt8) : ∀ q r, skU p q = true → kpU p (q ++ r) = false := fun q r h => by
  unfold skU at h
  unfold kpU
  rw [Bool.and_eq_true, Bool.not_eq_true', Bool.not_eq_true', pre_false, pre_false] at h
  rw [pre_false]
  intro h2
  rcases List.prefix_or_prefix_of_prefix h2 (List.prefix_append q r) with h3 | h3
  · exact h.1 h3
  · exact h.2 h3
theorem hskL (p : List UInt8) : ∀ q r, skL p q = true → pre p (q ++ r) = false := fun q r h => by
  unfold skL at h
  rw [Bool.not_eq_true', pre_false] at h
  rw [pre_false]
  exact fun h2 => h ((List.prefix_append q r).trans h2)
mutual
theorem ovr_L (p : List UInt8) : ∀ (n : Nd) (q : ByteArray), ovr (fun q => skL p (T.L q)) (fun _ => true) q n = ovr (fun q => skL p (T.L q)) (fun q => pre p (T.L q)) q n
  | .mk b label leaf kids mark, q => by
    rw [ovr, ovr]
    by_cases hs : skL p (T.L q) = true
    · rw [if_pos hs, if_pos hs]
    · rw [if_neg hs, if_neg hs, ovrs_L p kids q]
      congr 1
      have hp : pre p (T.L q) = true := by
        unfold skL at hs
        simpa using hs
      cases leaf with
      | none => rfl
      | some l => simp [ownE, hp]
theorem ovrs_L (p : List UInt8) : ∀ (ks : List Nd) (q : ByteArray), ovrs (fun q => skL p (T.L q)) (fun _ => true) q ks = ovrs (fun q => skL p (T.L q)) (fun q => pre p (T.L q)) q ks
  | [], q => by rw [ovrs, ovrs]
  | k :: r, q => by rw [ovrs, ovrs, ovr_L p k _, ovrs_L p r q]
end
def plc (xs : List ByteArray) (p : ByteArray → Bool) : List Nat := (List.range xs.length).filter (fun i => p (gd xs i))
theorem zip_eq_map (ks : List ByteArray) (vs : List Int) (h : vs.length = ks.length) : ks.zip vs = (List.range ks.length).map (fun i => (gd ks i, vs.getD i 0)) := by
  refine List.ext_getElem (by simp; omega) (fun i h1 h2 => ?_)
  rw [List.length_zip] at h1
  rw [List.getElem_zip, List.getElem_map, List.getElem_range, gd_get (by omega)]
  simp [List.getD_eq_getElem?_getD, show i < vs.length by omega]
theorem zip_filter (ks : List ByteArray) (vs : List Int) (h : vs.length = ks.length) (p : ByteArray → Bool) : (ks.zip vs).filter (fun x => p x.1) = (plc ks p).map (fun i => (gd ks i, vs.getD i 0)) := by
  rw [zip_eq_map ks vs h, List.filter_map]
  rfl
end Go.Proofs.Ytjhgknagmiekeaa.N
