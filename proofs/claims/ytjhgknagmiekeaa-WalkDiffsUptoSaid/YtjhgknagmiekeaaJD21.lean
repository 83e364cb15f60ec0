/- joined: D9 D10 V35 V11 -/
import Derived.Test.YtjhgknagmiekeaaJD19
import Derived.Test.YtjhgknagmiekeaaJD15
import Derived.Test.YtjhgknagmiekeaaJD20
import Derived.Test.YtjhgknagmiekeaaJD17
import Derived.Test.YtjhgknagmiekeaaJD12
import Derived.Test.YtjhgknagmiekeaaJD18
import Derived.Deep.RegionHeld3
import Derived.Maps.AppendAt
import Derived.Test.YtjhgknagmiekeaaJD2
import Derived.Test.YtjhgknagmiekeaaRows
import Derived.Test.YtjhgknagmiekeaaJD4
import Derived.Deep.Slices
import Derived.Deep.Fields
import Derived.ChangeSame
import Derived.SizedLaws
import Derived.ProofKit
set_option linter.unusedVariables false
set_option linter.unusedSimpArgs false
namespace Go.Proofs.Ytjhgknagmiekeaa.D
open Go.RowKit Go.Proofs.Ytjhgknagmiekeaa.K Go.Proofs.YtjhgknagmiekeaaW.PrintWords Go.Proofs.YtjhgknagmiekeaaW.PrintLast
open Go.Proofs.Ytjhgknagmiekeaa.N
open Go.Proofs.Ytjhgknagmiekeaa (T.L)
def mkC (x : ByteArray × Int) : S104 := ⟨x.1, x.2⟩
section
variable (ka : List ByteArray) (va la : List Int) (pa : List ByteArray) (ma : List Int) (kb : List ByteArray) (vb lb : List Int) (pb : List ByteArray) (mb : List Int)
theorem drop_zip {k : List ByteArray} {v : List Int} {i : Nat} (h : i < k.length) (hv : v.length = k.length) : ∃ x : ByteArray × Int, (k.zip v).drop i = x :: (k.zip v).drop (i + 1) ∧ gd k i = x.1 ∧ rd v (i : Int) = x.2 ∧ x.1 ∈ k := by
 have hz : i < (k.zip v).length := by rw [List.length_zip]; omega
 refine ⟨(k.zip v)[i], List.drop_eq_getElem_cons hz, ?_, ?_, ?_⟩
 ·rw [List.getElem_zip, gd_get h]
 ·rw [List.getElem_zip]
  simp [rd, List.getD_eq_getElem?_getD, h, hv]
 ·rw [List.getElem_zip]
  exact List.getElem_mem h
theorem diff_key (hva : va.length = ka.length) (hvb : vb.length = kb.length) (hla : ka.length < 1000000000000) (hlb : kb.length < 1000000000000) (hsa : ∀ x ∈ ka, x.size < 4611686018427387904) (hsb : ∀ x ∈ kb, x.size < 4611686018427387904) :
  ∀ d i j : Nat, ka.length - i + (kb.length - j) = d → i ≤ ka.length → j ≤ kb.length → ∀ acc : List S104, acc.length ≤ i + j →
   Ev (fun k => musterref04_Diff.l0 k acc (i : Int) (j : Int) ka va la pa ma kb vb lb pb mb) (acc ++ (mergeL ((ka.zip va).drop i) ((kb.zip vb).drop j)).map mkC) := by
 intro d
 induction d using Nat.strongRecOn with
 | _ d ih =>
  intro i j hd hi hj acc hacc
  have hzi : (ka.zip va).length = ka.length := by rw [List.length_zip]; omega
  have hzj : (kb.zip vb).length = kb.length := by rw [List.length_zip]; omega
  by_cases hia : i < ka.length
  ·obtain ⟨x, ex, gx, rx, mx⟩ := drop_zip (v := va) hia hva
   by_cases hjb : j < kb.length
   ·obtain ⟨y, ey, gy, ry, my⟩ := drop_zip (v := vb) hjb hvb
    have l1 := less_ev x.1 y.1 (hsa _ mx)
    have l2 := less_ev y.1 x.1 (hsb _ my)
    rw [less_dec] at l1 l2
    refine Ev.step (f := fun k => musterref04_Diff.j1 k acc (i : Int) (j : Int) true ka va la pa ma kb vb lb pb mb) (fun k => ?_) ?_
    ·simp only [musterref04_Diff.l0]
     rw [if_pos (by omega)]
    refine Ev.step (f := fun k => (musterref01_Less.f k x.1 y.1).bind fun t => musterref04_Diff.j2 k acc (i : Int) (j : Int) t ka va la pa ma kb vb lb pb mb) (fun k => ?_) (Ev.bind l1 ?_)
    ·simp only [musterref04_Diff.j1]
     rw [if_pos trivial, if_neg (by omega), if_pos (by omega), if_pos (by omega), if_pos (by omega), if_pos (by omega), rdOf_gd, rdOf_gd, gx, gy]
    rw [ex, ey, mergeL]
    by_cases h1 : T.L x.1 < T.L y.1
    ·rw [if_pos h1]
     simp only [decide_eq_true h1]
     have h9 := ih (ka.length - (i + 1) + (kb.length - j)) (by omega) (i + 1) j rfl (by omega) hj (acc ++ [(⟨x.1, 2⟩ : S104)]) (by rw [List.length_append, List.length_singleton]; omega)
     rw [ey, List.append_assoc] at h9
     refine Ev.step (fun k => ?_) h9
     simp only [musterref04_Diff.j2]
     rw [if_pos trivial, if_pos (by omega), if_pos (by omega), if_pos (by omega), wadd i (by omega), rdOf_gd, gx]
    ·rw [if_neg h1]
     simp only [decide_eq_false h1]
     refine Ev.step (f := fun k => (musterref01_Less.f k y.1 x.1).bind fun t => musterref04_Diff.j3 k acc (i : Int) (j : Int) t ka va la pa ma kb vb lb pb mb) (fun k => ?_) (Ev.bind l2 ?_)
     ·simp only [musterref04_Diff.j2]
      rw [if_neg (by simp), if_neg (by omega), if_pos (by omega), if_pos (by omega), if_pos (by omega), if_pos (by omega), rdOf_gd, rdOf_gd, gx, gy]
     by_cases h2 : T.L y.1 < T.L x.1
     ·rw [if_pos h2]
      simp only [decide_eq_true h2]
      have h9 := ih (ka.length - i + (kb.length - (j + 1))) (by omega) i (j + 1) rfl hi (by omega) (acc ++ [(⟨y.1, 1⟩ : S104)]) (by rw [List.length_append, List.length_singleton]; omega)
      rw [ex, List.append_assoc] at h9
      refine Ev.step (fun k => ?_) h9
      simp only [musterref04_Diff.j3]
      rw [if_pos trivial, if_pos (by omega), if_pos (by omega), if_pos (by omega), wadd j (by omega), rdOf_gd, gy]
     ·rw [if_neg h2]
      simp only [decide_eq_false h2]
      by_cases h3 : x.2 = y.2
      ·rw [if_pos h3, List.nil_append]
       have h9 := ih (ka.length - (i + 1) + (kb.length - (j + 1))) (by omega) (i + 1) (j + 1) rfl (by omega) (by omega) acc (by omega)
       refine Ev.step (fun k => ?_) h9
       simp only [musterref04_Diff.j3]
       rw [if_neg (by simp), if_pos (by omega), if_pos (by omega), if_pos (by omega), if_pos (by omega), rx, ry, if_pos h3, wadd i (by omega), wadd j (by omega)]
      ·rw [if_neg h3]
       have h9 := ih (ka.length - (i + 1) + (kb.length - (j + 1))) (by omega) (i + 1) (j + 1) rfl (by omega) (by omega) (acc ++ [(⟨x.1, 3⟩ : S104)]) (by rw [List.length_append, List.length_singleton]; omega)
       rw [List.append_assoc] at h9
       refine Ev.step (fun k => ?_) h9
       simp only [musterref04_Diff.j3]
       rw [if_neg (by simp), if_pos (by omega), if_pos (by omega), if_pos (by omega), if_pos (by omega), rx, ry, if_neg h3, if_pos (by omega), if_pos (by omega), wadd i (by omega), wadd j (by omega), rdOf_gd, gx]
   ·have hje : j = kb.length := by omega
    have ey : (kb.zip vb).drop j = [] := List.drop_eq_nil_of_le (by omega)
    refine Ev.step (f := fun k => musterref04_Diff.j1 k acc (i : Int) (j : Int) true ka va la pa ma kb vb lb pb mb) (fun k => ?_) ?_
    ·simp only [musterref04_Diff.l0]
     rw [if_pos (by omega)]
    refine Ev.step (f := fun k => musterref04_Diff.j2 k acc (i : Int) (j : Int) true ka va la pa ma kb vb lb pb mb) (fun k => ?_) ?_
    ·simp only [musterref04_Diff.j1]
     rw [if_pos trivial, if_pos (by omega)]
    have h9 := ih (ka.length - (i + 1) + (kb.length - j)) (by omega) (i + 1) j rfl (by omega) hj (acc ++ [(⟨x.1, 2⟩ : S104)]) (by rw [List.length_append, List.length_singleton]; omega)
    rw [ey, List.append_assoc] at h9
    have hm : (mergeL ((ka.zip va).drop i) ((kb.zip vb).drop j)).map mkC = [(⟨x.1, 2⟩ : S104)] ++ (mergeL ((ka.zip va).drop (i + 1)) []).map mkC := by
     rw [ex, ey, mergeL]
     cases h : (ka.zip va).drop (i + 1) with
     | nil => rw [mergeL]; rfl
     | cons z zs => rw [mergeL]; rfl
    rw [hm]
    refine Ev.step (fun k => ?_) h9
    simp only [musterref04_Diff.j2]
    rw [if_pos trivial, if_pos (by omega), if_pos (by omega), if_pos (by omega), wadd i (by omega), rdOf_gd, gx]
  ·have hie : i = ka.length := by omega
   have ex : (ka.zip va).drop i = [] := List.drop_eq_nil_of_le (by omega)
   by_cases hjb : j < kb.length
   ·obtain ⟨y, ey, gy, ry, my⟩ := drop_zip (v := vb) hjb hvb
    refine Ev.step (f := fun k => musterref04_Diff.j1 k acc (i : Int) (j : Int) true ka va la pa ma kb vb lb pb mb) (fun k => ?_) ?_
    ·simp only [musterref04_Diff.l0]
     rw [if_neg (by omega), decide_eq_true (by omega : (j : Int) < (kb.length : Int))]
    refine Ev.step (f := fun k => musterref04_Diff.j2 k acc (i : Int) (j : Int) false ka va la pa ma kb vb lb pb mb) (fun k => ?_) ?_
    ·simp only [musterref04_Diff.j1]
     rw [if_pos trivial, if_neg (by omega), if_neg (by omega)]
    refine Ev.step (f := fun k => musterref04_Diff.j3 k acc (i : Int) (j : Int) true ka va la pa ma kb vb lb pb mb) (fun k => ?_) ?_
    ·simp only [musterref04_Diff.j2]
     rw [if_neg (by simp), if_pos (by omega)]
    have h9 := ih (ka.length - i + (kb.length - (j + 1))) (by omega) i (j + 1) rfl hi (by omega) (acc ++ [(⟨y.1, 1⟩ : S104)]) (by rw [List.length_append, List.length_singleton]; omega)
    rw [ex, List.append_assoc] at h9
    have hm : (mergeL ((ka.zip va).drop i) ((kb.zip vb).drop j)).map mkC = [(⟨y.1, 1⟩ : S104)] ++ (mergeL [] ((kb.zip vb).drop (j + 1))).map mkC := by
     rw [ex, ey, mergeL, mergeL]; rfl
    rw [hm]
    refine Ev.step (fun k => ?_) h9
    simp only [musterref04_Diff.j3]
    rw [if_pos trivial, if_pos (by omega), if_pos (by omega), if_pos (by omega), wadd j (by omega), rdOf_gd, gy]
   ·have ey : (kb.zip vb).drop j = [] := List.drop_eq_nil_of_le (by omega)
    refine Ev.step (f := fun k => musterref04_Diff.j1 k acc (i : Int) (j : Int) false ka va la pa ma kb vb lb pb mb) (fun k => ?_) ?_
    ·simp only [musterref04_Diff.l0]
     rw [if_neg (by omega), decide_eq_false (by omega : ¬ (j : Int) < (kb.length : Int))]
    rw [ex, ey, mergeL]
    refine Ev.step (f := fun k => some acc) (fun k => ?_) (by simpa using Ev.now acc)
    simp only [musterref04_Diff.j1]
    rw [if_neg (by simp)]
end
theorem diff_ev (a b : Rt) (ha : Rok a) (hb : Rok b) (hla : a.ks.length < 1000000000000) (hlb : b.ks.length < 1000000000000) : Ev (fun k => musterref04_Diff.f k a.ks a.vs a.ls a.ps a.ms b.ks b.vs b.ls b.ps b.ms) ((mergeL (a.ks.zip a.vs) (b.ks.zip b.vs)).map mkC) :=
 diff_key a.ks a.vs a.ls a.ps a.ms b.ks b.vs b.ls b.ps b.ms ha.v hb.v hla hlb ha.sk hb.sk _ 0 0 rfl (Nat.zero_le _) (Nat.zero_le _) [] (Nat.zero_le _)
theorem same_ev (l : List (ByteArray × Int)) (hl : l.length < 4000000000000) : Ev (fun k => musterlaw04_sameChanges.f k (l.map mkC) (l.map mkC)) true := by
 have e1 : (l.map mkC).length = l.length := List.length_map _
 have key : ∀ d j : Nat, l.length - j = d → j ≤ l.length → Ev (fun k => musterlaw04_sameChanges.l0 k (l.map mkC) (l.map mkC) ((l.map mkC).length : Int) (j : Int)) true := by
  intro d
  induction d with
  | zero =>
   intro j hd hj
   refine Ev.step (f := fun k => some true) (fun k => ?_) (Ev.now _)
   simp only [musterlaw04_sameChanges.l0]
   rw [if_neg (by omega)]
  | succ d ih =>
   intro j hd hj
   refine Ev.step (fun k => ?_) (ih (j + 1) (by omega) (by omega))
   simp only [musterlaw04_sameChanges.l0]
   rw [if_pos (by omega), if_pos (by omega), if_pos (by omega), if_pos (by omega), wadd j (by omega)]
   simp
 have h := key l.length 0 (by omega) (by omega)
 unfold musterlaw04_sameChanges.f
 simpa using h
end Go.Proofs.Ytjhgknagmiekeaa.D
set_option linter.unusedVariables false
set_option linter.unusedSimpArgs false
namespace Go.Proofs.Ytjhgknagmiekeaa.N
open Go.RowKit Go.Lib Go.Proofs
open Go.Proofs.Ytjhgknagmiekeaa.K Go.Proofs.YtjhgknagmiekeaaW.PrintWords Go.Proofs.YtjhgknagmiekeaaW.PrintLast
theorem cell_eqH {w w2 : World} {a : Addr} (h : w2.heap[a.block]? = w.heap[a.block]?) : w2.cell? a = w.cell? a := by simp only [World.cell?, h]
theorem C_off {α : Type} {enc : α → Value} {h1 : ∀ x, (enc x).oneCell' = true} {w w2 : World} {A : Option Addr} {n : Nat} {xs : List α} (h : (Kd.scalar enc h1).C w A n xs) {b : Nat} (hb : ∀ a : Addr, a.block = b → ∀ x, w.cell? a ≠ some (enc x)) (hk : ∀ k, k ≠ b → k < w.heap.size → w2.heap[k]? = w.heap[k]?) : (Kd.scalar enc h1).C w2 A n xs := by
  refine ⟨h.1, h.2.1, fun hn => ?_⟩
  obtain ⟨ad, e, hc⟩ := h.2.2 hn
  refine ⟨ad, e, fun j p hp => ?_⟩
  obtain ⟨cc, h2, h3, h4⟩ := hc j p hp
  refine ⟨cc, h2, h3, fun i u hu => ?_⟩
  have h5 := h4 i u hu
  have h6 : cc = [enc p] := h3
  have h7 : u = enc p := by
    rw [h6] at hu
    cases i with
    | zero => exact (Option.some.inj hu).symm
    | succ i => cases hu
  have hlt : (ad.add (j * (Kd.scalar enc h1).sz + i)).block < w.heap.size := by
    refine Nat.lt_of_not_le (fun hle => ?_)
    have h8 : w.heap[(ad.add (j * (Kd.scalar enc h1).sz + i)).block]? = none := Array.getElem?_eq_none hle
    simp only [World.cell?, h8] at h5
    cases h5
  rw [cell_eqH (hk _ (fun eb => hb _ eb p (by rw [h5, h7])) hlt)]
  exact h5
theorem box_slices {w : World} {b : Nat} {v0 v1 v2 v3 v4 : Value} (hb : w.heap[b]? = some (.cells #[v0, v1, v2, v3, v4] 28 (0, 0))) {v : Value} (hv : ∀ u ∈ [v0, v1, v2, v3, v4], u ≠ v) (hp : ∀ u ∈ [v0, v1, v2, v3, v4], ∃ A n c, u = .slice A n c) (a : Addr) (ea : a.block = b) : w.cell? a ≠ some v := by
  intro h
  obtain ⟨blk, off, path⟩ := a
  dsimp only at ea
  subst ea
  simp only [World.cell?, hb] at h
  split at h
  · simp_all
  · have h2 := Array.mem_of_getElem? h
    exact hv v (by simpa using h2) rfl
theorem RtAt.offBox {w : World} {t : Rt} {v0 v1 v2 v3 v4 : Value} (h : RtAt w t v0 v1 v2 v3 v4) {b : Nat} {u0 u1 u2 u3 u4 : Value} (hb : w.heap[b]? = some (.cells #[u0, u1, u2, u3, u4] 28 (0, 0))) (hp : ∀ u ∈ [u0, u1, u2, u3, u4], ∃ A n c, u = .slice A n c) : RtOff (fun k => k = b) w t v0 v1 v2 v3 v4 := fun w2 hs hk => by
  have hS : ∀ {v : Value} {xs : List ByteArray}, SlS w v xs → SlS w2 v xs := fun {v xs} h => by
    obtain ⟨A, c, h1, h2, h3⟩ := h
    exact ⟨A, c, h1, h2, C_off h3 (b := b) (fun a ea x => box_slices hb (fun u hu e => by obtain ⟨A, n, c, e2⟩ := hp u hu; rw [e2] at e; cases e) hp a ea) (fun k h1 h2 => hk k h2 h1)⟩
  have hI : ∀ {v : Value} {xs : List Int}, SlI w v xs → SlI w2 v xs := fun {v xs} h => by
    obtain ⟨A, c, h1, h2, h3⟩ := h
    exact ⟨A, c, h1, h2, C_off h3 (b := b) (fun a ea x => box_slices hb (fun u hu e => by obtain ⟨A, n, c, e2⟩ := hp u hu; rw [e2] at e; cases e) hp a ea) (fun k h1 h2 => hk k h2 h1)⟩
  exact ⟨hS h.a0, hI h.a1, hI h.a2, hS h.a3, hI h.a4⟩
end Go.Proofs.Ytjhgknagmiekeaa.N
namespace Go.Proofs.Ytjhgknagmiekeaa.T
mutual
theorem ents_len : ∀ (n : Nd) (p : List UInt8) (B : Nat) (x : Ent), Fits n B → x ∈ ents p n → x.1.length ≤ p.length + B
  | .mk b label leaf kids mark, p, B, x, hf, hx => by
    obtain ⟨h1, h2⟩ := hf.parts
    have h1' : label.size ≤ B := h1
    have h2' : Fitss kids (B - label.size) := h2
    rw [ents, List.mem_append] at hx
    rcases hx with hx | hx
    · have e : x.1 = p ++ L label := by
        cases leaf with
        | none => cases hx
        | some l => rw [List.mem_singleton.1 hx]
      rw [e, List.length_append, L_len]; omega
    · have := entss_len kids (p ++ L label) (B - label.size) x h2' hx
      rw [List.length_append, L_len] at this
      omega
theorem entss_len : ∀ (ks : List Nd) (p : List UInt8) (B : Nat) (x : Ent), Fitss ks B → x ∈ entss p ks → x.1.length ≤ p.length + B
  | [], p, B, x, hf, hx => by rw [entss] at hx; cases hx
  | k :: r, p, B, x, hf, hx => by
    rw [entss, List.mem_append] at hx
    have h : Fits k B ∧ Fitss r B := by unfold Fitss at hf; exact hf
    rcases hx with hx | hx
    · exact ents_len k p B x h.1 hx
    · exact entss_len r p B x h.2 hx
end
theorem key_lenD {root : Nd} (h : Fine root) (r : List UInt8) (hr : valT root r ≠ none) : r.length < 4000000000000 := by
  unfold valT at hr
  cases e : findT root r with
  | none => rw [e] at hr; exact absurd rfl hr
  | some l =>
    have := (mem_all h.toGood r l).2 e
    have h2 := ents_len root [] 3999999999999 (r, l) h.fits this
    simp at h2
    omega
end Go.Proofs.Ytjhgknagmiekeaa.T
set_option linter.unusedVariables false
set_option linter.unusedSimpArgs false
namespace Go.Proofs.Ytjhgknagmiekeaa.V
open Go.Proofs.Ytjhgknagmiekeaa.VOU (below_drewA)
open Go.RowKit Go.Lib Go.Proofs Go.Shelf
open Go.Proofs.Ytjhgknagmiekeaa.T Go.Proofs.Ytjhgknagmiekeaa.N Go.Proofs.Ytjhgknagmiekeaa.K
open Go.Proofs.Ytjhgknagmiekeaa.D (diffC diff_merge diff_ev same_ev mergeL walkL)
open Go.Proofs.YtjhgknagmiekeaaW.PrintWords hiding blk_cell Kept
open Go.Proofs.YtjhgknagmiekeaaW.PrintLast hiding gd
def df7_T : Bool × List (List Nat × List Nat) := (true, [([], []), ([], []), ([], []), ([0, 0, 2], [0]), ([2, 1, 3, 0, 1, 2, 3], [1, 2])])
def df7_B : List Nat := [0, 0, 0, 5, 15]
theorem df7_bits : waitsOk df7_T.2 df7_B = true := by kernel_rfl
theorem df7_tab : rtab .any (opsOf Try.f18 7) = df7_T := by kernel_rfl
def df31_T : Bool × List (List Nat × List Nat) := (true, [([], []), ([], []), ([], []), ([1, 2], [1, 2]), ([0, 3, 3], [0, 3]), ([4, 4], [4]), ([5], [5]), ([5], [5]), ([6, 7, 5, 5], [5, 6, 7]), ([5], [5]), ([5], [5]), ([9, 10, 8, 5], [5, 9, 10]), ([8, 11, 11, 5], [5, 8, 11]), ([5, 12], [5, 12]), ([13, 12], [13]), ([14], [14]), ([14], [14]), ([15, 16, 14, 14], [14, 15, 16]), ([14], [14]), ([14], [14]), ([18, 19, 17, 14], [14, 18, 19]), ([17, 20, 20, 14], [14, 17, 20]), ([14, 21], [14, 21]), ([22, 21, 0, 1, 2, 3, 4, 5, 6, 7, 8, 9, 10, 11, 12, 13, 14, 15, 16, 17, 18, 19, 20, 21, 22], [22])])
def df31_B : List Nat := [0, 0, 0, 6, 15, 31, 63, 63, 255, 63, 63, 2047, 4095, 8191, 16383, 32767, 32767, 131071, 32767, 32767, 1048575, 2097151, 4194303, 8388607]
theorem df31_bits : waitsOk df31_T.2 df31_B = true := by kernel_rfl
theorem df31_tab : rtab .any (opsOf Try.f18 31) = df31_T := by kernel_rfl
attribute [local go_sem] Oper.semAt_some
theorem vals_int {root : Nd} (hv : IntVals root) : ∀ q v, valT root q = some v → ∃ x, v = .int .i64 x := fun q v h => by
 unfold valT at h
 obtain ⟨l, hl, e⟩ := Option.map_eq_some_iff.1 h
 obtain ⟨x, ex⟩ := hv _ _ hl
 exact ⟨x, by rw [← e, ex]⟩
theorem blk_five {W : World} {b : Nat} {v0 v1 v2 v3 v4 : Value} (h : W.heap[b]? = some (.cells #[v0, v1, v2, v3, v4] 28 (0, 0))) : W.cell? ⟨b, 0, none⟩ = some v0 ∧ W.cell? ⟨b, 1, none⟩ = some v1 ∧ W.cell? ⟨b, 2, none⟩ = some v2 ∧ W.cell? ⟨b, 3, none⟩ = some v3 ∧ W.cell? ⟨b, 4, none⟩ = some v4 :=
 ⟨by rw [blk_cell h]; rfl, by rw [blk_cell h]; rfl, by rw [blk_cell h]; rfl, by rw [blk_cell h]; rfl, by rw [blk_cell h]; rfl⟩
structure Made (W : World) (tb : Nat) (root : Nd) (t : Rt) (v0 v1 v2 v3 v4 : Value) (n : Nat) : Prop where
 tr : Tr W tb root
 ok : RokP t
 ag : Agree root t
 at_ : RtAt W t v0 v1 v2 v3 v4
 few : t.ks.length ≤ n
theorem Made.below {W W' : World} {tb : Nat} {root : Nd} {t : Rt} {v0 v1 v2 v3 v4 : Value} {n : Nat} (h : Made W tb root t v0 v1 v2 v3 v4 n) (hb : Below W.heap.size W W') : Made W' tb root t v0 v1 v2 v3 v4 n := ⟨h.tr.keep (Kept.of hb), h.ok, h.ag, h.at_.below hb, h.few⟩
theorem rowh_set : ∀ (l : List (ByteArray × Int)) (j : Nat) (a : ByteArray) (b : Int), ((D.rowh l).set (j * 2) (.string a)).set (j * 2 + 1) (.int .i64 b) = D.rowh (l.set j (a, b))
 | [], j, a, b => rfl
 | x :: l, 0, a, b => rfl
 | x :: l, j + 1, a, b => by
  have ih := rowh_set l j a b
  have e : D.rowh (x :: l) = .string x.1 :: .int .i64 x.2 :: D.rowh l := rfl
  rw [e, show (j + 1) * 2 = j * 2 + 1 + 1 from by omega, List.set_cons_succ, List.set_cons_succ, List.set_cons_succ, List.set_cons_succ, ih]
  rfl
theorem own_someD {w : World} {B : Nat} {e : TypeId} {size : Nat} {A : Option Addr} {n c : Nat} {xs : List Value} (h : w.ownsRow B e size (.slice A n c) n xs) (hn : 0 < n) : ∃ g, A = some ⟨g, 0, none⟩ := by
 rcases h.2 with ⟨_, h2⟩ | ⟨g, cap, cur, h1, _⟩
 ·omega
 ·injection h1 with h1; exact ⟨g, h1⟩
abbrev zipT (t : Rt) : List (ByteArray × Int) := t.ks.zip t.vs
theorem walk_zip {root : Nd} {t : Rt} (hg : T.Good root) (h : Agree root t) : walkL root = zipT t := by
 have e := ovr_eqs hg h (fun _ => false) (fun _ => true) (fun _ _ h => by cases h)
 exact e.trans (List.filter_eq_self.2 (fun _ _ => rfl))
theorem merge_self : ∀ z : List (ByteArray × Int), mergeL z z = []
 | [] => by rw [mergeL]; rfl
 | x :: z => by rw [mergeL, if_neg (T.blt_irrefl _), if_neg (T.blt_irrefl _), if_pos rfl, List.nil_append]; exact merge_self z
theorem diffM {W : World} {ta tb : Nat} {ra rb : Nd} {ma mb : Rt} {v0 v1 v2 v3 v4 u0 u1 u2 u3 u4 : Value} {na nb : Nat} (Ha : Made W ta ra ma v0 v1 v2 v3 v4 na) (Hb : Made W tb rb mb u0 u1 u2 u3 u4 nb) (hn : na + nb < 1000000000000) :
  Calls Try.prog 67 #[.pointer (some ⟨ta, 0, none⟩), .pointer (some ⟨tb, 0, none⟩)] W fun e w' => ∃ A c, e = .returned (.slice A (mergeL (zipT ma) (zipT mb)).length c) ∧ w'.ownsRow W.heap.size 104 2 (.slice A (mergeL (zipT ma) (zipT mb)).length c) (mergeL (zipT ma) (zipT mb)).length (D.rowh (mergeL (zipT ma) (zipT mb))) ∧ (mergeL (zipT ma) (zipT mb)).length ≤ na + nb ∧ Below W.heap.size W w' := by
 have hla : (All ra).length = ma.ks.length := all_len Ha.ag Ha.ok.v
 have hlb : (All rb).length = mb.ks.length := all_len Hb.ag Hb.ok.v
 refine (diffC ta tb ra rb W Ha.tr Hb.tr (fun r hr => ?_) (by have := Ha.few; have := Hb.few; omega)).mono ?_
 ·rcases hr with h | h
  ·exact key_lenD Ha.tr.fine r h
  ·exact key_lenD Hb.tr.fine r h
 ·rintro e w' ⟨v, rfl, ⟨ds, hp, hs, hr⟩, hb⟩
  have e := diff_merge Ha.tr.fine.toGood Ha.tr.vals Hb.tr.fine.toGood Hb.tr.vals hp hs
  rw [walk_zip Ha.tr.fine.toGood Ha.ag, walk_zip Hb.tr.fine.toGood Hb.ag] at e
  have hlen : ds.length ≤ na + nb := by
   have h1 := hp.length_eq
   have h2 := D.chA_len rb (D.walkL ra)
   have h3 := D.chB_len ra (D.walkL rb)
   have h4 : (D.walkL ra).length = (All ra).length := ovr_len Ha.tr.fine.toGood
   have h5 : (D.walkL rb).length = (All rb).length := ovr_len Hb.tr.fine.toGood
   have h6 : (D.diffL ra rb).length = (D.chA rb (D.walkL ra)).length + (D.chB ra (D.walkL rb)).length := List.length_append
   have := Ha.few
   have := Hb.few
   omega
  subst e
  have hf : ∃ A c, v = .slice A (mergeL (zipT ma) (zipT mb)).length c := by
   rcases hr.2 with ⟨rfl, h2⟩ | ⟨g, cap, cur, rfl, _⟩
   ·exact ⟨none, 0, by rw [h2]⟩
   ·exact ⟨_, _, rfl⟩
  obtain ⟨A, c, rfl⟩ := hf
  exact ⟨A, c, rfl, hr, hlen, hb⟩
theorem own_C {W : World} {B : Nat} {A : Option Addr} {n c : Nat} {l : List (ByteArray × Int)} (h : W.ownsRow B 104 2 (.slice A n c) n (D.rowh l)) (hl : l.length = n) : Kd.C k104 W A n (l.map D.mkC) ∧ n ≤ c := by
 rcases id h.2 with ⟨h1, h2⟩ | ⟨g, cap, cur, h1, hb, hg, hnc, hcm, _⟩
 ·injection h1 with h3 h4 h5
  subst h3 h4 h5
  exact ⟨⟨by rw [List.length_map, hl], by omega, fun h => absurd h (Nat.lt_irrefl 0)⟩, Nat.le_refl _⟩
 ·injection h1 with h3 h4 h5
  subst h3 h5
  have hm : maxLen ≤ 9223372036854775807 := by decide
  refine ⟨⟨by rw [List.length_map, hl], by omega, fun hn => ⟨_, rfl, fun j q hq => ?_⟩⟩, hnc⟩
  have hj : j < l.length := by have := (List.getElem?_eq_some_iff.1 hq).1; rwa [List.length_map] at this
  have hq2 : q = D.mkC l[j] := by
   rw [List.getElem?_map, List.getElem?_eq_getElem hj] at hq
   exact (Option.some.inj hq).symm
  obtain ⟨g0, g1⟩ := D.rowh_get l j hj
  refine ⟨[.string l[j].1, .int .i64 l[j].2], rfl, by rw [hq2]; exact k104_mk W (D.mkC l[j]), fun i u hu => ?_⟩
  have hadd : ((⟨g, 0, none⟩ : Addr).add (j * 2 + i)) = ⟨g, j * 2 + i, none⟩ := by rw [Addr.add_lit, Nat.zero_add]
  show W.cell? ((⟨g, 0, none⟩ : Addr).add (j * 2 + i)) = some u
  rw [hadd]
  match i, hu with
  | 0, hu => cases hu; rw [h.cellAt (j * 2 + 0) (by omega)]; exact g0
  | 1, hu => cases hu; rw [h.cellAt (j * 2 + 1) (by omega)]; exact g1
  | i + 2, hu => cases hu
theorem refC {W : World} {ta tb : Nat} {ra rb : Nd} {ma mb : Rt} {v0 v1 v2 v3 v4 u0 u1 u2 u3 u4 : Value} {na nb : Nat} (Ha : Made W ta ra ma v0 v1 v2 v3 v4 na) (Hb : Made W tb rb mb u0 u1 u2 u3 u4 nb) (hn : na + nb < 1000000000000) :
  Calls Try.prog 69 #[.agg #[v0, v1, v2, v3, v4], .agg #[u0, u1, u2, u3, u4]] W fun e w' => ∃ A c, e = .returned (.slice A (mergeL (zipT ma) (zipT mb)).length c) ∧ (mergeL (zipT ma) (zipT mb)).length ≤ c ∧ Kd.C k104 w' A (mergeL (zipT ma) (zipT mb)).length ((mergeL (zipT ma) (zipT mb)).map D.mkC) ∧ Below W.heap.size W w' := by
 obtain ⟨K, hK⟩ := (diff_ev ma mb Ha.ok.toRok Hb.ok.toRok (by have := Ha.few; omega) (by have := Hb.few; omega)).rounds
 obtain ⟨⟨A0, c0, rfl, p0, q0⟩, ⟨A1, c1, rfl, p1, q1⟩, ⟨A2, c2, rfl, p2, q2⟩, ⟨A3, c3, rfl, p3, q3⟩, ⟨A4, c4, rfl, p4, q4⟩⟩ := Ha.at_
 obtain ⟨⟨B0, d0, rfl, r0, s0⟩, ⟨B1, d1, rfl, r1, s1⟩, ⟨B2, d2, rfl, r2, s2⟩, ⟨B3, d3, rfl, r3, s3⟩, ⟨B4, d4, rfl, r4, s4⟩⟩ := Hb.at_
 refine (musterref04_Diff.calls K A0 c0 _ A1 c1 _ A2 c2 _ A3 c3 _ A4 c4 _ B0 d0 _ B1 d1 _ B2 d2 _ B3 d3 _ B4 d4 _ _ W q0 p0 q1 p1 q2 p2 q3 p3 q4 p4 s0 r0 s1 r1 s2 r2 s3 r3 s4 r4 hK).mono ?_
 rintro e w' ⟨v, rfl, hr, hb⟩
 obtain ⟨A, c, rfl, h1, h2⟩ := Kd.R_reads hr
 rw [List.length_map] at h1 h2
 exact ⟨A, c, by rw [List.length_map], h1, h2, hb⟩
theorem sameC {W : World} {A A' : Option Addr} {n c c' : Nat} {l : List (ByteArray × Int)} (hl : l.length = n) (hn : n < 4000000000000) (h1 : Kd.C k104 W A n (l.map D.mkC)) (hc : n ≤ c) (h2 : Kd.C k104 W A' n (l.map D.mkC)) (hc' : n ≤ c') :
  Calls Try.prog 68 #[.slice A n c, .slice A' n c'] W fun e w' => e = .returned (.bool true) ∧ Below W.heap.size W w' := by
 obtain ⟨K, hK⟩ := (same_ev l (by omega)).rounds
 have e : (l.map D.mkC).length = n := by rw [List.length_map, hl]
 have q := musterlaw04_sameChanges.calls K A c (l.map D.mkC) A' c' (l.map D.mkC) true W (by rw [e]; exact h1) (by rw [e]; exact hc) (by rw [e]; exact h2) (by rw [e]; exact hc') hK
 rw [e] at q
 exact q.mono (fun e w' h => ⟨h.1, h.2.below⟩)
set_option maxRecDepth 100000 in
set_option maxHeartbeats 8000000 in
theorem diffsLaw (A A' : Option Addr) (c c' : Nat) (l l' : List S35) (p : ByteArray) (w : World) (hl : EntAt w A l) (hc : l.length ≤ c) (hlen : l.length < 10000000000) (hs : ∀ e ∈ l, e.f0.size < 4000000000000) (hl' : EntAt w A' l') (hc' : l'.length ≤ c') (hlen' : l'.length < 10000000000) (hs' : ∀ e ∈ l', e.f0.size < 4000000000000) :
  Calls Try.prog 18 #[.slice A l.length c, .slice A' l'.length c', .string p] w fun e w' => e = .returned (.bool true) ∧ Below w.heap.size w w' := by
 have qa := Aside0.mk (aliveP w)
 have qb := Aside0.mk (fun w1 (h : Below w.heap.size w w1) => builtP A c l w1 (Kd.C_below hl h) hc hlen hs)
 have qc := Aside0.mk (fun w1 (h : Below w.heap.size w w1) => builtP A' c' l' w1 (Kd.C_below hl' h) hc' hlen' hs')
 have HN := Aside0.mk (And.intro hlen hlen')
 have HL := Aside0.mk (And.intro hl' hs')
 clear hl hc hs hlen hl' hc' hs' hlen'
 unfold ptr at qb qc
 go_enter Try.func18, Try.ntmps18
 go_wp2_with (go_at_call 20; refine qa.out.mono ?_; rintro e w0 ⟨rfl, hb0⟩; have HB0 := Aside0.mk hb0; clear hb0)
 go_at_call 21
 refine (qb.out _ HB0.out).mono ?_
 rintro e w1 ⟨ta, ra, m, v0, v1, v2, v3, v4, rfl, ht, hk, ha, hr, hl, hv, hb⟩
 obtain ⟨⟨A0, n0, c0, rfl⟩, ⟨A1, n1, c1, rfl⟩, ⟨A2, n2, c2, rfl⟩, ⟨A3, n3, c3, rfl⟩, ⟨A4, n4, c4, rfl⟩⟩ := hr.forms
 have HB1 := Aside0.mk (belowAt HB0.out hb)
 have H1 := Aside0.mk (show Made w1 ta ra m _ _ _ _ _ l.length from ⟨ht, hk, ha, hr, hl⟩)
 clear ht hk ha hr hl hv hb qa qb
 obtain ⟨b8, e8⟩ : ∃ b8, w1.heap.size = b8 := ⟨_, rfl⟩
 have hM1 := World.alloc_heap_new w1 (Obj.cells #[.slice A0 n0 c0, .slice A1 n1 c1, .slice A2 n2 c2, .slice A3 n3 c3, .slice A4 n4 c4] 28)
 have hB1 : Below w1.heap.size w1 (w1.alloc (Obj.cells #[.slice A0 n0 c0, .slice A1 n1 c1, .slice A2 n2 c2, .slice A3 n3 c3, .slice A4 n4 c4] 28)) := (Below.refl _ w1).alloc (Nat.le_refl _) _
 have HB2 := Aside0.mk (belowAt HB1.out hB1)
 have HM1 := Aside0.mk (And.intro hM1 hB1)
 clear hM1 hB1
 (try unfold ptr)
 go_wp2_with fail
 go_at_call 21
 refine (qc.out _ HB2.out).mono ?_
 rintro e w2 ⟨tc, rc, k, v0, v1, v2, v3, v4, rfl, ht, hk, ha, hr, hl, hv, hb⟩
 obtain ⟨⟨B0, o0, d0, rfl⟩, ⟨B1, o1, d1, rfl⟩, ⟨B2, o2, d2, rfl⟩, ⟨B3, o3, d3, rfl⟩, ⟨B4, o4, d4, rfl⟩⟩ := hr.forms
 have HB3 := Aside0.mk (belowAt HB2.out hb)
 have H2 := Aside0.mk (show Made w2 tc rc k _ _ _ _ _ l'.length from ⟨ht, hk, ha, hr, hl⟩)
 have hMa := (hb.block _ (Array.getElem?_eq_some_iff.1 HM1.out.1).1).trans HM1.out.1
 have H1' := Aside0.mk ((H1.out.below HM1.out.2).below hb)
 have HMa := Aside0.mk hMa
 clear ht hk ha hr hl hv hb qc hMa
 (try unfold ptr)
 go_wp2_with fail
 obtain ⟨b10, e10⟩ : ∃ b10, w2.heap.size = b10 := ⟨_, rfl⟩
 obtain ⟨w3, e3⟩ : ∃ w3, w2.alloc (Obj.cells #[.slice B0 o0 d0, .slice B1 o1 d1, .slice B2 o2 d2, .slice B3 o3 d3, .slice B4 o4 d4] 28) = w3 := ⟨_, rfl⟩
 have hb3 : Below w2.heap.size w2 w3 := by rw [← e3]; exact (Below.refl _ w2).alloc (Nat.le_refl _) _
 have hM3 : w3.heap[b10]? = some (.cells #[.slice B0 o0 d0, .slice B1 o1 d1, .slice B2 o2 d2, .slice B3 o3 d3, .slice B4 o4 d4] 28 (0, 0)) := by rw [← e3, ← e10]; exact World.alloc_heap_new w2 _
 have hMa3 := (hb3.block _ (Array.getElem?_eq_some_iff.1 HMa.out).1).trans HMa.out
 have HB3' := Aside0.mk (belowAt HB3.out hb3)
 have HX := Aside0.mk (And.intro (H1'.out.below hb3) (And.intro (H2.out.below hb3) (And.intro (show w3.heap[b8]? = some (.cells #[.slice A0 n0 c0, .slice A1 n1 c1, .slice A2 n2 c2, .slice A3 n3 c3, .slice A4 n4 c4] 28 (0, 0)) by rw [← e8]; exact hMa3) hM3)))
 (try rw [e3])
 (try rw [e10])
 (try rw [e8])
 have a0 : w3.cell? ⟨b8, 0, none⟩ = some (.slice A0 n0 c0) := by rw [blk_cell HX.out.2.2.1]; rfl
 have a1 : w3.cell? ⟨b8, 1, none⟩ = some (.slice A1 n1 c1) := by rw [blk_cell HX.out.2.2.1]; rfl
 have a2 : w3.cell? ⟨b8, 2, none⟩ = some (.slice A2 n2 c2) := by rw [blk_cell HX.out.2.2.1]; rfl
 have a3 : w3.cell? ⟨b8, 3, none⟩ = some (.slice A3 n3 c3) := by rw [blk_cell HX.out.2.2.1]; rfl
 have a4 : w3.cell? ⟨b8, 4, none⟩ = some (.slice A4 n4 c4) := by rw [blk_cell HX.out.2.2.1]; rfl
 clear e3 e10 e8 hb3 hM3 hMa3 HB3 HB2 HM1 H1 H1' H2 HMa HB0 HB1
 go_wp2_with fail
 refine start_ (n := 5) (S := (fun Z => Z.cell? ⟨b8, 0, none⟩ = some (.slice A0 n0 c0) ∧ Z.cell? ⟨b8, 1, none⟩ = some (.slice A1 n1 c1) ∧ Z.cell? ⟨b8, 2, none⟩ = some (.slice A2 n2 c2) ∧ Z.cell? ⟨b8, 3, none⟩ = some (.slice A3 n3 c3) ∧ Z.cell? ⟨b8, 4, none⟩ = some (.slice A4 n4 c4))) (ds := [4]) #[false, false, false, false, false] (by kernel_rfl) rfl rfl ⟨a0, a1, a2, a3, a4⟩ (fun hHeld => ?_); refine with_tabW df7_tab df7_bits (fun HT_ HW_ => ?_)
 refine pure_ (i := 0) (N := some 43) (v := ?_) (a' := ?_) #[true, false, false, false, false] rfl rfl (any_of HT_.out (by kernel_rfl)) (fun _ _ _ h => h) (Or.inl ⟨by rfl, ?_⟩) ?_ ?_
 rotate_left
 ·intro w'
  go_simp
  with_reducible rfl
 rotate_left
 ·simp only [Act.put, List.setIfInBounds_toArray, List.set_cons_zero, List.set_cons_succ, i64_w, i32_w]
  rfl
 refine take_ (i := 1) (N := some 44) (v := ?_) (a' := ?_) #[true, true, false, false, false] rfl rfl (take_ofW HT_.out HW_.out (by kernel_rfl)) (fun _ _ _ h => h) (Or.inl ⟨by rfl, ?_⟩) hHeld ?_ ?_
 rotate_left
 ·rintro w' ⟨s0, s1, s2, s3, s4⟩
  go_simp
  with_reducible rfl
 rotate_left
 ·simp only [Act.put, List.setIfInBounds_toArray, List.set_cons_zero, List.set_cons_succ, i64_w, i32_w]
  rfl
 refine one_ (i := 2) (N := some 12) #[true, true, true, false, false] rfl rfl (one_of HT_.out (by kernel_rfl)) (by decide) (fun K hK => ?_)
 refine value_ (w1 := w3.drew.alloc (Obj.cells #[.slice none 0 0, .slice none 0 0, .slice none 0 0, .slice none 0 0, .slice none 0 0] 28)) (v := .pointer (some ⟨w3.heap.size, 0, none⟩)) (by rfl) rfl (by go_simp) ?_
 obtain ⟨b12, e12⟩ : ∃ b12, w3.heap.size = b12 := ⟨_, rfl⟩
 obtain ⟨w4, e4⟩ : ∃ w4, w3.drew.alloc (Obj.cells #[.slice none 0 0, .slice none 0 0, .slice none 0 0, .slice none 0 0, .slice none 0 0] 28) = w4 := ⟨_, rfl⟩
 have HB4 := Aside0.mk (show Below w3.heap.size w3 w4 from by rw [← e4]; exact (below_drewA (Below.refl _ _)).alloc (Nat.le_refl _) _)
 have hz : w4.heap[b12]? = some (.cells #[.slice none 0 0, .slice none 0 0, .slice none 0 0, .slice none 0 0, .slice none 0 0] 28 (0, 0)) := by rw [← e4, ← e12]; exact World.alloc_heap_new w3.drew _
 have hy := (HB4.out.block _ (Array.getElem?_eq_some_iff.1 HX.out.2.2.1).1).trans HX.out.2.2.1
 have HZ := Aside0.mk (And.intro hz e12)
 rw [e4, e12]
 have y0 : w4.cell? ⟨b8, 0, none⟩ = some (.slice A0 n0 c0) := by rw [blk_cell hy]; rfl
 have y1 : w4.cell? ⟨b8, 1, none⟩ = some (.slice A1 n1 c1) := by rw [blk_cell hy]; rfl
 have y2 : w4.cell? ⟨b8, 2, none⟩ = some (.slice A2 n2 c2) := by rw [blk_cell hy]; rfl
 have y3 : w4.cell? ⟨b8, 3, none⟩ = some (.slice A3 n3 c3) := by rw [blk_cell hy]; rfl
 have y4 : w4.cell? ⟨b8, 4, none⟩ = some (.slice A4 n4 c4) := by rw [blk_cell hy]; rfl
 have z0 : w4.cell? ⟨b12, 0, none⟩ = some (.slice none 0 0) := by rw [blk_cell hz]; rfl
 have z1 : w4.cell? ⟨b12, 1, none⟩ = some (.slice none 0 0) := by rw [blk_cell hz]; rfl
 have z2 : w4.cell? ⟨b12, 2, none⟩ = some (.slice none 0 0) := by rw [blk_cell hz]; rfl
 have z3 : w4.cell? ⟨b12, 3, none⟩ = some (.slice none 0 0) := by rw [blk_cell hz]; rfl
 have z4 : w4.cell? ⟨b12, 4, none⟩ = some (.slice none 0 0) := by rw [blk_cell hz]; rfl
 have f0 : w4.frozen? ⟨b12, 0, none⟩ = false := by simp [World.frozen?, hz]
 have f1 : w4.frozen? ⟨b12, 1, none⟩ = false := by simp [World.frozen?, hz]
 have f2 : w4.frozen? ⟨b12, 2, none⟩ = false := by simp [World.frozen?, hz]
 have f3 : w4.frozen? ⟨b12, 3, none⟩ = false := by simp [World.frozen?, hz]
 have f4 : w4.frozen? ⟨b12, 4, none⟩ = false := by simp [World.frozen?, hz]
 clear hz hy e12 e4
 clear hHeld
 refine hK.out _ _ ⟨y0, y1, y2, y3, y4⟩ (fun hHeld => ?_)
 clear hK K
 refine norm_ (a' := ?_) ?_ ?_
 rotate_left
 ·show Act.put _ (some 12) _ = _
  simp only [Act.put, List.setIfInBounds_toArray, List.set_cons_zero, List.set_cons_succ, i64_w, i32_w]
  rfl
 refine pure_ (i := 3) (N := some 11) (v := ?_) (a' := ?_) #[true, true, true, true, false] rfl rfl (any_of HT_.out (by kernel_rfl)) (fun _ _ _ h => h) (Or.inl ⟨by rfl, ?_⟩) ?_ ?_
 rotate_left
 ·intro w'
  go_simp
  with_reducible rfl
 rotate_left
 ·simp only [Act.put, List.setIfInBounds_toArray, List.set_cons_zero, List.set_cons_succ, i64_w, i32_w]
  rfl
 refine last_ (i := 4) (N := none) #[true, true, true, true, true] rfl rfl (one_of HT_.out (by kernel_rfl)) (by decide) (fun K hK => ?_)
 refine skip_ (w1 := ?_) (by rfl) rfl ?_ ?_
 rotate_left
 ·go_simp
  rfl
 refine hK.out _ _ ?_
 clear hK K
 refine done_ (done_of HT_.out (by kernel_rfl)) ?_
 obtain ⟨w5, e5⟩ : ∃ w5, set5 w4 b12 (.slice A0 n0 c0) (.slice A1 n1 c1) (.slice A2 n2 c2) (.slice A3 n3 c3) (.slice A4 n4 c4) = w5 := ⟨_, rfl⟩
 have e6 : ((((w4.setCell ⟨b12, 0, none⟩ (.slice A0 n0 c0)).setCell ⟨b12, 1, none⟩ (.slice A1 n1 c1)).setCell ⟨b12, 2, none⟩ (.slice A2 n2 c2)).setCell ⟨b12, 3, none⟩ (.slice A3 n3 c3)).setCell ⟨b12, 4, none⟩ (.slice A4 n4 c4) = w5 := e5
 rw [e6]
 have hz5 := set5_at HZ.out.1 (.slice A0 n0 c0) (.slice A1 n1 c1) (.slice A2 n2 c2) (.slice A3 n3 c3) (.slice A4 n4 c4)
 have hb5 := set5_below HB4.out (Nat.le_of_eq HZ.out.2) (.slice A0 n0 c0) (.slice A1 n1 c1) (.slice A2 n2 c2) (.slice A3 n3 c3) (.slice A4 n4 c4)
 rw [e5] at hz5 hb5
 have H5 := Aside0.mk (And.intro hz5 hb5)
 have HE12 := Aside0.mk HZ.out.2
 clear HT_ HW_ hHeld e5 e6 hz5 hb5 HZ HB4 y0 z0 f0 y1 z1 f1 y2 z2 f2 y3 z3 f3 y4 z4 f4
 (try clear a0 a1 a2 a3 a4)
 go_wp2_with fail
 go_loopg [11, 47] (l'.length + 1) (fun kq x11 x47 w' => ∃ (i tb : Nat) (root : Nd) (t : Rt) (E0 E1 E2 E3 E4 : Option Addr) (g0 g1 g2 g3 g4 h0 h1 h2 h3 h4 : Nat), x11 = .pointer (some ⟨tb, 0, none⟩) ∧ x47 = .int .i64 (i : Int) ∧ Aside0 (i + kq = l'.length + 1 ∧ i ≤ l'.length) ∧ Aside0 (Tr w' tb root ∧ RokP t ∧ Agree root t ∧ (All root).length ≤ l.length + i ∧ t.ks.length ≤ l.length + i) ∧ Aside0 (∀ W, w'.heap.size ≤ W.heap.size → (∀ k, k ≠ b12 → k < w'.heap.size → W.heap[k]? = w'.heap[k]?) → RtAt W t (.slice E0 g0 h0) (.slice E1 g1 h1) (.slice E2 g2 h2) (.slice E3 g3 h3) (.slice E4 g4 h4)) ∧ Aside0 (w'.heap[b12]? = some (.cells #[.slice E0 g0 h0, .slice E1 g1 h1, .slice E2 g2 h2, .slice E3 g3 h3, .slice E4 g4 h4] 28 (0, 0))) ∧ Aside0 (Below w3.heap.size w3 w'))
 case atStart =>
  refine ⟨0, ta, ra, m, A0, A1, A2, A3, A4, n0, n1, n2, n3, n4, c0, c1, c2, c3, c4, rfl, rfl, ⟨by omega⟩, ⟨HX.out.1.tr.keep (Kept.of H5.out.2), HX.out.1.ok, HX.out.1.ag, ?_, ?_⟩, ⟨fun W hs hW => ?_⟩, ⟨H5.out.1⟩, ⟨H5.out.2⟩⟩
  ·rw [all_len HX.out.1.ag HX.out.1.ok.v]; have := HX.out.1.few; omega
  ·have := HX.out.1.few; omega
  ·refine HX.out.1.at_.off W (Nat.le_trans H5.out.2.size hs) (fun k h1 _ => (hW k ?_ ?_).trans (H5.out.2.block k h1))
   ·have := HE12.out; omega
   ·have := H5.out.2.size; omega
 case round =>
  clear H5
  obtain ⟨i, tb, root, t, E0, E1, E2, E3, E4, g0, g1, g2, g3, g4, h0, h1, h2, h3, h4, rfl, rfl, HI, HT, HR, HM, HB⟩ := hrel
  by_cases hi : i < l'.length
  ·obtain ⟨ad, rfl, q1, q2⟩ := at_T35 (Kd.C_below HL.out.1 (belowAt HB3'.out HB.out)) (i : Int) (by omega) (by omega)
   obtain ⟨x, hx⟩ : ∃ x, rd_T35 l' (i : Int) = x := ⟨_, rfl⟩
   rw [hx, Int.toNat_natCast] at q1 q2
   have hmem : x ∈ l' := by
    have e : rd_T35 l' (i : Int) = l'[i] := by simp [rd_T35, List.getD_eq_getElem?_getD, hi]
    rw [← hx, e]
    exact List.getElem_mem _
   have HXS := Aside0.mk (HL.out.2 x hmem)
   clear hx hmem
   have q3 := Aside0.mk (fun W1 (h : Below wr.heap.size wr W1) => insC W1 tb root (HT.out.1.keep (Kept.of h)) x.f0 x.f1 HXS.out (by have := HT.out.2.2.2.1; have := HN.out; omega))
   obtain ⟨o, eo⟩ : ∃ o, valT root (L x.f0) = o := ⟨_, rfl⟩
   rw [eo] at q3
   have HF := Aside0.mk (show ∀ tb' : Nat, ∃ a b, wasV tb' o = .tuple #[ptr tb', a, .bool b] from fun tb' => by cases o <;> exact ⟨_, _, rfl⟩)
   clear eo
   have HBa := Aside0.mk (fun cs : Array Value => ((Below.refl wr.heap.size wr).alloc (Nat.le_refl _) (.cells cs 35)))
   have HE := Aside0.mk (fun cs : Array Value => World.alloc_heap_new wr (.cells cs 35))
   unfold ptr at q3
   go_wp2_with fail
   go_at_call 43
   refine (q3.out _ (HBa.out _)).mono ?_
   rintro e w6 ⟨tb2, root2, rfl, ht, hv, hl, hb⟩
   rw [World.size_alloc] at hb
   obtain ⟨a, b, eab⟩ := HF.out tb2
   rw [eab]
   have hb6 : Below wr.heap.size wr w6 := (HBa.out _).trans (hb.mono (by omega))
   have hm6 := (hb6.block _ (Array.getElem?_eq_some_iff.1 HM.out).1).trans HM.out
   have he6 := (hb.block wr.heap.size (by omega)).trans (HE.out #[.string x.f0, .int .i64 x.f1])
   have m0 : w6.cell? ⟨b12, 0, none⟩ = some (.slice E0 g0 h0) := by rw [blk_cell hm6]; rfl
   have m1 : w6.cell? ⟨b12, 1, none⟩ = some (.slice E1 g1 h1) := by rw [blk_cell hm6]; rfl
   have m2 : w6.cell? ⟨b12, 2, none⟩ = some (.slice E2 g2 h2) := by rw [blk_cell hm6]; rfl
   have m3 : w6.cell? ⟨b12, 3, none⟩ = some (.slice E3 g3 h3) := by rw [blk_cell hm6]; rfl
   have m4 : w6.cell? ⟨b12, 4, none⟩ = some (.slice E4 g4 h4) := by rw [blk_cell hm6]; rfl
   have ee0 : w6.cell? ⟨wr.heap.size, 0, none⟩ = some (.string x.f0) := by rw [blk_cell he6]; rfl
   have ee1 : w6.cell? ⟨wr.heap.size, 1, none⟩ = some (.int .i64 x.f1) := by rw [blk_cell he6]; rfl
   have H6 := Aside0.mk (And.intro ht (And.intro hv (And.intro hl (And.intro hb6 (And.intro hm6 he6)))))
   have q4 := Aside0.mk (insRtH w6 t HT.out.2.1 _ _ _ _ _ ((HR.out wr (Nat.le_refl _) (fun _ _ _ => rfl)).below hb6) x.f0 x.f1 0 (by have := HXS.out; omega) (by have := HT.out.2.2.2.2; have := HN.out; omega))
   clear ht hv hl hb hb6 hm6 he6 q3 eab HF q1 q2
   unfold ptr
   go_wp2_with fail
   go_at_call 66
   refine q4.out.mono ?_
   rintro e w7 ⟨t', old, b', nx', u0, u1, u2, u3, u4, rfl, hr, hk, hi', hl', hb⟩
   obtain ⟨⟨F0, x0, y0, rfl⟩, ⟨F1, x1, y1, rfl⟩, ⟨F2, x2, y2, rfl⟩, ⟨F3, x3, y3, rfl⟩, ⟨F4, x4, y4, rfl⟩⟩ := (hr w7 (fun _ _ _ => rfl)).forms
   have hm7 := (hb.block _ (Array.getElem?_eq_some_iff.1 H6.out.2.2.2.2.1).1).trans H6.out.2.2.2.2.1
   have H7 := Aside0.mk (And.intro hr (And.intro hk (And.intro hi' (And.intro hl' (And.intro hb hm7)))))
   clear hr hk hi' hl' q4 m0 m1 m2 m3 m4 ee0 ee1
   have m0 : w7.cell? ⟨b12, 0, none⟩ = some (.slice E0 g0 h0) := by rw [blk_cell hm7]; rfl
   have m1 : w7.cell? ⟨b12, 1, none⟩ = some (.slice E1 g1 h1) := by rw [blk_cell hm7]; rfl
   have m2 : w7.cell? ⟨b12, 2, none⟩ = some (.slice E2 g2 h2) := by rw [blk_cell hm7]; rfl
   have m3 : w7.cell? ⟨b12, 3, none⟩ = some (.slice E3 g3 h3) := by rw [blk_cell hm7]; rfl
   have m4 : w7.cell? ⟨b12, 4, none⟩ = some (.slice E4 g4 h4) := by rw [blk_cell hm7]; rfl
   have f0 : w7.frozen? ⟨b12, 0, none⟩ = false := by simp [World.frozen?, hm7]
   have f1 : w7.frozen? ⟨b12, 1, none⟩ = false := by simp [World.frozen?, hm7]
   have f2 : w7.frozen? ⟨b12, 2, none⟩ = false := by simp [World.frozen?, hm7]
   have f3 : w7.frozen? ⟨b12, 3, none⟩ = false := by simp [World.frozen?, hm7]
   have f4 : w7.frozen? ⟨b12, 4, none⟩ = false := by simp [World.frozen?, hm7]
   clear hm7 hb
   go_wp2_with fail
   go_roundg (l'.length - i)
   case measure => have := HI.out; omega
   case rel =>
    have hfar : Far b12 w7 (set5 w7 b12 (.slice F0 x0 y0) (.slice F1 x1 y1) (.slice F2 x2 y2) (.slice F3 x3 y3) (.slice F4 x4 y4)) :=
     ⟨⟨_, _, _, _, _, H7.out.2.2.2.2.2, by simp⟩, fun k hk _ => set5_far _ _ _ _ _ _ _ k hk⟩
    have hb7 : Below w3.heap.size w3 w7 := belowAt (belowAt HB.out H6.out.2.2.2.1) H7.out.2.2.2.2.1
    have hz : wr.heap.size ≤ w6.heap.size := H6.out.2.2.2.1.size
    refine ⟨i + 1, tb2, root2, t', F0, F1, F2, F3, F4, x0, x1, x2, x3, x4, y0, y1, y2, y3, y4, rfl, ?_, ⟨by have := HI.out; omega⟩, ⟨far_tr hfar (H6.out.1.keep (Kept.of H7.out.2.2.2.2.1)), H7.out.2.1, ?_, ?_, ?_⟩, ⟨fun W hs hW => H7.out.1 W (fun k hk hk2 => (hW k ?_ (Nat.lt_of_lt_of_le hk2 (set5_le w7 b12 _ _ _ _ _))).trans (set5_far _ _ _ _ _ _ _ k ?_))⟩, ⟨set5_at H7.out.2.2.2.2.2 _ _ _ _ _⟩, ⟨set5_below hb7 (Nat.le_of_eq HE12.out) _ _ _ _ _⟩⟩
    ·rw [wadd i (by have := HN.out; omega)]
    ·exact (H7.out.2.2.1.rt HT.out.2.1.toRok H7.out.2.1.toRok) root root2 HT.out.1.fine HT.out.1.vals H6.out.1.fine H6.out.1.vals HT.out.2.2.1 H6.out.2.1
    ·have := H6.out.2.2.1; have := HT.out.2.2.2.1; omega
    ·have := H7.out.2.2.2.1; have := HT.out.2.2.2.2; omega
    ·have := (Array.getElem?_eq_some_iff.1 HM.out).1; omega
    ·have := (Array.getElem?_eq_some_iff.1 HM.out).1; omega
  ·have hie : ¬ (i : Int) < (l'.length : Int) := by omega
   have hil : i = l'.length := by have := HI.out; omega
   have hall : (All root).length = t.ks.length := all_len HT.out.2.2.1 HT.out.2.1.v
   have qt := Aside0.mk (trimC tb root p wr HT.out.1 (by have := HT.out.2.2.2.1; have := HN.out; omega))
   have qr := Aside0.mk (fun W (h : Below wr.heap.size wr W) => trimRtC (valT root) (vals_int HT.out.1.vals) W t HT.out.2.1 (agreeF_of HT.out.1.fine.toGood HT.out.1.vals HT.out.2.2.1) _ _ _ _ _ ((HR.out wr (Nat.le_refl _) (fun _ _ _ => rfl)).below h) p 0 (by have := HT.out.2.2.2.2; have := HN.out; omega))
   unfold ptr at qt
   clear hall
   go_wp2_with fail
   go_at_call 55
   refine qt.out.mono ?_
   rintro e w6 ⟨ub, ur, rfl, t2, val2, l2, -, B2⟩
   have hm6 := (B2.block _ (Array.getElem?_eq_some_iff.1 HM.out).1).trans HM.out
   have m0 : w6.cell? ⟨b12, 0, none⟩ = some (.slice E0 g0 h0) := by rw [blk_cell hm6]; rfl
   have m1 : w6.cell? ⟨b12, 1, none⟩ = some (.slice E1 g1 h1) := by rw [blk_cell hm6]; rfl
   have m2 : w6.cell? ⟨b12, 2, none⟩ = some (.slice E2 g2 h2) := by rw [blk_cell hm6]; rfl
   have m3 : w6.cell? ⟨b12, 3, none⟩ = some (.slice E3 g3 h3) := by rw [blk_cell hm6]; rfl
   have m4 : w6.cell? ⟨b12, 4, none⟩ = some (.slice E4 g4 h4) := by rw [blk_cell hm6]; rfl
   have HB6 := Aside0.mk B2
   have H6 := Aside0.mk (And.intro t2 (And.intro val2 (And.intro l2 hm6)))
   clear t2 val2 l2 B2 hm6 qt
   go_wp2_with fail
   go_at_call 56
   refine (qr.out _ HB6.out).mono ?_
   rintro e w7 ⟨t', nx', u0, u1, u2, u3, u4, rfl, r3, k3, f3, l3, B3⟩
   obtain ⟨⟨F0, x0, y0, rfl⟩, ⟨F1, x1, y1, rfl⟩, ⟨F2, x2, y2, rfl⟩, ⟨F3, x3, y3, rfl⟩, ⟨F4, x4, y4, rfl⟩⟩ := r3.forms
   have hm7 := (B3.block _ (Array.getElem?_eq_some_iff.1 H6.out.2.2.2).1).trans H6.out.2.2.2
   have t3 := H6.out.1.keep (Kept.of B3)
   have hag : Agree ur t' := agree_of t3.fine.toGood t3.vals k3.toRok (f3.imp H6.out.2.1)
   have hfew : t'.ks.length ≤ l.length + l'.length := by have := HT.out.2.2.2.2; omega
   clear m0 m1 m2 m3 m4 qr
   have m0 : w7.cell? ⟨b12, 0, none⟩ = some (.slice E0 g0 h0) := by rw [blk_cell hm7]; rfl
   have m1 : w7.cell? ⟨b12, 1, none⟩ = some (.slice E1 g1 h1) := by rw [blk_cell hm7]; rfl
   have m2 : w7.cell? ⟨b12, 2, none⟩ = some (.slice E2 g2 h2) := by rw [blk_cell hm7]; rfl
   have m3 : w7.cell? ⟨b12, 3, none⟩ = some (.slice E3 g3 h3) := by rw [blk_cell hm7]; rfl
   have m4 : w7.cell? ⟨b12, 4, none⟩ = some (.slice E4 g4 h4) := by rw [blk_cell hm7]; rfl
   have fz0 : w7.frozen? ⟨b12, 0, none⟩ = false := by simp [World.frozen?, hm7]
   have fz1 : w7.frozen? ⟨b12, 1, none⟩ = false := by simp [World.frozen?, hm7]
   have fz2 : w7.frozen? ⟨b12, 2, none⟩ = false := by simp [World.frozen?, hm7]
   have fz3 : w7.frozen? ⟨b12, 3, none⟩ = false := by simp [World.frozen?, hm7]
   have fz4 : w7.frozen? ⟨b12, 4, none⟩ = false := by simp [World.frozen?, hm7]
   obtain ⟨w8, e8'⟩ : ∃ w8, set5 w7 b12 (.slice F0 x0 y0) (.slice F1 x1 y1) (.slice F2 x2 y2) (.slice F3 x3 y3) (.slice F4 x4 y4) = w8 := ⟨_, rfl⟩
   have hfar : Far b12 w7 w8 := by rw [← e8']; exact ⟨⟨_, _, _, _, _, hm7, by simp⟩, fun k hk _ => set5_far _ _ _ _ _ _ _ k hk⟩
   have hz8 : w8.heap[b12]? = some (.cells #[.slice F0 x0 y0, .slice F1 x1 y1, .slice F2 x2 y2, .slice F3 x3 y3, .slice F4 x4 y4] 28 (0, 0)) := by rw [← e8']; exact set5_at hm7 _ _ _ _ _
   have hs8 : w7.heap.size ≤ w8.heap.size := by rw [← e8']; exact set5_le _ _ _ _ _ _ _
   have hb7 : Below w3.heap.size w3 w7 := belowAt (belowAt HB.out HB6.out) B3
   have hb8 : Below w3.heap.size w3 w8 := by rw [← e8']; exact set5_below hb7 (Nat.le_of_eq HE12.out) _ _ _ _ _
   have hmade : Made w8 ub ur t' (.slice F0 x0 y0) (.slice F1 x1 y1) (.slice F2 x2 y2) (.slice F3 x3 y3) (.slice F4 x4 y4) (l.length + l'.length) := ⟨far_tr hfar t3, k3, hag, r3.offBox hm7 (by simp) w8 hs8 (fun k h1 h2 => hfar.same k h2 h1), hfew⟩
   have H8 := Aside0.mk (And.intro hmade (And.intro hz8 hb8))
   clear hfar hz8 hs8 hb7 hb8 hmade hm7 t3 hag hfew r3 k3 f3 l3 B3 HM HR HB HT HI H6 HB6
   have e9' : ((((w7.setCell ⟨b12, 0, none⟩ (.slice F0 x0 y0)).setCell ⟨b12, 1, none⟩ (.slice F1 x1 y1)).setCell ⟨b12, 2, none⟩ (.slice F2 x2 y2)).setCell ⟨b12, 3, none⟩ (.slice F3 x3 y3)).setCell ⟨b12, 4, none⟩ (.slice F4 x4 y4) = w8 := e8'
   have HE8 := Aside0.mk e9'
   clear e8' e9'
   go_wp2_with fail
   rw [HE8.out]
   clear m0 m1 m2 m3 m4 fz0 fz1 fz2 fz3 fz4 HE8
   have HA8 := Aside0.mk (HX.out.1.below H8.out.2.2)
   have HC8 := Aside0.mk (HX.out.2.1.below H8.out.2.2)
   refine (diffM HA8.out HA8.out (by have := HN.out; omega)).mono ?_
   rintro e w9 ⟨Az, cz, rfl, hrz, hlz, hb9⟩
   rw [merge_self] at hrz
   have hz0 : (mergeL (zipT m) (zipT m)).length = 0 := by rw [merge_self]; rfl
   rw [hz0]
   have HB9 := Aside0.mk hb9
   clear hrz hlz hz0 hb9
   go_wp2_with fail
   go_at_call 67
   refine (diffM (HA8.out.below HB9.out) (H8.out.1.below HB9.out) (by have := HN.out; omega)).mono ?_
   rintro e w10 ⟨Ad, cd, rfl, hrd, hld, hb10⟩
   have HD := Aside0.mk (And.intro hrd (And.intro hld hb10))
   have HB10 := Aside0.mk (belowAt HB9.out hb10)
   clear hrd hld hb10
   go_wp2_with fail
   go_at_call 67
   refine (diffM (HA8.out.below HB10.out) (H8.out.1.below HB10.out) (by have := HN.out; omega)).mono ?_
   rintro e w11 ⟨Ag, cg, rfl, hrg, hlg, hb11⟩
   have HGR := Aside0.mk (And.intro hrg hb11)
   obtain ⟨dl, edl⟩ : ∃ dl, mergeL (zipT m) (zipT t') = dl := ⟨_, rfl⟩
   rw [edl] at HD HGR hlg
   rw [edl]
   have HDL := Aside0.mk (And.intro edl hlg)
   clear hrg hlg hb11 edl
   go_wp2_with fail
   have HW0 : Aside0 (Below w9.heap.size w9 w11) := ⟨HD.out.2.2.trans (HGR.out.2.mono HD.out.2.2.size)⟩
   have HY0 : Aside0 (w11.ownsRow w9.heap.size 104 2 (.slice Ad dl.length cd) dl.length (D.rowh dl)) := ⟨D.row_below HD.out.1 HGR.out.2⟩
   go_loopg [105] (dl.length + 1) (fun kq v105 W => ∃ (j : Nat) (ys : List (ByteArray × Int)), v105 = .int .i64 (j : Int) ∧ Aside0 (j + kq = dl.length + 1 ∧ j ≤ dl.length) ∧ Aside0 (ys.length = dl.length ∧ W.ownsRow w9.heap.size 104 2 (.slice Ad dl.length cd) dl.length (D.rowh ys)) ∧ Aside0 (Below w9.heap.size w9 W ∧ W.ownsRow w10.heap.size 104 2 (.slice Ag dl.length cg) dl.length (D.rowh dl)))
   case atStart => exact ⟨0, dl, rfl, ⟨by omega, by omega⟩, ⟨rfl, HY0.out⟩, ⟨HW0.out, HGR.out.1⟩⟩
   case round =>
    clear HW0 HY0
    obtain ⟨j, ys, rfl, HJ, HY, HW⟩ := hrel
    have HWJ := Aside0.mk (show wrap64 ((j : Int) + 1) = ((j + 1 : Nat) : Int) from by have := HJ.out; have := HDL.out.2; have := HN.out; unfold wrap64; omega)
    by_cases hj : j < dl.length
    ·have hjl : (j : Int) < (dl.length : Int) := by omega
     obtain ⟨g, eg⟩ := own_someD HD.out.1 (by omega)
     subst eg
     have hgl : g < w10.heap.size := by
      obtain ⟨cs, hc⟩ := own_typed HD.out.1 g rfl
      exact (Array.getElem?_eq_some_iff.1 hc).1
     have hgb : w9.heap.size ≤ g := own_base HD.out.1 g rfl
     obtain ⟨p0, p1⟩ := D.rowh_get ys j (by have := HY.out.1; omega)
     obtain ⟨yx, eyx⟩ : ∃ yx, ys[j]'(by have := HY.out.1; omega) = yx := ⟨_, rfl⟩
     rw [eyx] at p0 p1
     have k0 : wr.cell? ⟨g, j * 2, none⟩ = some (.string yx.1) := by rw [HY.out.2.cellAt (j * 2) (by omega)]; exact p0
     have k1 : wr.cell? ⟨g, j * 2 + 1, none⟩ = some (.int .i64 yx.2) := by rw [HY.out.2.cellAt (j * 2 + 1) (by omega)]; exact p1
     have z0 := HY.out.2.frozenAt (j * 2)
     have z1 := HY.out.2.frozenAt (j * 2 + 1)
     have HG := Aside0.mk (And.intro hgl hgb)
     clear p0 p1 eyx hgl hgb
     go_wp2_with fail
     go_roundg (dl.length - j)
     case measure => have := HJ.out; omega
     case rel =>
      refine ⟨j + 1, ys.set j (⟨#[109, 97, 114, 107]⟩, 9), by (first | rw [HWJ.out] | rfl | (simp; done)), ⟨by have := HJ.out; omega, by omega⟩, ⟨by rw [List.length_set]; exact HY.out.1, ?_⟩, ⟨?_, ?_⟩⟩
      ·rw [← rowh_set]
       exact ((HY.out.2.stored (j * 2) _).1.stored (j * 2 + 1) _).1
      ·exact (HW.out.1.setCell (p := ⟨g, j * 2, none⟩) HG.out.2 _).setCell (p := ⟨g, j * 2 + 1, none⟩) HG.out.2 _
      ·exact ownsRow_setCell_below (a := ⟨g, j * 2 + 1, none⟩) (ownsRow_setCell_below (a := ⟨g, j * 2, none⟩) HW.out.2 HG.out.1 _) HG.out.1 _
    ·have hje : ¬ (j : Int) < (dl.length : Int) := by omega
     go_wp2_with fail
     have HDJ : Aside0 (∀ k, (Value.slice Ad dl.length cd).ownBlock = some k → (Value.slice Ag dl.length cg).ownBlock ≠ some k) := ⟨fun k hk hk2 => by
      obtain ⟨cs, hc⟩ := own_typed HD.out.1 k hk
      have h1 := (Array.getElem?_eq_some_iff.1 hc).1
      have h2 := own_base HGR.out.1 k hk2
      omega⟩
     obtain ⟨i0, hi0, hz0, hz1, hz2⟩ := info_parts D.info83
     have HII := Aside0.mk (And.intro hi0 (And.intro hz0 (And.intro hz1 hz2)))
     clear hi0 hz0 hz1 hz2
     go_loopg [15, 18] 10 (fun kq v15 v18 W => ∃ (j nd cd' : Nat) (Ad' : Option Addr) (ys : List (ByteArray × Int)), v15 = .slice Ad' nd cd' ∧ v18 = .int .i64 (j : Int) ∧ Aside0 (j + kq = 10 ∧ j ≤ 9) ∧ Aside0 (nd = dl.length + j ∧ W.ownsRow w9.heap.size 104 2 (.slice Ad' nd cd') nd (D.rowh ys) ∧ ∀ k, (Value.slice Ad' nd cd').ownBlock = some k → (Value.slice Ag dl.length cg).ownBlock ≠ some k) ∧ Aside0 (Below w9.heap.size w9 W ∧ W.ownsRow w10.heap.size 104 2 (.slice Ag dl.length cg) dl.length (D.rowh dl)))
     case atStart => exact ⟨0, dl.length, cd, Ad, ys, rfl, rfl, ⟨by omega, by omega⟩, ⟨by omega, HY.out.2, HDJ.out⟩, HW⟩
     case round =>
      clear HY HW HDJ HJ HWJ
      obtain ⟨j, nd, cd', Ad', ys, rfl, rfl, HJ, HY, HW⟩ := hrel
      have HWJ := Aside0.mk (show wrap64 ((j : Int) + 1) = ((j + 1 : Nat) : Int) from by have := HJ.out; unfold wrap64; omega)
      by_cases hj : j < 9
      ·have hjl : (j : Int) < 9 := by omega
       obtain ⟨hi0, hz0, hz1, hz2⟩ := HII.out
       have hml : 4000000000001 ≤ maxLen := by decide
       have hnd : nd < 100000000000 := by have := HY.out.1; have := HDL.out.2; have := HN.out; omega
       have hbs : w9.heap.size ≤ wr.heap.size := HW.out.1.size
       go_wp2_with (at_builtin; refine wpList_append_own_at _ rfl _ _ 101 rfl w9.heap.size 104 i0 (.agg #[.string ⟨#[]⟩, .int .i64 0]) 2 24 Try.underlying101 hi0 hz0 hz1 hz2 rfl (by decide) _ _ _ rfl (HY.out.2.1.alloc _) ⟨wr.heap.size, 0, none⟩ 1 1 [.string ⟨#[]⟩, .int .i64 (j : Int)] rfl rfl (cell_two_new _ _ _ _) (by simp [Value.oneCell']) (by omega) (by omega) (by simp; omega) ?_; intro v' w1' hown' hgrow _ hblk; obtain ⟨g', cap', rfl⟩ := ownsRow_succ hown'; refine Hid.out ?_)
       refine Lib.hid ?_
       have hlt : ∀ k, (Value.slice Ag dl.length cg).ownBlock = some k → k < wr.heap.size := fun k hk => by
        obtain ⟨cs, hc⟩ := own_typed HW.out.2 k hk
        exact (Array.getElem?_eq_some_iff.1 hc).1
       have HB' : Aside0 (Below w9.heap.size w9 w1' ∧ w1'.ownsRow w10.heap.size 104 2 (.slice Ag dl.length cg) dl.length (D.rowh dl)) := by
        refine ⟨?_, ?_⟩
        ·refine HW.out.1.trans (((Below.refl _ wr).alloc hbs _).trans (below_grown hgrow (by rw [World.size_alloc]; omega) (fun k hk => own_base HY.out.2.1 k hk)))
        ·refine own_move HW.out.2 (fun k hk => ?_)
         exact (hgrow.block k (by rw [World.size_alloc]; have := hlt k hk; omega) (fun e9 => HY.out.2.2 k e9.symm hk)).trans (Below.heap_alloc _ _ _ (hlt k hk))
       have HY' : Aside0 (nd + 1 = dl.length + (j + 1) ∧ w1'.ownsRow w9.heap.size 104 2 (.slice (some ⟨g', 0, none⟩) (nd + 1) cap') (nd + 1) (D.rowh (ys ++ [(⟨#[]⟩, (j : Int))])) ∧ ∀ k, (Value.slice (some ⟨g', 0, none⟩) (nd + 1) cap').ownBlock = some k → (Value.slice Ag dl.length cg).ownBlock ≠ some k) := by
        refine ⟨by have := HY.out.1; omega, by rw [D.rowh_snoc]; exact hown', fun k hk hk2 => ?_⟩
        rcases hblk with h | h
        ·rw [h] at hk; exact HY.out.2.2 k hk hk2
        ·rw [h] at hk
         have h2 := hlt k hk2
         rw [World.size_alloc] at hk
         have h3 := Option.some.inj hk
         omega
       clear hown' hgrow hblk hlt hi0 hz0 hz1 hz2
       go_wp2_with fail
       go_roundg (9 - j)
       case measure => have := HJ.out; omega
       case rel => exact ⟨j + 1, nd + 1, cap', _, _, rfl, by (first | rw [HWJ.out] | rfl | (simp; done)), ⟨by have := HJ.out; omega, by omega⟩, HY', HB'⟩
      ·have hje2 : ¬ (j : Int) < 9 := by omega
       clear HII
       go_wp2_with fail
       have HCG0 := own_C HW.out.2 rfl
       have HXd : Aside0 (Below w8.heap.size w8 wr.drew) := ⟨below_drewA (belowAt HB9.out HW.out.1)⟩
       have HCG := Aside0.mk (And.intro (Kd.C_below HCG0.1 (below_drewA (Below.refl _ _))) HCG0.2)
       have HALL := Aside0.mk (fun (W : World) (h : Below w8.heap.size w8 W) => And.intro (blk_five (W := W) (b := b8) ((h.block _ (Array.getElem?_eq_some_iff.1 ((H8.out.2.2.block _ (Array.getElem?_eq_some_iff.1 HX.out.2.2.1).1).trans HX.out.2.2.1)).1).trans ((H8.out.2.2.block _ (Array.getElem?_eq_some_iff.1 HX.out.2.2.1).1).trans HX.out.2.2.1))) (And.intro (blk_five (W := W) (b := b12) ((h.block _ (Array.getElem?_eq_some_iff.1 H8.out.2.1).1).trans H8.out.2.1)) (blk_five (W := W) (b := b10) ((h.block _ (Array.getElem?_eq_some_iff.1 ((H8.out.2.2.block _ (Array.getElem?_eq_some_iff.1 HX.out.2.2.2).1).trans HX.out.2.2.2)).1).trans ((H8.out.2.2.block _ (Array.getElem?_eq_some_iff.1 HX.out.2.2.2).1).trans HX.out.2.2.2)))))
       clear HCG0 HY HJ
       refine start_ (n := 24) (S := (fun Z => (Z.cell? ⟨b8, 0, none⟩ = some (.slice A0 n0 c0) ∧ Z.cell? ⟨b8, 1, none⟩ = some (.slice A1 n1 c1) ∧ Z.cell? ⟨b8, 2, none⟩ = some (.slice A2 n2 c2) ∧ Z.cell? ⟨b8, 3, none⟩ = some (.slice A3 n3 c3) ∧ Z.cell? ⟨b8, 4, none⟩ = some (.slice A4 n4 c4)) ∧ (Z.cell? ⟨b12, 0, none⟩ = some (.slice F0 x0 y0) ∧ Z.cell? ⟨b12, 1, none⟩ = some (.slice F1 x1 y1) ∧ Z.cell? ⟨b12, 2, none⟩ = some (.slice F2 x2 y2) ∧ Z.cell? ⟨b12, 3, none⟩ = some (.slice F3 x3 y3) ∧ Z.cell? ⟨b12, 4, none⟩ = some (.slice F4 x4 y4)) ∧ (Z.cell? ⟨b10, 0, none⟩ = some (.slice B0 o0 d0) ∧ Z.cell? ⟨b10, 1, none⟩ = some (.slice B1 o1 d1) ∧ Z.cell? ⟨b10, 2, none⟩ = some (.slice B2 o2 d2) ∧ Z.cell? ⟨b10, 3, none⟩ = some (.slice B3 o3 d3) ∧ Z.cell? ⟨b10, 4, none⟩ = some (.slice B4 o4 d4)))) (ds := []) #[false, false, false, false, false, false, false, false, false, false, false, false, false, false, false, false, false, false, false, false, false, false, false, false] (by kernel_rfl) rfl rfl (HALL.out _ HXd.out) (fun hHeld => ?_); refine with_tabW df31_tab df31_bits (fun HT_ HW_ => ?_)
       refine pure_ (i := 0) (N := some 122) (v := ?_) (a' := ?_) #[true, false, false, false, false, false, false, false, false, false, false, false, false, false, false, false, false, false, false, false, false, false, false, false] rfl rfl (any_of HT_.out (by kernel_rfl)) (fun _ _ _ h => h) (Or.inl ⟨by rfl, ?_⟩) ?_ ?_
       rotate_left
       ·intro w'
        go_simp
        with_reducible rfl
       rotate_left
       ·simp only [Act.put, List.setIfInBounds_toArray, List.set_cons_zero, List.set_cons_succ, i64_w, i32_w]
        rfl
       refine take_ (i := 1) (N := some 123) (v := ?_) (a' := ?_) #[true, true, false, false, false, false, false, false, false, false, false, false, false, false, false, false, false, false, false, false, false, false, false, false] rfl rfl (take_ofW HT_.out HW_.out (by kernel_rfl)) (fun _ _ _ h => h) (Or.inl ⟨by rfl, ?_⟩) hHeld ?_ ?_
       rotate_left
       ·rintro w' ⟨⟨s00, s01, s02, s03, s04⟩, ⟨s10, s11, s12, s13, s14⟩, ⟨s20, s21, s22, s23, s24⟩⟩
        go_simp
        with_reducible rfl
       rotate_left
       ·simp only [Act.put, List.setIfInBounds_toArray, List.set_cons_zero, List.set_cons_succ, i64_w, i32_w]
        rfl
       refine take_ (i := 2) (N := some 124) (v := ?_) (a' := ?_) #[true, true, true, false, false, false, false, false, false, false, false, false, false, false, false, false, false, false, false, false, false, false, false, false] rfl rfl (take_ofW HT_.out HW_.out (by kernel_rfl)) (fun _ _ _ h => h) (Or.inl ⟨by rfl, ?_⟩) hHeld ?_ ?_
       rotate_left
       ·rintro w' ⟨⟨s00, s01, s02, s03, s04⟩, ⟨s10, s11, s12, s13, s14⟩, ⟨s20, s21, s22, s23, s24⟩⟩
        go_simp
        with_reducible rfl
       rotate_left
       ·simp only [Act.put, List.setIfInBounds_toArray, List.set_cons_zero, List.set_cons_succ, i64_w, i32_w]
        rfl
       refine one_ (i := 3) (N := some 125) #[true, true, true, true, false, false, false, false, false, false, false, false, false, false, false, false, false, false, false, false, false, false, false, false] rfl rfl (one_of HT_.out (by kernel_rfl)) (by decide) (fun K hK => ?_)
       refine goes_ Try.func69 (by kernel_rfl) rfl #[.agg #[.slice A0 n0 c0, .slice A1 n1 c1, .slice A2 n2 c2, .slice A3 n3 c3, .slice A4 n4 c4], .agg #[.slice F0 x0 y0, .slice F1 x1 y1, .slice F2 x2 y2, .slice F3 x3 y3, .slice F4 x4 y4]] (by rfl) rfl rfl (by (try simp only [List.map_toArray, List.map_cons, List.map_nil]); first | done | rfl) ?_
       have q12 := refC (HA8.out.below HXd.out) (H8.out.1.below HXd.out) (by have := HN.out; omega)
       rw [HDL.out.1] at q12
       refine q12.mono ?_
       clear q12
       rintro e w12 ⟨R1, r1, rfl, hr1, hC1, hb12⟩
       have HX12 := Aside0.mk (belowAt HXd.out hb12)
       have HS1 := Aside0.mk (And.intro hr1 (And.intro hC1 (Kd.C_below HCG.out.1 hb12)))
       clear hr1 hC1 hb12
       refine ⟨_, rfl, ?_⟩
       clear hHeld
       refine hK.out _ _ (HALL.out _ HX12.out) (fun hHeld => ?_)
       clear hK K
       refine norm_ (a' := ?_) ?_ ?_
       rotate_left
       ·show Act.put _ (some 125) _ = _
        simp only [Act.put, List.setIfInBounds_toArray, List.set_cons_zero, List.set_cons_succ, i64_w, i32_w]
        rfl
       refine one_ (i := 4) (N := some 126) #[true, true, true, true, true, false, false, false, false, false, false, false, false, false, false, false, false, false, false, false, false, false, false, false] rfl rfl (one_of HT_.out (by kernel_rfl)) (by decide) (fun K hK => ?_)
       refine goes_ Try.func68 (by kernel_rfl) rfl #[.slice Ag dl.length cg, .slice R1 dl.length r1] (by rfl) rfl rfl (by (try simp only [List.map_toArray, List.map_cons, List.map_nil]); first | done | rfl) ?_
       refine (sameC rfl (by have := HDL.out.2; have := HN.out; omega) HS1.out.2.2 HCG.out.2 HS1.out.2.1 HS1.out.1).mono ?_
       rintro e w13 ⟨rfl, hb13⟩
       have HX13 := Aside0.mk (belowAt HX12.out hb13)
       clear hb13
       refine ⟨_, rfl, ?_⟩
       clear hHeld
       refine hK.out _ _ (HALL.out _ HX13.out) (fun hHeld => ?_)
       clear hK K
       refine norm_ (a' := ?_) ?_ ?_
       rotate_left
       ·show Act.put _ (some 126) _ = _
        simp only [Act.put, List.setIfInBounds_toArray, List.set_cons_zero, List.set_cons_succ, i64_w, i32_w]
        rfl
       refine pure_ (i := 5) (N := some 127) (v := ?_) (a' := ?_) #[true, true, true, true, true, true, false, false, false, false, false, false, false, false, false, false, false, false, false, false, false, false, false, false] rfl rfl (any_of HT_.out (by kernel_rfl)) (fun _ _ _ h => h) (Or.inl ⟨by rfl, ?_⟩) ?_ ?_
       rotate_left
       ·intro w'
        go_simp
        with_reducible rfl
       rotate_left
       ·simp only [Act.put, List.setIfInBounds_toArray, List.set_cons_zero, List.set_cons_succ, i64_w, i32_w]
        rfl
       refine pure_ (i := 6) (N := some 128) (v := ?_) (a' := ?_) #[true, true, true, true, true, true, true, false, false, false, false, false, false, false, false, false, false, false, false, false, false, false, false, false] rfl rfl (any_of HT_.out (by kernel_rfl)) (fun _ _ _ h => h) (Or.inl ⟨by rfl, ?_⟩) ?_ ?_
       rotate_left
       ·intro w'
        go_simp
        with_reducible rfl
       rotate_left
       ·simp only [Act.put, List.setIfInBounds_toArray, List.set_cons_zero, List.set_cons_succ, i64_w, i32_w]
        rfl
       refine pure_ (i := 7) (N := some 129) (v := ?_) (a' := ?_) #[true, true, true, true, true, true, true, true, false, false, false, false, false, false, false, false, false, false, false, false, false, false, false, false] rfl rfl (any_of HT_.out (by kernel_rfl)) (fun _ _ _ h => h) (Or.inl ⟨by rfl, ?_⟩) ?_ ?_
       rotate_left
       ·intro w'
        go_simp
        with_reducible rfl
       rotate_left
       ·simp only [Act.put, List.setIfInBounds_toArray, List.set_cons_zero, List.set_cons_succ, i64_w, i32_w]
        rfl
       refine take_ (i := 9) (N := some 131) (v := ?_) (a' := ?_) #[true, true, true, true, true, true, true, true, false, true, false, false, false, false, false, false, false, false, false, false, false, false, false, false] rfl rfl (take_ofW HT_.out HW_.out (by kernel_rfl)) (fun _ _ _ h => h) (Or.inl ⟨by rfl, ?_⟩) hHeld ?_ ?_
       rotate_left
       ·rintro w' ⟨⟨s00, s01, s02, s03, s04⟩, ⟨s10, s11, s12, s13, s14⟩, ⟨s20, s21, s22, s23, s24⟩⟩
        go_simp
        with_reducible rfl
       rotate_left
       ·simp only [Act.put, List.setIfInBounds_toArray, List.set_cons_zero, List.set_cons_succ, i64_w, i32_w]
        rfl
       refine take_ (i := 10) (N := some 132) (v := ?_) (a' := ?_) #[true, true, true, true, true, true, true, true, false, true, true, false, false, false, false, false, false, false, false, false, false, false, false, false] rfl rfl (take_ofW HT_.out HW_.out (by kernel_rfl)) (fun _ _ _ h => h) (Or.inl ⟨by rfl, ?_⟩) hHeld ?_ ?_
       rotate_left
       ·rintro w' ⟨⟨s00, s01, s02, s03, s04⟩, ⟨s10, s11, s12, s13, s14⟩, ⟨s20, s21, s22, s23, s24⟩⟩
        go_simp
        with_reducible rfl
       rotate_left
       ·simp only [Act.put, List.setIfInBounds_toArray, List.set_cons_zero, List.set_cons_succ, i64_w, i32_w]
        rfl
       refine one_ (i := 8) (N := some 130) #[true, true, true, true, true, true, true, true, true, true, true, false, false, false, false, false, false, false, false, false, false, false, false, false] rfl rfl (one_of HT_.out (by kernel_rfl)) (by decide) (fun K hK => ?_)
       refine goes_ Try.func67 (by kernel_rfl) rfl #[.pointer (some ⟨ub, 0, none⟩), .pointer (some ⟨ta, 0, none⟩)] (by rfl) rfl rfl (by (try simp only [List.map_toArray, List.map_cons, List.map_nil]); first | done | rfl) ?_
       refine (diffM (H8.out.1.below HX13.out) (HA8.out.below HX13.out) (by have := HN.out; omega)).mono ?_
       rintro e w14 ⟨R2, r2, rfl, hr2, hl2, hb14⟩
       obtain ⟨l2, el2⟩ : ∃ l2, mergeL (zipT t') (zipT m) = l2 := ⟨_, rfl⟩
       rw [el2] at hr2 hl2
       rw [el2]
       have HX14 := Aside0.mk (belowAt HX13.out hb14)
       have HS2 := Aside0.mk (And.intro (own_C hr2 rfl) (And.intro hl2 el2))
       clear hr2 hl2 hb14 el2
       refine ⟨_, rfl, ?_⟩
       clear hHeld
       refine hK.out _ _ (HALL.out _ HX14.out) (fun hHeld => ?_)
       clear hK K
       refine norm_ (a' := ?_) ?_ ?_
       rotate_left
       ·show Act.put _ (some 130) _ = _
        simp only [Act.put, List.setIfInBounds_toArray, List.set_cons_zero, List.set_cons_succ, i64_w, i32_w]
        rfl
       refine one_ (i := 11) (N := some 133) #[true, true, true, true, true, true, true, true, true, true, true, true, false, false, false, false, false, false, false, false, false, false, false, false] rfl rfl (one_of HT_.out (by kernel_rfl)) (by decide) (fun K hK => ?_)
       refine goes_ Try.func69 (by kernel_rfl) rfl #[.agg #[.slice F0 x0 y0, .slice F1 x1 y1, .slice F2 x2 y2, .slice F3 x3 y3, .slice F4 x4 y4], .agg #[.slice A0 n0 c0, .slice A1 n1 c1, .slice A2 n2 c2, .slice A3 n3 c3, .slice A4 n4 c4]] (by rfl) rfl rfl (by (try simp only [List.map_toArray, List.map_cons, List.map_nil]); first | done | rfl) ?_
       have q15 := refC (H8.out.1.below HX14.out) (HA8.out.below HX14.out) (by have := HN.out; omega)
       rw [HS2.out.2.2] at q15
       refine q15.mono ?_
       clear q15
       rintro e w15 ⟨R3, r3, rfl, hr3, hC3, hb15⟩
       have HX15 := Aside0.mk (belowAt HX14.out hb15)
       have HS3 := Aside0.mk (And.intro hr3 (And.intro hC3 (Kd.C_below HS2.out.1.1 hb15)))
       clear hr3 hC3 hb15
       refine ⟨_, rfl, ?_⟩
       clear hHeld
       refine hK.out _ _ (HALL.out _ HX15.out) (fun hHeld => ?_)
       clear hK K
       refine norm_ (a' := ?_) ?_ ?_
       rotate_left
       ·show Act.put _ (some 133) _ = _
        simp only [Act.put, List.setIfInBounds_toArray, List.set_cons_zero, List.set_cons_succ, i64_w, i32_w]
        rfl
       refine one_ (i := 12) (N := some 134) #[true, true, true, true, true, true, true, true, true, true, true, true, true, false, false, false, false, false, false, false, false, false, false, false] rfl rfl (one_of HT_.out (by kernel_rfl)) (by decide) (fun K hK => ?_)
       refine goes_ Try.func68 (by kernel_rfl) rfl #[.slice R2 l2.length r2, .slice R3 l2.length r3] (by rfl) rfl rfl (by (try simp only [List.map_toArray, List.map_cons, List.map_nil]); first | done | rfl) ?_
       refine (sameC rfl (by have := HS2.out.2.1; have := HN.out; omega) HS3.out.2.2 HS2.out.1.2 HS3.out.2.1 HS3.out.1).mono ?_
       rintro e w16 ⟨rfl, hb16⟩
       have HX16 := Aside0.mk (belowAt HX15.out hb16)
       clear hb16
       refine ⟨_, rfl, ?_⟩
       clear hHeld
       refine hK.out _ _ (HALL.out _ HX16.out) (fun hHeld => ?_)
       clear hK K
       refine norm_ (a' := ?_) ?_ ?_
       rotate_left
       ·show Act.put _ (some 134) _ = _
        simp only [Act.put, List.setIfInBounds_toArray, List.set_cons_zero, List.set_cons_succ, i64_w, i32_w]
        rfl
       refine pure_ (i := 13) (N := some 135) (v := ?_) (a' := ?_) #[true, true, true, true, true, true, true, true, true, true, true, true, true, true, false, false, false, false, false, false, false, false, false, false] rfl rfl (any_of HT_.out (by kernel_rfl)) (fun _ _ _ h => h) (Or.inl ⟨by rfl, ?_⟩) ?_ ?_
       rotate_left
       ·intro w'
        go_simp
        with_reducible rfl
       rotate_left
       ·simp only [Act.put, List.setIfInBounds_toArray, List.set_cons_zero, List.set_cons_succ, i64_w, i32_w]
        rfl
       refine pure_ (i := 14) (N := some 136) (v := ?_) (a' := ?_) #[true, true, true, true, true, true, true, true, true, true, true, true, true, true, true, false, false, false, false, false, false, false, false, false] rfl rfl (any_of HT_.out (by kernel_rfl)) (fun _ _ _ h => h) (Or.inl ⟨by rfl, ?_⟩) ?_ ?_
       rotate_left
       ·intro w'
        go_simp
        with_reducible rfl
       rotate_left
       ·simp only [Act.put, List.setIfInBounds_toArray, List.set_cons_zero, List.set_cons_succ, i64_w, i32_w]
        rfl
       refine pure_ (i := 15) (N := some 137) (v := ?_) (a' := ?_) #[true, true, true, true, true, true, true, true, true, true, true, true, true, true, true, true, false, false, false, false, false, false, false, false] rfl rfl (any_of HT_.out (by kernel_rfl)) (fun _ _ _ h => h) (Or.inl ⟨by rfl, ?_⟩) ?_ ?_
       rotate_left
       ·intro w'
        go_simp
        with_reducible rfl
       rotate_left
       ·simp only [Act.put, List.setIfInBounds_toArray, List.set_cons_zero, List.set_cons_succ, i64_w, i32_w]
        rfl
       refine pure_ (i := 16) (N := some 138) (v := ?_) (a' := ?_) #[true, true, true, true, true, true, true, true, true, true, true, true, true, true, true, true, true, false, false, false, false, false, false, false] rfl rfl (any_of HT_.out (by kernel_rfl)) (fun _ _ _ h => h) (Or.inl ⟨by rfl, ?_⟩) ?_ ?_
       rotate_left
       ·intro w'
        go_simp
        with_reducible rfl
       rotate_left
       ·simp only [Act.put, List.setIfInBounds_toArray, List.set_cons_zero, List.set_cons_succ, i64_w, i32_w]
        rfl
       refine take_ (i := 18) (N := some 140) (v := ?_) (a' := ?_) #[true, true, true, true, true, true, true, true, true, true, true, true, true, true, true, true, true, false, true, false, false, false, false, false] rfl rfl (take_ofW HT_.out HW_.out (by kernel_rfl)) (fun _ _ _ h => h) (Or.inl ⟨by rfl, ?_⟩) hHeld ?_ ?_
       rotate_left
       ·rintro w' ⟨⟨s00, s01, s02, s03, s04⟩, ⟨s10, s11, s12, s13, s14⟩, ⟨s20, s21, s22, s23, s24⟩⟩
        go_simp
        with_reducible rfl
       rotate_left
       ·simp only [Act.put, List.setIfInBounds_toArray, List.set_cons_zero, List.set_cons_succ, i64_w, i32_w]
        rfl
       refine take_ (i := 19) (N := some 141) (v := ?_) (a' := ?_) #[true, true, true, true, true, true, true, true, true, true, true, true, true, true, true, true, true, false, true, true, false, false, false, false] rfl rfl (take_ofW HT_.out HW_.out (by kernel_rfl)) (fun _ _ _ h => h) (Or.inl ⟨by rfl, ?_⟩) hHeld ?_ ?_
       rotate_left
       ·rintro w' ⟨⟨s00, s01, s02, s03, s04⟩, ⟨s10, s11, s12, s13, s14⟩, ⟨s20, s21, s22, s23, s24⟩⟩
        go_simp
        with_reducible rfl
       rotate_left
       ·simp only [Act.put, List.setIfInBounds_toArray, List.set_cons_zero, List.set_cons_succ, i64_w, i32_w]
        rfl
       refine one_ (i := 17) (N := some 139) #[true, true, true, true, true, true, true, true, true, true, true, true, true, true, true, true, true, true, true, true, false, false, false, false] rfl rfl (one_of HT_.out (by kernel_rfl)) (by decide) (fun K hK => ?_)
       refine goes_ Try.func67 (by kernel_rfl) rfl #[.pointer (some ⟨ta, 0, none⟩), .pointer (some ⟨tc, 0, none⟩)] (by rfl) rfl rfl (by (try simp only [List.map_toArray, List.map_cons, List.map_nil]); first | done | rfl) ?_
       refine (diffM (HA8.out.below HX16.out) (HC8.out.below HX16.out) (by have := HN.out; omega)).mono ?_
       rintro e w17 ⟨R4, r4, rfl, hr4, hl4, hb17⟩
       obtain ⟨l4, el4⟩ : ∃ l4, mergeL (zipT m) (zipT k) = l4 := ⟨_, rfl⟩
       rw [el4] at hr4 hl4
       rw [el4]
       have HX17 := Aside0.mk (belowAt HX16.out hb17)
       have HS4 := Aside0.mk (And.intro (own_C hr4 rfl) (And.intro hl4 el4))
       clear hr4 hl4 hb17 el4
       refine ⟨_, rfl, ?_⟩
       clear hHeld
       refine hK.out _ _ (HALL.out _ HX17.out) (fun hHeld => ?_)
       clear hK K
       refine norm_ (a' := ?_) ?_ ?_
       rotate_left
       ·show Act.put _ (some 139) _ = _
        simp only [Act.put, List.setIfInBounds_toArray, List.set_cons_zero, List.set_cons_succ, i64_w, i32_w]
        rfl
       refine one_ (i := 20) (N := some 142) #[true, true, true, true, true, true, true, true, true, true, true, true, true, true, true, true, true, true, true, true, true, false, false, false] rfl rfl (one_of HT_.out (by kernel_rfl)) (by decide) (fun K hK => ?_)
       refine goes_ Try.func69 (by kernel_rfl) rfl #[.agg #[.slice A0 n0 c0, .slice A1 n1 c1, .slice A2 n2 c2, .slice A3 n3 c3, .slice A4 n4 c4], .agg #[.slice B0 o0 d0, .slice B1 o1 d1, .slice B2 o2 d2, .slice B3 o3 d3, .slice B4 o4 d4]] (by rfl) rfl rfl (by (try simp only [List.map_toArray, List.map_cons, List.map_nil]); first | done | rfl) ?_
       have q18 := refC (HA8.out.below HX17.out) (HC8.out.below HX17.out) (by have := HN.out; omega)
       rw [HS4.out.2.2] at q18
       refine q18.mono ?_
       clear q18
       rintro e w18 ⟨R5, r5, rfl, hr5, hC5, hb18⟩
       have HX18 := Aside0.mk (belowAt HX17.out hb18)
       have HS5 := Aside0.mk (And.intro hr5 (And.intro hC5 (Kd.C_below HS4.out.1.1 hb18)))
       clear hr5 hC5 hb18
       refine ⟨_, rfl, ?_⟩
       clear hHeld
       refine hK.out _ _ (HALL.out _ HX18.out) (fun hHeld => ?_)
       clear hK K
       refine norm_ (a' := ?_) ?_ ?_
       rotate_left
       ·show Act.put _ (some 142) _ = _
        simp only [Act.put, List.setIfInBounds_toArray, List.set_cons_zero, List.set_cons_succ, i64_w, i32_w]
        rfl
       refine one_ (i := 21) (N := some 143) #[true, true, true, true, true, true, true, true, true, true, true, true, true, true, true, true, true, true, true, true, true, true, false, false] rfl rfl (one_of HT_.out (by kernel_rfl)) (by decide) (fun K hK => ?_)
       refine goes_ Try.func68 (by kernel_rfl) rfl #[.slice R4 l4.length r4, .slice R5 l4.length r5] (by rfl) rfl rfl (by (try simp only [List.map_toArray, List.map_cons, List.map_nil]); first | done | rfl) ?_
       refine (sameC rfl (by have := HS4.out.2.1; have := HN.out; omega) HS5.out.2.2 HS4.out.1.2 HS5.out.2.1 HS5.out.1).mono ?_
       rintro e w19 ⟨rfl, hb19⟩
       have HX19 := Aside0.mk (belowAt HX18.out hb19)
       clear hb19
       refine ⟨_, rfl, ?_⟩
       clear hHeld
       refine hK.out _ _ (HALL.out _ HX19.out) (fun hHeld => ?_)
       clear hK K
       refine norm_ (a' := ?_) ?_ ?_
       rotate_left
       ·show Act.put _ (some 143) _ = _
        simp only [Act.put, List.setIfInBounds_toArray, List.set_cons_zero, List.set_cons_succ, i64_w, i32_w]
        rfl
       refine pure_ (i := 22) (N := some 144) (v := ?_) (a' := ?_) #[true, true, true, true, true, true, true, true, true, true, true, true, true, true, true, true, true, true, true, true, true, true, true, false] rfl rfl (any_of HT_.out (by kernel_rfl)) (fun _ _ _ h => h) (Or.inl ⟨by rfl, ?_⟩) ?_ ?_
       rotate_left
       ·intro w'
        go_simp
        with_reducible rfl
       rotate_left
       ·simp only [Act.put, List.setIfInBounds_toArray, List.set_cons_zero, List.set_cons_succ, i64_w, i32_w]
        rfl
       refine pure_ (i := 23) (N := some 6) (v := ?_) (a' := ?_) #[true, true, true, true, true, true, true, true, true, true, true, true, true, true, true, true, true, true, true, true, true, true, true, true] rfl rfl (any_of HT_.out (by kernel_rfl)) (fun _ _ _ h => h) (Or.inl ⟨by rfl, ?_⟩) ?_ ?_
       rotate_left
       ·intro w'
        go_simp
        with_reducible rfl
       rotate_left
       ·simp only [Act.put, List.setIfInBounds_toArray, List.set_cons_zero, List.set_cons_succ, i64_w, i32_w]
        rfl
       refine done_ (done_of HT_.out (by kernel_rfl)) ?_
       clear HT_ HW_ hHeld
       go_wp2_with fail
       go_ret
       exact ⟨rfl, (HB3'.out.trans (H8.out.2.2.mono HB3'.out.size)).trans (HX19.out.mono (by have := HB3'.out.size; have := H8.out.2.2.size; omega))⟩
end Go.Proofs.Ytjhgknagmiekeaa.V
set_option linter.unusedVariables false
set_option linter.unusedSimpArgs false
namespace Go.Proofs.Ytjhgknagmiekeaa.R
open Go.ChangeShapes Go.WideShapes Go.Deep Go.RowKit
open Go.Proofs.YtjhgknagmiekeaaW.PrintWords Go.Proofs.Ytjhgknagmiekeaa.K
section
variable {H : Type} {enc : TypeId × Value → H} {P : Program} {w : World} {base : Nat} {spare : Nat → Bool} {held : Bool}
theorem open_slice_fields {t e : TypeId} {fs : Array Field} {fuel : Nat} {cs : List Value} {x : DataW H × List MemPlace} (ht : P.underlying t = some (.slice e)) (he : P.underlying e = some (.struct fs))
    (hone : oneCellFields P fs = true) (hC : P.cellsOf e = fs.size) (h : DataW.trod enc P w base spare held fuel t cs = some x) :
    (cs = [.slice none 0 0] ∧ x = (.nil, [])) ∨
    ∃ (a : Addr) (len cap m : Nat) (D : Nat → DataW H) (Pl : Nat → List MemPlace), cs = [.slice (some a) len cap] ∧ base ≤ a.block ∧ len ≤ cap ∧ cap ≤ maxLen ∧ m = (if spare a.block then cap else len) ∧
      x = (.slice ((List.range len).map D) ((List.range (m - len)).map fun j => D (len + j)), MemPlace.row a (m * fs.size) ++ (List.range m).flatMap Pl) ∧
      ∀ i, i < m → ∃ (ys : List (DataW H × List MemPlace)) (n : Nat), D i = .agg (ys.map (·.1)) ∧ Pl i = ys.flatMap (·.2) ∧ ys.length = fs.size ∧
        ∀ (j : Nat) (f : Field), fs[j]? = some f → ∃ (v : Value) (y : DataW H × List MemPlace), w.cell? (a.add (i * fs.size + j)) = some v ∧ ys[j]? = some y ∧ DataW.trod enc P w base spare held n f.type [v] = some y := by
  rcases open_slice ht h with h0 | ⟨a, len, cap, m, n, D, Pl, hcs, hb, hl, hm, hmm, hx, hi⟩
  · exact .inl h0
  · refine .inr ⟨a, len, cap, m, D, Pl, hcs, hb, hl, hm, hmm, by rw [hC] at hx; exact hx, fun i him => ?_⟩
    obtain ⟨cs', hc, ht'⟩ := hi i him
    rw [hC] at hc
    obtain ⟨ys, n', hn', hy, hlen, hyl, hf⟩ := DataW.trod_struct he ht'
    obtain ⟨_, hcl, hat⟩ := World.cells?_some hc
    simp only [Prod.mk.injEq] at hy
    refine ⟨ys, n', hy.1, hy.2, hyl, fun j f hj => ?_⟩
    obtain ⟨ho, hk⟩ := hone_of hone j f hj
    have hjl : j < fs.size := (Array.getElem?_eq_some_iff.1 hj).1
    have hcell := hat j hjl
    have hv : cs'[j]? = some (cs'[j]'(by omega)) := List.getElem?_eq_getElem (by omega)
    have h1 := hf j f hj
    rw [ho, hk] at h1
    have hone' : (cs'.drop j).take 1 = [cs'[j]'(by omega)] := by
      rw [List.drop_eq_getElem_cons (by omega)]
      rfl
    rw [hone'] at h1
    have hys : ys[j]? = some (ys[j]'(by omega)) := List.getElem?_eq_getElem (by omega)
    refine ⟨_, _, ?_, hys, h1.trans hys⟩
    rw [← Go.Deep.add_add, hcell, hv]
end
def dE {H : Type} (p : S35) : DataW H := .agg [.lit (.string p.f0.data.toList), .lit (.int .i64 p.f1)]
theorem open_entries {H : Type} {enc : TypeId × Value → H} {W : World} {base : Nat} {spare : Nat → Bool} {held : Bool} {a : Option Addr} {len cap : Nat} {d : DataW H} {ps : List MemPlace}
    (h : DataW.Trod enc Try.prog W base spare held 22 (.slice a len cap) d ps) :
    ∃ l : List S35, len = l.length ∧ l.length ≤ cap ∧ Kd.C k35 W a l.length l ∧ ((d = .nil ∧ l = []) ∨ ∃ sp, d = .slice (l.map dE) sp) := by
  obtain ⟨fuel, hf⟩ := h
  rcases open_slice_fields (fs := #[_, _]) Try.underlying22 Try.underlying35 (by kernel_rfl) (by kernel_rfl) hf with ⟨hcs, hx⟩ | ⟨ad, len', cap', m, D, Pl, hcs, _, hl, hm, hmm, hx, hi⟩
  · simp [Value.cells] at hcs
    obtain ⟨rfl, rfl, rfl⟩ := hcs
    obtain ⟨rfl, _⟩ := Prod.mk.inj hx
    exact ⟨[], rfl, by simp, Kd.C_nil k35 W, .inl ⟨rfl, rfl⟩⟩
  · simp [Value.cells] at hcs
    obtain ⟨rfl, rfl, rfl⟩ := hcs
    obtain ⟨hx, _⟩ := Prod.mk.inj hx
    subst hx
    have hlm : len ≤ m := by rw [hmm]; split; exact hl; exact Nat.le_refl _
    have each : ∀ i : Nat, ∃ p : S35, i < len → D i = dE p ∧ W.cell? (ad.add (i * 2)) = some (.string p.f0) ∧ W.cell? (ad.add (i * 2 + 1)) = some (.int .i64 p.f1) := by
      intro i
      by_cases hil : i < len
      · obtain ⟨ys, n, hD, _, hyl, hj⟩ := hi i (by omega)
        obtain ⟨v0, y0, c0, e0, t0⟩ := hj 0 _ rfl
        obtain ⟨v1, y1, c1, e1, t1⟩ := hj 1 _ rfl
        obtain ⟨s0, q0, r0, w0⟩ := DataW.trod_string Try.underlying9 t0
        obtain ⟨n1, q1, r1, w1⟩ := DataW.trod_int Try.underlying3 t1
        simp only [List.cons.injEq, and_true] at q0 q1
        subst q0 q1 r0 r1
        refine ⟨⟨s0, n1⟩, fun _ => ⟨?_, c0, c1⟩⟩
        have hys : ys = [(.lit (.string s0.data.toList), []), (.lit (.int .i64 n1), [])] := by
          match ys, hyl, e0, e1 with
          | [a, b], _, e0, e1 => simp at e0 e1; rw [e0, e1]
        rw [hD, hys]
        rfl
      · exact ⟨⟨⟨#[]⟩, 0⟩, fun h => absurd h hil⟩
    obtain ⟨g, hg⟩ := Classical.axiomOfChoice each
    refine ⟨(List.range len).map g, by simp, by simpa using hl, ?_, .inr ⟨(List.range (m - len)).map fun j => D (len + j), ?_⟩⟩
    · have hlen : ((List.range len).map g).length = len := by simp
      rw [hlen]
      refine ⟨hlen, by unfold maxLen at hm; omega, fun _ => ⟨ad, rfl, fun j p hp => ?_⟩⟩
      have hj : j < len := by have := (List.getElem?_eq_some_iff.1 hp).1; rw [hlen] at this; exact this
      have hpe : p = g j := by
        rw [List.getElem?_map, List.getElem?_range hj] at hp
        simpa using hp.symm
      subst hpe
      obtain ⟨_, c0, c1⟩ := hg j hj
      refine ⟨_, rfl, k35_mk W (g j), fun i u hu => ?_⟩
      match i, hu with
      | 0, hu => simp at hu; subst hu; exact c0
      | 1, hu => simp at hu; subst hu; exact c1
    · congr 1
      rw [List.map_map]
      apply List.map_congr_left
      intro j hj
      exact (hg j (List.mem_range.1 hj)).1
def wt : List S35 → Nat
  | [] => 0
  | p :: ps => p.f0.size + 1 + wt ps
theorem wt_bulk {H : Type} (l : List S35) : wt l ≤ Rows.uptoBulkAll (l.map (dE (H := H))) := by
  induction l with
  | nil => exact Nat.zero_le _
  | cons p ps ih =>
    have e : p.f0.data.toList.length = p.f0.size := T.L_len _
    simp only [List.map_cons, Rows.uptoBulkAll, wt, dE, Rows.uptoBulk, e]
    omega
theorem wt_of {H : Type} {d : DataW H} {l : List S35} (h : (d = .nil ∧ l = []) ∨ ∃ sp, d = .slice (l.map dE) sp) : wt l ≤ Rows.uptoBulk d := by
  rcases h with ⟨rfl, rfl⟩ | ⟨sp, rfl⟩
  · exact Nat.zero_le _
  · have := wt_bulk (H := H) l
    simp only [Rows.uptoBulk]
    omega
theorem wt_len : ∀ (l : List S35), l.length ≤ wt l
  | [] => Nat.zero_le _
  | p :: ps => by have := wt_len ps; simp only [List.length_cons, wt]; omega
theorem wt_mem : ∀ (l : List S35) (p : S35), p ∈ l → p.f0.size ≤ wt l
  | q :: l, p, h => by
    simp only [wt]
    rcases List.mem_cons.1 h with e | e
    · rw [e]; omega
    · have := wt_mem l p e; omega
end Go.Proofs.Ytjhgknagmiekeaa.R
