/- radix: RadixLongest returns true, the walk. -/
import Derived.Test.YtkaeglnnahecjaaR15
set_option linter.unusedVariables false
set_option linter.unusedSimpArgs false
namespace Go.Proofs.Ytkaeglnnahecjaa.T
open Go.RowKit Go.Lib Go.Proofs Go.Proofs.YtkaeglnnahecjaaW.PrintWords

theorem getV_at {root : Nd} (hg : Good root) (k : ByteArray) (j : Nat) (hj : j ≤ k.size) : getV (seekN root (k.extract 0 j)) = getV (findT root ((L k).take j)) := by
  rw [seek_eq hg, L_head]
set_option maxHeartbeats 4000000 in
set_option maxRecDepth 100000 in
theorem longest (hal : ∀ w : World, Calls Try.prog 11 #[] w fun e w' => e = .returned (.bool true) ∧ Below w.heap.size w w') (w : World) (A : Option Addr) (c : Nat) (ks : List ByteArray) (k : ByteArray) (hA : Strs w A ks) (hn : ks.length < 1000000000000) (hks : ∀ k ∈ ks, k.size < 4000000000000) (hk : k.size < 1000000000000) :
    Calls Try.prog 4 #[.slice A ks.length c, .string k] w fun e w' => e = .returned (.bool true) ∧ Below w.heap.size w w' := by
  have HA := Aside0.mk (And.intro hA hks)
  have q0 := Aside0.mk (hal w)
  clear hA hks hal
  go_enter Try.func4, Try.ntmps4
  go_wp2_with (go_at_call 11; refine q0.out.mono ?_)
  rintro e w1 ⟨rfl, B1⟩
  have q1 := Aside0.mk (built w1 A c ks (HA.out.1.keep (Kept.of B1)) hn HA.out.2)
  have HB1 := Aside0.mk B1
  clear B1 q0
  go_wp2_with (go_at_call 12; refine q1.out.mono ?_)
  rintro e w2 ⟨tb, root, size, rfl, ht, hs0, hs1, B2⟩
  have HT := Aside0.mk ht
  have HB2 := Aside0.mk (HB1.out.trans ⟨B2.os, B2.tape, B2.output, B2.size, fun x hx => B2.block x (by have := HB1.out.size; omega)⟩)
  have q2 := Aside0.mk (treeLongest w2 tb root size k ht.at_ ht.good.ok ht.good.sm ht.good.top (by omega))
  have hl := long_eq ht.good k
  have hget : ∀ w', Kept w2 w' → ∀ j, j ≤ k.size → Calls Try.prog 25 #[ptr tb, .string (k.extract 0 j)] w' fun e w'' => e = .returned (getV (findT root ((L k).take j))) ∧ Below w'.heap.size w' w'' := fun w' hk' j hj => by
    rw [← getV_at ht.good k j hj]
    exact treeGet w' tb root size (k.extract 0 j) (ht.at_.keep hk') ht.good.ok ht.good.sm ht.good.top (by simp only [ByteArray.size_extract]; omega)
  have HG := Aside0.mk hget
  unfold ptr at q2 ⊢
  cases hlo : longN root k with
  | none =>
    rw [hlo] at q2 hl
    have hnone : ∀ j, j ≤ k.size → findT root ((L k).take j) = none := by
      rcases hl with ⟨j, h1, h2, h3, h4⟩ | ⟨h1, h2⟩
      · exact absurd rfl h3
      · intro j hj; exact h2 j (by rw [L_len]; exact hj)
    have HNo := Aside0.mk hnone
    clear hl hlo hnone hget ht B2 q1
    unfold toldV at q2
    go_wp2_with (go_at_call 17; refine q2.out.mono ?_)
    rintro e w3 ⟨rfl, B3⟩
    have HB3 := Aside0.mk B3
    clear B3 q2
    go_wp2_with fail
    go_loopg [9] (k.size + 2) (fun kq v9 w' => ∃ i : Nat, v9 = .int .i64 ((i : Int) - 1) ∧ Aside0 (i + 1 ≤ kq ∧ i ≤ k.size + 1) ∧ Aside0 (Below w2.heap.size w2 w'))
    case atStart => exact ⟨k.size + 1, by simp, ⟨by omega, by omega⟩, HB3⟩
    case round =>
      obtain ⟨i, rfl, HI, HB⟩ := hrel
      cases i with
      | zero =>
        go_wp2_with fail
        go_ret
        exact ⟨rfl, HB2.out.trans ⟨HB.out.os, HB.out.tape, HB.out.output, HB.out.size, fun x hx => HB.out.block x (by have := HB2.out.size; omega)⟩⟩
      | succ i =>
        have ei : ((i + 1 : Nat) : Int) - 1 = (i : Int) := by omega
        rw [ei]
        have hik : i ≤ k.size := by have := HI.out; omega
        have hikI : (i : Int) ≤ (k.size : Int) := by omega
        have q3 := HG.out wr (Kept.of HB.out) i hik
        rw [HNo.out i hik] at q3
        have q4 := Aside0.mk q3
        clear q3 ei
        unfold getV ptr at q4
        go_wp2_with (go_at_call 25; refine q4.out.mono ?_; rintro e w4 ⟨rfl, B4⟩; have HB4 := Aside0.mk B4; clear B4)
        go_roundg (i + 1)
        case measure => have := HI.out; omega
        case rel => exact ⟨i, by simp, ⟨by have := HI.out; omega⟩, ⟨HB.out.trans ⟨HB4.out.os, HB4.out.tape, HB4.out.output, HB4.out.size, fun x hx => HB4.out.block x (by have := HB.out.size; omega)⟩⟩⟩
  | some l =>
    rw [hlo] at q2 hl
    have hex : ∃ j, j ≤ k.size ∧ findT root ((L k).take j) = some l ∧ ∀ j', j < j' → j' ≤ k.size → findT root ((L k).take j') = none := by
      rcases hl with ⟨j, h1, h2, h3, h4⟩ | ⟨h1, h2⟩
      · exact ⟨j, by rw [L_len] at h1; exact h1, h2, fun j' a b => h4 j' a (by rw [L_len]; exact b)⟩
      · cases h1
    obtain ⟨j, hj, hfj, habove⟩ := hex
    obtain ⟨v, hv⟩ := ht.vals _ _ hfj
    have hkey : l.key = k.extract 0 j := L_inj (by rw [ht.good.keys _ _ hfj, L_head])
    have HNo := Aside0.mk (And.intro hj (And.intro hfj habove))
    have HV := Aside0.mk hv
    clear hl hlo hget ht B2 q1 hfj habove
    have etv : toldV (some l) = .tuple #[.string (k.extract 0 j), .int .i64 v, .bool true] := by rw [← hkey, ← hv]; rfl
    rw [etv] at q2
    clear hkey hv etv
    go_wp2_with (go_at_call 17; refine q2.out.mono ?_)
    rintro e w3 ⟨rfl, B3⟩
    have HB3 := Aside0.mk B3
    clear B3 q2
    go_wp2_with fail
    go_loopg [9] (k.size + 2) (fun kq v9 w' => ∃ i : Nat, v9 = .int .i64 (i : Int) ∧ Aside0 (i + 1 ≤ kq ∧ i ≤ k.size ∧ j ≤ i) ∧ Aside0 (Below w2.heap.size w2 w'))
    case atStart => exact ⟨k.size, rfl, ⟨by omega, by omega, hj⟩, HB3⟩
    case round =>
      obtain ⟨i, rfl, HI, HB⟩ := hrel
      have hik : i ≤ k.size := HI.out.2.1
      have hikI : (i : Int) ≤ (k.size : Int) := by omega
      have hjI : (j : Int) ≤ (k.size : Int) := by omega
      have q3 := HG.out wr (Kept.of HB.out) i hik
      by_cases hij : i = j
      · subst hij
        rw [HNo.out.2.1] at q3
        have egv : getV (some l) = .tuple #[.int .i64 v, .bool true] := by rw [← HV.out]; rfl
        rw [egv] at q3
        unfold ptr at q3
        have q4 := Aside0.mk q3
        clear egv
        clear q3
        go_wp2_with (go_at_call 25; refine q4.out.mono ?_; rintro e w4 ⟨rfl, B4⟩; have HB4 := Aside0.mk B4; clear B4)
        go_ret
        exact ⟨rfl, (HB2.out.trans ⟨HB.out.os, HB.out.tape, HB.out.output, HB.out.size, fun x hx => HB.out.block x (by have := HB2.out.size; omega)⟩).trans ⟨HB4.out.os, HB4.out.tape, HB4.out.output, HB4.out.size, fun x hx => HB4.out.block x (by have := HB2.out.size; have := HB.out.size; omega)⟩⟩
      · rw [HNo.out.2.2 i (by have := HI.out.2.2; omega) hik] at q3
        have q4 := Aside0.mk q3
        clear q3
        unfold getV ptr at q4
        have hi1 : 1 ≤ i := by have := HI.out.2.2; omega
        go_wp2_with (go_at_call 25; refine q4.out.mono ?_; rintro e w4 ⟨rfl, B4⟩; have HB4 := Aside0.mk B4; clear B4)
        go_roundg i
        case measure => have := HI.out; omega
        case rel => exact ⟨i - 1, by simp; omega, ⟨by have := HI.out; omega⟩, ⟨HB.out.trans ⟨HB4.out.os, HB4.out.tape, HB4.out.output, HB4.out.size, fun x hx => HB4.out.block x (by have := HB.out.size; omega)⟩⟩⟩
end Go.Proofs.Ytkaeglnnahecjaa.T
