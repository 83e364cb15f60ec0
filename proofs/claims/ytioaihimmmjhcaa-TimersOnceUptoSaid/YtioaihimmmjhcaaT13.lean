/- timers: SameInts at memory. -/
import Derived.Test.YtioaihimmmjhcaaT12
set_option linter.unusedVariables false
set_option linter.unusedSimpArgs false
namespace Go.Proofs.Ytioaihimmmjhcaa.T
open Go.RowKit Go.Maps Go.Proofs.YtioaihimmmjhcaaW.PrintWords

/-- a slice of whole numbers, as it reads -/
def Ints (w : World) (A : Option Addr) (l : List Int) : Prop := ∀ i (h : i < l.length), ∃ ad, A = some ad ∧ w.cell? (ad.add i) = some (.int .i64 l[i])
theorem Ints.heap {w w' : World} {A : Option Addr} {l : List Int} (h : Ints w A l) (e : w'.heap = w.heap) : Ints w' A l := fun i hi => by
  obtain ⟨ad, h1, h2⟩ := h i hi
  exact ⟨ad, h1, by rw [cell_heap e]; exact h2⟩
theorem ints_of {w : World} {base : Nat} {v : Value} {n : Nat} {l : List Int} (h : w.ownsRow base 3 1 v n (intsOf l)) : n = l.length ∧ ∃ A c, v = .slice A l.length c ∧ Ints w A l := by
  obtain ⟨hl, hv⟩ := h
  have hn : n = l.length := by simpa [intsOf] using hl.symm
  subst hn
  refine ⟨rfl, ?_⟩
  rcases hv with ⟨rfl, h0⟩ | ⟨g, cap, cur, rfl, _, hg, hc, _, hs, ht⟩
  · rw [h0]
    exact ⟨none, 0, rfl, fun i hi => by omega⟩
  · refine ⟨_, cap, rfl, fun i hi => ⟨_, rfl, ?_⟩⟩
    have h1 : (cur.toList.take (l.length * 1))[i]? = (intsOf l)[i]? := by rw [ht]
    rw [List.getElem?_take_of_lt (by omega)] at h1
    have h2 : (intsOf l)[i]? = some (.int .i64 l[i]) := by simp [intsOf, hi]
    rw [h2] at h1
    have e : (⟨g, 0, none⟩ : Addr).add i = ⟨g, i, none⟩ := by
      simp only [Addr.add]
      split
      · rename_i h; rw [h]
      · simp
    rw [e, blk_cell hg]
    simpa using h1

set_option maxHeartbeats 4000000 in
set_option maxRecDepth 100000 in
theorem sameInts (w : World) (A0 A1 : Option Addr) (c0 c1 : Nat) (l0 l1 : List Int) (h0 : Ints w A0 l0) (h1 : Ints w A1 l1) (b0 : l0.length < 4000000000000) (b1 : l1.length < 4000000000000) :
    Calls Try.prog 11 #[.slice A0 l0.length c0, .slice A1 l1.length c1] w fun e w' => e = .returned (.bool (decide (l0 = l1))) ∧ Fr [] w w' ∧ w'.heap = w.heap := by
  by_cases hlen : l0.length = l1.length
  · have H0 := Aside0.mk h0
    have H1 := Aside0.mk h1
    have HN := Aside0.mk hlen
    clear h0 h1
    rw [← hlen]
    obtain ⟨n, hn⟩ : ∃ n, l0.length = n := ⟨_, rfl⟩
    have HN2 := Aside0.mk hn
    rw [hn]
    rw [hn] at b0
    clear hlen hn b1
    go_enter Try.func11, Try.ntmps11
    go_wp2_with fail
    go_loopg [5] (n + 1) (fun kq v5 w' => ∃ i : Nat, v5 = .int .i64 (i : Int) ∧ Aside0 (i + kq = n + 1 ∧ i ≤ n) ∧ Aside0 (l0.take i = l1.take i) ∧ Aside0 (Fr [] w w' ∧ w'.heap = w.heap))
    case atStart => exact ⟨0, rfl, ⟨by omega⟩, ⟨by simp⟩, ⟨Fr.refl _ _, rfl⟩⟩
    case round =>
      obtain ⟨i, rfl, HI, HT, HF⟩ := hrel
      by_cases hi : i < n
      · have hi0 : i < l0.length := by rw [HN2.out]; exact hi
        have hi1 : i < l1.length := by rw [← HN.out, HN2.out]; exact hi
        obtain ⟨ad0, e0, k0⟩ := (H0.out.heap HF.out.2) i hi0
        obtain ⟨ad1, e1, k1⟩ := (H1.out.heap HF.out.2) i hi1
        obtain ⟨x0, hx0⟩ : ∃ x, l0[i] = x := ⟨_, rfl⟩
        obtain ⟨x1, hx1⟩ : ∃ x, l1[i] = x := ⟨_, rfl⟩
        rw [hx0] at k0
        rw [hx1] at k1
        subst e0 e1
        have HX := Aside0.mk (And.intro hx0 hx1)
        have HIL := Aside0.mk (And.intro hi0 hi1)
        clear hx0 hx1
        go_wp2_with fail
        go_region
        by_cases hx : x0 = x1
        · go_wp2_with fail
          go_roundg (n - i)
          case measure => have := HI.out; omega
          case rel => exact ⟨i + 1, by simp, ⟨by have := HI.out; omega⟩, ⟨by rw [List.take_succ_eq_append_getElem HIL.out.1, List.take_succ_eq_append_getElem HIL.out.2, HX.out.1, HX.out.2, hx, HT.out]⟩, ⟨HF.out.1.drew, HF.out.2⟩⟩
        · go_wp2_with fail
          go_ret
          refine ⟨?_, HF.out.1.drew, HF.out.2⟩
          have hne : ¬ l0 = l1 := by
            intro e
            subst e
            exact hx (HX.out.1.symm.trans HX.out.2)
          show Ending.returned (.bool false) = _
          rw [decide_eq_false hne]
      · have hin : i = n := by have := HI.out; omega
        subst hin
        go_wp2_with fail
        go_ret
        refine ⟨?_, HF.out⟩
        have e : l0 = l1 := by
          have h := HT.out
          rwa [List.take_of_length_le (by rw [HN2.out]; exact Nat.le_refl _), List.take_of_length_le (by rw [← HN.out, HN2.out]; exact Nat.le_refl _)] at h
        show Ending.returned (.bool true) = _
        rw [decide_eq_true e]
  · have hne : ¬ l0 = l1 := fun e => hlen (by rw [e])
    clear h0 h1
    go_enter Try.func11, Try.ntmps11
    go_wp2_with fail
    go_ret
    refine ⟨?_, Fr.refl _ _, rfl⟩
    show Ending.returned (.bool false) = _
    rw [decide_eq_false hne]
end Go.Proofs.Ytioaihimmmjhcaa.T
