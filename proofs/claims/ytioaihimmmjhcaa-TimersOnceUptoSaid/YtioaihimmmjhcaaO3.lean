/- timers, plain: down makes a heap. -/
import Derived.Test.YtioaihimmmjhcaaO2
set_option linter.unusedVariables false
set_option linter.unusedSimpArgs false
namespace Go.Proofs.Ytioaihimmmjhcaa.T

theorem kid_is (ts : List (Nat × Tm)) (i n : Nat) (h : ¬ n ≤ 2 * i + 1) : kid ts i n < n ∧ i < kid ts i n ∧ (kid ts i n - 1) / 2 = i ∧ ∀ k, 0 < k → k < n → (k - 1) / 2 = i → leT (tm ts (kid ts i n)) (tm ts k) := by
  unfold kid
  by_cases hc : 2 * i + 2 < n ∧ lessT (ts.getD (2 * i + 2) default).2 (ts.getD (2 * i + 1) default).2 = true
  · rw [if_pos hc]
    refine ⟨hc.1, by omega, by omega, fun k h0 hk he => ?_⟩
    have : k = 2 * i + 1 ∨ k = 2 * i + 2 := by omega
    rcases this with rfl | rfl
    · exact leT_of_less hc.2
    · exact leT_refl _
  · rw [if_neg hc]
    refine ⟨by omega, by omega, by omega, fun k h0 hk he => ?_⟩
    have : k = 2 * i + 1 ∨ k = 2 * i + 2 := by omega
    rcases this with rfl | rfl
    · exact leT_refl _
    · exact (not_less _ _).1 (fun hl => hc ⟨hk, hl⟩)
theorem down_heap : ∀ (d i n : Nat) (ts : List (Nat × Tm)), n - i ≤ d → n ≤ ts.length → (∀ k, 0 < k → k < n → (k - 1) / 2 ≠ i → leT (tm ts ((k - 1) / 2)) (tm ts k)) →
    (∀ k, 0 < k → k < n → (k - 1) / 2 = i → 0 < i → leT (tm ts ((i - 1) / 2)) (tm ts k)) → Heap (downL ts i n) n := by
  intro d
  induction d with
  | zero =>
    intro i n ts hd hn h1 h2
    rw [downL, dif_pos (by omega)]
    exact fun k h0 hk => h1 k h0 hk (by omega)
  | succ d ih =>
    intro i n ts hd hn h1 h2
    rw [downL]
    split
    · rename_i h
      exact fun k h0 hk => h1 k h0 hk (by omega)
    · rename_i h
      obtain ⟨k1, k2, k3, k4⟩ := kid_is ts i n h
      generalize kid ts i n = c at *
      split
      · rename_i hl
        have hle : leT (tm ts c) (tm ts i) := leT_of_less hl
        have sw := fun k => tm_swap ts i c k (by omega) (by omega)
        refine ih c n (swapL ts i c) (by omega) (by rw [swapL_length]; exact hn) ?_ ?_
        · intro k h0 hk hne
          rw [sw, sw, if_neg hne]
          by_cases e : k = c
          · subst e
            rw [if_pos k3, if_pos rfl]
            exact hle
          · rw [if_neg e]
            by_cases e2 : k = i
            · subst e2
              rw [if_neg (show ¬ (k - 1) / 2 = k by omega), if_pos rfl]
              exact h2 c (by omega) k1 k3 h0
            · rw [if_neg e2]
              by_cases e3 : (k - 1) / 2 = i
              · rw [if_pos e3]
                exact k4 k h0 hk e3
              · rw [if_neg e3]
                exact h1 k h0 hk e3
        · intro k h0 hk he hc0
          rw [sw, sw, k3, if_neg (show ¬ i = c by omega), if_pos rfl, if_neg (show ¬ k = c by omega), if_neg (show ¬ k = i by omega)]
          have := h1 k h0 hk (by omega)
          rw [he] at this
          exact this
      · rename_i hl
        have hle : leT (tm ts i) (tm ts c) := (not_less _ _).1 hl
        intro k h0 hk
        by_cases e : (k - 1) / 2 = i
        · rw [e]
          exact leT_trans hle (k4 k h0 hk e)
        · exact h1 k h0 hk e
end Go.Proofs.Ytioaihimmmjhcaa.T
