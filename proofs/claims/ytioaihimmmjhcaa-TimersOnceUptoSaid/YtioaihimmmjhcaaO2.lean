/- timers, plain: up and down make a heap. -/
import Derived.Test.YtioaihimmmjhcaaO1
set_option linter.unusedVariables false
set_option linter.unusedSimpArgs false
namespace Go.Proofs.Ytioaihimmmjhcaa.T

theorem up_heap : ∀ (j : Nat) (ts : List (Nat × Tm)), j < ts.length → (∀ i, 0 < i → i < ts.length → i ≠ j → leT (tm ts ((i - 1) / 2)) (tm ts i)) →
    (∀ i, 0 < i → i < ts.length → (i - 1) / 2 = j → 0 < j → leT (tm ts ((j - 1) / 2)) (tm ts i)) → Heap (upL ts j) ts.length := by
  intro j
  induction j using Nat.strongRecOn with
  | _ j ih =>
    intro ts hj h1 h2
    rw [upL]
    split
    · rename_i h
      have hj0 : j = 0 := by omega
      subst hj0
      exact fun i hi hn => h1 i hi hn (by omega)
    · rename_i h
      have hp : (j - 1) / 2 < j := by omega
      split
      · rename_i hl
        have hle : leT (tm ts j) (tm ts ((j - 1) / 2)) := leT_of_less hl
        have sw := fun k => tm_swap ts ((j - 1) / 2) j k (by omega) hj
        have := ih ((j - 1) / 2) hp (swapL ts ((j - 1) / 2) j) (by rw [swapL_length]; omega) ?_ ?_
        · rw [swapL_length] at this; exact this
        · intro i h0 hi hne
          rw [swapL_length] at hi
          rw [sw, sw]
          by_cases e : i = j
          · subst e
            rw [if_neg (by omega), if_pos rfl, if_pos rfl]
            exact hle
          · rw [if_neg e, if_neg hne]
            by_cases e2 : (i - 1) / 2 = j
            · rw [if_pos e2]
              exact h2 i h0 hi e2 (by omega)
            · rw [if_neg e2]
              by_cases e3 : (i - 1) / 2 = (j - 1) / 2
              · rw [if_pos e3]
                have := h1 i h0 hi e
                rw [e3] at this
                exact leT_trans hle this
              · rw [if_neg e3]
                exact h1 i h0 hi e
        · intro i h0 hi he hp0
          rw [swapL_length] at hi
          rw [sw, sw]
          have q1 : ((j - 1) / 2 - 1) / 2 ≠ j := by omega
          have q2 : ((j - 1) / 2 - 1) / 2 ≠ (j - 1) / 2 := by omega
          rw [if_neg q1, if_neg q2]
          have up1 := h1 ((j - 1) / 2) hp0 (by omega) (by omega)
          by_cases e : i = j
          · rw [if_pos e]
            exact up1
          · have e4 : i ≠ (j - 1) / 2 := by omega
            rw [if_neg e, if_neg e4]
            have := h1 i h0 hi e
            rw [he] at this
            exact leT_trans up1 this
      · rename_i hl
        have hle : leT (tm ts ((j - 1) / 2)) (tm ts j) := (not_less _ _).1 hl
        intro i h0 hi
        by_cases e : i = j
        · subst e; exact hle
        · exact h1 i h0 hi e
end Go.Proofs.Ytioaihimmmjhcaa.T
