/- timers, plain: what Pop takes and leaves. -/
import Derived.Test.YtioaihimmmjhcaaO3
set_option linter.unusedVariables false
set_option linter.unusedSimpArgs false
namespace Go.Proofs.Ytioaihimmmjhcaa.T

theorem swapL_getD (ts : List (Nat × Tm)) (i j k : Nat) (hi : i < ts.length) (hj : j < ts.length) (h1 : k ≠ i) (h2 : k ≠ j) : (swapL ts i j).getD k default = ts.getD k default := by
  by_cases hk : k < ts.length
  · have e := (get_of (swapL ts i j) k (by rw [swapL_length]; exact hk)).trans (swapL_get ts i j k hi hj (by rw [swapL_length]; exact hk))
    rw [e, if_neg h2, if_neg h1]
    exact (get_of ts k hk).symm
  · rw [List.getD_eq_getElem?_getD, List.getD_eq_getElem?_getD, List.getElem?_eq_none (by rw [swapL_length]; omega), List.getElem?_eq_none (by omega)]
theorem down_far : ∀ (d i n : Nat) (ts : List (Nat × Tm)), n - i ≤ d → n ≤ ts.length → ∀ k, n ≤ k → (downL ts i n).getD k default = ts.getD k default := by
  intro d
  induction d with
  | zero => intro i n ts hd hn k hk; rw [downL, dif_pos (by omega)]
  | succ d ih =>
    intro i n ts hd hn k hk
    rw [downL]
    split
    · rfl
    · rename_i h
      obtain ⟨k1, k2, _, _⟩ := kid_is ts i n h
      split
      · rw [ih _ n _ (by omega) (by rw [swapL_length]; exact hn) k hk]
        exact swapL_getD ts i _ k (by omega) (by omega) (by omega) (by omega)
      · rfl
theorem pop_last (ts : List (Nat × Tm)) (n : Nat) (hn : ts.length = n + 1) : (popL ts).getD n default = ts.getD 0 default := by
  have e : ts.length - 1 = n := by omega
  unfold popL
  rw [e, down_far n 0 n _ (by omega) (by rw [swapL_length]; omega) n (Nat.le_refl _)]
  have e2 := (get_of (swapL ts 0 n) n (by rw [swapL_length]; omega)).trans (swapL_get ts 0 n n (by omega) (by omega) (by rw [swapL_length]; omega))
  rw [e2, if_pos rfl]
  exact (get_of ts 0 (by omega)).symm
theorem pop_heap (ts : List (Nat × Tm)) (n : Nat) (hn : ts.length = n + 1) (h : Heap ts ts.length) : Heap (popL ts) n := by
  have e : ts.length - 1 = n := by omega
  unfold popL
  rw [e]
  have sw := fun k => tm_swap ts 0 n k (by omega) (by omega)
  refine down_heap n 0 n _ (by omega) (by rw [swapL_length]; omega) ?_ (fun k _ _ _ h0 => absurd h0 (by omega))
  intro k h0 hk hne
  rw [sw, sw, if_neg (show ¬ (k - 1) / 2 = n by omega), if_neg hne, if_neg (show ¬ k = n by omega), if_neg (show ¬ k = 0 by omega)]
  exact h k h0 (by omega)
end Go.Proofs.Ytioaihimmmjhcaa.T
