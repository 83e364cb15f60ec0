/- timers, plain: the order of timers; what a heap is. -/
import Derived.Test.YtioaihimmmjhcaaT11
set_option linter.unusedVariables false
set_option linter.unusedSimpArgs false
namespace Go.Proofs.Ytioaihimmmjhcaa.T

/-- at or ahead of -/
def leT (a b : Tm) : Prop := a.at_ < b.at_ ∨ (a.at_ = b.at_ ∧ a.ord ≤ b.ord)
theorem lessT_iff (a b : Tm) : lessT a b = true ↔ a.at_ < b.at_ ∨ (a.at_ = b.at_ ∧ a.ord < b.ord) := by
  unfold lessT
  by_cases h : a.at_ = b.at_
  · simp [h]
  · simp [h]
theorem not_less (a b : Tm) : ¬ lessT a b = true ↔ leT b a := by
  rw [lessT_iff]
  unfold leT
  omega
theorem leT_refl (a : Tm) : leT a a := .inr ⟨rfl, Int.le_refl _⟩
theorem leT_trans {a b c : Tm} (h : leT a b) (k : leT b c) : leT a c := by unfold leT at *; omega
theorem leT_total (a b : Tm) : leT a b ∨ leT b a := by unfold leT; omega
theorem leT_of_less {a b : Tm} (h : lessT a b = true) : leT a b := by rw [lessT_iff] at h; unfold leT; omega
def tm (ts : List (Nat × Tm)) (i : Nat) : Tm := (ts.getD i default).2
/-- each is at or behind its parent -/
def Heap (ts : List (Nat × Tm)) (n : Nat) : Prop := ∀ i, 0 < i → i < n → leT (tm ts ((i - 1) / 2)) (tm ts i)
theorem heap_min {ts : List (Nat × Tm)} {n : Nat} (h : Heap ts n) : ∀ i, i < n → leT (tm ts 0) (tm ts i) := by
  intro i
  induction i using Nat.strongRecOn with
  | _ i ih =>
    intro hi
    rcases Nat.eq_zero_or_pos i with rfl | h0
    · exact leT_refl _
    · exact leT_trans (ih ((i - 1) / 2) (by omega) (by omega)) (h i h0 hi)
theorem tm_swap (ts : List (Nat × Tm)) (i j k : Nat) (hi : i < ts.length) (hj : j < ts.length) : tm (swapL ts i j) k = if k = j then tm ts i else if k = i then tm ts j else tm ts k := by
  unfold tm
  by_cases hk : k < ts.length
  · have e := (get_of (swapL ts i j) k (by rw [swapL_length]; exact hk)).trans (swapL_get ts i j k hi hj (by rw [swapL_length]; exact hk))
    rw [e]
    split
    · exact congrArg (·.2) (get_of ts i hi).symm
    · split
      · exact congrArg (·.2) (get_of ts j hj).symm
      · exact congrArg (·.2) (get_of ts k hk).symm
  · have h1 : k ≠ j := by omega
    have h2 : k ≠ i := by omega
    rw [if_neg h1, if_neg h2, List.getD_eq_getElem?_getD, List.getD_eq_getElem?_getD, List.getElem?_eq_none (by rw [swapL_length]; omega), List.getElem?_eq_none (by omega)]
end Go.Proofs.Ytioaihimmmjhcaa.T
