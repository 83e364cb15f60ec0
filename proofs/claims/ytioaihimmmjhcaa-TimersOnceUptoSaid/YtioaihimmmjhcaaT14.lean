/- timers: the chapter's example, reckoned. -/
import Derived.Test.YtioaihimmmjhcaaT13
set_option linter.unusedVariables false
set_option linter.unusedSimpArgs false
namespace Go.Proofs.Ytioaihimmmjhcaa.T
open Go.RowKit Go.Maps Go.Proofs.YtioaihimmmjhcaaW.PrintWords

theorem up_a (a : Nat) : upL ([] ++ [(a, ⟨5, 0, 1⟩)]) ([] : List (Nat × Tm)).length = [(a, ⟨5, 0, 1⟩)] := by
  rw [upL]; simp
theorem up_b (a b : Nat) : upL ([(a, ⟨5, 0, 1⟩)] ++ [(b, ⟨3, 1, 2⟩)]) [(a, (⟨5, 0, 1⟩ : Tm))].length = [(b, ⟨3, 1, 2⟩), (a, ⟨5, 0, 1⟩)] := by
  rw [upL]
  simp [lessT, swapL]
  rw [upL]
  simp
theorem up_c (a b c : Nat) : upL ([(b, ⟨3, 1, 2⟩), (a, ⟨5, 0, 1⟩)] ++ [(c, ⟨5, 2, 3⟩)]) [(b, (⟨3, 1, 2⟩ : Tm)), (a, ⟨5, 0, 1⟩)].length = [(b, ⟨3, 1, 2⟩), (a, ⟨5, 0, 1⟩), (c, ⟨5, 2, 3⟩)] := by
  rw [upL]
  simp [lessT, swapL]
theorem pop_a (a b c : Nat) : popL [(b, ⟨3, 1, 2⟩), (a, ⟨5, 0, 1⟩), (c, ⟨5, 2, 3⟩)] = [(a, ⟨5, 0, 1⟩), (c, ⟨5, 2, 3⟩), (b, ⟨3, 1, 2⟩)] := by
  unfold popL
  simp only [swapL, List.length_cons, List.length_nil]
  rw [downL]
  simp [kid, lessT, swapL]
  rw [downL]
  simp
theorem pop_b (a c : Nat) : popL [(a, ⟨5, 0, 1⟩), (c, ⟨5, 2, 3⟩)] = [(c, ⟨5, 2, 3⟩), (a, ⟨5, 0, 1⟩)] := by
  unfold popL
  simp only [swapL, List.length_cons, List.length_nil]
  rw [downL]
  simp
theorem pop_c (c : Nat) : popL [(c, ⟨5, 2, 3⟩)] = [(c, ⟨5, 2, 3⟩)] := by
  unfold popL
  simp only [swapL, List.length_cons, List.length_nil]
  rw [downL]
  simp
theorem adv_a (a b c : Nat) : advL [(b, ⟨3, 1, 2⟩), (a, ⟨5, 0, 1⟩), (c, ⟨5, 2, 3⟩)] 4 = ([2], [(a, ⟨5, 0, 1⟩), (c, ⟨5, 2, 3⟩)]) := by
  rw [advL, dif_pos (by simp), pop_a]
  simp only [List.length_cons, List.length_nil, List.take_succ_cons, List.take_zero, Nat.reduceAdd, Nat.reduceSub]
  rw [advL, dif_neg (by simp)]
  rfl
theorem adv_b (a c : Nat) : advL [(a, ⟨5, 0, 1⟩), (c, ⟨5, 2, 3⟩)] 9 = ([1, 3], []) := by
  rw [advL, dif_pos (by simp), pop_b]
  simp only [List.length_cons, List.length_nil, List.take_succ_cons, List.take_zero, Nat.reduceAdd, Nat.reduceSub]
  rw [advL, dif_pos (by simp), pop_c]
  simp only [List.length_cons, List.length_nil, List.take_succ_cons, List.take_zero, Nat.reduceAdd, Nat.reduceSub]
  rw [advL, dif_neg (by simp)]
  rfl
abbrev D1 : DataW Unit := (DataW.map []).put (idL 1) (.lit (.bool true))
abbrev D2 : DataW Unit := D1.put (idL 2) (.lit (.bool true))
theorem free1 : (DataW.map [] : DataW Unit).atKey (idL 1) (.lit (.bool false)) = .lit (.bool false) := by kernel_rfl
theorem free2 : D1.atKey (idL 2) (.lit (.bool false)) = .lit (.bool false) := by kernel_rfl
theorem free3 : D2.atKey (idL 3) (.lit (.bool false)) = .lit (.bool false) := by kernel_rfl
theorem wrap_a : IntKind.u64.wrap (0 + 1) = 1 := by decide +kernel
theorem wrap_b : IntKind.u64.wrap (1 + 1) = 2 := by decide +kernel
end Go.Proofs.Ytioaihimmmjhcaa.T
