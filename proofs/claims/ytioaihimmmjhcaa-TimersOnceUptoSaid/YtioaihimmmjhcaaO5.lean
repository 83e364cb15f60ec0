/- timers, plain: what Advance fires and leaves. -/
import Derived.Test.YtioaihimmmjhcaaO4
set_option linter.unusedVariables false
set_option linter.unusedSimpArgs false
namespace Go.Proofs.Ytioaihimmmjhcaa.T

theorem tm_mem (ts : List (Nat × Tm)) (y : Nat × Tm) (h : y ∈ ts) : ∃ i, i < ts.length ∧ tm ts i = y.2 := by
  obtain ⟨i, hi, rfl⟩ := List.getElem_of_mem h
  exact ⟨i, hi, by unfold tm; rw [get_of ts i hi]⟩
/-- the timers that fire, in order; what is left is a heap of later ones -/
theorem adv_facts : ∀ (n : Nat) (ts : List (Nat × Tm)) (now : Int), ts.length ≤ n → Heap ts ts.length →
    ∃ fired : List Tm, (advL ts now).1 = fired.map (·.id) ∧ fired.Pairwise leT ∧ (∀ x ∈ fired, x.at_ ≤ now) ∧ (∀ y ∈ (advL ts now).2, now < y.2.at_) ∧
      Heap (advL ts now).2 (advL ts now).2.length ∧ (fired ++ (advL ts now).2.map (·.2)).Perm (ts.map (·.2)) := by
  intro n
  induction n with
  | zero =>
    intro ts now hn h
    have : ts = [] := List.length_eq_zero_iff.1 (by omega)
    subst this
    rw [advL, dif_neg (by simp)]
    exact ⟨[], rfl, List.Pairwise.nil, by simp, by simp, h, by simp⟩
  | succ n ih =>
    intro ts now hn h
    rw [advL]
    split
    · rename_i hc
      obtain ⟨m, hm⟩ : ∃ m, ts.length = m + 1 := ⟨ts.length - 1, by omega⟩
      have e : ts.length - 1 = m := by omega
      rw [e, pop_last ts m hm]
      have hpl : (popL ts).length = m + 1 := by rw [(popL_perm ts hc.1).length_eq]; exact hm
      have hpt : popL ts = (popL ts).take m ++ [(popL ts).getD m default] := by
        rw [get_of (popL ts) m (by omega), ← List.take_succ_eq_append_getElem (by omega), List.take_of_length_le (by omega)]
      have htl : ((popL ts).take m).length = m := by rw [List.length_take]; omega
      have hh : Heap ((popL ts).take m) ((popL ts).take m).length := by
        rw [htl]
        have := pop_heap ts m hm h
        intro i h0 hi
        have e2 : ∀ k, k < m → tm ((popL ts).take m) k = tm (popL ts) k := fun k hk => by
          unfold tm
          rw [List.getD_eq_getElem?_getD, List.getD_eq_getElem?_getD, List.getElem?_take_of_lt hk]
        rw [e2 _ (by omega), e2 _ hi]
        exact this i h0 hi
      obtain ⟨fired, f1, f2, f3, f4, f5, f6⟩ := ih ((popL ts).take m) now (by omega) hh
      have hperm : ((ts.getD 0 default).2 :: ((popL ts).take m).map (·.2)).Perm (ts.map (·.2)) := by
        have h1 := (popL_perm ts hc.1).map (·.2)
        rw [hpt, pop_last ts m hm, List.map_append] at h1
        exact List.perm_append_comm.trans h1 |> fun q => by simpa using q
      refine ⟨(ts.getD 0 default).2 :: fired, by simp [f1], List.pairwise_cons.2 ⟨fun x hx => ?_, f2⟩, ?_, f4, f5, ?_⟩
      · have hx2 : x ∈ ts.map (·.2) := hperm.mem_iff.1 (List.mem_cons_of_mem _ (f6.mem_iff.1 (List.mem_append.2 (.inl hx))))
        obtain ⟨y, hy, rfl⟩ := List.mem_map.1 hx2
        obtain ⟨i, hi, hi2⟩ := tm_mem ts y hy
        rw [← hi2]
        exact heap_min h i hi
      · intro x hx
        rcases List.mem_cons.1 hx with rfl | hx
        · exact hc.2
        · exact f3 x hx
      · rw [List.cons_append]
        exact (List.Perm.cons _ f6).trans hperm
    · rename_i hc
      refine ⟨[], rfl, List.Pairwise.nil, by simp, fun y hy => ?_, h, by simp⟩
      have h0 : 0 < ts.length := List.length_pos_of_mem hy
      have hat : now < (tm ts 0).at_ := by
        have : ¬ (ts.getD 0 default).2.at_ ≤ now := fun q => hc ⟨h0, q⟩
        unfold tm; omega
      obtain ⟨i, hi, hi2⟩ := tm_mem ts y hy
      have := heap_min h i hi
      rw [hi2] at this
      unfold leT at this
      omega
end Go.Proofs.Ytioaihimmmjhcaa.T
