/- timers, plain: two steps of the clock fire what one does. -/
import Derived.Test.YtioaihimmmjhcaaO5
set_option linter.unusedVariables false
set_option linter.unusedSimpArgs false
namespace Go.Proofs.Ytioaihimmmjhcaa.T

theorem sorted_unique : ∀ (a b : List Tm), a.Perm b → a.Pairwise leT → b.Pairwise leT → (∀ x ∈ a, ∀ y ∈ a, leT x y → leT y x → x = y) → a = b
  | [], b, h, _, _, _ => h.nil_eq
  | x :: a, [], h, _, _, _ => absurd h.length_eq (by simp)
  | x :: a, y :: b, h, ha, hb, hd => by
    have hx : x ∈ y :: b := h.mem_iff.1 (by simp)
    have hy : y ∈ x :: a := h.mem_iff.2 (by simp)
    have hxy : leT x y := by
      rcases List.mem_cons.1 hy with e | e
      · rw [e]; exact leT_refl _
      · exact (List.pairwise_cons.1 ha).1 y e
    have hyx : leT y x := by
      rcases List.mem_cons.1 hx with e | e
      · rw [e]; exact leT_refl _
      · exact (List.pairwise_cons.1 hb).1 x e
    have e := hd x (by simp) y hy hxy hyx
    subst e
    rw [sorted_unique a b ((List.perm_cons x).1 h) (List.pairwise_cons.1 ha).2 (List.pairwise_cons.1 hb).2 (fun u hu v hv => hd u (List.mem_cons_of_mem _ hu) v (List.mem_cons_of_mem _ hv))]
theorem two_steps (ts us : List (Nat × Tm)) (mid end_ : Int) (hme : mid ≤ end_) (ht : Heap ts ts.length) (hu : Heap us us.length) (hp : (ts.map (·.2)).Perm (us.map (·.2)))
    (hd : ∀ x ∈ ts.map (·.2), ∀ y ∈ ts.map (·.2), x.ord = y.ord → x = y) :
    (advL ts mid).1 ++ (advL (advL ts mid).2 end_).1 = (advL us end_).1 ∧ (advL (advL ts mid).2 end_).2.length = (advL us end_).2.length := by
  obtain ⟨f, f1, f2, f3, f4, f5, f6⟩ := adv_facts _ ts mid (Nat.le_refl _) ht
  obtain ⟨g, g1, g2, g3, g4, g5, g6⟩ := adv_facts _ (advL ts mid).2 end_ (Nat.le_refl _) f5
  obtain ⟨k, k1, k2, k3, k4, k5, k6⟩ := adv_facts _ us end_ (Nat.le_refl _) hu
  have hall : ((f ++ g) ++ (advL (advL ts mid).2 end_).2.map (·.2)).Perm (k ++ (advL us end_).2.map (·.2)) := by
    rw [List.append_assoc]
    exact ((List.Perm.append_left f g6).trans f6).trans (hp.trans k6.symm)
  have hfil := hall.filter (fun x => decide (x.at_ ≤ end_))
  rw [List.filter_append (f ++ g), List.filter_append k] at hfil
  have e1 : (f ++ g).filter (fun x => decide (x.at_ ≤ end_)) = f ++ g := List.filter_eq_self.2 (fun x hx => by
    rcases List.mem_append.1 hx with h | h
    · have := f3 x h; simp; omega
    · simpa using g3 x h)
  have e2 : k.filter (fun x => decide (x.at_ ≤ end_)) = k := List.filter_eq_self.2 (fun x hx => by simpa using k3 x hx)
  have e3 : ((advL (advL ts mid).2 end_).2.map (·.2)).filter (fun x => decide (x.at_ ≤ end_)) = [] := List.filter_eq_nil_iff.2 (fun x hx => by
    obtain ⟨y, hy, rfl⟩ := List.mem_map.1 hx
    have := g4 y hy; simp; omega)
  have e4 : ((advL us end_).2.map (·.2)).filter (fun x => decide (x.at_ ≤ end_)) = [] := List.filter_eq_nil_iff.2 (fun x hx => by
    obtain ⟨y, hy, rfl⟩ := List.mem_map.1 hx
    have := k4 y hy; simp; omega)
  rw [e1, e2, e3, e4, List.append_nil, List.append_nil] at hfil
  have hmem : ∀ x ∈ f ++ g, x ∈ ts.map (·.2) := fun x hx => by
    rcases List.mem_append.1 hx with h | h
    · exact f6.mem_iff.1 (List.mem_append.2 (.inl h))
    · exact f6.mem_iff.1 (List.mem_append.2 (.inr (g6.mem_iff.1 (List.mem_append.2 (.inl h)))))
  have hs : (f ++ g).Pairwise leT := List.pairwise_append.2 ⟨f2, g2, fun x hx y hy => by
    have h1 := f3 x hx
    have hy2 := g6.mem_iff.1 (List.mem_append.2 (.inl hy))
    obtain ⟨z, hz, rfl⟩ := List.mem_map.1 hy2
    have h2 := f4 z hz
    unfold leT; omega⟩
  have heq := sorted_unique (f ++ g) k hfil hs k2 (fun x hx y hy h1 h2 => hd x (hmem x hx) y (hmem y hy) (by unfold leT at h1 h2; omega))
  refine ⟨by rw [f1, g1, k1, ← List.map_append, heq], ?_⟩
  rw [heq] at hall
  have hl := hall.length_eq
  rw [List.length_append, List.length_append, List.length_map, List.length_map] at hl
  omega
end Go.Proofs.Ytioaihimmmjhcaa.T
