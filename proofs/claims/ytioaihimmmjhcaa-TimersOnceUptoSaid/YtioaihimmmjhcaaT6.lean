/- timers: (*line).Push at memory. -/
import Derived.Test.YtioaihimmmjhcaaT5
import Derived.Laws.AppendOwn
set_option linter.unusedVariables false
set_option linter.unusedSimpArgs false
namespace Go.Proofs.Ytioaihimmmjhcaa.T
open Go.RowKit Go.Proofs.YtioaihimmmjhcaaW.PrintWords

/-- a line's slice: nil, or a row of its own -/
def LineIs (w : World) (v : Value) (ts : List (Nat × Tm)) : Prop :=
  (v = .slice none 0 0 ∧ ts = []) ∨ ∃ L cap, v = .slice (some ⟨L, 0, none⟩) ts.length cap ∧ LineAt w L cap ts ∧ cap ≤ maxLen

theorem m_assert (a : Addr) (w : World) : (Instr.typeAssert (.iface 44 (.pointer (some a))) 20 44 false).run Try.prog w = .ok (.pointer (some a)) w := by kernel_rfl
theorem infoPtr : (Try.prog.info? 44).map (fun i => (i.zero, i.size, i.bytes)) = some (some (.pointer none), 1, 8) := by kernel_rfl

/-- one pointer put behind a line: in place, or in a new block -/
theorem wpList_app1 {ops : Array Oper} {rest : List Oper} {o : Oper} {a : Act} {Q : Exit → Act → World → Prop} (hgd : o.guard = none) (s x : Operand)
    (ho : o.op = .call { callee := .builtin .append, args := #[s, x], argTypes := #[41, 41] }) (w : World) (v : Value) (n : Nat) (xs : List Value) (hs : a.eval s = v) (hown : w.ownsRow 0 44 1 v n xs)
    (ad : Addr) (c : Nat) (new : Value) (hx : a.eval x = .slice (some ad) 1 c) (hnew : w.cell? ad = some new) (h1 : new.oneCell' = true) (hn : n < 4000000000000)
    (h : ∀ L cap w', w'.ownsRow 0 44 1 (.slice (some ⟨L, 0, none⟩) (n + 1) cap) (n + 1) (xs ++ [new]) → w.grownBy w' v.ownBlock → (v.ownBlock = some L ∨ w.heap.size ≤ L) →
      wpList Try.prog ops Q rest (a.put o.dst (.slice (some ⟨L, 0, none⟩) (n + 1) cap)) w') : wpList Try.prog ops Q (o :: rest) a w := by
  obtain ⟨i0, hi, hz0, hz1, hz2⟩ := info_parts infoPtr
  refine wpList_plain hgd fun K hK => ?_
  have hnews : ∀ j u, [new][j]? = some u → w.cell? (ad.add j) = some u := by
    intro j u hj
    match j, hj with
    | 0, hj => simp at hj; subst hj; simpa [Addr.add] using hnew
  obtain ⟨v', w', hr, h2, h3, h4⟩ := run_append_own (P := Try.prog) w 0 41 o.type 44 i0 (.pointer none) 1 8 Try.underlying41 hi hz0 hz1 hz2 rfl (by decide) v n xs hown ad 1 c [new] rfl hnews (by intro u hu; rw [List.mem_singleton] at hu; subst hu; exact h1) (by unfold maxLen; omega) (by omega) (by omega)
  have hL : ∃ L cap, v' = .slice (some ⟨L, 0, none⟩) (n + 1) cap ∧ (v.ownBlock = some L ∨ w.heap.size ≤ L) := by
    rcases hown.2 with ⟨rfl, rfl⟩ | ⟨g, cap, cur, rfl, hbg, hg, hnc, hcm, hcs, htake⟩
    · have e := run_append_nil (P := Try.prog) w 41 o.type 44 i0 (.pointer none) Try.underlying41 hi hz0 ad 1 c [new] (by rw [hz1]; rfl) hnews (by decide) (by decide) (by rw [hz2]; decide)
      rw [e] at hr
      simp only [Result.ok.injEq] at hr
      exact ⟨_, _, hr.1.symm, .inr (Nat.le_refl _)⟩
    · by_cases hroom : n + 1 ≤ cap
      · have e := run_append_room (P := Try.prog) w 41 o.type 44 i0 Try.underlying41 hi g n cap cur hg ad 1 c [new] (by rw [hz1]; rfl) hnews (by intro u hu; rw [List.mem_singleton] at hu; subst hu; exact h1) hroom (by rw [hz1, hcs]; simp; omega)
        rw [e] at hr
        simp only [Result.ok.injEq] at hr
        exact ⟨_, _, hr.1.symm, .inl rfl⟩
      · have holds : ∀ j u, xs[j]? = some u → w.cell? ((⟨g, 0, none⟩ : Addr).add j) = some u := hown.cells (g := g) rfl
        have e := run_append_grow (P := Try.prog) w 41 o.type 44 i0 (.pointer none) Try.underlying41 hi hz0 ⟨g, 0, none⟩ n cap xs (by rw [hz1]; exact hown.1) holds ad 1 c [new] (by rw [hz1]; rfl) hnews (by omega) (by omega) (growslice_fits (by omega) (by rw [hz2]; omega))
        rw [e] at hr
        simp only [Result.ok.injEq] at hr
        exact ⟨_, _, hr.1.symm, .inr (Nat.le_refl _)⟩
  obtain ⟨L, cap, rfl, hLb⟩ := hL
  unfold Oper.wp execOp
  simp only [ho, resolve, invoke, builtin, Sem.run_bind, Sem.run_pure, Result.andThen_ok, List.map_toArray, List.map_cons, List.map_nil, hs, hx, hr]
  exact hK _ _ (h L cap w' h2 h3 hLb)
end Go.Proofs.Ytioaihimmmjhcaa.T
