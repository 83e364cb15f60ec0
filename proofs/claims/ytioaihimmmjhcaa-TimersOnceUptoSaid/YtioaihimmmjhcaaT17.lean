/- timers: append of a row of whole numbers; Len over the word Wf. -/
import Derived.Test.YtioaihimmmjhcaaT15
import Derived.Laws.AppendOwnNone
set_option linter.unusedVariables false
set_option linter.unusedSimpArgs false
namespace Go.Proofs.Ytioaihimmmjhcaa.T
open Go.RowKit Go.Maps Go.Proofs.YtioaihimmmjhcaaW.PrintWords

theorem wpList_appI {ops : Array Oper} {rest : List Oper} {o : Oper} {a : Act} {Q : Exit → Act → World → Prop} (hgd : o.guard = none) (s x : Operand)
    (ho : o.op = .call { callee := .builtin .append, args := #[s, x], argTypes := #[29, 29] }) (w : World) (base : Nat) (v : Value) (n : Nat) (l : List Int) (hs : a.eval s = v) (hown : w.ownsRow base 3 1 v n (intsOf l))
    (base1 : Nat) (vx : Value) (m : Nat) (l1 : List Int) (hx : a.eval x = vx) (hsrc : w.ownsRow base1 3 1 vx m (intsOf l1)) (hn : n < 3000000000000) (hm : m < 3000000000000) (hb : base ≤ w.heap.size)
    (h : ∀ v' w', w'.ownsRow base 3 1 v' (n + m) (intsOf (l ++ l1)) → w.grownBy w' v.ownBlock → wpList Try.prog ops Q rest (a.put o.dst v') w') : wpList Try.prog ops Q (o :: rest) a w := by
  obtain ⟨i0, hi, hz0, hz1, hz2⟩ := info_parts infoInt
  have ea : intsOf (l ++ l1) = intsOf l ++ intsOf l1 := by simp [intsOf]
  rw [ea] at h
  have hsrc' := hsrc
  rcases hsrc.2 with ⟨rfl, rfl⟩ | ⟨g, cap, cur, rfl, hbg, hg, hnc, hcm, hcs, htake⟩
  · have e0 : intsOf l1 = [] := List.length_eq_zero_iff.1 (by simpa using hsrc.1)
    refine wpList_append_own_none hgd s x 29 ho base 3 i0 1 Try.underlying29 hi v n (intsOf l) hs hown hx ?_
    refine h v w ?_ ⟨rfl, rfl, rfl, Nat.le_refl _, fun _ _ _ => rfl⟩
    rw [e0, List.append_nil]
    exact hown
  · refine wpList_append_own w hgd s x 29 ho base 3 i0 (.int .i64 0) 1 8 Try.underlying29 hi hz0 hz1 hz2 rfl (by decide) v n (intsOf l) hs hown ⟨g, 0, none⟩ m cap (intsOf l1) hx hsrc.1 (hsrc'.cells (g := g) rfl) ?_ (by unfold maxLen; omega) (by omega) hb (fun v' w' h2 h3 _ => h v' w' h2 h3)
    intro u hu
    obtain ⟨z, _, rfl⟩ := List.mem_map.1 hu
    rfl
theorem wheelLen (w : World) (b M k : Nat) (ts : List (Nat × Tm)) (now sets most : Int) (v : Value) (D : DataW Unit) (hw : Wf w b M now sets most v ts k D) :
    Calls Try.prog 10 #[.pointer (some ⟨b, 0, none⟩)] w fun e w' => e = .returned (.int .i64 ts.length) ∧ w' = w := by
  have hb := hw.blk
  rcases hw.line with ⟨rfl, rfl⟩ | ⟨L, cap, rfl, _⟩
  · exact wlen w b 0 now sets most none 0 _ hb
  · exact wlen w b ts.length now sets most _ cap _ hb
end Go.Proofs.Ytioaihimmmjhcaa.T
