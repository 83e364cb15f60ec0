-- Written by a program of this session (wip/tools/printfam.py) out of the translation; hand-proved contracts set in. Lean checks it.
import Derived.Test.YtioaihimmmjhcaaK0
namespace Go.Proofs.Ytioaihimmmjhcaa.K
open Go.RowKit Go.Proofs.YtioaihimmmjhcaaW.PrintWords Go.Proofs.YtioaihimmmjhcaaW.PrintLast Go.Proofs.YtioaihimmmjhcaaW.PrintMore
attribute [local go_sem] max2_int min2_int max_two min_two max_three min_three max_four min_four   -- for this text's walks alone
set_option linter.unusedVariables false
set_option linter.unusedSimpArgs false

/-! ### musterlaw14_timersAlive: function 6 -/
-- HAND
def musterlaw14_timersAlive.f : Option (Bool) := some true
theorem musterlaw14_timersAlive.calls (r : Bool) (w : World) (h : musterlaw14_timersAlive.f = some r) :
    Calls Try.prog 6 #[] w fun e w' => e = .returned (.bool r) ∧ Below w.heap.size w w' := by
  unfold musterlaw14_timersAlive.f at h
  simp only [Option.some.injEq] at h
  subst h
  exact T.alive w


end Go.Proofs.Ytioaihimmmjhcaa.K
