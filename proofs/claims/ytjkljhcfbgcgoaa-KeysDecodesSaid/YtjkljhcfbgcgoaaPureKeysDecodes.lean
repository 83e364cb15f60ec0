/- KeysDecodes: every Decode is the document's: true for every bytes. -/
import Derived.Test.YtjkljhcfbgcgoaaM10
import Derived.Test.YtjkljhcfbgcgoaaQ11
set_option linter.unusedVariables false
set_option linter.unusedSimpArgs false
namespace Go.Proofs.Ytjkljhcfbgcgoaa.Pure
open Go.RowKit Go.Proofs.Ytjkljhcfbgcgoaa.K Go.Proofs.YtjkljhcfbgcgoaaW.PrintWords Go.Proofs.YtjkljhcfbgcgoaaW.PrintLast Go.Proofs.Ytjkljhcfbgcgoaa.Q

theorem KeysDecodes : musterlaw01_KeysDecodes.Pure := by
  intro s _
  obtain ⟨r, hl, h1, h2⟩ := both_ev s
  refine Ev.rounds (g := fun k => musterlaw01_KeysDecodes.f k s) ?_
  unfold musterlaw01_KeysDecodes.f
  refine Ev.bind fixed_ev ?_
  simp only [↓reduceIte]
  refine Ev.bind h2 ?_
  refine Ev.bind h1 ?_
  refine Ev.bind (same_ev r.1 r.1 (by omega)) ?_
  simp only [same_self, ↓reduceIte, beq_self_eq_true]
  exact Ev.now _
end Go.Proofs.Ytjkljhcfbgcgoaa.Pure
