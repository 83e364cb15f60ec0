/- TimersNames: the errors have their numbers. -/
import Derived.Test.YtioaihimmmjhcaaK11
namespace Go.Proofs.Ytioaihimmmjhcaa.Pure
open Go.Proofs.Ytioaihimmmjhcaa.K
theorem TimersNames : musterlaw14_TimersNames.Pure := by
  unfold musterlaw14_TimersNames.Pure musterlaw14_TimersNames.f musterlaw14_timersAlive.f
  rfl
end Go.Proofs.Ytioaihimmmjhcaa.Pure
