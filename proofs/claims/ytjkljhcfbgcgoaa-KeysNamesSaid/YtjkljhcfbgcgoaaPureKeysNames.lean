/- KeysNames: one key that the document fixes, and the numbers of the errors, limits and kinds: true, with no condition. -/
import Derived.Test.YtjkljhcfbgcgoaaK17
namespace Go.Proofs.Ytjkljhcfbgcgoaa.Pure
open Go.RowKit Go.Proofs.Ytjkljhcfbgcgoaa.K Go.Proofs.YtjkljhcfbgcgoaaW.PrintWords Go.Proofs.YtjkljhcfbgcgoaaW.PrintLast

theorem KeysNames : musterlaw01_KeysNames.Pure := by
  unfold musterlaw01_KeysNames.Pure
  decide +kernel

end Go.Proofs.Ytjkljhcfbgcgoaa.Pure
