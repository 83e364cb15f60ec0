/- joined: N7 -/
import Derived.Test.YtjhgknagmiekeaaJC15
import Derived.Test.YtjhgknagmiekeaaJC17
set_option linter.unusedVariables false
set_option linter.unusedSimpArgs false
namespace Go.Proofs.Ytjhgknagmiekeaa.N
open Go.RowKit Go.Proofs.Ytjhgknagmiekeaa.K Go.Proofs.YtjhgknagmiekeaaW.PrintWords Go.Proofs.YtjhgknagmiekeaaW.PrintLast
open Go.Proofs.Ytjhgknagmiekeaa.V (valI ovr ovrs ownE ovr_eq pre skU kpU skF kpF skL)
abbrev ints (l : List Nat) : List Int := l.map (fun (i : Nat) => (i : Int))
def upto (xs : List ByteArray) (p : ByteArray → Bool) (n : Nat) : List Nat := (List.range n).filter (fun i => p (gd xs i))
end Go.Proofs.Ytjhgknagmiekeaa.N
