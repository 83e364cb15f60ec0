/- KeysEncodes and KeysBegins, plainly: both come to one answer. -/
import Derived.Test.YtjkljhcfbgcgoaaM0
import Derived.Test.YtjkljhcfbgcgoaaM1
import Derived.Test.YtjkljhcfbgcgoaaM2
import Derived.Test.YtjkljhcfbgcgoaaR1
set_option linter.unusedVariables false
set_option linter.unusedSimpArgs false
namespace Go.Proofs.Ytjkljhcfbgcgoaa.Q
open Go.RowKit Go.Proofs.Ytjkljhcfbgcgoaa.K Go.Proofs.YtjkljhcfbgcgoaaW.PrintWords Go.Proofs.YtjkljhcfbgcgoaaW.PrintLast

theorem fixed_f : musterlaw01_keysFixed.f = some true := by decide +kernel
theorem fixed_ev : Ev (fun _ => musterlaw01_keysFixed.f) true := Ev.congr (fun _ => fixed_f) (Ev.now _)
theorem Ev.const {α : Type} {o : Option α} {r : α} (h : o = some r) : Ev (fun _ => o) r := Ev.congr (fun _ => h) (Ev.now _)

theorem Encodes (l : List S36) (hw : ∀ p ∈ l, wfP p) (hb : R.wt l ≤ 1048576) : ∃ k, musterlaw01_KeysEncodes.f k l = some true := by
  have h1 := R.enc_le l false
  have h2 := R.wt_length l
  refine Ev.rounds (g := fun k => musterlaw01_KeysEncodes.f k l) ?_
  unfold musterlaw01_KeysEncodes.f
  refine Ev.bind fixed_ev ?_
  simp only [↓reduceIte]
  refine Ev.bind (encode_ev l false hw (fun _ => by omega) (by omega)) ?_
  refine Ev.bind (copied_ev l (by omega)) ?_
  refine Ev.bind (Ev.const (encode_f l (fun _ => by omega))) ?_
  simp only [↓reduceIte, beq_self_eq_true]
  exact Ev.now _
theorem Begins (l : List S36) (hw : ∀ p ∈ l, wfP p) (hb : R.wt l ≤ 1048576) : ∃ k, musterlaw01_KeysBegins.f k l = some true := by
  have h1 := R.enc_le l true
  have h2 := R.wt_length l
  refine Ev.rounds (g := fun k => musterlaw01_KeysBegins.f k l) ?_
  unfold musterlaw01_KeysBegins.f
  refine Ev.bind fixed_ev ?_
  simp only [↓reduceIte]
  refine Ev.bind (encode_ev l true hw (fun _ => by omega) (by omega)) ?_
  refine Ev.bind (copied_ev l (by omega)) ?_
  refine Ev.bind (Ev.const (begin_f l (fun _ => by omega))) ?_
  simp only [↓reduceIte, beq_self_eq_true]
  exact Ev.now _
end Go.Proofs.Ytjkljhcfbgcgoaa.Q
