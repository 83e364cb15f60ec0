/- joined: N7 -/
import Derived.Test.YtjhgknagmiekeaaJD12
import Derived.Test.YtjhgknagmiekeaaJD14
set_option linter.unusedVariables false
set_option linter.unusedSimpArgs false
namespace Go.Proofs.Ytjhgknagmiekeaa.N
open Go.RowKit Go.Proofs.Ytjhgknagmiekeaa.K Go.Proofs.YtjhgknagmiekeaaW.PrintWords Go.Proofs.YtjhgknagmiekeaaW.PrintLast
open Go.Proofs.Ytjhgknagmiekeaa.V (valI ovr ovrs ownE ovr_eq pre skU kpU skF kpF skL)
abbrev ints (l : List Nat) : List Int := l.map (fun (i : Nat) => (i : Int))
def upto (xs : List ByteArray) (p : ByteArray → Bool) (n : Nat) : List Nat := (List.range n).filter (fun i => p (gd xs i))
theorem upto_succ (xs : List ByteArray) (p : ByteArray → Bool) (n : Nat) : upto xs p (n + 1) = if p (gd xs n) = true then upto xs p n ++ [n] else upto xs p n := by
  unfold upto
  rw [List.range_succ, List.filter_append]
  by_cases h : p (gd xs n) = true
  · rw [if_pos h, show [n].filter (fun i => p (gd xs i)) = [n] from List.filter_cons_of_pos (p := fun i => p (gd xs i)) h]
  · rw [if_neg h, show [n].filter (fun i => p (gd xs i)) = [] from List.filter_cons_of_neg (p := fun i => p (gd xs i)) h, List.append_nil]
theorem upto_le (xs : List ByteArray) (p : ByteArray → Bool) (n : Nat) : (upto xs p n).length ≤ n := by
  unfold upto
  have := List.length_filter_le (fun i => p (gd xs i)) (List.range n)
  rw [List.length_range] at this
  exact this
theorem plc_mem {xs : List ByteArray} {p : ByteArray → Bool} {i : Nat} (h : i ∈ plc xs p) : i < xs.length := by
  unfold plc at h
  rw [List.mem_filter, List.mem_range] at h
  exact h.1
theorem starts_pre (a b : ByteArray) : musterref01_Starts.f a b = some (pre (T.L a) (T.L b)) := V.pre_f a b
theorem under_ev (t : Rt) (h : Rok t) (hl : t.ks.length < 100000000000) (p : ByteArray) : Ev (fun k => musterref04_Under.f k t.ks t.vs t.ls t.ps t.ms p) (ints (plc t.ks (fun k => kpU (T.L p) (T.L k)))) := by
  have key : ∀ d i : Nat, t.ks.length - i = d → i ≤ t.ks.length → Ev (fun k => musterref04_Under.l0 k p (ints (upto t.ks (fun k => kpU (T.L p) (T.L k)) i)) t.ks (t.ks.length : Int) (i : Int)) (ints (plc t.ks (fun k => kpU (T.L p) (T.L k)))) := by
    intro d
    induction d with
    | zero =>
      intro i hd hi
      have e : i = t.ks.length := by omega
      subst e
      refine Ev.step (f := fun k => some (ints (plc t.ks (fun k => kpU (T.L p) (T.L k))))) (fun k => ?_) (Ev.now _)
      simp only [musterref04_Under.l0]
      rw [if_neg (by omega)]
      rfl
    | succ d ih =>
      intro i hd hi
      have hlt : i < t.ks.length := by omega
      have hi2 := ih (i + 1) (by omega) (by omega)
      have hul := upto_le t.ks (fun k => kpU (T.L p) (T.L k)) i
      refine Ev.step (fun k => ?_) hi2
      simp only [musterref04_Under.l0]
      rw [if_pos (by omega), if_pos (by omega), if_pos (by omega), rdOf_gd, wadd i (by omega), starts_pre, Option.bind_some, upto_succ]
      by_cases hb : pre (T.L (gd t.ks i)) (T.L p) = true
      · have e : kpU (T.L p) (T.L (gd t.ks i)) = true := hb
        rw [if_pos hb, if_pos e, if_pos (by rw [List.length_map]; omega), ints, ints, List.map_append]
        rfl
      · have e : ¬ kpU (T.L p) (T.L (gd t.ks i)) = true := hb
        rw [if_neg hb, if_neg e]
  exact key t.ks.length 0 (by omega) (by omega)
end Go.Proofs.Ytjhgknagmiekeaa.N
