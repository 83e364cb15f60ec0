/- TimersAfter: every After; it is never below either of its parts. -/
import Derived.Test.YtioaihimmmjhcaaK14
namespace Go.Proofs.Ytioaihimmmjhcaa.Pure
open Go.RowKit Go.Proofs.Ytioaihimmmjhcaa.K
theorem range (a : Int) (h : (Lit.int .u64 a).wf = true) : 0 ≤ a ∧ a ≤ 18446744073709551615 := by
  simp [Lit.wf, IntKind.min, IntKind.max, IntKind.signed, IntKind.bits] at h
  omega
theorem w64 (a : Int) : IntKind.u64.wrap a = a % 18446744073709551616 := by
  simp [IntKind.wrap, IntKind.signed, IntKind.bits]
theorem after_is (a b : Int) (ha : 0 ≤ a ∧ a ≤ 18446744073709551615) (hb : 0 ≤ b ∧ b ≤ 18446744073709551615) : timers_After.f a b = some (if a + b > 18446744073709551615 then 18446744073709551615 else a + b) := by
  unfold timers_After.f
  rw [w64, w64]
  by_cases h : a + b > 18446744073709551615
  · rw [if_pos h, if_pos (by omega)]
  · rw [if_neg h, if_neg (by omega)]
    congr 1
    omega
theorem ref_is (a b : Int) (ha : 0 ≤ a ∧ a ≤ 18446744073709551615) (hb : 0 ≤ b ∧ b ≤ 18446744073709551615) : musterref14_After.f a b = some (if a + b > 18446744073709551615 then 18446744073709551615 else a + b) := by
  unfold musterref14_After.f
  rw [w64]
  by_cases h : a + b > 18446744073709551615
  · rw [if_pos h, if_pos (by omega)]
  · rw [if_neg h, if_neg (by omega)]
    congr 1
    omega
theorem TimersAfter : musterlaw14_TimersAfter.Pure := by
  intro a b ha hb
  have ha := range a ha
  have hb := range b hb
  unfold musterlaw14_TimersAfter.f musterlaw14_timersAlive.f
  have hc : b + a = a + b := by omega
  simp only [Option.bind_some, if_true]
  rw [after_is a b ha hb, ref_is a b ha hb, after_is b a hb ha, hc]
  simp only [Option.bind_some, if_true]
  by_cases h : a + b > 18446744073709551615
  · rw [if_pos h, if_pos (by omega), if_pos (by omega)]
    simp
  · rw [if_neg h, if_pos (by omega), if_pos (by omega)]
    simp
end Go.Proofs.Ytioaihimmmjhcaa.Pure
