/- timers: the methods of heap.Interface at *line. -/
import Derived.Test.YtioaihimmmjhcaaT1
set_option linter.unusedVariables false
namespace Go.Proofs.Ytioaihimmmjhcaa.T
open Go.RowKit
theorem m_less0 (a : Addr) (w : World) : (method 174 48 (.pointer (some a)) "Less").run Try.prog w = (Sem.load .plain a fun v => Sem.pure (37, v)).run Try.prog w := by kernel_rfl
theorem m_swap0 (a : Addr) (w : World) : (method 174 48 (.pointer (some a)) "Swap").run Try.prog w = (Sem.load .plain a fun v => Sem.pure (38, v)).run Try.prog w := by kernel_rfl
theorem m_len0 (a : Addr) (w : World) : (method 174 48 (.pointer (some a)) "Len").run Try.prog w = (Sem.load .plain a fun v => Sem.pure (36, v)).run Try.prog w := by kernel_rfl
theorem m_pop (a : Addr) (w : World) : (method 174 48 (.pointer (some a)) "Pop").run Try.prog w = .ok (39, .pointer (some a)) w := by kernel_rfl
theorem m_push (a : Addr) (w : World) : (method 174 48 (.pointer (some a)) "Push").run Try.prog w = .ok (40, .pointer (some a)) w := by kernel_rfl
theorem load_run {α : Type} (a : Addr) (w : World) (k : Value → Sem α) (v : Value) (h : w.cell? a = some v) : (Sem.load .plain a k).run Try.prog w = (k v).run Try.prog w := by
  simp only [Sem.run, h]
theorem m_less {a : Addr} {w : World} {v : Value} (h : w.cell? a = some v) : (method 174 48 (.pointer (some a)) "Less").run Try.prog w = .ok (37, v) w := by rw [m_less0, load_run a w _ v h]; rfl
theorem m_swap {a : Addr} {w : World} {v : Value} (h : w.cell? a = some v) : (method 174 48 (.pointer (some a)) "Swap").run Try.prog w = .ok (38, v) w := by rw [m_swap0, load_run a w _ v h]; rfl
theorem m_len {a : Addr} {w : World} {v : Value} (h : w.cell? a = some v) : (method 174 48 (.pointer (some a)) "Len").run Try.prog w = .ok (36, v) w := by rw [m_len0, load_run a w _ v h]; rfl
end Go.Proofs.Ytioaihimmmjhcaa.T
