/- timers: New, Len, Next at memory. -/
import Derived.Test.YtioaihimmmjhcaaT9
set_option linter.unusedVariables false
set_option linter.unusedSimpArgs false
namespace Go.Proofs.Ytioaihimmmjhcaa.T
open Go.RowKit Go.Maps Go.Proofs.YtioaihimmmjhcaaW.PrintWords

set_option maxHeartbeats 4000000 in
set_option maxRecDepth 100000 in
theorem wlen (w : World) (b n : Nat) (now sets most : Int) (p : Option Addr) (c : Nat) (m : Value) (hW : w.heap[b]? = some (WheelObj now sets most (.slice p n c) m)) :
    Calls Try.prog 10 #[.pointer (some ⟨b, 0, none⟩)] w fun e w' => e = .returned (.int .i64 n) ∧ w' = w := by
  have c3 : w.cell? ⟨b, 3, none⟩ = some (.slice p n c) := by rw [Lib.cell_of_heap hW]; rfl
  clear hW
  go_enter Try.func10, Try.ntmps10
  go_wp2_with fail
  go_ret
  exact ⟨rfl, rfl⟩

set_option maxHeartbeats 4000000 in
set_option maxRecDepth 100000 in
theorem wnew (w : World) (most : Int) (h0 : 0 ≤ most) :
    Calls Try.prog 7 #[.int .i64 most] w fun e w' => ∃ b M, e = .returned (.pointer (some ⟨b, 0, none⟩)) ∧ w.heap.size ≤ b ∧ w.heap.size ≤ M ∧ w'.heap[b]? = some (WheelObj 0 0 most (.slice none 0 0) (.map (some M))) ∧ w'.ownsMap Try.prog 3 RB M 0 (.map []) ∧ Fr [] w w' := by
  have hmm := @run_makeMap Try.prog
  go_enter Try.func7, Try.ntmps7
  go_wp2_with fail
  go_ret
  refine ⟨w.heap.size + 1, w.heap.size, rfl, by omega, Nat.le_refl _, ?_, ?_, ?_⟩
  · have := blk_new (w.alloc (.map #[] 0)) (.cells #[.int .u64 0, .int .u64 0, .int .i64 most, .slice none 0 0, .map (some w.heap.size)] 43)
    rw [World.size_alloc] at this
    exact this
  · exact (World.ownsMap_made w Try.prog 3 RB).alloc _
  · exact (Fr.alloc w _).trans (Fr.alloc _ _)

set_option maxHeartbeats 4000000 in
set_option maxRecDepth 100000 in
theorem wnext (w : World) (b L cap : Nat) (ts : List (Nat × Tm)) (now sets most : Int) (m : Value) (hL : LineAt w L cap ts) (h : 0 < ts.length)
    (hW : w.heap[b]? = some (WheelObj now sets most (.slice (some ⟨L, 0, none⟩) ts.length cap) m)) :
    Calls Try.prog 14 #[.pointer (some ⟨b, 0, none⟩)] w fun e w' => e = .returned (.tuple #[.int .u64 (ts.getD 0 default).2.at_, .bool true]) ∧ Fr [] w w' ∧ w'.heap = w.heap := by
  have c3 : w.cell? ⟨b, 3, none⟩ = some (.slice (some ⟨L, 0, none⟩) ts.length cap) := by rw [Lib.cell_of_heap hW]; rfl
  have c0 := hL.cell 0 h
  obtain ⟨a0, _, _⟩ := hL.tcell 0 h
  rw [get_of ts 0 h]
  generalize ts[0] = t0 at *
  generalize ts.length = n at *
  clear hW hL
  go_enter Try.func14, Try.ntmps14
  go_wp2_with fail
  go_ret2
  exact ⟨rfl, Fr.refl _ _, rfl⟩
end Go.Proofs.Ytioaihimmmjhcaa.T
