/- timers: heap.Push and heap.Pop, (*line).Push and Pop, at memory. -/
import Derived.Test.YtioaihimmmjhcaaT3
import Derived.Lib.Builder
import Derived.Lib.OthersKept
import Derived.Lib.AppendStr
set_option linter.unusedVariables false
set_option linter.unusedSimpArgs false
namespace Go.Proofs.Ytioaihimmmjhcaa.T
open Go.RowKit Go.Proofs.YtioaihimmmjhcaaW.PrintWords


def WheelObj (now sets most : Int) (v m : Value) : Obj := .cells #[.int .u64 now, .int .u64 sets, .int .i64 most, v, m] 43 (0, 0)

theorem LineAt.le_cap {w : World} {L cap : Nat} {ts : List (Nat × Tm)} (h : LineAt w L cap ts) : ts.length ≤ cap := by
  obtain ⟨r, _, hl, hp⟩ := h.row
  rcases Nat.eq_zero_or_pos ts.length with h0 | h0
  · omega
  · have := (List.getElem?_eq_some_iff.1 (hp (ts.length - 1) (by omega))).1
    omega
theorem LineAt.take {w : World} {L cap : Nat} {ts : List (Nat × Tm)} (h : LineAt w L cap ts) (n : Nat) : LineAt w L cap (ts.take n) := by
  obtain ⟨⟨r, hr, hl, hp⟩, b, c, d⟩ := h
  have hlen : ∀ i, i < (ts.take n).length → i < ts.length := fun i hi => by rw [List.length_take] at hi; omega
  refine ⟨⟨r, hr, hl, fun i hi => by rw [List.getElem_take]; exact hp i (hlen i hi)⟩, fun i hi => by rw [List.getElem_take]; exact b i (hlen i hi), fun i hi => by rw [List.getElem_take]; exact c i (hlen i hi), ?_⟩
  rw [List.map_take]
  exact d.sublist (List.take_sublist _ _)
theorem LineAt.fr {w w' : World} {L cap : Nat} {ts : List (Nat × Tm)} {S : List Nat} (h : LineAt w L cap ts) (f : Fr S w w') (hs : ∀ x ∈ L :: ts.map (·.1), x ∉ S) : LineAt w' L cap ts := by
  obtain ⟨⟨r, hr, hl, hp⟩, b, c, d⟩ := h
  refine ⟨⟨r, (f.block L (blk_lt hr) (hs L (by simp))).trans hr, hl, hp⟩, fun i hi => ?_, c, d⟩
  obtain ⟨pl, hpl⟩ := b i hi
  exact ⟨pl, (f.block _ (blk_lt hpl) (hs _ (List.mem_cons_of_mem _ (List.mem_map.2 ⟨ts[i], List.getElem_mem hi, rfl⟩)))).trans hpl⟩
theorem Fr.set (w : World) (b i : Nat) (v : Value) : Fr [b] w (w.setCell ⟨b, i, none⟩ v) :=
  ⟨rfl, rfl, rfl, by simp [World.setCell], fun k hk hs => Below.heap_setCell _ _ _ k (by simpa using hs)⟩

set_option maxHeartbeats 4000000 in
set_option maxRecDepth 100000 in
theorem linePop (w : World) (b L cap n : Nat) (ts : List (Nat × Tm)) (now sets most : Int) (m : Value) (hL : LineAt w L cap ts) (hn : ts.length = n + 1) (hz : ts.length < 4000000000000)
    (hW : w.heap[b]? = some (WheelObj now sets most (.slice (some ⟨L, 0, none⟩) ts.length cap) m)) :
    Calls Try.prog 39 #[.pointer (some ⟨b, 3, none⟩)] w fun e w' => e = .returned (.iface 44 (.pointer (some ⟨(ts.getD n default).1, 0, none⟩))) ∧ w'.heap[b]? = some (WheelObj now sets most (.slice (some ⟨L, 0, none⟩) n cap) m) ∧ Fr [b] w w' := by
  have cn := hL.cell n (by omega)
  rw [← get_of ts n (by omega)] at cn
  have hcap : n ≤ cap := by have := hL.le_cap; omega
  have c3 : w.cell? ⟨b, 3, none⟩ = some (.slice (some ⟨L, 0, none⟩) ts.length cap) := by rw [Lib.cell_of_heap hW]; rfl
  have f3 : w.frozen? ⟨b, 3, none⟩ = false := blk_frozen hW 3
  have HW := Aside0.mk hW
  clear hW hL
  rw [hn] at c3 hz
  generalize (ts.getD n default).1 = bn at *
  clear hn
  go_enter Try.func39, Try.ntmps39
  go_wp2_with fail
  go_ret
  refine ⟨rfl, ?_, Fr.set _ _ _ _⟩
  exact blk_put HW.out 3 _ rfl

end Go.Proofs.Ytioaihimmmjhcaa.T
