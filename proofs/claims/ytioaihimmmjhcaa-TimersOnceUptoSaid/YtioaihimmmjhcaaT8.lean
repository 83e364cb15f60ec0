/- timers: heap.Push at memory. -/
import Derived.Test.YtioaihimmmjhcaaT7
set_option linter.unusedVariables false
set_option linter.unusedSimpArgs false
namespace Go.Proofs.Ytioaihimmmjhcaa.T
open Go.RowKit Go.Proofs.YtioaihimmmjhcaaW.PrintWords

theorem Fr.over {S S' : List Nat} {a b c : World} (h : Fr S a b) (k : Fr S' b c) (hs : ∀ x ∈ S', x ∈ S ∨ a.heap.size ≤ x) : Fr S a c :=
  ⟨k.os.trans h.os, k.tape.trans h.tape, k.output.trans h.output, Nat.le_trans h.size k.size, fun i hi hn =>
    (k.block i (Nat.lt_of_lt_of_le hi h.size) (fun e => by rcases hs i e with h1 | h1; exact hn h1; omega)).trans (h.block i hi hn)⟩

set_option maxHeartbeats 4000000 in
set_option maxRecDepth 100000 in
theorem heapPush (w : World) (b tb : Nat) (ts : List (Nat × Tm)) (t : Tm) (now sets most pl : Int) (v m : Value) (hv : LineIs w v ts) (hz : ts.length < 3000000000000)
    (hW : w.heap[b]? = some (WheelObj now sets most v m)) (hT : w.heap[tb]? = some (tmObj t pl)) (hne : tb ∉ ts.map (·.1)) (hvt : v.ownBlock ≠ some tb) (hvb : v.ownBlock ≠ some b) (hbts : b ∉ ts.map (·.1)) :
    Calls Try.prog 15 #[.iface 48 (.pointer (some ⟨b, 3, none⟩)), .iface 44 (.pointer (some ⟨tb, 0, none⟩))] w fun e w' => e = .returned (.tuple #[]) ∧
      ∃ L cap, w'.heap[b]? = some (WheelObj now sets most (.slice (some ⟨L, 0, none⟩) (ts.length + 1) cap) m) ∧ LineAt w' L cap (upL (ts ++ [(tb, t)]) ts.length) ∧ cap ≤ maxLen ∧ (v.ownBlock = some L ∨ w.heap.size ≤ L) ∧ Fr (b :: tb :: (rowOf v ++ ts.map (·.1))) w w' := by
  have hbt : b ≠ tb := blk_ne hW hT (by decide)
  have hp := Aside0.mk (linePush w b tb ts t now sets most pl v m hv (by omega) hW hT hne hvt hvb hbts)
  have HX := Aside0.mk (And.intro hbt hbts)
  clear hv hW hT hne hvt hvb hbts hbt
  go_enter Try.func15, Try.ntmps15
  go_wp2_with (go_at_call 40; refine hp.out.mono ?_)
  rintro e w1 ⟨rfl, L, cap, hb1, hL1, hcm, hLr, F1⟩
  have hbL : b ≠ L := by
    obtain ⟨r, hr, _⟩ := hL1.row
    exact blk_ne hb1 hr (by decide)
  have hlen : (ts ++ [(tb, t)]).length = ts.length + 1 := by simp
  have hmem : b ∉ L :: (ts ++ [(tb, t)]).map (·.1) := by
    intro h
    rcases List.mem_cons.1 h with h | h
    · exact hbL h
    · rw [List.map_append, List.mem_append] at h
      rcases h with h | h
      · exact HX.out.2 h
      · simp at h; exact HX.out.1 h
  have c3 : w1.cell? ⟨b, 3, none⟩ = some (.slice (some ⟨L, 0, none⟩) (ts.length + 1) cap) := by rw [Lib.cell_of_heap hb1]; rfl
  have hu := Aside0.mk (up w1 b L cap (ts ++ [(tb, t)]) ts.length hL1 (by omega) (by omega) (by rw [hlen]; exact c3) hmem)
  have HA := Aside0.mk (And.intro hb1 (And.intro hcm (And.intro hLr (And.intro F1 hmem))))
  have HS : Aside0 (∀ x ∈ L :: (ts ++ [(tb, t)]).map (·.1), x ∈ b :: tb :: (rowOf v ++ ts.map (·.1)) ∨ w.heap.size ≤ x) := ⟨by
    intro x hx
    rcases List.mem_cons.1 hx with h | h
    · subst h
      rcases hLr with h | h
      · left; simp [rowOf, h]
      · right; exact h
    · left
      rw [List.map_append, List.mem_append] at h
      rcases h with h | h
      · simp [h]
      · simp at h; simp [h]⟩
  clear hb1 hL1 hcm hLr F1 hbL hlen hmem
  go_wp2_with fail
  rw [m_len c3]
  go_upon
  go_wp2_with (first | (go_at_call 17; refine hu.out.mono ?_) | go_in)
  rintro e w2 ⟨rfl, hL2, F2⟩
  have HL2 := Aside0.mk hL2
  have HF2 := Aside0.mk F2
  clear hL2 F2
  go_wp2_with fail
  go_end0
  obtain ⟨h1, h2, h3, h4, h5⟩ := HA.out
  refine ⟨rfl, L, cap, (HF2.out.block b (blk_lt h1) h5).trans h1, HL2.out, h2, h3, ?_⟩
  refine (h4.mono (fun x hx => ?_)).over HF2.out HS.out
  simp only [List.mem_cons, List.mem_append] at hx ⊢
  rcases hx with h | h | h
  · exact .inl h
  · exact .inr (.inl h)
  · exact .inr (.inr (.inl h))
end Go.Proofs.Ytioaihimmmjhcaa.T
