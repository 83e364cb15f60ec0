/- timers: heap.Pop at memory. -/
import Derived.Test.YtioaihimmmjhcaaT4
set_option linter.unusedVariables false
set_option linter.unusedSimpArgs false
namespace Go.Proofs.Ytioaihimmmjhcaa.T
open Go.RowKit Go.Proofs.YtioaihimmmjhcaaW.PrintWords

theorem kid_lt (ts : List (Nat × Tm)) (i n : Nat) (h : ¬ n ≤ 2 * i + 1) : kid ts i n < n ∧ i < kid ts i n := by unfold kid; split <;> omega
theorem downL_perm (ts : List (Nat × Tm)) (i n : Nat) (hn : n ≤ ts.length) : (downL ts i n).Perm ts := by
  generalize hd : n - i = d
  induction d using Nat.strongRecOn generalizing ts i with
  | _ d ih =>
    rw [downL]
    split
    · exact List.Perm.refl _
    · rename_i h
      obtain ⟨h1, h2⟩ := kid_lt ts i n h
      split
      · refine (ih (n - kid ts i n) (by omega) (swapL ts i (kid ts i n)) (kid ts i n) (by rw [swapL_length]; exact hn) rfl).trans ?_
        exact swapL_perm ts i (kid ts i n) (by omega) (by omega)
      · exact List.Perm.refl _
theorem upL_perm (ts : List (Nat × Tm)) (j : Nat) (hj : j < ts.length) : (upL ts j).Perm ts := by
  induction j using Nat.strongRecOn generalizing ts with
  | _ j ih =>
    rw [upL]
    split
    · exact List.Perm.refl _
    · split
      · refine (ih ((j - 1) / 2) (by omega) (swapL ts ((j - 1) / 2) j) (by rw [swapL_length]; omega)).trans ?_
        exact swapL_perm ts ((j - 1) / 2) j (by omega) hj
      · exact List.Perm.refl _

def popL (ts : List (Nat × Tm)) : List (Nat × Tm) := downL (swapL ts 0 (ts.length - 1)) 0 (ts.length - 1)
theorem popL_perm (ts : List (Nat × Tm)) (h : 0 < ts.length) : (popL ts).Perm ts :=
  (downL_perm _ 0 _ (by rw [swapL_length]; omega)).trans (swapL_perm ts 0 (ts.length - 1) h (by omega))

set_option maxHeartbeats 4000000 in
set_option maxRecDepth 100000 in
theorem heapPop (w : World) (b L cap n : Nat) (ts : List (Nat × Tm)) (now sets most : Int) (m : Value) (hL : LineAt w L cap ts) (hn : ts.length = n + 1) (hz : ts.length < 4000000000000)
    (hW : w.heap[b]? = some (WheelObj now sets most (.slice (some ⟨L, 0, none⟩) ts.length cap) m)) (hb : b ∉ L :: ts.map (·.1)) :
    Calls Try.prog 16 #[.iface 48 (.pointer (some ⟨b, 3, none⟩))] w fun e w' => e = .returned (.iface 44 (.pointer (some ⟨((popL ts).getD n default).1, 0, none⟩))) ∧
      w'.heap[b]? = some (WheelObj now sets most (.slice (some ⟨L, 0, none⟩) n cap) m) ∧ LineAt w' L cap (popL ts) ∧ Fr (b :: L :: ts.map (·.1)) w w' := by
  have c3 : w.cell? ⟨b, 3, none⟩ = some (.slice (some ⟨L, 0, none⟩) ts.length cap) := by rw [Lib.cell_of_heap hW]; rfl
  have HW := Aside0.mk hW
  have HL := Aside0.mk hL
  have HB := Aside0.mk hb
  have HN := Aside0.mk hn
  have HZ := Aside0.mk hz
  have hnn : n < 4000000000000 := by omega
  clear hW hL hb
  rw [hn] at c3
  clear hn hz
  go_enter Try.func16, Try.ntmps16
  go_wp2_with fail
  rw [m_len c3]
  go_upon
  go_wp2
  rw [m_swap c3]
  go_upon
  have hs : Aside0 (Calls Try.prog 38 #[.slice (some ⟨L, 0, none⟩) (n + 1) cap, .int .i64 0, .int .i64 n] w fun e w' => e = .returned (.tuple #[]) ∧ LineAt w' L cap (swapL ts 0 n) ∧ Fr (L :: ts.map (·.1)) w w') := ⟨by
    have h := swap w L cap ts 0 n HL.out (by rw [HN.out]; omega) (by rw [HN.out]; omega)
    rw [HN.out] at h
    exact h⟩
  go_wp2_with (go_at_call 38; refine hs.out.mono ?_)
  rintro e w1 ⟨rfl, HL1, F1⟩
  have HL1 := Aside0.mk HL1
  have F1 := Aside0.mk F1
  have l1 : Aside0 ((swapL ts 0 n).length = n + 1) := ⟨by rw [swapL_length]; exact HN.out⟩
  have mem1 : Aside0 (∀ x, x ∈ (swapL ts 0 n).map (·.1) ↔ x ∈ ts.map (·.1)) := ⟨fun x => swapL_mem ts 0 n (by rw [HN.out]; omega) (by rw [HN.out]; omega) x⟩
  have hB1 : Aside0 (b ∉ L :: (swapL ts 0 n).map (·.1)) := ⟨fun h => HB.out (by rcases List.mem_cons.1 h with h | h; exact List.mem_cons.2 (.inl h); exact List.mem_cons.2 (.inr ((mem1.out b).1 h)))⟩
  have c31 : w1.cell? ⟨b, 3, none⟩ = some (.slice (some ⟨L, 0, none⟩) (n + 1) cap) := F1.out.cell c3 HB.out
  have hd : Aside0 (Calls Try.prog 18 #[.iface 48 (.pointer (some ⟨b, 3, none⟩)), .int .i64 0, .int .i64 n] w1 fun e w' => (∃ q, e = .returned (.bool q)) ∧ LineAt w' L cap (downL (swapL ts 0 n) 0 n) ∧ Fr (L :: (swapL ts 0 n).map (·.1)) w1 w') :=
    ⟨down w1 b L cap (swapL ts 0 n) 0 n HL1.out (by rw [l1.out]; exact Nat.succ_pos n) (by rw [l1.out]; exact Nat.le_succ n) (by rw [l1.out, ← HN.out]; exact HZ.out) (by rw [l1.out]; exact c31) hB1.out⟩
  have hpl : Aside0 (popL ts = downL (swapL ts 0 n) 0 n) := ⟨by unfold popL; rw [HN.out]; rfl⟩
  clear c3 hs
  go_wp2_with (go_at_call 18; refine hd.out.mono ?_)
  rintro e w2 ⟨⟨q, rfl⟩, HL2, F2⟩
  rw [← hpl.out] at HL2
  have HL2 := Aside0.mk HL2
  have F2 : Aside0 (Fr (L :: ts.map (·.1)) w1 w2) := ⟨F2.mono (fun x hx => by rcases List.mem_cons.1 hx with h | h; exact List.mem_cons.2 (.inl h); exact List.mem_cons.2 (.inr ((mem1.out x).1 h)))⟩
  have HW2 : Aside0 (w2.heap[b]? = some (WheelObj now sets most (.slice (some ⟨L, 0, none⟩) (popL ts).length cap) m)) := ⟨by
    rw [(popL_perm ts (by rw [HN.out]; omega)).length_eq]
    rw [(F1.out.trans F2.out).block b (blk_lt HW.out) HB.out]
    exact HW.out⟩
  have hp := Aside0.mk (linePop w2 b L cap n (popL ts) now sets most m HL2.out (by rw [(popL_perm ts (by rw [HN.out]; omega)).length_eq]; exact HN.out) (by rw [(popL_perm ts (by rw [HN.out]; omega)).length_eq]; exact HZ.out) HW2.out)
  clear hd c31
  go_wp2_with (go_at_call 39; refine hp.out.mono ?_)
  rintro e w3 ⟨rfl, HW3, F3⟩
  have hmem : ∀ x ∈ L :: (popL ts).map (·.1), x ∈ L :: ts.map (·.1) := by
    intro x hx
    rcases List.mem_cons.1 hx with h | h
    · exact List.mem_cons.2 (.inl h)
    · exact List.mem_cons.2 (.inr (((popL_perm ts (by rw [HN.out]; omega)).map (·.1)).mem_iff.1 h))
  have HL4 := HL2.out.fr F3 (fun x hx => by
    intro h
    rw [List.mem_singleton] at h
    subst h
    exact HB.out (hmem _ hx))
  have FF : Fr (b :: L :: ts.map (·.1)) w w3 := (F1.out.mono (S' := b :: L :: ts.map (·.1)) (fun x hx => List.mem_cons_of_mem _ hx)).trans ((F2.out.mono (S' := b :: L :: ts.map (·.1)) (fun x hx => List.mem_cons_of_mem _ hx)).trans (F3.mono (by simp)))
  go_wp2_with fail
  go_ret
  exact ⟨rfl, HW3, HL4, FF⟩
end Go.Proofs.Ytioaihimmmjhcaa.T
