/- timers: timersAlive returns true. -/
import Derived.Test.YtioaihimmmjhcaaT14
set_option linter.unusedVariables false
set_option linter.unusedSimpArgs false
namespace Go.Proofs.Ytioaihimmmjhcaa.T
open Go.RowKit Go.Maps Go.Proofs.YtioaihimmmjhcaaW.PrintWords

theorem ints_new (w : World) (l : List Int) : Ints (w.alloc (.cells (intsOf l).toArray 3)) (some ⟨w.heap.size, 0, none⟩) l := fun i hi => by
  refine ⟨_, rfl, ?_⟩
  have e : (⟨w.heap.size, 0, none⟩ : Addr).add i = ⟨w.heap.size, i, none⟩ := by
    simp only [Addr.add]
    split
    · rename_i h; rw [h]
    · simp
  rw [e, blk_cell (blk_new w _)]
  simp [intsOf, hi]
theorem Ints.keep {w w' : World} {A : Option Addr} {l : List Int} (h : Ints w A l) (hk : ∀ k, k < w.heap.size → w'.heap[k]? = w.heap[k]?) : Ints w' A l := fun i hi => by
  obtain ⟨ad, h1, h2⟩ := h i hi
  refine ⟨ad, h1, ?_⟩
  have hlt : (ad.add i).block < w.heap.size := World.block_lt_of_cell? w _ h2
  unfold World.cell? at h2 ⊢
  rw [hk _ hlt]
  exact h2
theorem below_of {S : List Nat} {a b : World} {B : Nat} (f : Fr S a b) (hB : B ≤ a.heap.size) (hs : ∀ x ∈ S, B ≤ x) : Below B a b :=
  ⟨f.os, f.tape, f.output, f.size, fun k hk => f.block k (by omega) (fun h => by have := hs k h; omega)⟩
set_option maxHeartbeats 8000000 in
set_option maxRecDepth 100000 in
theorem alive (w : World) : Calls Try.prog 6 #[] w fun e w' => e = .returned (.bool true) ∧ Below w.heap.size w w' := by
  go_enter Try.func6, Try.ntmps6
  go_wp2_with (go_at_call 7; refine (wheelNew w 9 (by decide)).mono ?_)
  rintro e w1 ⟨b, M, rfl, hb, hM, hw1, F1⟩
  have H1 := Aside0.mk hw1
  have G1 := Aside0.mk (And.intro hb (And.intro hM F1))
  clear hw1 F1 hb hM
  have s1 := Aside0.mk (wheelSet w1 b M 0 [] 1 5 0 0 9 (.slice none 0 0) (.map []) H1.out (by decide) (by decide) (by decide) free1 (by decide))
  go_wp2_with (go_at_call 8; refine s1.out.mono ?_)
  rintro e w2 ⟨rfl, v2, hw2, hf2, F2⟩
  rw [up_a, wrap_a] at hw2
  rw [up_a] at hf2
  have H2 := Aside0.mk hw2
  have G2 := Aside0.mk (And.intro hf2 F2)
  clear hw2 hf2 F2 s1
  have s2 := Aside0.mk (wheelSet w2 b M 1 [(w1.heap.size, ⟨5, 0, 1⟩)] 2 3 0 1 9 v2 D1 H2.out (by simp) (by decide) (by decide) free2 (by simp))
  go_wp2_with (go_at_call 8; refine s2.out.mono ?_)
  rintro e w3 ⟨rfl, v3, hw3, hf3, F3⟩
  rw [up_b, wrap_b] at hw3
  rw [up_b] at hf3
  have H3 := Aside0.mk hw3
  have G3 := Aside0.mk (And.intro hf3 F3)
  clear hw3 hf3 F3 s2
  have s3 := Aside0.mk (wheelSet w3 b M 2 [(w2.heap.size, ⟨3, 1, 2⟩), (w1.heap.size, ⟨5, 0, 1⟩)] 3 5 0 2 9 v3 D2 H3.out (by simp) (by decide) (by decide) free3 (by simp))
  go_wp2_with (go_at_call 8; refine s3.out.mono ?_)
  rintro e w4 ⟨rfl, v4, hw4, hf4, F4⟩
  rw [up_c] at hw4 hf4
  have H4 := Aside0.mk hw4
  have G4 := Aside0.mk (And.intro hf4 F4)
  clear hw4 hf4 F4 s3
  have s4 := Aside0.mk (wheelNext w4 b M 3 _ _ _ _ _ _ H4.out (by simp))
  go_wp2_with (go_at_call 14; refine s4.out.mono ?_)
  rintro e w5 ⟨rfl, F5, hh5⟩
  have H5 := Aside0.mk (H4.out.heap hh5)
  have G5 := Aside0.mk F5
  clear F5 hh5 s4
  have s5 := Aside0.mk (wadvance w5 b M 3 _ 0 4 _ _ v4 _ H5.out (by simp) (by decide) (by intro x hx; simp at hx; rcases hx with rfl | rfl | rfl <;> rfl))
  go_wp2_with (go_at_call 9; refine s5.out.mono ?_)
  rintro e w6 ⟨vo, rfl, hro, v6, ⟨k6, D6, hw6⟩, hf6, F6⟩
  rw [adv_a] at hro hw6 hf6
  have H6 := Aside0.mk hw6
  have G6 := Aside0.mk (And.intro hro (And.intro hf6 F6))
  clear hro hw6 hf6 F6 s5
  have s6 := Aside0.mk (wadvance w6 b M k6 _ 4 9 _ _ v6 D6 H6.out (by simp) (by decide) (by intro x hx; simp at hx; rcases hx with rfl | rfl <;> rfl))
  go_wp2_with (go_at_call 9; refine s6.out.mono ?_)
  rintro e w7 ⟨vp, rfl, hrp, v7, ⟨k7, D7, hw7⟩, hf7, F7⟩
  rw [adv_b] at hrp hw7 hf7
  have H7 := Aside0.mk hw7
  have G7 := Aside0.mk (And.intro hrp (And.intro hf7 F7))
  clear hrp hw7 hf7 F7 s6
  -- what the two answers read as
  have lt5 := H5.out.lt
  have r7 : w7.ownsRow w5.heap.size 3 1 vo 1 (intsOf [2]) := ownsRow_fr G6.out.1 G7.out.2.2 (fun g hg h => by
    have h1 := (G6.out.1.lt g hg).1
    have h2 : g ∈ b :: M :: footOf v4 [(w2.heap.size, ⟨3, 1, 2⟩), (w1.heap.size, ⟨5, 0, 1⟩), (w3.heap.size, ⟨5, 2, 3⟩)] := by
      rcases List.mem_cons.1 h with e | h
      · simp [e]
      · rcases List.mem_cons.1 h with e | h
        · simp [e]
        · exact List.mem_cons_of_mem _ (List.mem_cons_of_mem _ (G6.out.2.1 g h))
    have := lt5 g h2
    omega)
  obtain ⟨z1, A, c, hvo, hiA⟩ := ints_of r7
  obtain ⟨z2, A', c', hvp, hiA'⟩ := ints_of (l := [1, 3]) G7.out.1
  clear z1 z2
  simp only [List.length_cons, List.length_nil, Nat.zero_add, Nat.reduceAdd] at hvo hvp
  subst hvo hvp
  have IA := Aside0.mk hiA
  have IA' := Aside0.mk hiA'
  clear lt5 r7 hiA hiA'
  have q1 := Aside0.mk (sameInts (w7.alloc (.cells #[.int .i64 2] 3)) A (some ⟨w7.heap.size, 0, none⟩) c 1 [2] [2] (IA.out.keep (fun k hk => Below.heap_alloc _ _ k hk)) (ints_new w7 [2]) (by simp) (by simp))
  go_wp2_with (go_at_call 11; refine q1.out.mono ?_)
  rintro e w8 ⟨rfl, F8, hh8⟩
  have e8 : decide (([2] : List Int) = [2]) = true := by decide
  first | rw [e8] | rw [decide_true]
  have G8 := Aside0.mk (And.intro F8 hh8)
  clear F8 hh8 e8 q1
  have q2 := Aside0.mk (sameInts (w8.alloc (.cells #[.int .i64 1, .int .i64 3] 3)) A' (some ⟨w8.heap.size, 0, none⟩) c' 2 [1, 3] [1, 3] (IA'.out.keep (fun k hk => by
    rw [Below.heap_alloc _ _ k (by rw [G8.out.2]; simp only [World.size_alloc]; omega), G8.out.2]
    exact Below.heap_alloc _ _ k hk)) (ints_new w8 [1, 3]) (by simp) (by simp))
  go_wp2_with (go_at_call 11; refine q2.out.mono ?_)
  rintro e w9 ⟨rfl, F9, hh9⟩
  have e9 : decide (([1, 3] : List Int) = [1, 3]) = true := by decide
  first | rw [e9] | rw [decide_true]
  have G9 := Aside0.mk (And.intro F9 hh9)
  clear F9 hh9 e9 q2
  go_wp2_with fail
  go_ret
  refine ⟨rfl, ?_⟩
  -- nothing below has turned
  obtain ⟨hb, hM, F1⟩ := G1.out
  obtain ⟨hf2, F2⟩ := G2.out
  obtain ⟨hf3, F3⟩ := G3.out
  obtain ⟨hf4, F4⟩ := G4.out
  obtain ⟨hr6, hf6, F6⟩ := G6.out
  obtain ⟨hr7, hf7, F7⟩ := G7.out
  have z1 := F1.size
  have z2 := F2.size
  have z3 := F3.size
  have z4 := F4.size
  have z5 := G5.out.size
  have z6 := F6.size
  have z7 := F7.size
  have p1 : ∀ x ∈ footOf (.slice none 0 0) ([] : List (Nat × Tm)), w.heap.size ≤ x := by intro x hx; simp [footOf, rowOf, Value.ownBlock] at hx
  have p2 : ∀ x ∈ footOf v2 [(w1.heap.size, ⟨5, 0, 1⟩)], w.heap.size ≤ x := fun x hx => by rcases hf2 x hx with h | h; exact p1 x h; omega
  have p3 : ∀ x ∈ footOf v3 [(w2.heap.size, ⟨3, 1, 2⟩), (w1.heap.size, ⟨5, 0, 1⟩)], w.heap.size ≤ x := fun x hx => by rcases hf3 x hx with h | h; exact p2 x h; omega
  have p4 : ∀ x ∈ footOf v4 [(w2.heap.size, ⟨3, 1, 2⟩), (w1.heap.size, ⟨5, 0, 1⟩), (w3.heap.size, ⟨5, 2, 3⟩)], w.heap.size ≤ x := fun x hx => by rcases hf4 x hx with h | h; exact p3 x h; omega
  have p6 : ∀ x ∈ footOf v6 [(w1.heap.size, ⟨5, 0, 1⟩), (w3.heap.size, ⟨5, 2, 3⟩)], w.heap.size ≤ x := fun x hx => p4 x (hf6 x hx)
  have bb : ∀ (S : List Nat), (∀ x ∈ S, w.heap.size ≤ x) → ∀ x ∈ b :: M :: S, w.heap.size ≤ x := by
    intro S hS x hx
    rcases List.mem_cons.1 hx with e | hx
    · omega
    · rcases List.mem_cons.1 hx with e | hx
      · omega
      · exact hS x hx
  have B1 := below_of F1 (Nat.le_refl _) (by simp)
  have B2 := B1.trans (below_of F2 (by omega) (bb _ p1))
  have B3 := B2.trans (below_of F3 (by omega) (bb _ p2))
  have B4 := B3.trans (below_of F4 (by omega) (bb _ p3))
  have B5 := B4.trans (below_of G5.out (by omega) (by simp))
  have B6 := B5.trans (below_of F6 (by omega) (bb _ p4))
  have B7 := B6.trans (below_of F7 (by omega) (bb _ p6))
  have B8 := B7.trans ((below_of (Fr.alloc w7 (.cells #[.int .i64 2] 3)) (by omega) (by simp)).trans (below_of G8.out.1 (by simp only [World.size_alloc]; omega) (by simp)))
  have z8 := G8.out.1.size
  simp only [World.size_alloc] at z8
  exact B8.trans ((below_of (Fr.alloc w8 (.cells #[.int .i64 1, .int .i64 3] 3)) (by omega) (by simp)).trans (below_of G9.out.1 (by simp only [World.size_alloc]; omega) (by simp)))
end Go.Proofs.Ytioaihimmmjhcaa.T
