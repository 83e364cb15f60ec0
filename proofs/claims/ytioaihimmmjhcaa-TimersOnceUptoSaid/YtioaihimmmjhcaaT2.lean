/- timers: container/heap's up and down over a line at memory. -/
import Derived.Test.YtioaihimmmjhcaaT0
set_option linter.unusedVariables false
set_option linter.unusedSimpArgs false
namespace Go.Proofs.Ytioaihimmmjhcaa.T
open Go.RowKit Go.Proofs.YtioaihimmmjhcaaW.PrintWords

theorem Fr.mono {S S' : List Nat} {a b : World} (h : Fr S a b) (hs : ∀ x, x ∈ S → x ∈ S') : Fr S' a b := ⟨h.os, h.tape, h.output, h.size, fun k hk hn => h.block k hk (fun e => hn (hs k e))⟩
theorem Fr.cell {S : List Nat} {a b : World} (h : Fr S a b) {p : Addr} {v : Value} (hv : a.cell? p = some v) (hp : p.block ∉ S) : b.cell? p = some v := by
  have hlt : p.block < a.heap.size := by
    unfold World.cell? at hv
    split at hv
    · rename_i e; exact (Array.getElem?_eq_some_iff.1 e).1
    · simp at hv
  unfold World.cell? at hv ⊢
  rw [h.block p.block hlt hp]
  exact hv

def upL (ts : List (Nat × Tm)) (j : Nat) : List (Nat × Tm) :=
  if h : (j - 1) / 2 = j then ts
  else if lessT (ts.getD j default).2 (ts.getD ((j - 1) / 2) default).2 = true then upL (swapL ts ((j - 1) / 2) j) ((j - 1) / 2)
  else ts
termination_by j
decreasing_by omega

theorem LineAt.heap {w w' : World} {L cap : Nat} {ts : List (Nat × Tm)} (h : LineAt w L cap ts) (e : w'.heap = w.heap) : LineAt w' L cap ts := by
  obtain ⟨a, b, c, d⟩ := h
  refine ⟨by rw [e]; exact a, fun i hi => ?_, c, d⟩
  obtain ⟨pl, hp⟩ := b i hi
  exact ⟨pl, by rw [e]; exact hp⟩
theorem cell_heap {w w' : World} (e : w'.heap = w.heap) (a : Addr) : w'.cell? a = w.cell? a := by unfold World.cell?; rw [e]
theorem swapL_mem (ts : List (Nat × Tm)) (i j : Nat) (hi : i < ts.length) (hj : j < ts.length) (x : Nat) : x ∈ (swapL ts i j).map (·.1) ↔ x ∈ ts.map (·.1) := ((swapL_perm ts i j hi hj).map (·.1)).mem_iff

set_option maxHeartbeats 4000000 in
set_option maxRecDepth 100000 in
theorem up (w : World) (b L cap : Nat) (ts : List (Nat × Tm)) (j : Nat) (hL : LineAt w L cap ts) (hj : j < ts.length) (hn : ts.length < 4000000000000)
    (hW : w.cell? ⟨b, 3, none⟩ = some (.slice (some ⟨L, 0, none⟩) ts.length cap)) (hb : b ∉ L :: ts.map (·.1)) :
    Calls Try.prog 17 #[.iface 48 (.pointer (some ⟨b, 3, none⟩)), .int .i64 j] w fun e w' => e = .returned (.tuple #[]) ∧ LineAt w' L cap (upL ts j) ∧ Fr (L :: ts.map (·.1)) w w' := by
  have HL := Aside0.mk hL
  have HJ := Aside0.mk hj
  have HB := Aside0.mk hb
  clear hL hj hb
  go_enter Try.func17, Try.ntmps17
  go_wp2_with fail
  go_loopg [1] (j + 1) (fun kq v1 w' => ∃ (j' : Nat) (ts' : List (Nat × Tm)), v1 = .int .i64 (j' : Int) ∧ Aside0 (j' + 1 = kq ∧ j' < ts'.length ∧ ts'.length = ts.length) ∧ Aside0 (upL ts' j' = upL ts j) ∧ Aside0 (LineAt w' L cap ts') ∧ Aside0 (∀ x, x ∈ ts'.map (·.1) ↔ x ∈ ts.map (·.1)) ∧ Aside0 (Fr (L :: ts.map (·.1)) w w'))
  case atStart => exact ⟨j, ts, rfl, ⟨rfl, HJ.out, rfl⟩, ⟨rfl⟩, HL, ⟨fun _ => Iff.rfl⟩, ⟨Fr.refl _ _⟩⟩
  case round =>
    obtain ⟨j', ts', rfl, HJ', HU, HL', HM, HF⟩ := hrel
    have cw : wr.cell? ⟨b, 3, none⟩ = some (.slice (some ⟨L, 0, none⟩) ts'.length cap) := by rw [HJ'.out.2.2]; exact HF.out.cell hW HB.out
    have hdiv : ∀ _ : Unit, wrap64 ((wrap64 ((j' : Int) - 1)).tdiv 2) = (((j' - 1) / 2 : Nat) : Int) := fun _ => by
      have := HJ'.out
      rcases Nat.eq_zero_or_pos j' with h0 | h0
      · subst h0; decide +kernel
      · have e1 : wrap64 ((j' : Int) - 1) = ((j' - 1 : Nat) : Int) := by unfold wrap64; omega
        rw [e1, Int.tdiv_eq_ediv_of_nonneg (by omega)]
        unfold wrap64; omega
    go_wp2_with fail
    · have h := ‹wrap64 ((wrap64 ((j' : Int) - 1)).tdiv 2) = (j' : Int)›
      rw [hdiv ()] at h
      have h2 : (j' - 1) / 2 = j' := by omega
      go_end0
      have e : upL ts' j' = ts' := by rw [upL, dif_pos h2]
      rw [← HU.out, e]
      exact ⟨rfl, HL'.out, HF.out⟩
    · have h := ‹¬ wrap64 ((wrap64 ((j' : Int) - 1)).tdiv 2) = (j' : Int)›
      rw [hdiv ()] at h
      have h2 : ¬ (j' - 1) / 2 = j' := by omega
      simp only [hdiv ()]
      obtain ⟨i, hi⟩ : ∃ i, (j' - 1) / 2 = i := ⟨_, rfl⟩
      rw [hi] at h2
      simp only [hi]
      have hj1 : Aside0 (j' < ts'.length) := ⟨HJ'.out.2.1⟩
      have hi1 : Aside0 (i < ts'.length) := ⟨by have := HJ'.out; omega⟩
      rw [m_less cw]
      go_upon
      go_wp2_with (go_at_call 37; refine (less wr L cap ts' j' i HL'.out hj1.out hi1.out).mono ?_)
      rintro e w1 ⟨rfl, F1, H1⟩
      have HL1 := Aside0.mk (HL'.out.heap H1)
      have HF1 := Aside0.mk (HF.out.trans (F1.mono (S' := L :: ts.map (·.1)) (by simp)))
      have cw1 : w1.cell? ⟨b, 3, none⟩ = some (.slice (some ⟨L, 0, none⟩) ts'.length cap) := by rw [cell_heap H1]; exact cw
      have HG : Aside0 (ts'.getD j' default = ts'[j']'hj1.out ∧ ts'.getD i default = ts'[i]'hi1.out) := ⟨by simp [List.getD_eq_getElem?_getD, List.getElem?_eq_getElem hj1.out], by simp [List.getD_eq_getElem?_getD, List.getElem?_eq_getElem hi1.out]⟩
      obtain ⟨q, hq⟩ : ∃ q, lessT (ts'[j']'hj1.out).2 (ts'[i]'hi1.out).2 = q := ⟨_, rfl⟩
      rw [hq]
      clear F1 cw
      cases q with
      | false =>
        go_wp2_with fail
        go_end0
        have e : upL ts' j' = ts' := by rw [upL, dif_neg (by rw [hi]; exact h2), hi, HG.out.1, HG.out.2, hq]; simp
        rw [← HU.out, e]
        exact ⟨rfl, HL1.out, HF1.out⟩
      | true =>
        have e : upL ts' j' = upL (swapL ts' i j') i := by rw [upL, dif_neg (by rw [hi]; exact h2), hi, HG.out.1, HG.out.2, hq]; simp
        clear H1
        go_wp2_with fail
        rw [m_swap cw1]
        go_upon
        go_wp2_with (go_at_call 38; refine (swap w1 L cap ts' i j' HL1.out hi1.out hj1.out).mono ?_)
        rintro e9 w2 ⟨rfl, HL2, F2⟩
        go_wp2_with fail
        go_roundg (i + 1)
        case measure => have := HJ'.out; omega
        case rel => exact ⟨i, swapL ts' i j', rfl, ⟨rfl, by rw [swapL_length]; exact hi1.out, by rw [swapL_length]; exact HJ'.out.2.2⟩, ⟨by rw [← HU.out, e]⟩, ⟨HL2⟩, ⟨fun x => (swapL_mem ts' i j' hi1.out hj1.out x).trans (HM.out x)⟩, ⟨HF1.out.trans (F2.mono (fun x hx => by rcases List.mem_cons.1 hx with h | h; exact List.mem_cons.2 (.inl h); exact List.mem_cons.2 (.inr ((HM.out x).1 h))))⟩⟩
end Go.Proofs.Ytioaihimmmjhcaa.T
