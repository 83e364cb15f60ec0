/- timers: container/heap's down over a line at memory. -/
import Derived.Test.YtioaihimmmjhcaaT2
set_option linter.unusedVariables false
set_option linter.unusedSimpArgs false
namespace Go.Proofs.Ytioaihimmmjhcaa.T
open Go.RowKit Go.Proofs.YtioaihimmmjhcaaW.PrintWords

def kid (ts : List (Nat × Tm)) (i n : Nat) : Nat := if 2 * i + 2 < n ∧ lessT (ts.getD (2 * i + 2) default).2 (ts.getD (2 * i + 1) default).2 = true then 2 * i + 2 else 2 * i + 1
def downL (ts : List (Nat × Tm)) (i n : Nat) : List (Nat × Tm) :=
  if h : n ≤ 2 * i + 1 then ts
  else if lessT (ts.getD (kid ts i n) default).2 (ts.getD i default).2 = true then downL (swapL ts i (kid ts i n)) (kid ts i n) n
  else ts
termination_by n - i
decreasing_by unfold kid; split <;> omega

theorem get_of (ts : List (Nat × Tm)) (i : Nat) (h : i < ts.length) : ts.getD i default = ts[i] := by simp [List.getD_eq_getElem?_getD, List.getElem?_eq_getElem h]
set_option maxHeartbeats 4000000 in
set_option maxRecDepth 100000 in
theorem down (w : World) (b L cap : Nat) (ts : List (Nat × Tm)) (i0 n : Nat) (hL : LineAt w L cap ts) (hi0 : i0 < ts.length) (hn0 : n ≤ ts.length) (hn : ts.length < 4000000000000)
    (hW : w.cell? ⟨b, 3, none⟩ = some (.slice (some ⟨L, 0, none⟩) ts.length cap)) (hb : b ∉ L :: ts.map (·.1)) :
    Calls Try.prog 18 #[.iface 48 (.pointer (some ⟨b, 3, none⟩)), .int .i64 i0, .int .i64 n] w fun e w' => (∃ q, e = .returned (.bool q)) ∧ LineAt w' L cap (downL ts i0 n) ∧ Fr (L :: ts.map (·.1)) w w' := by
  have HL := Aside0.mk hL
  have HJ := Aside0.mk (And.intro hi0 hn0)
  have HB := Aside0.mk hb
  clear hL hi0 hn0 hb
  go_enter Try.func18, Try.ntmps18
  go_wp2_with fail
  go_loopg [7] (n + 1 - i0) (fun kq v7 w' => ∃ (i : Nat) (ts' : List (Nat × Tm)), v7 = .int .i64 (i : Int) ∧ Aside0 (n + 1 - i = kq ∧ i < ts'.length ∧ ts'.length = ts.length) ∧ Aside0 (downL ts' i n = downL ts i0 n) ∧ Aside0 (LineAt w' L cap ts') ∧ Aside0 (∀ x, x ∈ ts'.map (·.1) ↔ x ∈ ts.map (·.1)) ∧ Aside0 (Fr (L :: ts.map (·.1)) w w'))
  case atStart => exact ⟨i0, ts, rfl, ⟨rfl, HJ.out.1, rfl⟩, ⟨rfl⟩, HL, ⟨fun _ => Iff.rfl⟩, ⟨Fr.refl _ _⟩⟩
  case round =>
    obtain ⟨i, ts', rfl, HJ', HU, HL', HM, HF⟩ := hrel
    have cw : wr.cell? ⟨b, 3, none⟩ = some (.slice (some ⟨L, 0, none⟩) ts'.length cap) := by rw [HJ'.out.2.2]; exact HF.out.cell hW HB.out
    have hil : i < 4000000000000 := by have := HJ'.out; omega
    have ej1 : Aside0 (2 * (i : Int) + 1 = ((2 * i + 1 : Nat) : Int)) := ⟨by omega⟩
    have ej2 : Aside0 (2 * (i : Int) + 1 + 1 = ((2 * i + 2 : Nat) : Int)) := ⟨by omega⟩
    have e1 : ∀ _ : Unit, wrap64 (2 * (i : Int)) = ((2 * i : Nat) : Int) := fun _ => by unfold wrap64; omega
    have e2 : ∀ _ : Unit, wrap64 (((2 * i : Nat) : Int) + 1) = ((2 * i + 1 : Nat) : Int) := fun _ => by unfold wrap64; omega
    have e3 : ∀ _ : Unit, wrap64 (((2 * i + 1 : Nat) : Int) + 1) = ((2 * i + 2 : Nat) : Int) := fun _ => by unfold wrap64; omega
    have hi : Aside0 (i < ts'.length) := ⟨HJ'.out.2.1⟩
    have hnl : Aside0 (n ≤ ts'.length) := ⟨by rw [HJ'.out.2.2]; exact HJ.out.2⟩
    go_wp2_with fail
    all_goals simp only [e1 (), e2 (), e3 ()] at *
    · have hnl := hnl.out
      have ha : Aside0 (2 * i + 2 < ts'.length) := ⟨by omega⟩
      have hb1 : Aside0 (2 * i + 1 < ts'.length) := ⟨by omega⟩
      have hlt : 2 * i + 2 < n := by omega
      clear hnl
      simp only [ej2.out, ej1.out]
      rw [m_less cw]
      go_upon
      go_wp2_with (go_at_call 37; refine (less wr L cap ts' (2 * i + 2) (2 * i + 1) HL'.out ha.out hb1.out).mono ?_)
      rintro e0 w1 ⟨rfl, F1, H1⟩
      have HL1 := Aside0.mk (HL'.out.heap H1)
      have HF1 := Aside0.mk (HF.out.trans (F1.mono (S' := L :: ts.map (·.1)) (by simp)))
      have cw1 : w1.cell? ⟨b, 3, none⟩ = some (.slice (some ⟨L, 0, none⟩) ts'.length cap) := by rw [cell_heap H1]; exact cw
      obtain ⟨q, hq⟩ : ∃ q, lessT (ts'[2 * i + 2]'ha.out).2 (ts'[2 * i + 1]'hb1.out).2 = q := ⟨_, rfl⟩
      rw [hq]
      clear F1 cw H1
      cases q with
      | false =>
        have hj : Aside0 (2 * i + 1 < ts'.length) := hb1
        go_wp2_with fail
        simp only [ej1.out]
        rw [m_less cw1]
        go_upon
        go_wp2_with (go_at_call 37; refine (less w1 L cap ts' (2 * i + 1) i HL1.out hj.out hi.out).mono ?_)
        rintro e3 w3 ⟨rfl, F3, H3⟩
        have HL3 := Aside0.mk (HL1.out.heap H3)
        have HF3 := Aside0.mk (HF1.out.trans (F3.mono (S' := L :: ts.map (·.1)) (by simp)))
        have cw3 : w3.cell? ⟨b, 3, none⟩ = some (.slice (some ⟨L, 0, none⟩) ts'.length cap) := by rw [cell_heap H3]; exact cw1
        have hk : Aside0 (kid ts' i n = 2 * i + 1) := ⟨by unfold kid; rw [if_neg (by rintro ⟨_, h⟩; rw [get_of ts' _ ha.out, get_of ts' _ hb1.out, hq] at h; simp at h)]⟩
        have HG : Aside0 (ts'.getD (2 * i + 1) default = ts'[2 * i + 1]'hj.out ∧ ts'.getD i default = ts'[i]'hi.out) := ⟨get_of ts' (2 * i + 1) hj.out, get_of ts' i hi.out⟩
        obtain ⟨q3, hq3⟩ : ∃ q, lessT (ts'[2 * i + 1]'hj.out).2 (ts'[i]'hi.out).2 = q := ⟨_, rfl⟩
        rw [hq3]
        clear F3
        cases q3 with
        | false =>
          have e : downL ts' i n = ts' := by rw [downL, dif_neg (by omega), hk.out, HG.out.1, HG.out.2, hq3]; simp
          clear H3
          go_wp2_with fail
          go_ret
          rw [← HU.out, e]
          exact ⟨⟨_, rfl⟩, HL3.out, HF3.out⟩
        | true =>
          have e : downL ts' i n = downL (swapL ts' i (2 * i + 1)) (2 * i + 1) n := by rw [downL, dif_neg (by omega), hk.out, HG.out.1, HG.out.2, hq3]; simp
          clear H3
          go_wp2_with fail
          simp only [ej1.out]
          rw [m_swap cw3]
          go_upon
          go_wp2_with (go_at_call 38; refine (swap w3 L cap ts' i (2 * i + 1) HL3.out hi.out hj.out).mono ?_)
          rintro e9 w4 ⟨rfl, HL4, F4⟩
          go_wp2_with fail
          go_roundg (n + 1 - (2 * i + 1))
          case measure => have := HJ'.out; omega
          case rel => exact ⟨2 * i + 1, swapL ts' i (2 * i + 1), rfl, ⟨rfl, by rw [swapL_length]; exact hj.out, by rw [swapL_length]; exact HJ'.out.2.2⟩, ⟨by rw [← HU.out, e]⟩, ⟨HL4⟩, ⟨fun x => (swapL_mem ts' i (2 * i + 1) hi.out hj.out x).trans (HM.out x)⟩, ⟨HF3.out.trans (F4.mono (fun x hx => by rcases List.mem_cons.1 hx with h | h; exact List.mem_cons.2 (.inl h); exact List.mem_cons.2 (.inr ((HM.out x).1 h))))⟩⟩
      | true =>
        have hj : Aside0 (2 * i + 2 < ts'.length) := ha
        go_wp2_with fail
        simp only [ej2.out, ej1.out]
        rw [m_less cw1]
        go_upon
        go_wp2_with (go_at_call 37; refine (less w1 L cap ts' (2 * i + 2) i HL1.out hj.out hi.out).mono ?_)
        rintro e3 w3 ⟨rfl, F3, H3⟩
        have HL3 := Aside0.mk (HL1.out.heap H3)
        have HF3 := Aside0.mk (HF1.out.trans (F3.mono (S' := L :: ts.map (·.1)) (by simp)))
        have cw3 : w3.cell? ⟨b, 3, none⟩ = some (.slice (some ⟨L, 0, none⟩) ts'.length cap) := by rw [cell_heap H3]; exact cw1
        have hk : Aside0 (kid ts' i n = 2 * i + 2) := ⟨by unfold kid; rw [if_pos ⟨by omega, by rw [get_of ts' _ ha.out, get_of ts' _ hb1.out, hq]⟩]⟩
        have HG : Aside0 (ts'.getD (2 * i + 2) default = ts'[2 * i + 2]'hj.out ∧ ts'.getD i default = ts'[i]'hi.out) := ⟨get_of ts' (2 * i + 2) hj.out, get_of ts' i hi.out⟩
        obtain ⟨q3, hq3⟩ : ∃ q, lessT (ts'[2 * i + 2]'hj.out).2 (ts'[i]'hi.out).2 = q := ⟨_, rfl⟩
        rw [hq3]
        clear F3
        cases q3 with
        | false =>
          have e : downL ts' i n = ts' := by rw [downL, dif_neg (by omega), hk.out, HG.out.1, HG.out.2, hq3]; simp
          clear H3
          go_wp2_with fail
          go_ret
          rw [← HU.out, e]
          exact ⟨⟨_, rfl⟩, HL3.out, HF3.out⟩
        | true =>
          have e : downL ts' i n = downL (swapL ts' i (2 * i + 2)) (2 * i + 2) n := by rw [downL, dif_neg (by omega), hk.out, HG.out.1, HG.out.2, hq3]; simp
          clear H3
          go_wp2_with fail
          simp only [ej2.out, ej1.out]
          rw [m_swap cw3]
          go_upon
          go_wp2_with (go_at_call 38; refine (swap w3 L cap ts' i (2 * i + 2) HL3.out hi.out hj.out).mono ?_)
          rintro e9 w4 ⟨rfl, HL4, F4⟩
          go_wp2_with fail
          go_roundg (n + 1 - (2 * i + 2))
          case measure => have := HJ'.out; omega
          case rel => exact ⟨2 * i + 2, swapL ts' i (2 * i + 2), rfl, ⟨rfl, by rw [swapL_length]; exact hj.out, by rw [swapL_length]; exact HJ'.out.2.2⟩, ⟨by rw [← HU.out, e]⟩, ⟨HL4⟩, ⟨fun x => (swapL_mem ts' i (2 * i + 2) hi.out hj.out x).trans (HM.out x)⟩, ⟨HF3.out.trans (F4.mono (fun x hx => by rcases List.mem_cons.1 hx with h | h; exact List.mem_cons.2 (.inl h); exact List.mem_cons.2 (.inr ((HM.out x).1 h))))⟩⟩
    · have hnl := hnl.out
      have hj : Aside0 (2 * i + 1 < ts'.length) := ⟨by omega⟩
      clear hnl
      simp only [ej1.out]
      rw [m_less cw]
      go_upon
      go_wp2_with (go_at_call 37; refine (less wr L cap ts' (2 * i + 1) i HL'.out hj.out hi.out).mono ?_)
      rintro e3 w3 ⟨rfl, F3, H3⟩
      have HL3 := Aside0.mk (HL'.out.heap H3)
      have HF3 := Aside0.mk (HF.out.trans (F3.mono (S' := L :: ts.map (·.1)) (by simp)))
      have cw3 : w3.cell? ⟨b, 3, none⟩ = some (.slice (some ⟨L, 0, none⟩) ts'.length cap) := by rw [cell_heap H3]; exact cw
      have hk : Aside0 (kid ts' i n = 2 * i + 1) := ⟨by unfold kid; rw [if_neg (by rintro ⟨h, _⟩; omega)]⟩
      have HG : Aside0 (ts'.getD (2 * i + 1) default = ts'[2 * i + 1]'hj.out ∧ ts'.getD i default = ts'[i]'hi.out) := ⟨get_of ts' (2 * i + 1) hj.out, get_of ts' i hi.out⟩
      obtain ⟨q3, hq3⟩ : ∃ q, lessT (ts'[2 * i + 1]'hj.out).2 (ts'[i]'hi.out).2 = q := ⟨_, rfl⟩
      rw [hq3]
      clear F3
      cases q3 with
      | false =>
        have e : downL ts' i n = ts' := by rw [downL, dif_neg (by omega), hk.out, HG.out.1, HG.out.2, hq3]; simp
        clear H3
        go_wp2_with fail
        go_ret
        rw [← HU.out, e]
        exact ⟨⟨_, rfl⟩, HL3.out, HF3.out⟩
      | true =>
        have e : downL ts' i n = downL (swapL ts' i (2 * i + 1)) (2 * i + 1) n := by rw [downL, dif_neg (by omega), hk.out, HG.out.1, HG.out.2, hq3]; simp
        clear H3
        go_wp2_with fail
        simp only [ej1.out]
        rw [m_swap cw3]
        go_upon
        go_wp2_with (go_at_call 38; refine (swap w3 L cap ts' i (2 * i + 1) HL3.out hi.out hj.out).mono ?_)
        rintro e9 w4 ⟨rfl, HL4, F4⟩
        go_wp2_with fail
        go_roundg (n + 1 - (2 * i + 1))
        case measure => have := HJ'.out; omega
        case rel => exact ⟨2 * i + 1, swapL ts' i (2 * i + 1), rfl, ⟨rfl, by rw [swapL_length]; exact hj.out, by rw [swapL_length]; exact HJ'.out.2.2⟩, ⟨by rw [← HU.out, e]⟩, ⟨HL4⟩, ⟨fun x => (swapL_mem ts' i (2 * i + 1) hi.out hj.out x).trans (HM.out x)⟩, ⟨HF3.out.trans (F4.mono (fun x hx => by rcases List.mem_cons.1 hx with h | h; exact List.mem_cons.2 (.inl h); exact List.mem_cons.2 (.inr ((HM.out x).1 h))))⟩⟩
    · have hge : n ≤ 2 * i + 1 := by omega
      go_wp2_with fail
      go_ret
      have e : downL ts' i n = ts' := by rw [downL, dif_pos hge]
      rw [← HU.out, e]
      refine ⟨?_, HL'.out, HF.out⟩
      show Ending.returned (.bool (decide (i0 < i))) = .returned (.bool false) ∨ Ending.returned (.bool (decide (i0 < i))) = .returned (.bool true)
      cases decide (i0 < i) <;> simp
end Go.Proofs.Ytioaihimmmjhcaa.T
