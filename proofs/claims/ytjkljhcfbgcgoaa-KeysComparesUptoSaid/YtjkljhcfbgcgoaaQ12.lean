/- KeysCompares, plainly: it comes to an answer, true. -/
import Derived.Test.YtjkljhcfbgcgoaaM3
import Derived.Test.YtjkljhcfbgcgoaaM6
import Derived.Test.YtjkljhcfbgcgoaaQ3
import Derived.Test.YtjkljhcfbgcgoaaQ8
set_option linter.unusedVariables false
set_option linter.unusedSimpArgs false
namespace Go.Proofs.Ytjkljhcfbgcgoaa.Q
open Go.RowKit Go.Proofs.Ytjkljhcfbgcgoaa.K Go.Proofs.YtjkljhcfbgcgoaaW.PrintWords Go.Proofs.YtjkljhcfbgcgoaaW.PrintLast

theorem ref_loop (a b : List S36) (hva : a.all kvalid = true) (hvb : b.all kvalid = true) (ha : a.length < 4398046511104) (hz : ∀ p ∈ a, p.f1.size < 4611686018427387904) :
    Ev (fun k => musterref01_Compare.l0 k a b 0) (cmpL a b, 0) := by
  have key : ∀ d i : Nat, i ≤ a.length → i ≤ b.length → a.length - i = d → Ev (fun k => musterref01_Compare.l0 k a b (i : Int)) (cmpL (a.drop i) (b.drop i), 0) := by
    intro d
    induction d with
    | zero =>
      intro i hi hib hd
      have e2 : i = a.length := by omega
      rw [cmpL_nil _ _ (.inl (List.drop_eq_nil_of_le (by omega)))]
      refine Ev.step (f := fun k => musterref01_Compare.j2 k a b i false) (fun k => ?_) ?_
      · simp only [musterref01_Compare.l0]
        rw [if_neg (by omega)]
      · refine Ev.step (f := fun k => some (cmpI ((a.drop i).length : Int) ((b.drop i).length : Int), 0)) (fun k => ?_) (Ev.now _)
        simp only [musterref01_Compare.j2, List.length_drop]
        rw [if_neg (by simp)]
        unfold cmpI
        by_cases h1 : a.length < b.length
        · rw [if_pos (by omega), if_pos (by omega)]
        · rw [if_neg (by omega), if_neg (by omega), if_neg (by omega), if_neg (by omega)]
    | succ d ih =>
      intro i hi hib hd
      have h1 : i < a.length := by omega
      by_cases h2 : i < b.length
      · have hpa : kvalid a[i] = true := List.all_eq_true.1 hva _ (List.getElem_mem h1)
        have hpb : kvalid b[i] = true := List.all_eq_true.1 hvb _ (List.getElem_mem h2)
        have hza : a[i].f1.size < 4611686018427387904 := hz _ (List.getElem_mem h1)
        rw [List.drop_eq_getElem_cons h1, List.drop_eq_getElem_cons h2]
        simp only [cmpL]
        have step1 : ∀ x, Ev (fun k => musterref01_Compare.j3 k a b i (lessP a[i] b[i])) x → Ev (fun k => musterref01_Compare.l0 k a b (i : Int)) x := by
          intro x hx
          refine Ev.step (f := fun k => musterref01_Compare.j2 k a b i true) (fun k => ?_) ?_
          · simp only [musterref01_Compare.l0]
            rw [if_pos (by omega), decide_eq_true (show (i : Int) < (b.length : Int) by omega)]
          · by_cases hk1 : a[i].f0 < b[i].f0
            · refine Ev.step (f := fun k => musterref01_Compare.j3 k a b i true) (fun k => ?_) ?_
              · simp only [musterref01_Compare.j2, if_true]
                rw [if_pos (by omega), if_pos (by omega), if_pos (by omega), rd_at a i h1, rd_at b i h2, if_pos hk1]
              · have e : lessP a[i] b[i] = true := by simp [lessP, hk1]
                rw [e] at hx; exact hx
            · by_cases hk2 : a[i].f0 = b[i].f0
              · refine Ev.step (f := fun k => (musterref01_Less.f k a[i].f1 b[i].f1).bind fun t => if t = true then musterref01_Compare.j3 k a b i true else musterref01_Compare.j3 k a b i (decide (a[i].f2 < b[i].f2))) (fun k => ?_) (Ev.bind (less_ev _ _ hza) ?_)
                · simp only [musterref01_Compare.j2, if_true]
                  rw [if_pos (by omega), if_pos (by omega), if_pos (by omega), rd_at a i h1, rd_at b i h2, if_neg hk1, if_pos hk2]
                · by_cases hb : Op.bytesLess a[i].f1.toList b[i].f1.toList = true
                  · have e : lessP a[i] b[i] = true := by simp [lessP, hk2, hb]
                    rw [e] at hx
                    simp only [hb, if_true]; exact hx
                  · have e : lessP a[i] b[i] = decide (a[i].f2 < b[i].f2) := by simp [lessP, hk2, hb]
                    rw [e] at hx
                    simp only [hb, if_false]; exact hx
              · refine Ev.step (f := fun k => musterref01_Compare.j3 k a b i false) (fun k => ?_) ?_
                · simp only [musterref01_Compare.j2, if_true]
                  rw [if_pos (by omega), if_pos (by omega), if_pos (by omega), rd_at a i h1, rd_at b i h2, if_neg hk1, if_neg hk2]
                · have e : lessP a[i] b[i] = false := by simp [lessP, hk1, hk2]
                  rw [e] at hx; exact hx
        by_cases hs : sameP a[i] b[i] = true
        · rw [if_pos hs]
          refine step1 _ ?_
          have hl : lessP a[i] b[i] = false := by rw [(sameP_iff _ _).1 hs]; simp [lessP, less_irrefl]
          rw [hl]
          refine Ev.step (f := fun k => musterref01_Compare.l0 k a b ((i + 1 : Nat) : Int)) (fun k => ?_) (ih (i + 1) (by omega) (by omega) (by omega))
          simp only [musterref01_Compare.j3]
          rw [if_neg (by simp), if_pos (by omega), if_pos (by omega), if_pos (by omega), rd_at a i h1, rd_at b i h2, if_neg (by unfold sameP at hs; simpa using hs), wrap_small _ (by omega) (by omega)]
          rfl
        · rw [if_neg hs]
          refine step1 _ ?_
          have hne : a[i] ≠ b[i] := fun e => hs ((sameP_iff _ _).2 e)
          rcases part_cases _ _ hpa hpb hne with ⟨e1, e2, _⟩ | ⟨e1, e2, _⟩
          · rw [e1, e2]
            refine Ev.step (f := fun k => some (-1, 0)) (fun k => ?_) (Ev.now _)
            simp only [musterref01_Compare.j3, if_true]
          · rw [e1, e2]
            refine Ev.step (f := fun k => some (1, 0)) (fun k => ?_) (Ev.now _)
            simp only [musterref01_Compare.j3]
            rw [if_neg (by simp), if_pos (by omega), if_pos (by omega), if_pos (by omega), rd_at a i h1, rd_at b i h2, if_pos (by have h9 := Bool.eq_false_iff.2 hs; unfold sameP at h9; simpa only [Bool.not_eq_false'] using h9)]
      · rw [cmpL_nil _ _ (.inr (List.drop_eq_nil_of_le (by omega)))]
        refine Ev.step (f := fun k => musterref01_Compare.j2 k a b i false) (fun k => ?_) ?_
        · simp only [musterref01_Compare.l0]
          rw [if_pos (by omega), decide_eq_false (show ¬ (i : Int) < (b.length : Int) by omega)]
        · refine Ev.step (f := fun k => some (cmpI ((a.drop i).length : Int) ((b.drop i).length : Int), 0)) (fun k => ?_) (Ev.now _)
          simp only [musterref01_Compare.j2, List.length_drop]
          rw [if_neg (by simp), if_neg (by omega), if_pos (by omega)]
          unfold cmpI
          rw [if_neg (by omega), if_pos (by omega)]
  exact key a.length 0 (by omega) (by omega) (by omega)
theorem ref_ev (a b : List S36) (hwa : ∀ p ∈ a, wfP p) (hwb : ∀ p ∈ b, wfP p) (ha : a.length < 4398046511104) (hb : b.length < 4398046511104) (hz : ∀ p ∈ a, p.f1.size < 4611686018427387904) :
    Ev (fun k => musterref01_Compare.f k a b) (cmpR a b) := by
  unfold musterref01_Compare.f cmpR
  refine Ev.bind (allvalid_ev a hwa ha) ?_
  cases hva : a.all kvalid with
  | true =>
    simp only [if_true, Bool.true_and]
    refine Ev.bind (allvalid_ev b hwb hb) ?_
    cases hvb : b.all kvalid with
    | true =>
      simp only [if_true, Bool.not_true]
      refine Ev.step (f := fun k => musterref01_Compare.l0 k a b 0) (fun k => ?_) (ref_loop a b hva hvb ha hz)
      simp only [musterref01_Compare.j0]
      rw [if_neg (by simp)]
    | false =>
      refine Ev.step (f := fun k => some (0, 10)) (fun k => ?_) (Ev.now _)
      simp only [musterref01_Compare.j0]
      rw [if_pos (by simp)]
  | false =>
    refine Ev.step (f := fun k => some (0, 10)) (fun k => ?_) (Ev.now _)
    simp only [musterref01_Compare.j0]
    simp
theorem wt_mem (l : List S36) (p : S36) (h : p ∈ l) : p.f1.size ≤ R.wt l := by
  induction l with
  | nil => simp at h
  | cons q l ih =>
    simp only [R.wt]
    rcases List.mem_cons.1 h with rfl | h
    · omega
    · have := ih h; omega
theorem Compares (a b : List S36) (hwa : ∀ p ∈ a, wfP p) (hwb : ∀ p ∈ b, wfP p) (hb : R.wt a + R.wt b ≤ 1048576) : ∃ k, musterlaw01_KeysCompares.f k a b = some true := by
  have ha := R.wt_length a
  have hbl := R.wt_length b
  refine Ev.rounds (g := fun k => musterlaw01_KeysCompares.f k a b) ?_
  unfold musterlaw01_KeysCompares.f
  refine Ev.bind fixed_ev ?_
  simp only [↓reduceIte]
  refine Ev.bind (ref_ev a b hwa hwb (by omega) (by omega) (fun p hp => by have := wt_mem a p hp; omega)) ?_
  refine Ev.bind (copied_ev a (by omega)) ?_
  refine Ev.bind (copied_ev b (by omega)) ?_
  refine Ev.bind (compare_ev a b (by omega)) ?_
  simp only [↓reduceIte, bne_self_eq_false]
  have hfin : (cmpR b a).1 = wrap64 (-(cmpR a b).1) ∧ (cmpR b a).2 = (cmpR a b).2 := by
    unfold cmpR
    cases hva : a.all kvalid with
    | false => simp; unfold wrap64; omega
    | true =>
      cases hvb : b.all kvalid with
      | false => simp; unfold wrap64; omega
      | true =>
        obtain ⟨h1, h2⟩ := cmpL_flip a b hva hvb
        simp only [Bool.and_self, if_true, and_true]
        rw [h1]
        unfold wrap64
        omega
  refine Ev.step (f := fun k => (musterlaw01_copied.f k b).bind fun t269 => ((musterlaw01_copied.f k a).bind fun t272 => ((keys_Compare.f k t269 t272).bind fun bt275 => (if bt275.1 = (wrap64 (-(cmpR a b).1)) then (some (bt275.2 == (cmpR a b).2)) else (some false))))) (fun k => ?_) ?_
  · simp only [musterlaw01_KeysCompares.j0]
    rw [if_neg (by simp)]
  · refine Ev.bind (copied_ev b (by omega)) ?_
    refine Ev.bind (copied_ev a (by omega)) ?_
    refine Ev.bind (compare_ev b a (by omega)) ?_
    simp only [hfin.1, hfin.2, ↓reduceIte, beq_self_eq_true]
    exact Ev.now _
end Go.Proofs.Ytjkljhcfbgcgoaa.Q
