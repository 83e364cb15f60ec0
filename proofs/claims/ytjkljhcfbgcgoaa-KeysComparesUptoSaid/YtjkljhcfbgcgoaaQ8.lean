/- keys, plain laws: what Compare tells of two parts, and of two lists. -/
import Derived.Test.YtjkljhcfbgcgoaaQ7
import Derived.Test.YtjkljhcfbgcgoaaQ5
set_option linter.unusedVariables false
set_option linter.unusedSimpArgs false
namespace Go.Proofs.Ytjkljhcfbgcgoaa.Q
open Go.RowKit Go.Proofs.Ytjkljhcfbgcgoaa.K Go.Proofs.YtjkljhcfbgcgoaaW.PrintWords Go.Proofs.YtjkljhcfbgcgoaaW.PrintLast

def lessP (p q : S36) : Bool := decide (p.f0 < q.f0) || (p.f0 == q.f0 && (Op.bytesLess p.f1.toList q.f1.toList || decide (p.f2 < q.f2)))
theorem same_kind (p q : S36) (hp : kvalid p = true) (hq : kvalid q = true) (h : p.f0 = q.f0) : p.f2 = q.f2 ∨ p.f1 = q.f1 := by
  rcases kind_of p hp with h1 | h1 | h1
  · exact .inl ((kvalid_text p hp h1).trans (kvalid_text q hq (by omega)).symm)
  · exact .inr ((kvalid_num p hp h1).trans (kvalid_num q hq (by omega)).symm)
  · exact .inr ((kvalid_flag p hp h1).1.trans (kvalid_flag q hq (by omega)).1.symm)
theorem txt_ne (a b : ByteArray) (h : a ≠ b) : a.toList ≠ b.toList := by
  rw [Lib.toList_data, Lib.toList_data]
  exact fun e => h (ByteArray.ext (Array.toList_inj.1 e))
theorem part_cases (p q : S36) (hp : kvalid p = true) (hq : kvalid q = true) (h : p ≠ q) :
    (lessP p q = true ∧ partC p q = -1 ∧ partC q p = 1) ∨ (lessP p q = false ∧ partC p q = 1 ∧ partC q p = -1) := by
  by_cases hl : p.f0 < q.f0
  · have h1 : ¬ q.f0 < p.f0 := by omega
    exact .inl ⟨by simp [lessP, hl], by simp [partC, or3, cmpI, hl], by simp [partC, or3, cmpI, hl, h1]⟩
  · by_cases hg : q.f0 < p.f0
    · have h1 : ¬ p.f0 = q.f0 := by omega
      exact .inr ⟨by simp [lessP, hl, h1], by simp [partC, or3, cmpI, hl, hg], by simp [partC, or3, cmpI, hl, hg]⟩
    · have h0 : p.f0 = q.f0 := by omega
      by_cases ht : p.f1 = q.f1
      · have h2 : p.f2 ≠ q.f2 := fun e => h (by cases p; cases q; simp_all)
        by_cases hn : p.f2 < q.f2
        · have h3 : ¬ q.f2 < p.f2 := by omega
          exact .inl ⟨by simp [lessP, h0, hn], by simp [partC, or3, cmpI, cmpT, h0, ht, less_irrefl, hn], by simp [partC, or3, cmpI, cmpT, h0, ht, less_irrefl, hn, h3]⟩
        · have h3 : q.f2 < p.f2 := by omega
          exact .inr ⟨by simp [lessP, h0, ht, less_irrefl]; omega, by simp [partC, or3, cmpI, cmpT, h0, ht, less_irrefl, hn, h3], by simp [partC, or3, cmpI, cmpT, h0, ht, less_irrefl, hn, h3]⟩
      · have h2 : p.f2 = q.f2 := by rcases same_kind p q hp hq h0 with e | e; exact e; exact absurd e ht
        have hf := less_flip _ _ (txt_ne _ _ ht)
        cases hb : Op.bytesLess p.f1.toList q.f1.toList with
        | true =>
          rw [hb] at hf
          exact .inl ⟨by simp [lessP, h0, hb], by simp [partC, or3, cmpI, cmpT, h0, hb], by simp [partC, or3, cmpI, cmpT, h0, hb, hf]⟩
        | false =>
          rw [hb] at hf
          exact .inr ⟨by simp [lessP, h0, hb, h2], by simp [partC, or3, cmpI, cmpT, h0, hb, hf], by simp [partC, or3, cmpI, cmpT, h0, hb, hf]⟩
theorem all_head {p : S36} {ps : List S36} (h : (p :: ps).all kvalid = true) : kvalid p = true ∧ ps.all kvalid = true := by
  rw [List.all_cons, Bool.and_eq_true] at h; exact h
theorem cmpL_flip : ∀ a b : List S36, a.all kvalid = true → b.all kvalid = true → cmpL b a = - cmpL a b ∧ (cmpL a b = -1 ∨ cmpL a b = 0 ∨ cmpL a b = 1)
  | [], [], _, _ => by simp [cmpL]
  | [], _ :: _, _, _ => by simp [cmpL]
  | _ :: _, [], _, _ => by simp [cmpL]
  | p :: ps, q :: qs, ha, hb => by
    obtain ⟨hp, hps⟩ := all_head ha
    obtain ⟨hq, hqs⟩ := all_head hb
    simp only [cmpL]
    by_cases hs : p = q
    · subst hs
      have h1 : sameP p p = true := (sameP_iff p p).2 rfl
      rw [if_pos h1, if_pos h1]
      exact cmpL_flip ps qs hps hqs
    · have h1 : ¬ sameP p q = true := fun e => hs ((sameP_iff _ _).1 e)
      have h2 : ¬ sameP q p = true := fun e => hs ((sameP_iff _ _).1 e).symm
      rw [if_neg h1, if_neg h2]
      rcases part_cases p q hp hq hs with ⟨_, e1, e2⟩ | ⟨_, e1, e2⟩ <;> rw [e1, e2] <;> simp
end Go.Proofs.Ytjkljhcfbgcgoaa.Q
