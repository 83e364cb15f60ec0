/- '<=' and '>' on strings, in one direction of bytesLess. -/
import Derived.Laws.Cover1
import Derived.Test.YtjkljhcfbgcgoaaProg
namespace Go.Proofs.Ytjkljhcfbgcgoaa.Hs
theorem less_swap : ∀ a b : List UInt8, (Op.bytesLess a b || a == b) = !(Op.bytesLess b a)
  | [], [] => rfl
  | [], _ :: _ => rfl
  | _ :: _, [] => rfl
  | a :: x, b :: y => by
    have ih := less_swap x y
    have h1 : Op.bytesLess (a :: x) (b :: y) = (decide (a < b) || (a == b && Op.bytesLess x y)) := rfl
    have h2 : Op.bytesLess (b :: y) (a :: x) = (decide (b < a) || (b == a && Op.bytesLess y x)) := rfl
    rw [h1, h2]
    by_cases hab : a < b
    · have hba : ¬ b < a := by rw [UInt8.lt_iff_toNat_lt] at hab ⊢; omega
      have hne : (b == a) = false := by
        rw [beq_eq_false_iff_ne]; rintro rfl
        rw [UInt8.lt_iff_toNat_lt] at hab; omega
      simp [hab, hba, hne]
    · by_cases hba : b < a
      · have hne : (a == b) = false := by
          rw [beq_eq_false_iff_ne]; rintro rfl
          rw [UInt8.lt_iff_toNat_lt] at hba; omega
        have hne2 : ((a :: x) == (b :: y)) = false := by
          rw [beq_eq_false_iff_ne]; intro h; injection h with h _; subst h; simp at hne
        simp only [hab, hba, hne, hne2]; simp
      · have he : a = b := by
          rw [UInt8.lt_iff_toNat_lt] at hab hba
          exact UInt8.toNat_inj.1 (by omega)
        subst he
        have e : ((a :: x) == (a :: y)) = (x == y) := by
          rw [Bool.eq_iff_iff]; simp
        rw [e]
        simp only [hab, beq_self_eq_true, Bool.true_and, decide_false, Bool.false_or]
        exact ih
@[go_sem high] theorem gtr_p (t : TypeId) (a b : ByteArray) : binOp .gtr t (.string a) (.string b) = pure (.bool (Op.bytesLess b.toList a.toList)) := by
  rw [binOp_string_gtr, less_swap, Bool.not_not]
@[go_sem high] theorem leq_p (t : TypeId) (a b : ByteArray) : binOp .leq t (.string a) (.string b) = pure (.bool (!Op.bytesLess b.toList a.toList)) := by
  rw [binOp_string_leq, less_swap]
end Go.Proofs.Ytjkljhcfbgcgoaa.Hs
