/- radix: common beginnings; one step down. -/
import Derived.Test.YtkaeglnnahecjaaR1
import Derived.Test.YtkaeglnnahecjaaPRadixLongestx1
set_option linter.unusedVariables false
set_option linter.unusedSimpArgs false
namespace Go.Proofs.Ytkaeglnnahecjaa.T
open Go.RowKit Go.Proofs.YtkaeglnnahecjaaW.PrintWords Go.Proofs.Ytkaeglnnahecjaa.PRadixLongest

/-- nothing has turned but what is drawn -/
structure Qt (w w' : World) : Prop where
  os : w'.os = w.os
  tape : w'.tape = w.tape
  output : w'.output = w.output
  heap : w'.heap = w.heap
theorem Qt.refl (w : World) : Qt w w := ⟨rfl, rfl, rfl, rfl⟩
theorem Qt.trans {a b c : World} (h : Qt a b) (k : Qt b c) : Qt a c := ⟨k.os.trans h.os, k.tape.trans h.tape, k.output.trans h.output, k.heap.trans h.heap⟩
theorem Qt.drew {a b : World} (h : Qt a b) : Qt a b.drew := ⟨h.os, h.tape, h.output, h.heap⟩
theorem Qt.drewN {a b : World} (h : Qt a b) : ∀ n, Qt a (b.drewN n)
  | 0 => h
  | n + 1 => (Qt.drewN h n).drew
theorem Qt.of0 {a b : World} (h : Drawn0 a b) : Qt a b := by obtain ⟨n, rfl⟩ := h; exact (Qt.refl a).drewN n
theorem Qt.kept {a b : World} (h : Qt a b) : Kept a b := fun k _ => by rw [h.heap]
theorem Qt.below {a b : World} (B : Nat) (h : Qt a b) : Below B a b := ⟨h.os, h.tape, h.output, by rw [h.heap]; exact Nat.le_refl _, fun k _ => by rw [h.heap]⟩
/-- the length of the common beginning -/
def com : List UInt8 → List UInt8 → Nat
  | x :: xs, y :: ys => if x = y then com xs ys + 1 else 0
  | _, _ => 0
theorem com_le : ∀ (a b : List UInt8), com a b ≤ a.length ∧ com a b ≤ b.length
  | [], b => by simp [com]
  | x :: xs, [] => by simp [com]
  | x :: xs, y :: ys => by
    unfold com
    have := com_le xs ys
    split <;> simp <;> omega
def comB (a b : ByteArray) : Nat := com a.data.toList b.data.toList
theorem comB_le (a b : ByteArray) : comB a b ≤ a.size ∧ comB a b ≤ b.size := by
  have h := com_le a.data.toList b.data.toList
  rw [Array.length_toList, Array.length_toList] at h
  exact h
theorem drop_cons (s : ByteArray) (i : Nat) (h : i < s.size) : s.data.toList.drop i = s[i] :: s.data.toList.drop (i + 1) := by
  have e : s[i] = s.data[i]'h := rfl
  rw [e, List.drop_eq_getElem_cons (by rw [Array.length_toList]; exact h)]
  simp
theorem com_run (a b : ByteArray) (ha : a.size < 9000000000000000000) : ∀ (k i : Nat), i ≤ a.size → i ≤ b.size → a.size < k + i → radix_common.l0 k a b (i : Int) = some ((i + com (a.data.toList.drop i) (b.data.toList.drop i) : Nat) : Int)
  | 0, i, h1, h2, h3 => by omega
  | k + 1, i, h1, h2, h3 => by
    unfold radix_common.l0
    by_cases ca : i < a.size
    · rw [if_pos (by omega), drop_cons a i ca]
      by_cases cb : i < b.size
      · rw [if_pos (by omega), if_pos (by omega), drop_cons b i cb]
        have e1 : bt a (i : Int) = (a[i].toNat : Int) := by simp [bt, ca]
        have e2 : bt b (i : Int) = (b[i].toNat : Int) := by simp [bt, cb]
        rw [e1, e2]
        unfold com
        by_cases e : a[i] = b[i]
        · rw [if_pos (by rw [e]), if_pos e]
          have ew : wrap64 ((i : Int) + 1) = ((i + 1 : Nat) : Int) := by unfold wrap64; omega
          rw [ew, com_run a b ha k (i + 1) (by omega) (by omega) (by omega)]
          congr 1
          omega
        · rw [if_neg (fun h => e (UInt8.toNat_inj.1 (by omega))), if_neg e]
          simp
      · rw [if_neg (by omega)]
        have : b.data.toList.drop i = [] := List.drop_eq_nil_iff.2 (by rw [Array.length_toList]; have : b.data.size = b.size := rfl; omega)
        rw [this]
        simp [com]
    · rw [if_neg (by omega)]
      have : a.data.toList.drop i = [] := List.drop_eq_nil_iff.2 (by rw [Array.length_toList]; have : a.data.size = a.size := rfl; omega)
      rw [this]
      simp [com]
theorem common (w : World) (a b : ByteArray) (ha : a.size < 9000000000000000000) : Calls Try.prog 89 #[.string a, .string b] w fun e w' => e = .returned (.int .i64 (comB a b)) ∧ Qt w w' := by
  have h := com_run a b ha (a.size + 1) 0 (by omega) (by omega) (by omega)
  refine (radix_common.calls (a.size + 1) a b _ w h).mono ?_
  rintro e w' ⟨rfl, hd⟩
  refine ⟨?_, Qt.of0 hd⟩
  simp [comB]
def fbS (s : ByteArray) : Nat := (s.data.toList.getD 0 0).toNat
theorem fbS_lt (s : ByteArray) : fbS s < 256 := UInt8.toNat_lt _
/-- the kid on rest's way -/
def kidN (n : Nd) (rest : ByteArray) : Option Nd := if hit (n.kids.map fb) (fbS rest) then n.kids[pos (n.kids.map fb) (fbS rest)]? else none
def downN (n : Nd) (rest : ByteArray) : Option Nd := if rest.size = 0 then none else (kidN n rest).bind fun k => if Lib.hasPrefix rest.data.toList k.label.data.toList then some k else none
def optPtr : Option Nd → Value | none => .pointer none | some k => ptr k.b
theorem hit_lt {fs : List Nat} {x : Nat} (h : hit fs x = true) : pos fs x < fs.length := by
  have := of_decide_eq_true h
  exact (List.getElem?_eq_some_iff.1 this).1
end Go.Proofs.Ytkaeglnnahecjaa.T
