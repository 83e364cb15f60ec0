/- radix, plain: the leaves that a tree holds, as lists of bytes. -/
import Derived.Test.YtkaeglnnahecjaaR7
set_option linter.unusedVariables false
set_option linter.unusedSimpArgs false
namespace Go.Proofs.Ytkaeglnnahecjaa.T

abbrev L (s : ByteArray) : List UInt8 := s.data.toList
theorem L_len (s : ByteArray) : (L s).length = s.size := by rw [Array.length_toList]; rfl
theorem L_extract (s : ByteArray) (i j : Nat) : L (s.extract i j) = ((L s).take j).drop i := by
  simp [L, ByteArray.data_extract, List.drop_take]
theorem L_inj {a b : ByteArray} (h : L a = L b) : a = b := ByteArray.ext (Array.toList_inj.1 h)
theorem L_tail (s : ByteArray) (p : Nat) : L (s.extract p s.size) = (L s).drop p := by
  rw [L_extract, List.take_of_length_le (by rw [L_len]; exact Nat.le_refl _)]
theorem L_head (s : ByteArray) (p : Nat) : L (s.extract 0 p) = (L s).take p := by rw [L_extract, List.drop_zero]
/-- the kid whose label begins with x -/
def kidT (ks : List Nd) (x : Nat) : Option Nd := ks.find? (fun k => fb k == x)
def hd (r : List UInt8) : Nat := (r.getD 0 0).toNat
theorem kidN_eq (n : Nd) (ho : Ok n) (rest : ByteArray) : kidN n rest = kidT n.kids (hd (L rest)) := by
  have hs := ho.parts.1
  have key : ∀ (ks : List Nd) (x : Nat), (ks.map fb).Pairwise (· < ·) → (if hit (ks.map fb) x then ks[pos (ks.map fb) x]? else none) = kidT ks x := by
    intro ks
    induction ks with
    | nil => intro x _; simp [kidT, hit, pos]
    | cons k ks ih =>
      intro x hp
      have hp2 := List.pairwise_cons.1 hp
      unfold kidT hit
      simp only [List.map_cons, pos]
      by_cases h1 : fb k < x
      · rw [if_pos h1]
        have h2 : (fb k == x) = false := by simp; omega
        rw [List.find?_cons_of_neg (by simp [h2])]
        have h3 := ih x hp2.2
        unfold hit kidT at h3
        simpa using h3
      · rw [if_neg h1]
        by_cases h2 : fb k = x
        · rw [List.find?_cons_of_pos (by simp [h2])]
          simp [h2]
        · rw [List.find?_cons_of_neg (by simp [h2])]
          have h3 : ks.find? (fun k => fb k == x) = none := by
            rw [List.find?_eq_none]
            intro y hy
            have := hp2.1 (fb y) (List.mem_map_of_mem hy)
            simp
            omega
          rw [h3]
          simp [h2]
  exact key n.kids (fbS rest) hs
/-- the leaf at r beneath n -/
def findT (n : Nd) (r : List UInt8) : Option Lf :=
  if h0 : r = [] then n.leaf
  else match kidT n.kids (hd r) with
    | none => none
    | some k => if h : 0 < k.label.size ∧ L k.label <+: r then findT k (r.drop k.label.size) else none
termination_by r.length
decreasing_by
  have : 0 < r.length := by cases r with | nil => exact absurd rfl h0 | cons a b => simp
  rw [List.length_drop]
  omega
theorem com_prefix : ∀ (a b : List UInt8), com a b = a.length ↔ a <+: b
  | [], b => by simp [com]
  | x :: xs, [] => by simp [com]
  | x :: xs, y :: ys => by
    unfold com
    by_cases h : x = y
    · subst h
      rw [if_pos rfl, List.cons_prefix_cons, List.length_cons]
      have := com_prefix xs ys
      constructor
      · intro e; exact ⟨rfl, this.1 (by omega)⟩
      · intro e; have := this.2 e.2; omega
    · rw [if_neg h, List.cons_prefix_cons]
      constructor
      · intro e; simp at e
      · intro e; exact absurd e.1 h
theorem com_take : ∀ (a b : List UInt8), a.take (com a b) = b.take (com a b)
  | [], b => by simp [com]
  | x :: xs, [] => by simp [com]
  | x :: xs, y :: ys => by
    unfold com
    by_cases h : x = y
    · subst h; rw [if_pos rfl, List.take_succ_cons, List.take_succ_cons, com_take xs ys]
    · rw [if_neg h]; simp
theorem com_stop : ∀ (a b : List UInt8), com a b < a.length → com a b < b.length → a.getD (com a b) 0 ≠ b.getD (com a b) 0
  | [], b, h, _ => by simp [com] at h
  | x :: xs, [], _, h => by simp [com] at h
  | x :: xs, y :: ys, h1, h2 => by
    unfold com at h1 h2 ⊢
    by_cases h : x = y
    · rw [if_pos h] at h1 h2 ⊢
      simp only [List.length_cons] at h1 h2
      have := com_stop xs ys (by omega) (by omega)
      simpa using this
    · rw [if_neg h]
      simpa using h
theorem comB_prefix (a b : ByteArray) : comB a b = a.size ↔ L a <+: L b := by
  rw [← com_prefix, L_len]
  exact Iff.rfl
end Go.Proofs.Ytkaeglnnahecjaa.T
