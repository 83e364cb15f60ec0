/- radix, plain: what a tree with a leaf put in holds. -/
import Derived.Test.YtkaeglnnahecjaaP1
import Derived.Test.YtkaeglnnahecjaaR11
set_option linter.unusedVariables false
set_option linter.unusedSimpArgs false
namespace Go.Proofs.Ytkaeglnnahecjaa.T

theorem findT_nil (n : Nd) : findT n [] = n.leaf := by rw [findT, dif_pos rfl]
def below (r : List UInt8) (k : Nd) : Option Lf := if 0 < k.label.size ∧ L k.label <+: r then findT k (r.drop k.label.size) else none
theorem findT_eq (n : Nd) (r : List UInt8) (h : r ≠ []) : findT n r = (kidT n.kids (hd r)).bind (below r) := by
  rw [findT, dif_neg h]
  cases kidT n.kids (hd r) with
  | none => rfl
  | some k =>
    simp only [Option.bind_some, below]
    by_cases h2 : 0 < k.label.size ∧ L k.label <+: r
    · rw [dif_pos h2, if_pos h2]
    · rw [dif_neg h2, if_neg h2]
theorem findT_same (b b' : Nat) (lab lab' : ByteArray) (leaf : Option Lf) (kids : List Nd) (m m' : Value) (r : List UInt8) : findT (.mk b lab leaf kids m) r = findT (.mk b' lab' leaf kids m') r := by
  by_cases h : r = []
  · subst h; rw [findT_nil, findT_nil]; rfl
  · rw [findT_eq _ _ h, findT_eq _ _ h]; rfl
theorem kidT_insAt (ks : List Nd) (i : Nat) (t : Nd) (x : Nat) (h : ∀ k ∈ ks, fb k ≠ fb t) : kidT (insAt i t ks) x = if fb t = x then some t else kidT ks x := by
  unfold kidT insAt
  rw [List.find?_append]
  by_cases e : fb t = x
  · rw [if_pos e, List.find?_cons_of_pos (by simp [e])]
    have h1 : (ks.take i).find? (fun k => fb k == x) = none := by
      rw [List.find?_eq_none]
      intro k hk
      have := h k (List.mem_of_mem_take hk)
      simp; omega
    rw [h1]; rfl
  · rw [if_neg e, List.find?_cons_of_neg (by simp [e]), ← List.find?_append, List.take_append_drop]
theorem set_split {α : Type} (ks : List α) (i : Nat) (t : α) (hi : i < ks.length) : ks.set i t = ks.take i ++ t :: ks.drop (i + 1) := List.set_eq_take_append_cons_drop ▸ by rw [if_pos hi]
theorem kidT_set (ks : List Nd) (i : Nat) (t : Nd) (x : Nat) (hi : i < ks.length) (hf : fb t = fb ks[i]) (hp : (ks.map fb).Pairwise (· < ·)) : kidT (ks.set i t) x = if fb t = x then some t else kidT ks x := by
  have e2 : ks = ks.take i ++ ks[i] :: ks.drop (i + 1) := by
    rw [← List.drop_eq_getElem_cons hi, List.take_append_drop]
  unfold kidT
  rw [set_split ks i t hi, List.find?_append]
  by_cases e : fb t = x
  · rw [if_pos e, List.find?_cons_of_pos (by simp [e])]
    have h1 : (ks.take i).find? (fun k => fb k == x) = none := by
      rw [List.find?_eq_none]
      intro k hk
      obtain ⟨j, hj, ej⟩ := List.getElem_of_mem hk
      rw [List.length_take] at hj
      have h2 := List.pairwise_iff_getElem.1 hp j i (by rw [List.length_map]; omega) (by rw [List.length_map]; exact hi) (by omega)
      rw [List.getElem_map, List.getElem_map] at h2
      rw [List.getElem_take] at ej
      rw [← ej]
      simp
      omega
    rw [h1]; rfl
  · rw [if_neg e, List.find?_cons_of_neg (by simp [e])]
    conv => rhs; rw [e2]
    rw [List.find?_append, List.find?_cons_of_neg (by simp; omega)]
theorem kidT_some {ks : List Nd} {x : Nat} {k : Nd} (h : kidT ks x = some k) : k ∈ ks ∧ fb k = x := by
  unfold kidT at h
  exact ⟨List.mem_of_find?_eq_some h, by simpa using List.find?_some h⟩
theorem kidT_none {ks : List Nd} {x : Nat} (h : kidT ks x = none) : ∀ k ∈ ks, fb k ≠ x := by
  unfold kidT at h
  rw [List.find?_eq_none] at h
  intro k hk
  have := h k hk
  simpa using this
theorem insN_label (n : Nd) (rest : ByteArray) (l : Lf) (ns : Sup) : (insN n rest l ns).label = n.label := by
  rw [insN]
  split
  · rfl
  · split
    · rfl
    · split <;> rfl
theorem findN_eq : ∀ (N : Nat) (rest : ByteArray), rest.size ≤ N → ∀ n, Ok n → findN n rest = findT n (L rest) := by
  intro N
  induction N with
  | zero =>
    intro rest hN n ho
    have e : L rest = [] := List.length_eq_zero_iff.1 (by rw [L_len]; omega)
    rw [findN, dif_pos (by omega), e, findT_nil]
  | succ N ih =>
    intro rest hN n ho
    by_cases h0 : rest.size = 0
    · have e : L rest = [] := List.length_eq_zero_iff.1 (by rw [L_len]; omega)
      rw [findN, dif_pos h0, e, findT_nil]
    · have hne : L rest ≠ [] := fun e => h0 (by rw [← L_len, e]; rfl)
      rw [findN, dif_neg h0, findT_eq _ _ hne, ← kidN_eq n ho rest]
      cases e : kidN n rest with
      | none => rfl
      | some k =>
        obtain ⟨hh, hlt, ek⟩ := kidN_some e
        have hkm : k ∈ n.kids := by rw [← ek]; exact List.getElem_mem _
        have hpos := ho.parts.2.1 k hkm
        simp only [Option.bind_some, below]
        by_cases hp : L k.label <+: L rest
        · have hc := (comB_prefix k.label rest).2 hp
          rw [dif_pos ⟨by omega, hc⟩, if_pos ⟨hpos, hp⟩, ih _ (by simp only [ByteArray.size_extract]; omega) k (ho.parts.2.2.get k hkm), L_tail, hc]
        · rw [dif_neg (fun h => hp ((comB_prefix k.label rest).1 h.2)), if_neg (fun h => hp h.2)]
end Go.Proofs.Ytkaeglnnahecjaa.T
