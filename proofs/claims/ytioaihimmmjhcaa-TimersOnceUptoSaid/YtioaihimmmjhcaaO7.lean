/- timers, plain: the lists that the loop of sets builds. -/
import Derived.Test.YtioaihimmmjhcaaO6
import Derived.Test.YtioaihimmmjhcaaT15
set_option linter.unusedVariables false
set_option linter.unusedSimpArgs false
namespace Go.Proofs.Ytioaihimmmjhcaa.T

/-- the wheel's timers behind the setting of the numbers at -/
def setL (bs : Nat → Nat) (l : List Int) : Nat → List (Nat × Tm)
  | 0 => []
  | i + 1 => upL (setL bs l i ++ [(bs i, ⟨l.getD i 0, i, i⟩)]) (setL bs l i).length

theorem setL_length (bs : Nat → Nat) (l : List Int) : ∀ i, (setL bs l i).length = i
  | 0 => rfl
  | i + 1 => by
    have h := setL_length bs l i
    unfold setL
    rw [(upL_perm _ _ (by simp)).length_eq]
    simp [h]
theorem id_wf (i : Nat) (h : i < 1000000000000) : (idL i).wf = true := by
  simp [Lit.wf, IntKind.min, IntKind.max, IntKind.signed, IntKind.bits]
  omega
theorem setL_congr (bs bs' : Nat → Nat) (l : List Int) : ∀ i, (∀ j, j < i → bs j = bs' j) → setL bs l i = setL bs' l i
  | 0, _ => rfl
  | i + 1, h => by
    unfold setL
    rw [setL_congr bs bs' l i (fun j hj => h j (by omega)), h i (by omega)]
theorem setL_next (bs : Nat → Nat) (l : List Int) (i x : Nat) (hi : i < l.length) :
    setL (fun j => if j = i then x else bs j) l (i + 1) = upL (setL bs l i ++ [(x, ⟨l[i], i, i⟩)]) (setL bs l i).length := by
  have e : setL (fun j => if j = i then x else bs j) l i = setL bs l i := setL_congr _ _ l i (fun j hj => by rw [if_neg (by omega)])
  have e2 : l.getD i 0 = l[i] := by simp [List.getD_eq_getElem?_getD, List.getElem?_eq_getElem hi]
  rw [setL, e, if_pos rfl, e2]
/-- the map of the ids below i -/
def Dn : Nat → DataW Unit
  | 0 => .map []
  | i + 1 => (Dn i).put (idL i) (.lit (.bool true))
theorem Dn_free : ∀ (i j : Nat), i ≤ j → (Dn i).atKey (idL j) (.lit (.bool false)) = .lit (.bool false)
  | 0, j, _ => by
    unfold Dn
    rfl
  | i + 1, j, h => by
    unfold Dn
    rw [Maps.atKey_put_other (by intro e; simp [idL] at e; omega)]
    exact Dn_free i j (by omega)
def ent (l : List Int) (i : Nat) : Tm := ⟨l.getD i 0, i, i⟩
theorem setL_perm (bs : Nat → Nat) (l : List Int) : ∀ i, ((setL bs l i).map (·.2)).Perm ((List.range i).map (ent l))
  | 0 => by simp [setL]
  | i + 1 => by
    have h := setL_perm bs l i
    unfold setL
    refine ((upL_perm _ _ (by simp)).map _).trans ?_
    rw [List.map_append, List.range_succ, List.map_append]
    exact h.append_right _
theorem tm_left (a b : List (Nat × Tm)) (k : Nat) (h : k < a.length) : tm (a ++ b) k = tm a k := by
  unfold tm
  rw [List.getD_eq_getElem?_getD, List.getD_eq_getElem?_getD, List.getElem?_append_left h]
theorem setL_heap (bs : Nat → Nat) (l : List Int) : ∀ i, Heap (setL bs l i) (setL bs l i).length
  | 0 => fun j h1 h2 => by simp [setL] at h2
  | i + 1 => by
    have h := setL_heap bs l i
    rw [setL_length]
    have e : setL bs l (i + 1) = upL (setL bs l i ++ [(bs i, ⟨l.getD i 0, i, i⟩)]) (setL bs l i).length := rfl
    rw [e]
    have hl := setL_length bs l i
    have q := up_heap (setL bs l i).length (setL bs l i ++ [(bs i, ⟨l.getD i 0, i, i⟩)]) (by simp)
    rw [List.length_append, List.length_singleton, hl] at q
    rw [hl] at h
    rw [hl]
    refine q (fun k k1 k2 k3 => ?_) (fun k k1 k2 k3 k4 => by omega)
    have g := h k k1 (by omega)
    rwa [tm_left _ _ _ (by omega), tm_left _ _ _ (by omega)]
theorem setL_ids (bs : Nat → Nat) (l : List Int) (n : Nat) (hn : n < 1000000000000) : ∀ x ∈ setL bs l n, (idL x.2.id).wf = true := fun x hx => by
  have h := (setL_perm bs l n).mem_iff.1 (List.mem_map_of_mem (f := (·.2)) hx)
  obtain ⟨i, hi, e⟩ := List.mem_map.1 h
  rw [← e]
  exact id_wf i (by have := List.mem_range.1 hi; omega)
theorem setL_two (bs bs' : Nat → Nat) (l : List Int) (n : Nat) (mid end_ : Int) (hme : mid ≤ end_) :
    (advL (setL bs l n) mid).1 ++ (advL (advL (setL bs l n) mid).2 end_).1 = (advL (setL bs' l n) end_).1 ∧ (advL (advL (setL bs l n) mid).2 end_).2.length = (advL (setL bs' l n) end_).2.length := by
  refine two_steps _ _ mid end_ hme (setL_heap bs l n) (setL_heap bs' l n) ((setL_perm bs l n).trans (setL_perm bs' l n).symm) ?_
  intro x hx y hy e
  obtain ⟨i, hi, rfl⟩ := List.mem_map.1 ((setL_perm bs l n).mem_iff.1 hx)
  obtain ⟨j, hj, rfl⟩ := List.mem_map.1 ((setL_perm bs l n).mem_iff.1 hy)
  have : i = j := by
    have e' : (i : Int) = j := e
    omega
  rw [this]
end Go.Proofs.Ytioaihimmmjhcaa.T
