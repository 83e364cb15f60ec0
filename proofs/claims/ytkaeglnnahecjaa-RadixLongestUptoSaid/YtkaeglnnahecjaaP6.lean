/- radix, plain: Get finds what is there; Longest is the longest beginning that is there. -/
import Derived.Test.YtkaeglnnahecjaaP5
import Derived.Test.YtkaeglnnahecjaaR14
set_option linter.unusedVariables false
set_option linter.unusedSimpArgs false
namespace Go.Proofs.Ytkaeglnnahecjaa.T

theorem downN_eq (n : Nd) (ho : Ok n) (rest : ByteArray) (h : rest.size ≠ 0) : downN n rest = (kidT n.kids (hd (L rest))).bind fun k => if L k.label <+: L rest then some k else none := by
  unfold downN
  rw [if_neg h, kidN_eq n ho rest]
  congr 1
  funext k
  have : (Lib.hasPrefix rest.data.toList k.label.data.toList = true) ↔ L k.label <+: L rest := List.isPrefixOf_iff_prefix
  by_cases e : L k.label <+: L rest
  · rw [if_pos e, if_pos (this.2 e)]
  · rw [if_neg e, if_neg (fun h => e (this.1 h))]
theorem seek_way (k : ByteArray) : ∀ (f : Nat) (n : Nd) (a : Nat), Ok n → k.size + 1 < f + a + n.label.size → a + n.label.size ≤ k.size →
    wayF (stepF k) k f (some n) a none = findT n ((L k).drop (a + n.label.size)) := by
  intro f
  induction f with
  | zero => intro n a _ h1 h2; omega
  | succ f ih =>
    intro n a ho h1 h2
    obtain ⟨a2, ea⟩ : ∃ a2, a + n.label.size = a2 := ⟨_, rfl⟩
    unfold wayF
    rw [ea]
    have hsz : (k.extract a2 k.size).size = k.size - a2 := by simp only [ByteArray.size_extract]; omega
    by_cases hend : a2 = k.size
    · have e1 : downN n (k.extract a2 k.size) = none := by unfold downN; rw [if_pos (by omega)]
      have e2 : (L k).drop a2 = [] := List.drop_eq_nil_iff.2 (by rw [L_len]; omega)
      rw [e1, wayF_none, e2, findT_nil]
      unfold stepF
      rw [if_pos hend]
    · have e1 := downN_eq n ho (k.extract a2 k.size) (by omega)
      rw [L_tail] at e1
      have hne : (L k).drop a2 ≠ [] := fun e => by have := List.drop_eq_nil_iff.1 e; rw [L_len] at this; omega
      have es : stepF k none n a2 = none := by unfold stepF; rw [if_neg hend]
      rw [es, findT_eq _ _ hne]
      cases ek : kidT n.kids (hd ((L k).drop a2)) with
      | none =>
        rw [ek] at e1
        rw [e1]
        exact wayF_none _ _ _ _ _
      | some m =>
        rw [ek] at e1
        simp only [Option.bind_some] at e1 ⊢
        have hm := (kidT_some ek).1
        have hpos := ho.parts.2.1 m hm
        by_cases hp : L m.label <+: (L k).drop a2
        · rw [if_pos hp] at e1
          have hle := hp.length_le
          rw [L_len, List.length_drop, L_len] at hle
          rw [e1, ih m a2 (ho.parts.2.2.get m hm) (by omega) (by omega)]
          unfold below
          rw [if_pos ⟨hpos, hp⟩, List.drop_drop]
        · rw [if_neg hp] at e1
          rw [e1, wayF_none]
          unfold below
          rw [if_neg (fun e => hp e.2)]
theorem seek_eq {root : Nd} (h : Good root) (k : ByteArray) : seekN root k = findT root (L k) := by
  unfold seekN
  rw [seek_way k _ root 0 h.ok (by omega) (by have := h.top; omega), h.top]
  rfl
theorem find_eq {root : Nd} (h : Good root) (k : ByteArray) : findN root k = findT root (L k) := findN_eq k.size k (Nat.le_refl _) root h.ok
/-- res is what stands at the longest beginning of R beneath n, else s -/
def LongAt (n : Nd) (R : List UInt8) (s res : Option Lf) : Prop :=
  (∃ j, j ≤ R.length ∧ findT n (R.take j) = res ∧ res ≠ none ∧ ∀ j', j < j' → j' ≤ R.length → findT n (R.take j') = none) ∨ (res = s ∧ ∀ j, j ≤ R.length → findT n (R.take j) = none)
theorem hd_take (R : List UInt8) (j : Nat) (h : 0 < j) : hd (R.take j) = hd R := by
  cases R with
  | nil => simp
  | cons x xs => cases j with | zero => omega | succ j => rfl
theorem long_stop (n : Nd) (R : List UInt8) (s : Option Lf) (h : ∀ j, 0 < j → j ≤ R.length → findT n (R.take j) = none) : LongAt n R s (if n.leaf.isSome then n.leaf else s) := by
  cases e : n.leaf with
  | none =>
    refine .inr ⟨rfl, fun j hj => ?_⟩
    by_cases h0 : j = 0
    · subst h0; rw [List.take_zero, findT_nil, e]
    · exact h j (by omega) hj
  | some l =>
    refine .inl ⟨0, Nat.zero_le _, by rw [List.take_zero, findT_nil, e]; rfl, by simp, fun j' h1 h2 => h j' h1 h2⟩
theorem long_way (k : ByteArray) : ∀ (f : Nat) (n : Nd) (a : Nat) (s : Option Lf), Ok n → k.size + 1 < f + a + n.label.size → a + n.label.size ≤ k.size →
    LongAt n ((L k).drop (a + n.label.size)) s (wayF stepL k f (some n) a s) := by
  intro f
  induction f with
  | zero => intro n a s _ h1 h2; omega
  | succ f ih =>
    intro n a s ho h1 h2
    obtain ⟨a2, ea⟩ : ∃ a2, a + n.label.size = a2 := ⟨_, rfl⟩
    unfold wayF
    rw [ea]
    have hsz : (k.extract a2 k.size).size = k.size - a2 := by simp only [ByteArray.size_extract]; omega
    have hRl : ((L k).drop a2).length = k.size - a2 := by rw [List.length_drop, L_len]
    have es : stepL s n a2 = if n.leaf.isSome then n.leaf else s := rfl
    by_cases hend : a2 = k.size
    · have e1 : downN n (k.extract a2 k.size) = none := by unfold downN; rw [if_pos (by omega)]
      rw [e1, wayF_none, es]
      exact long_stop n _ s (fun j h3 h4 => by omega)
    · have e1 := downN_eq n ho (k.extract a2 k.size) (by omega)
      rw [L_tail] at e1
      obtain ⟨R, eR⟩ : ∃ R, (L k).drop a2 = R := ⟨_, rfl⟩
      rw [eR] at e1 hRl ⊢
      have hF : ∀ j, 0 < j → j ≤ R.length → findT n (R.take j) = (kidT n.kids (hd R)).bind (below (R.take j)) := fun j h3 h4 => by
        rw [findT_eq _ _ (fun e => by have := congrArg List.length e; rw [List.length_take, List.length_nil] at this; omega), hd_take R j h3]
      cases ek : kidT n.kids (hd R) with
      | none =>
        rw [ek] at e1 hF
        have e2 : downN n (k.extract a2 k.size) = none := e1
        rw [e2, wayF_none, es]
        exact long_stop n R s (fun j h3 h4 => by rw [hF j h3 h4]; rfl)
      | some m =>
        rw [ek] at e1 hF
        simp only [Option.bind_some] at e1 hF
        have hm := (kidT_some ek).1
        have hpos := ho.parts.2.1 m hm
        have hml : (L m.label).length = m.label.size := L_len _
        by_cases hp : L m.label <+: R
        · rw [if_pos hp] at e1
          have hle := hp.length_le
          rw [hml] at hle
          rw [e1, es]
          have hI := ih m a2 (if n.leaf.isSome then n.leaf else s) (ho.parts.2.2.get m hm) (by omega) (by omega)
          have eR2 : (L k).drop (a2 + m.label.size) = R.drop m.label.size := by rw [← eR, List.drop_drop]
          rw [eR2] at hI
          have hRd : (R.drop m.label.size).length = R.length - m.label.size := List.length_drop
          have hsmall : ∀ j, 0 < j → j < m.label.size → j ≤ R.length → findT n (R.take j) = none := fun j h3 h4 h5 => by
            rw [hF j h3 h5]
            unfold below
            rw [if_neg (fun e => by have := e.2.length_le; rw [hml, List.length_take] at this; omega)]
          have hbig : ∀ j, j ≤ R.length - m.label.size → findT n (R.take (m.label.size + j)) = findT m ((R.drop m.label.size).take j) := fun j h3 => by
            rw [hF _ (by omega) (by omega)]
            unfold below
            have hpre : L m.label <+: R.take (m.label.size + j) := by
              obtain ⟨t, ht⟩ := hp
              rw [← ht, ← hml, List.take_length_add_append]
              exact List.prefix_append _ _
            rw [if_pos ⟨hpos, hpre⟩]
            congr 1
            rw [List.drop_take]
            congr 1
            omega
          rcases hI with ⟨j, j1, j2, j3, j4⟩ | ⟨i1, i2⟩
          · refine .inl ⟨m.label.size + j, by omega, by rw [hbig j (by omega)]; exact j2, j3, fun j' h3 h4 => ?_⟩
            have e3 : j' = m.label.size + (j' - m.label.size) := by omega
            rw [e3, hbig _ (by omega)]
            exact j4 _ (by omega) (by omega)
          · rw [i1]
            refine long_stop n R s (fun j h3 h4 => ?_)
            by_cases h5 : j < m.label.size
            · exact hsmall j h3 h5 h4
            · have e3 : j = m.label.size + (j - m.label.size) := by omega
              rw [e3, hbig _ (by omega)]
              exact i2 _ (by omega)
        · rw [if_neg hp] at e1
          rw [e1, wayF_none, es]
          refine long_stop n R s (fun j h3 h4 => ?_)
          rw [hF j h3 h4]
          unfold below
          rw [if_neg (fun e => hp (e.2.trans (List.take_prefix _ _)))]
theorem long_eq {root : Nd} (h : Good root) (k : ByteArray) : LongAt root (L k) none (longN root k) := by
  have h1 := long_way k (k.size + 2) root 0 none h.ok (by omega) (by have := h.top; omega)
  rw [h.top] at h1
  exact h1
end Go.Proofs.Ytkaeglnnahecjaa.T
