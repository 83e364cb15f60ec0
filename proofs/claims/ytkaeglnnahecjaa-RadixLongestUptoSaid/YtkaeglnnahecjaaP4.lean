/- radix, plain: what insert makes: it finds, it is in order, its labels are small. -/
import Derived.Test.YtkaeglnnahecjaaP3
import Derived.Test.YtkaeglnnahecjaaR12
set_option linter.unusedVariables false
set_option linter.unusedSimpArgs false
namespace Go.Proofs.Ytkaeglnnahecjaa.T

theorem fb_insN (n : Nd) (rest : ByteArray) (l : Lf) (ns : Sup) : fb (insN n rest l ns) = fb n := by rw [fb_hd, insN_label, fb_hd]
theorem splitN_label (k : Nd) (p : Nat) (rest : ByteArray) (l : Lf) (ns : Sup) : (splitN k p rest l ns).label = rest.extract 0 p := by
  unfold splitN
  split <;> rfl
theorem fb_splitN (k : Nd) (p : Nat) (rest : ByteArray) (l : Lf) (ns : Sup) (h0 : 0 < p) (hr : 0 < rest.size) : fb (splitN k p rest l ns) = hd (L rest) := by
  rw [fb_hd, splitN_label, L_head]
  have h1 : 0 < (L rest).length := by rw [L_len]; exact hr
  cases e : L rest with
  | nil => rw [e] at h1; simp at h1
  | cons x xs =>
    cases p with
    | zero => omega
    | succ p => rfl
theorem find_ins : ∀ (N : Nat) (rest : ByteArray), rest.size ≤ N → ∀ n, Ok n → ∀ (l : Lf) (ns : Sup) (r : List UInt8), findT (insN n rest l ns) r = if r = L rest then some l else findT n r := by
  intro N
  induction N with
  | zero =>
    intro rest hN n ho l ns r
    have e0 : L rest = [] := List.length_eq_zero_iff.1 (by rw [L_len]; omega)
    rw [insN, dif_pos (by omega), e0]
    by_cases hr : r = []
    · rw [if_pos hr, hr, findT_nil]; rfl
    · rw [if_neg hr, findT_eq _ _ hr, findT_eq _ _ hr]; rfl
  | succ N ih =>
    intro rest hN n ho l ns r
    by_cases h0 : rest.size = 0
    · have e0 : L rest = [] := List.length_eq_zero_iff.1 (by rw [L_len]; omega)
      rw [insN, dif_pos h0, e0]
      by_cases hr : r = []
      · rw [if_pos hr, hr, findT_nil]; rfl
      · rw [if_neg hr, findT_eq _ _ hr, findT_eq _ _ hr]; rfl
    · have hRne : L rest ≠ [] := fun e => h0 (by rw [← L_len, e]; rfl)
      have hrs : 0 < rest.size := by omega
      have hq := kidN_eq n ho rest
      rw [insN, dif_neg h0]
      cases e : kidN n rest with
      | none =>
        simp only []
        rw [e] at hq
        by_cases hr : r = []
        · rw [if_neg (fun e => hRne (by rw [← e, hr])), hr, findT_nil, findT_nil]; rfl
        · rw [findT_eq _ _ hr, findT_eq _ _ hr]
          show (kidT (insAt _ _ _) (hd r)).bind (below r) = _
          have ht : fb (tipN rest l (ns 1)) = hd (L rest) := rfl
          rw [kidT_insAt _ _ _ _ (fun k hk => by rw [ht]; exact kidT_none hq.symm k hk), ht]
          by_cases hx : hd (L rest) = hd r
          · rw [if_pos hx]
            simp only [Option.bind_some]
            rw [tip_below _ _ _ hrs, ← hx, ← hq]
            rfl
          · rw [if_neg hx, if_neg (fun e => hx (by rw [e]))]
      | some k =>
        simp only []
        rw [e] at hq
        obtain ⟨hh, hlt, ek⟩ := kidN_some e
        have hkm : k ∈ n.kids := by rw [← ek]; exact List.getElem_mem _
        have hpos := ho.parts.2.1 k hkm
        have hfk := (kidT_some hq.symm).2
        have hcp := com_pos n k rest e hrs hpos
        have hcl := comB_le k.label rest
        -- both ways
        have key : ∀ (c : Nd) (i : Nat), i = pos (n.kids.map fb) (fbS rest) → fb c = fb k → (∀ r, r ≠ [] → below r c = if r = L rest then some l else below r k) →
            findT (.mk (ns 0).1 n.label n.leaf (n.kids.set i c) (ns 0).2) r = if r = L rest then some l else findT n r := by
          intro c i ei hfc hb
          subst ei
          by_cases hr : r = []
          · rw [if_neg (fun e => hRne (by rw [← e, hr])), hr, findT_nil, findT_nil]; rfl
          · rw [findT_eq _ _ hr, findT_eq _ _ hr]
            show (kidT (n.kids.set _ c) (hd r)).bind (below r) = _
            rw [kidT_set n.kids _ c (hd r) hlt (by rw [hfc, ek]) ho.parts.1]
            by_cases hx : fb c = hd r
            · rw [if_pos hx]
              simp only [Option.bind_some]
              rw [hb r hr]
              rw [hfc, hfk] at hx
              rw [← hx, ← hq]
              rfl
            · rw [if_neg hx, if_neg (fun e => hx (by rw [hfc, hfk, e]))]
        by_cases hp : 0 < comB k.label rest ∧ comB k.label rest = k.label.size
        · rw [dif_pos hp]
          refine key _ _ rfl (fb_insN _ _ _ _) (fun r hr => ?_)
          have hpre := (comB_prefix k.label rest).1 hp.2
          unfold below
          rw [insN_label]
          by_cases hpr : 0 < k.label.size ∧ L k.label <+: r
          · rw [if_pos hpr, if_pos hpr, ih _ (by simp only [ByteArray.size_extract]; omega) k (ho.parts.2.2.get k hkm), L_tail, hp.2]
            have hiff : r.drop k.label.size = (L rest).drop k.label.size ↔ r = L rest := by
              obtain ⟨a, ha⟩ := hpr.2
              obtain ⟨b, hb⟩ := hpre
              have hl : (L k.label).length = k.label.size := L_len _
              rw [← ha, ← hb, ← hl, List.drop_left, List.drop_left]
              exact ⟨fun e => by rw [e], fun e => List.append_cancel_left e⟩
            by_cases e2 : r = L rest
            · rw [if_pos e2, if_pos (hiff.2 e2)]
            · rw [if_neg e2, if_neg (fun h => e2 (hiff.1 h))]
          · rw [if_neg hpr, if_neg hpr, if_neg (fun e2 => hpr ⟨hpos, by rw [e2]; exact hpre⟩)]
        · rw [dif_neg hp]
          refine key _ _ rfl (by rw [fb_splitN _ _ _ _ _ hcp hrs, hfk]) (fun r hr => ?_)
          exact split_below k rest l ns _ rfl hcp (by omega) r
end Go.Proofs.Ytkaeglnnahecjaa.T
