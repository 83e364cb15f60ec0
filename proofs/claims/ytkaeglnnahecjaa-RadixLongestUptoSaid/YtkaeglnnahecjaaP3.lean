/- radix, plain: a tree with a leaf put in holds that leaf at its place, and elsewhere what it held. -/
import Derived.Test.YtkaeglnnahecjaaP2
set_option linter.unusedVariables false
set_option linter.unusedSimpArgs false
namespace Go.Proofs.Ytkaeglnnahecjaa.T

theorem fb_hd (n : Nd) : fb n = hd (L n.label) := rfl
theorem hd_prefix {a r : List UInt8} (h : a <+: r) (ha : 0 < a.length) : hd r = hd a := by
  obtain ⟨t, rfl⟩ := h
  cases a with
  | nil => simp at ha
  | cons x xs => rfl
theorem hd_drop (a : List UInt8) (p : Nat) : hd (a.drop p) = (a.getD p 0).toNat := by
  unfold hd
  simp [List.getD_eq_getElem?_getD, List.getElem?_drop]
theorem tip_below (s : ByteArray) (l : Lf) (a : Nat × Value) (hs : 0 < s.size) (q : List UInt8) : below q (tipN s l a) = if q = L s then some l else none := by
  unfold below
  have e1 : (tipN s l a).label = s := rfl
  rw [e1]
  by_cases h : q = L s
  · rw [if_pos h, if_pos ⟨hs, by rw [h]; exact List.prefix_refl _⟩, h, ← L_len, List.drop_length, findT_nil]
    rfl
  · rw [if_neg h]
    split
    · rename_i hp
      have hd0 : q.drop s.size ≠ [] := fun e => by
        have h1 := hp.2.length_le
        have h2 := List.drop_eq_nil_iff.1 e
        rw [L_len] at h1
        exact h (hp.2.eq_of_length (by rw [L_len]; omega)).symm
      rw [findT_eq _ _ hd0]
      rfl
    · rfl
theorem low_below (k : Nd) (p b : Nat) (hp : p < k.label.size) (q r : List UInt8) (hr : r = (L k.label).take p ++ q) : (kidT [lowN k p b] (hd q)).bind (below q) = below r k := by
  have hA : (L k.label).length = k.label.size := L_len _
  have hlow : L (lowN k p b).label = (L k.label).drop p := L_tail _ _
  have hlsz : (lowN k p b).label.size = k.label.size - p := by rw [← L_len, hlow, List.length_drop, hA]
  have hpre : L k.label <+: r ↔ (L k.label).drop p <+: q := by
    rw [hr]
    conv => lhs; lhs; rw [← List.take_append_drop p (L k.label)]
    exact List.prefix_append_right_inj _
  have htl : ((L k.label).take p).length = p := by rw [List.length_take]; omega
  have hkid : kidT [lowN k p b] (hd q) = if fb (lowN k p b) = hd q then some (lowN k p b) else none := by
    unfold kidT
    by_cases e : fb (lowN k p b) = hd q
    · rw [if_pos e, List.find?_cons_of_pos (by simp [e])]
    · rw [if_neg e, List.find?_cons_of_neg (by simp [e])]; rfl
  rw [hkid]
  unfold below
  by_cases h : L k.label <+: r
  · have h2 := hpre.1 h
    have h3 : hd q = fb (lowN k p b) := by
      rw [fb_hd, hlow]
      exact hd_prefix h2 (by rw [List.length_drop]; omega)
    rw [if_pos h3.symm, if_pos ⟨by omega, h⟩]
    simp only [Option.bind_some]
    rw [if_pos ⟨by omega, by rw [hlow]; exact h2⟩, hlsz]
    have e4 : r.drop k.label.size = q.drop (k.label.size - p) := by
      rw [hr, List.drop_append, htl]
      have : ((L k.label).take p).drop k.label.size = [] := List.drop_eq_nil_iff.2 (by omega)
      rw [this, List.nil_append]
    rw [e4]
    cases k with
    | mk kb klab kleaf kkids kmark => exact findT_same _ _ _ _ _ _ _ _ _
  · have h2 : ¬ (L k.label).drop p <+: q := fun e => h (hpre.2 e)
    by_cases e : fb (lowN k p b) = hd q
    · rw [if_pos e]
      simp only [Option.bind_some]
      rw [if_neg (fun e => h2 (by rw [← hlow]; exact e.2)), if_neg (fun e => h e.2)]
    · rw [if_neg e, if_neg (fun e => h e.2)]
      rfl
theorem split_below (k : Nd) (rest : ByteArray) (l : Lf) (ns : Sup) (p : Nat) (ep : comB k.label rest = p) (h0 : 0 < p) (hp : p < k.label.size) (r : List UInt8) :
    below r (splitN k p rest l ns) = if r = L rest then some l else below r k := by
  have hA : (L k.label).length = k.label.size := L_len _
  have hR : (L rest).length = rest.size := L_len _
  have hpr : p ≤ rest.size := by have := comB_le k.label rest; omega
  have hct : (L k.label).take p = (L rest).take p := by rw [← ep]; exact com_take _ _
  have htl : ((L rest).take p).length = p := by rw [List.length_take]; omega
  have hml : ∀ x, x = rest.extract 0 p → L x = (L rest).take p ∧ x.size = p := fun x e => by
    subst e
    exact ⟨L_head _ _, by rw [← L_len, L_head, htl]⟩
  have hlab : L (splitN k p rest l ns).label = (L rest).take p ∧ (splitN k p rest l ns).label.size = p := by
    apply hml
    unfold splitN
    split <;> rfl
  by_cases hpre : (L rest).take p <+: r
  · obtain ⟨q, hq⟩ := hpre
    have e1 : below r (splitN k p rest l ns) = findT (splitN k p rest l ns) q := by
      unfold below
      rw [hlab.1, hlab.2, if_pos ⟨h0, ⟨q, hq⟩⟩]
      congr 1
      rw [← hq, List.drop_append, htl, Nat.sub_self, List.drop_zero]
      have : ((L rest).take p).drop p = [] := List.drop_eq_nil_iff.2 (by omega)
      rw [this, List.nil_append]
    rw [e1]
    have hrq : r = (L k.label).take p ++ q := by rw [hct, hq]
    have hiff : r = L rest ↔ q = (L rest).drop p := by
      rw [← hq]
      conv => lhs; rhs; rw [← List.take_append_drop p (L rest)]
      exact ⟨fun e => List.append_cancel_left e, fun e => by rw [e]⟩
    by_cases hpe : p = rest.size
    · have es : splitN k p rest l ns = .mk (ns 1).1 (rest.extract 0 p) (some l) [lowN k p (ns 2).1] (ns 1).2 := by unfold splitN; rw [if_pos hpe]
      rw [es]
      have hdr : (L rest).drop p = [] := List.drop_eq_nil_iff.2 (by omega)
      by_cases hq0 : q = []
      · rw [if_pos (hiff.2 (by rw [hq0, hdr])), hq0, findT_nil]; rfl
      · rw [if_neg (fun e => hq0 (by rw [hiff.1 e, hdr])), findT_eq _ _ hq0]
        exact low_below k p _ hp q r hrq
    · have es : splitN k p rest l ns = .mk (ns 1).1 (rest.extract 0 p) none (insAt (pos [fb (lowN k p (ns 2).1)] (fbAt rest p)) (tipN (rest.extract p rest.size) l (ns 3)) [lowN k p (ns 2).1]) (ns 1).2 := by unfold splitN; rw [if_neg hpe]
      rw [es]
      have htip : fb (tipN (rest.extract p rest.size) l (ns 3)) = hd ((L rest).drop p) := by rw [fb_hd]; show hd (L (rest.extract p rest.size)) = _; rw [L_tail]
      have hlowfb : fb (lowN k p (ns 2).1) = hd ((L k.label).drop p) := by rw [fb_hd]; show hd (L (k.label.extract p k.label.size)) = _; rw [L_tail]
      have hdiff : hd ((L k.label).drop p) ≠ hd ((L rest).drop p) := by
        rw [hd_drop, hd_drop]
        have h5 := com_stop (L k.label) (L rest) (by show comB k.label rest < _; omega) (by show comB k.label rest < _; omega)
        intro e
        apply h5
        have e2 : com (L k.label) (L rest) = p := ep
        rw [e2]
        exact UInt8.toNat_inj.1 e
      by_cases hq0 : q = []
      · subst hq0
        rw [findT_nil, if_neg (fun e => by
          have h6 := hiff.1 e
          have h7 := congrArg List.length h6
          rw [List.length_nil, List.length_drop] at h7
          omega)]
        have h8 : ¬ L k.label <+: r := fun e => by
          have h9 := e.length_le
          rw [← hq, List.append_nil, htl] at h9
          omega
        unfold below
        rw [if_neg (fun e => h8 e.2)]
        rfl
      · rw [findT_eq _ _ hq0]
        show (kidT (insAt _ _ _) (hd q)).bind (below q) = _
        rw [kidT_insAt _ _ _ _ (fun k' hk' => by rw [List.mem_singleton] at hk'; rw [hk', hlowfb, htip]; exact hdiff)]
        by_cases htq : fb (tipN (rest.extract p rest.size) l (ns 3)) = hd q
        · rw [if_pos htq]
          simp only [Option.bind_some]
          rw [tip_below _ _ _ (by simp only [ByteArray.size_extract]; omega), L_tail]
          by_cases hqe : q = (L rest).drop p
          · rw [if_pos hqe, if_pos (hiff.2 hqe)]
          · rw [if_neg hqe, if_neg (fun e => hqe (hiff.1 e))]
            have h8 : ¬ L k.label <+: r := fun e => by
              rw [hrq] at e
              have e9 : (L k.label).drop p <+: q := by
                conv at e => lhs; rw [← List.take_append_drop p (L k.label)]
                exact (List.prefix_append_right_inj _).1 e
              have e10 := hd_prefix e9 (by rw [List.length_drop]; omega)
              rw [← htq, htip] at e10
              exact hdiff e10.symm
            unfold below
            rw [if_neg (fun e => h8 e.2)]
        · rw [if_neg htq, if_neg (fun e => htq (by rw [htip, hiff.1 e]))]
          exact low_below k p _ hp q r hrq
  · have h1 : r ≠ L rest := fun e => hpre (by rw [e]; exact List.take_prefix _ _)
    have h2 : ¬ L k.label <+: r := fun e => hpre (by rw [← hct]; exact (List.take_prefix _ _).trans e)
    rw [if_neg h1]
    unfold below
    rw [hlab.1, if_neg (fun e => hpre e.2), if_neg (fun e => h2 e.2)]
end Go.Proofs.Ytkaeglnnahecjaa.T
