/- radix, plain: what insert makes is in order, its labels are small, its leaves lie at their keys. -/
import Derived.Test.YtkaeglnnahecjaaP4
set_option linter.unusedVariables false
set_option linter.unusedSimpArgs false
namespace Go.Proofs.Ytkaeglnnahecjaa.T

theorem Oks.of : ∀ {ks : List Nd}, (∀ k ∈ ks, Ok k) → Oks ks
  | [], _ => by unfold Oks; trivial
  | n :: r, h => by
    unfold Oks
    exact ⟨h n (by simp), Oks.of (fun k hk => h k (by simp [hk]))⟩
theorem Sms.of : ∀ {ks : List Nd}, (∀ k ∈ ks, Sm k) → Sms ks
  | [], _ => by unfold Sms; trivial
  | n :: r, h => by
    unfold Sms
    exact ⟨h n (by simp), Sms.of (fun k hk => h k (by simp [hk]))⟩
theorem Ok.mk' {b : Nat} {label : ByteArray} {leaf : Option Lf} {kids : List Nd} {m : Value} (h1 : (kids.map fb).Pairwise (· < ·)) (h2 : ∀ k ∈ kids, 0 < k.label.size) (h3 : ∀ k ∈ kids, Ok k) : Ok (.mk b label leaf kids m) := by
  unfold Ok
  exact ⟨h1, h2, Oks.of h3⟩
theorem Sm.mk' {b : Nat} {label : ByteArray} {leaf : Option Lf} {kids : List Nd} {m : Value} (h1 : label.size < 4000000000000) (h3 : ∀ k ∈ kids, Sm k) : Sm (.mk b label leaf kids m) := by
  unfold Sm
  exact ⟨h1, Sms.of h3⟩
theorem mem_insAt {α : Type} {i : Nat} {x y : α} {l : List α} (h : y ∈ insAt i x l) : y = x ∨ y ∈ l := by
  rcases List.mem_append.1 h with e | e
  · exact .inr (List.mem_of_mem_take e)
  · rcases List.mem_cons.1 e with e | e
    · exact .inl e
    · exact .inr (List.mem_of_mem_drop e)
theorem rise_insAt : ∀ (fs : List Nat) (x : Nat), fs.Pairwise (· < ·) → x ∉ fs → (insAt (pos fs x) x fs).Pairwise (· < ·)
  | [], x, _, _ => by simp [insAt, pos]
  | y :: r, x, hp, hx => by
    have h2 := List.pairwise_cons.1 hp
    unfold pos
    by_cases h : y < x
    · rw [if_pos h]
      have ih := rise_insAt r x h2.2 (fun e => hx (by simp [e]))
      show (y :: insAt (pos r x) x r).Pairwise (· < ·)
      refine List.pairwise_cons.2 ⟨fun z hz => ?_, ih⟩
      rcases mem_insAt hz with e | e
      · rw [e]; exact h
      · exact h2.1 z e
    · rw [if_neg h]
      show (x :: y :: r).Pairwise (· < ·)
      have hxy : x < y := by
        have : x ≠ y := fun e => hx (by simp [e])
        omega
      refine List.pairwise_cons.2 ⟨fun z hz => ?_, hp⟩
      rcases List.mem_cons.1 hz with e | e
      · rw [e]; exact hxy
      · have := h2.1 z e; omega
theorem map_insAt (ks : List Nd) (i : Nat) (t : Nd) : (insAt i t ks).map fb = insAt i (fb t) (ks.map fb) := by simp [insAt]
theorem ok_insAt (ks : List Nd) (x : Nat) (t : Nd) (ht : fb t = x) (hp : (ks.map fb).Pairwise (· < ·)) (hn : ∀ k ∈ ks, fb k ≠ x) : ((insAt (pos (ks.map fb) x) t ks).map fb).Pairwise (· < ·) := by
  rw [map_insAt, ht]
  refine rise_insAt _ _ hp (fun e => ?_)
  obtain ⟨k, hk, e2⟩ := List.mem_map.1 e
  exact hn k hk e2
theorem ok_tip (s : ByteArray) (l : Lf) (a : Nat × Value) : Ok (tipN s l a) := Ok.mk' (by simp) (by simp) (by simp)
theorem ok_low (k : Nd) (p b : Nat) (h : Ok k) : Ok (lowN k p b) := Ok.mk' h.parts.1 h.parts.2.1 (fun x hx => h.parts.2.2.get x hx)
theorem ok_split (k : Nd) (rest : ByteArray) (l : Lf) (ns : Sup) (p : Nat) (ep : comB k.label rest = p) (hk : Ok k) (hp : p < k.label.size) : Ok (splitN k p rest l ns) := by
  have hpr : p ≤ rest.size := by have := comB_le k.label rest; omega
  have hll : 0 < (lowN k p (ns 2).1).label.size := by
    show 0 < (k.label.extract p k.label.size).size
    simp only [ByteArray.size_extract]
    omega
  unfold splitN
  split
  · exact Ok.mk' (by simp) (by simpa using hll) (by simpa using ok_low k p _ hk)
  · rename_i hpe
    have hx : fbAt rest p = fb (tipN (rest.extract p rest.size) l (ns 3)) := by
      rw [fb_hd]
      show _ = hd (L (rest.extract p rest.size))
      rw [L_tail, hd_drop]
      rfl
    refine Ok.mk' (ok_insAt [lowN k p (ns 2).1] _ _ hx.symm (by simp) (fun k' hk' => ?_)) (fun k' hk' => ?_) (fun k' hk' => ?_)
    · rw [List.mem_singleton] at hk'
      rw [hk', fb_hd]
      show hd (L (k.label.extract p k.label.size)) ≠ _
      rw [L_tail, hd_drop]
      have h5 := com_stop (L k.label) (L rest) (by show comB k.label rest < _; rw [L_len]; omega) (by show comB k.label rest < _; rw [L_len]; omega)
      have e2 : com (L k.label) (L rest) = p := ep
      rw [e2] at h5
      intro e
      exact h5 (UInt8.toNat_inj.1 e)
    · rcases mem_insAt hk' with e | e
      · rw [e]
        show 0 < (rest.extract p rest.size).size
        simp only [ByteArray.size_extract]
        omega
      · rw [List.mem_singleton] at e; rw [e]; exact hll
    · rcases mem_insAt hk' with e | e
      · rw [e]; exact ok_tip _ _ _
      · rw [List.mem_singleton] at e; rw [e]; exact ok_low k p _ hk
theorem map_set_same (ks : List Nd) (i : Nat) (c : Nd) (hi : i < ks.length) (h : fb c = fb ks[i]) : (ks.set i c).map fb = ks.map fb := by
  rw [List.map_set, h]
  apply List.ext_getElem?
  intro j
  rw [List.getElem?_set]
  split
  · rename_i e
    subst e
    rw [List.length_map, if_pos hi, List.getElem?_map, List.getElem?_eq_getElem hi]
    rfl
  · rfl
theorem ok_ins : ∀ (N : Nat) (rest : ByteArray), rest.size ≤ N → ∀ n, Ok n → ∀ (l : Lf) (ns : Sup), Ok (insN n rest l ns) := by
  intro N
  induction N with
  | zero =>
    intro rest hN n ho l ns
    rw [insN, dif_pos (by omega)]
    exact Ok.mk' ho.parts.1 ho.parts.2.1 (fun x hx => ho.parts.2.2.get x hx)
  | succ N ih =>
    intro rest hN n ho l ns
    by_cases h0 : rest.size = 0
    · rw [insN, dif_pos h0]
      exact Ok.mk' ho.parts.1 ho.parts.2.1 (fun x hx => ho.parts.2.2.get x hx)
    · have hrs : 0 < rest.size := by omega
      have hq := kidN_eq n ho rest
      rw [insN, dif_neg h0]
      cases e : kidN n rest with
      | none =>
        simp only []
        rw [e] at hq
        refine Ok.mk' (ok_insAt n.kids (fbS rest) _ rfl ho.parts.1 (fun k hk => kidT_none hq.symm k hk)) (fun k' hk' => ?_) (fun k' hk' => ?_)
        · rcases mem_insAt hk' with e | e
          · rw [e]; exact hrs
          · exact ho.parts.2.1 k' e
        · rcases mem_insAt hk' with e | e
          · rw [e]; exact ok_tip _ _ _
          · exact ho.parts.2.2.get k' e
      | some k =>
        simp only []
        rw [e] at hq
        obtain ⟨hh, hlt, ek⟩ := kidN_some e
        have hkm : k ∈ n.kids := by rw [← ek]; exact List.getElem_mem _
        have hpos := ho.parts.2.1 k hkm
        have hfk := (kidT_some hq.symm).2
        have hcp := com_pos n k rest e hrs hpos
        have hcl := comB_le k.label rest
        have key : ∀ (c : Nd), fb c = fb k → 0 < c.label.size → Ok c → Ok (.mk (ns 0).1 n.label n.leaf (n.kids.set (pos (n.kids.map fb) (fbS rest)) c) (ns 0).2) := fun c hfc hcl hoc => by
          refine Ok.mk' ?_ (fun k' hk' => ?_) (fun k' hk' => ?_)
          · rw [map_set_same _ _ _ hlt (by rw [hfc, ek])]; exact ho.parts.1
          · rcases List.mem_or_eq_of_mem_set hk' with e | e
            · exact ho.parts.2.1 k' e
            · rw [e]; exact hcl
          · rcases List.mem_or_eq_of_mem_set hk' with e | e
            · exact ho.parts.2.2.get k' e
            · rw [e]; exact hoc
        by_cases hp : 0 < comB k.label rest ∧ comB k.label rest = k.label.size
        · rw [dif_pos hp]
          exact key _ (fb_insN _ _ _ _) (by rw [insN_label]; exact hpos) (ih _ (by simp only [ByteArray.size_extract]; omega) k (ho.parts.2.2.get k hkm) _ _)
        · rw [dif_neg hp]
          refine key _ (by rw [fb_splitN _ _ _ _ _ hcp hrs, hfk]) ?_ (ok_split k rest l ns _ rfl (ho.parts.2.2.get k hkm) (by omega))
          rw [splitN_label]
          simp only [ByteArray.size_extract]
          omega
theorem sm_ins : ∀ (N : Nat) (rest : ByteArray), rest.size ≤ N → rest.size < 4000000000000 → ∀ n, Sm n → ∀ (l : Lf) (ns : Sup), Sm (insN n rest l ns) := by
  intro N
  induction N with
  | zero =>
    intro rest hN hb n hs l ns
    rw [insN, dif_pos (by omega)]
    exact Sm.mk' hs.parts.1 (fun x hx => hs.parts.2.mem x hx)
  | succ N ih =>
    intro rest hN hb n hs l ns
    rw [insN]
    split
    · exact Sm.mk' hs.parts.1 (fun x hx => hs.parts.2.mem x hx)
    · split
      · refine Sm.mk' hs.parts.1 (fun k' hk' => ?_)
        rcases mem_insAt hk' with e | e
        · rw [e]; exact Sm.mk' hb (by simp)
        · exact hs.parts.2.mem k' e
      · rename_i k e
        obtain ⟨hh, hlt, ek⟩ := kidN_some e
        have hkm : k ∈ n.kids := by rw [← ek]; exact List.getElem_mem _
        have hks := hs.parts.2.mem k hkm
        have hlow : ∀ b p, Sm (lowN k p b) := fun b p => Sm.mk' (by simp only [ByteArray.size_extract]; have := hks.parts.1; omega) (fun x hx => hks.parts.2.mem x hx)
        split
        · refine Sm.mk' hs.parts.1 (fun k' hk' => ?_)
          rcases List.mem_or_eq_of_mem_set hk' with e | e
          · exact hs.parts.2.mem k' e
          · rw [e]
            exact ih _ (by simp only [ByteArray.size_extract]; omega) (by simp only [ByteArray.size_extract]; omega) k hks _ _
        · refine Sm.mk' hs.parts.1 (fun k' hk' => ?_)
          rcases List.mem_or_eq_of_mem_set hk' with e | e
          · exact hs.parts.2.mem k' e
          · rw [e]
            unfold splitN
            split
            · exact Sm.mk' (by simp only [ByteArray.size_extract]; omega) (by simpa using hlow _ _)
            · refine Sm.mk' (by simp only [ByteArray.size_extract]; omega) (fun k2 hk2 => ?_)
              rcases mem_insAt hk2 with e | e
              · rw [e]; exact Sm.mk' (by simp only [ByteArray.size_extract]; omega) (by simp)
              · rw [List.mem_singleton] at e; rw [e]; exact hlow _ _
/-- a tree as the program's calls make it -/
structure Good (root : Nd) : Prop where
  ok : Ok root
  sm : Sm root
  top : root.label.size = 0
  keys : ∀ r l, findT root r = some l → L l.key = r
theorem good_empty (b : Nat) (m : Value) : Good (emptyN b m) :=
  ⟨Ok.mk' (by simp) (by simp) (by simp), Sm.mk' (by decide) (by simp), rfl, fun r l h => by
    by_cases e : r = []
    · subst e; rw [findT_nil] at h; cases h
    · rw [findT_eq _ _ e] at h; cases h⟩
theorem good_ins {root : Nd} (h : Good root) (k : ByteArray) (hk : k.size < 4000000000000) (l : Lf) (hl : l.key = k) (ns : Sup) : Good (insN root k l ns) :=
  ⟨ok_ins k.size k (Nat.le_refl _) root h.ok l ns, sm_ins k.size k (Nat.le_refl _) hk root h.sm l ns, by rw [insN_label]; exact h.top, fun r l' e => by
    rw [find_ins k.size k (Nat.le_refl _) root h.ok l ns r] at e
    by_cases er : r = L k
    · rw [if_pos er] at e; cases e; rw [hl, er]
    · rw [if_neg er] at e; exact h.keys r l' e⟩
end Go.Proofs.Ytkaeglnnahecjaa.T
