/- joined: P1 P2 P3 P4 P5 P6 -/
import Derived.Test.YtkaeglnnahecjaaJa
import Derived.Test.YtkaeglnnahecjaaJb
/- radix, plain: the leaves that a tree holds, as lists of bytes. -/
set_option linter.unusedVariables false
set_option linter.unusedSimpArgs false
namespace Go.Proofs.Ytkaeglnnahecjaa.T

abbrev L (s : ByteArray) : List UInt8 := s.data.toList
theorem L_len (s : ByteArray) : (L s).length = s.size := by rw [Array.length_toList]; rfl
theorem L_extract (s : ByteArray) (i j : Nat) : L (s.extract i j) = ((L s).take j).drop i := by
  simp [L, ByteArray.data_extract, List.drop_take]
theorem L_inj {a b : ByteArray} (h : L a = L b) : a = b := ByteArray.ext (Array.toList_inj.1 h)
theorem L_tail (s : ByteArray) (p : Nat) : L (s.extract p s.size) = (L s).drop p := by
  rw [L_extract, List.take_of_length_le (by rw [L_len]; exact Nat.le_refl _)]
theorem L_head (s : ByteArray) (p : Nat) : L (s.extract 0 p) = (L s).take p := by rw [L_extract, List.drop_zero]
/-- the kid whose label begins with x -/
def kidT (ks : List Nd) (x : Nat) : Option Nd := ks.find? (fun k => fb k == x)
def hd (r : List UInt8) : Nat := (r.getD 0 0).toNat
theorem kidN_eq (n : Nd) (ho : Ok n) (rest : ByteArray) : kidN n rest = kidT n.kids (hd (L rest)) := by
  have hs := ho.parts.1
  have key : ∀ (ks : List Nd) (x : Nat), (ks.map fb).Pairwise (· < ·) → (if hit (ks.map fb) x then ks[pos (ks.map fb) x]? else none) = kidT ks x := by
    intro ks
    induction ks with
    | nil => intro x _; simp [kidT, hit, pos]
    | cons k ks ih =>
      intro x hp
      have hp2 := List.pairwise_cons.1 hp
      unfold kidT hit
      simp only [List.map_cons, pos]
      by_cases h1 : fb k < x
      · rw [if_pos h1]
        have h2 : (fb k == x) = false := by simp; omega
        rw [List.find?_cons_of_neg (by simp [h2])]
        have h3 := ih x hp2.2
        unfold hit kidT at h3
        simpa using h3
      · rw [if_neg h1]
        by_cases h2 : fb k = x
        · rw [List.find?_cons_of_pos (by simp [h2])]
          simp [h2]
        · rw [List.find?_cons_of_neg (by simp [h2])]
          have h3 : ks.find? (fun k => fb k == x) = none := by
            rw [List.find?_eq_none]
            intro y hy
            have := hp2.1 (fb y) (List.mem_map_of_mem hy)
            simp
            omega
          rw [h3]
          simp [h2]
  exact key n.kids (fbS rest) hs
/-- the leaf at r beneath n -/
def findT (n : Nd) (r : List UInt8) : Option Lf :=
  if h0 : r = [] then n.leaf
  else match kidT n.kids (hd r) with
    | none => none
    | some k => if h : 0 < k.label.size ∧ L k.label <+: r then findT k (r.drop k.label.size) else none
termination_by r.length
decreasing_by
  have : 0 < r.length := by cases r with | nil => exact absurd rfl h0 | cons a b => simp
  rw [List.length_drop]
  omega
theorem com_prefix : ∀ (a b : List UInt8), com a b = a.length ↔ a <+: b
  | [], b => by simp [com]
  | x :: xs, [] => by simp [com]
  | x :: xs, y :: ys => by
    unfold com
    by_cases h : x = y
    · subst h
      rw [if_pos rfl, List.cons_prefix_cons, List.length_cons]
      have := com_prefix xs ys
      constructor
      · intro e; exact ⟨rfl, this.1 (by omega)⟩
      · intro e; have := this.2 e.2; omega
    · rw [if_neg h, List.cons_prefix_cons]
      constructor
      · intro e; simp at e
      · intro e; exact absurd e.1 h
theorem com_take : ∀ (a b : List UInt8), a.take (com a b) = b.take (com a b)
  | [], b => by simp [com]
  | x :: xs, [] => by simp [com]
  | x :: xs, y :: ys => by
    unfold com
    by_cases h : x = y
    · subst h; rw [if_pos rfl, List.take_succ_cons, List.take_succ_cons, com_take xs ys]
    · rw [if_neg h]; simp
theorem com_stop : ∀ (a b : List UInt8), com a b < a.length → com a b < b.length → a.getD (com a b) 0 ≠ b.getD (com a b) 0
  | [], b, h, _ => by simp [com] at h
  | x :: xs, [], _, h => by simp [com] at h
  | x :: xs, y :: ys, h1, h2 => by
    unfold com at h1 h2 ⊢
    by_cases h : x = y
    · rw [if_pos h] at h1 h2 ⊢
      simp only [List.length_cons] at h1 h2
      have := com_stop xs ys (by omega) (by omega)
      simpa using this
    · rw [if_neg h]
      simpa using h
theorem comB_prefix (a b : ByteArray) : comB a b = a.size ↔ L a <+: L b := by
  rw [← com_prefix, L_len]
  exact Iff.rfl
end Go.Proofs.Ytkaeglnnahecjaa.T
/- radix, plain: what a tree with a leaf put in holds. -/
set_option linter.unusedVariables false
set_option linter.unusedSimpArgs false
namespace Go.Proofs.Ytkaeglnnahecjaa.T

theorem findT_nil (n : Nd) : findT n [] = n.leaf := by rw [findT, dif_pos rfl]
def below (r : List UInt8) (k : Nd) : Option Lf := if 0 < k.label.size ∧ L k.label <+: r then findT k (r.drop k.label.size) else none
theorem findT_eq (n : Nd) (r : List UInt8) (h : r ≠ []) : findT n r = (kidT n.kids (hd r)).bind (below r) := by
  rw [findT, dif_neg h]
  cases kidT n.kids (hd r) with
  | none => rfl
  | some k =>
    simp only [Option.bind_some, below]
    by_cases h2 : 0 < k.label.size ∧ L k.label <+: r
    · rw [dif_pos h2, if_pos h2]
    · rw [dif_neg h2, if_neg h2]
theorem findT_same (b b' : Nat) (lab lab' : ByteArray) (leaf : Option Lf) (kids : List Nd) (m m' : Value) (r : List UInt8) : findT (.mk b lab leaf kids m) r = findT (.mk b' lab' leaf kids m') r := by
  by_cases h : r = []
  · subst h; rw [findT_nil, findT_nil]; rfl
  · rw [findT_eq _ _ h, findT_eq _ _ h]; rfl
theorem kidT_insAt (ks : List Nd) (i : Nat) (t : Nd) (x : Nat) (h : ∀ k ∈ ks, fb k ≠ fb t) : kidT (insAt i t ks) x = if fb t = x then some t else kidT ks x := by
  unfold kidT insAt
  rw [List.find?_append]
  by_cases e : fb t = x
  · rw [if_pos e, List.find?_cons_of_pos (by simp [e])]
    have h1 : (ks.take i).find? (fun k => fb k == x) = none := by
      rw [List.find?_eq_none]
      intro k hk
      have := h k (List.mem_of_mem_take hk)
      simp; omega
    rw [h1]; rfl
  · rw [if_neg e, List.find?_cons_of_neg (by simp [e]), ← List.find?_append, List.take_append_drop]
theorem set_split {α : Type} (ks : List α) (i : Nat) (t : α) (hi : i < ks.length) : ks.set i t = ks.take i ++ t :: ks.drop (i + 1) := List.set_eq_take_append_cons_drop ▸ by rw [if_pos hi]
theorem kidT_set (ks : List Nd) (i : Nat) (t : Nd) (x : Nat) (hi : i < ks.length) (hf : fb t = fb ks[i]) (hp : (ks.map fb).Pairwise (· < ·)) : kidT (ks.set i t) x = if fb t = x then some t else kidT ks x := by
  have e2 : ks = ks.take i ++ ks[i] :: ks.drop (i + 1) := by
    rw [← List.drop_eq_getElem_cons hi, List.take_append_drop]
  unfold kidT
  rw [set_split ks i t hi, List.find?_append]
  by_cases e : fb t = x
  · rw [if_pos e, List.find?_cons_of_pos (by simp [e])]
    have h1 : (ks.take i).find? (fun k => fb k == x) = none := by
      rw [List.find?_eq_none]
      intro k hk
      obtain ⟨j, hj, ej⟩ := List.getElem_of_mem hk
      rw [List.length_take] at hj
      have h2 := List.pairwise_iff_getElem.1 hp j i (by rw [List.length_map]; omega) (by rw [List.length_map]; exact hi) (by omega)
      rw [List.getElem_map, List.getElem_map] at h2
      rw [List.getElem_take] at ej
      rw [← ej]
      simp
      omega
    rw [h1]; rfl
  · rw [if_neg e, List.find?_cons_of_neg (by simp [e])]
    conv => rhs; rw [e2]
    rw [List.find?_append, List.find?_cons_of_neg (by simp; omega)]
theorem kidT_some {ks : List Nd} {x : Nat} {k : Nd} (h : kidT ks x = some k) : k ∈ ks ∧ fb k = x := by
  unfold kidT at h
  exact ⟨List.mem_of_find?_eq_some h, by simpa using List.find?_some h⟩
theorem kidT_none {ks : List Nd} {x : Nat} (h : kidT ks x = none) : ∀ k ∈ ks, fb k ≠ x := by
  unfold kidT at h
  rw [List.find?_eq_none] at h
  intro k hk
  have := h k hk
  simpa using this
theorem insN_label (n : Nd) (rest : ByteArray) (l : Lf) (ns : Sup) : (insN n rest l ns).label = n.label := by
  rw [insN]
  split
  · rfl
  · split
    · rfl
    · split <;> rfl
theorem findN_eq : ∀ (N : Nat) (rest : ByteArray), rest.size ≤ N → ∀ n, Ok n → findN n rest = findT n (L rest) := by
  intro N
  induction N with
  | zero =>
    intro rest hN n ho
    have e : L rest = [] := List.length_eq_zero_iff.1 (by rw [L_len]; omega)
    rw [findN, dif_pos (by omega), e, findT_nil]
  | succ N ih =>
    intro rest hN n ho
    by_cases h0 : rest.size = 0
    · have e : L rest = [] := List.length_eq_zero_iff.1 (by rw [L_len]; omega)
      rw [findN, dif_pos h0, e, findT_nil]
    · have hne : L rest ≠ [] := fun e => h0 (by rw [← L_len, e]; rfl)
      rw [findN, dif_neg h0, findT_eq _ _ hne, ← kidN_eq n ho rest]
      cases e : kidN n rest with
      | none => rfl
      | some k =>
        obtain ⟨hh, hlt, ek⟩ := kidN_some e
        have hkm : k ∈ n.kids := by rw [← ek]; exact List.getElem_mem _
        have hpos := ho.parts.2.1 k hkm
        simp only [Option.bind_some, below]
        by_cases hp : L k.label <+: L rest
        · have hc := (comB_prefix k.label rest).2 hp
          rw [dif_pos ⟨by omega, hc⟩, if_pos ⟨hpos, hp⟩, ih _ (by simp only [ByteArray.size_extract]; omega) k (ho.parts.2.2.get k hkm), L_tail, hc]
        · rw [dif_neg (fun h => hp ((comB_prefix k.label rest).1 h.2)), if_neg (fun h => hp h.2)]
end Go.Proofs.Ytkaeglnnahecjaa.T
/- radix, plain: a tree with a leaf put in holds that leaf at its place, and elsewhere what it held. -/
set_option linter.unusedVariables false
set_option linter.unusedSimpArgs false
namespace Go.Proofs.Ytkaeglnnahecjaa.T

theorem fb_hd (n : Nd) : fb n = hd (L n.label) := rfl
theorem hd_prefix {a r : List UInt8} (h : a <+: r) (ha : 0 < a.length) : hd r = hd a := by
  obtain ⟨t, rfl⟩ := h
  cases a with
  | nil => simp at ha
  | cons x xs => rfl
theorem hd_drop (a : List UInt8) (p : Nat) : hd (a.drop p) = (a.getD p 0).toNat := by
  unfold hd
  simp [List.getD_eq_getElem?_getD, List.getElem?_drop]
theorem tip_below (s : ByteArray) (l : Lf) (a : Nat × Value) (hs : 0 < s.size) (q : List UInt8) : below q (tipN s l a) = if q = L s then some l else none := by
  unfold below
  have e1 : (tipN s l a).label = s := rfl
  rw [e1]
  by_cases h : q = L s
  · rw [if_pos h, if_pos ⟨hs, by rw [h]; exact List.prefix_refl _⟩, h, ← L_len, List.drop_length, findT_nil]
    rfl
  · rw [if_neg h]
    split
    · rename_i hp
      have hd0 : q.drop s.size ≠ [] := fun e => by
        have h1 := hp.2.length_le
        have h2 := List.drop_eq_nil_iff.1 e
        rw [L_len] at h1
        exact h (hp.2.eq_of_length (by rw [L_len]; omega)).symm
      rw [findT_eq _ _ hd0]
      rfl
    · rfl
theorem low_below (k : Nd) (p b : Nat) (hp : p < k.label.size) (q r : List UInt8) (hr : r = (L k.label).take p ++ q) : (kidT [lowN k p b] (hd q)).bind (below q) = below r k := by
  have hA : (L k.label).length = k.label.size := L_len _
  have hlow : L (lowN k p b).label = (L k.label).drop p := L_tail _ _
  have hlsz : (lowN k p b).label.size = k.label.size - p := by rw [← L_len, hlow, List.length_drop, hA]
  have hpre : L k.label <+: r ↔ (L k.label).drop p <+: q := by
    rw [hr]
    conv => lhs; lhs; rw [← List.take_append_drop p (L k.label)]
    exact List.prefix_append_right_inj _
  have htl : ((L k.label).take p).length = p := by rw [List.length_take]; omega
  have hkid : kidT [lowN k p b] (hd q) = if fb (lowN k p b) = hd q then some (lowN k p b) else none := by
    unfold kidT
    by_cases e : fb (lowN k p b) = hd q
    · rw [if_pos e, List.find?_cons_of_pos (by simp [e])]
    · rw [if_neg e, List.find?_cons_of_neg (by simp [e])]; rfl
  rw [hkid]
  unfold below
  by_cases h : L k.label <+: r
  · have h2 := hpre.1 h
    have h3 : hd q = fb (lowN k p b) := by
      rw [fb_hd, hlow]
      exact hd_prefix h2 (by rw [List.length_drop]; omega)
    rw [if_pos h3.symm, if_pos ⟨by omega, h⟩]
    simp only [Option.bind_some]
    rw [if_pos ⟨by omega, by rw [hlow]; exact h2⟩, hlsz]
    have e4 : r.drop k.label.size = q.drop (k.label.size - p) := by
      rw [hr, List.drop_append, htl]
      have : ((L k.label).take p).drop k.label.size = [] := List.drop_eq_nil_iff.2 (by omega)
      rw [this, List.nil_append]
    rw [e4]
    cases k with
    | mk kb klab kleaf kkids kmark => exact findT_same _ _ _ _ _ _ _ _ _
  · have h2 : ¬ (L k.label).drop p <+: q := fun e => h (hpre.2 e)
    by_cases e : fb (lowN k p b) = hd q
    · rw [if_pos e]
      simp only [Option.bind_some]
      rw [if_neg (fun e => h2 (by rw [← hlow]; exact e.2)), if_neg (fun e => h e.2)]
    · rw [if_neg e, if_neg (fun e => h e.2)]
      rfl
theorem split_below (k : Nd) (rest : ByteArray) (l : Lf) (ns : Sup) (p : Nat) (ep : comB k.label rest = p) (h0 : 0 < p) (hp : p < k.label.size) (r : List UInt8) :
    below r (splitN k p rest l ns) = if r = L rest then some l else below r k := by
  have hA : (L k.label).length = k.label.size := L_len _
  have hR : (L rest).length = rest.size := L_len _
  have hpr : p ≤ rest.size := by have := comB_le k.label rest; omega
  have hct : (L k.label).take p = (L rest).take p := by rw [← ep]; exact com_take _ _
  have htl : ((L rest).take p).length = p := by rw [List.length_take]; omega
  have hml : ∀ x, x = rest.extract 0 p → L x = (L rest).take p ∧ x.size = p := fun x e => by
    subst e
    exact ⟨L_head _ _, by rw [← L_len, L_head, htl]⟩
  have hlab : L (splitN k p rest l ns).label = (L rest).take p ∧ (splitN k p rest l ns).label.size = p := by
    apply hml
    unfold splitN
    split <;> rfl
  by_cases hpre : (L rest).take p <+: r
  · obtain ⟨q, hq⟩ := hpre
    have e1 : below r (splitN k p rest l ns) = findT (splitN k p rest l ns) q := by
      unfold below
      rw [hlab.1, hlab.2, if_pos ⟨h0, ⟨q, hq⟩⟩]
      congr 1
      rw [← hq, List.drop_append, htl, Nat.sub_self, List.drop_zero]
      have : ((L rest).take p).drop p = [] := List.drop_eq_nil_iff.2 (by omega)
      rw [this, List.nil_append]
    rw [e1]
    have hrq : r = (L k.label).take p ++ q := by rw [hct, hq]
    have hiff : r = L rest ↔ q = (L rest).drop p := by
      rw [← hq]
      conv => lhs; rhs; rw [← List.take_append_drop p (L rest)]
      exact ⟨fun e => List.append_cancel_left e, fun e => by rw [e]⟩
    by_cases hpe : p = rest.size
    · have es : splitN k p rest l ns = .mk (ns 1).1 (rest.extract 0 p) (some l) [lowN k p (ns 2).1] (ns 1).2 := by unfold splitN; rw [if_pos hpe]
      rw [es]
      have hdr : (L rest).drop p = [] := List.drop_eq_nil_iff.2 (by omega)
      by_cases hq0 : q = []
      · rw [if_pos (hiff.2 (by rw [hq0, hdr])), hq0, findT_nil]; rfl
      · rw [if_neg (fun e => hq0 (by rw [hiff.1 e, hdr])), findT_eq _ _ hq0]
        exact low_below k p _ hp q r hrq
    · have es : splitN k p rest l ns = .mk (ns 1).1 (rest.extract 0 p) none (insAt (pos [fb (lowN k p (ns 2).1)] (fbAt rest p)) (tipN (rest.extract p rest.size) l (ns 3)) [lowN k p (ns 2).1]) (ns 1).2 := by unfold splitN; rw [if_neg hpe]
      rw [es]
      have htip : fb (tipN (rest.extract p rest.size) l (ns 3)) = hd ((L rest).drop p) := by rw [fb_hd]; show hd (L (rest.extract p rest.size)) = _; rw [L_tail]
      have hlowfb : fb (lowN k p (ns 2).1) = hd ((L k.label).drop p) := by rw [fb_hd]; show hd (L (k.label.extract p k.label.size)) = _; rw [L_tail]
      have hdiff : hd ((L k.label).drop p) ≠ hd ((L rest).drop p) := by
        rw [hd_drop, hd_drop]
        have h5 := com_stop (L k.label) (L rest) (by show comB k.label rest < _; omega) (by show comB k.label rest < _; omega)
        intro e
        apply h5
        have e2 : com (L k.label) (L rest) = p := ep
        rw [e2]
        exact UInt8.toNat_inj.1 e
      by_cases hq0 : q = []
      · subst hq0
        rw [findT_nil, if_neg (fun e => by
          have h6 := hiff.1 e
          have h7 := congrArg List.length h6
          rw [List.length_nil, List.length_drop] at h7
          omega)]
        have h8 : ¬ L k.label <+: r := fun e => by
          have h9 := e.length_le
          rw [← hq, List.append_nil, htl] at h9
          omega
        unfold below
        rw [if_neg (fun e => h8 e.2)]
        rfl
      · rw [findT_eq _ _ hq0]
        show (kidT (insAt _ _ _) (hd q)).bind (below q) = _
        rw [kidT_insAt _ _ _ _ (fun k' hk' => by rw [List.mem_singleton] at hk'; rw [hk', hlowfb, htip]; exact hdiff)]
        by_cases htq : fb (tipN (rest.extract p rest.size) l (ns 3)) = hd q
        · rw [if_pos htq]
          simp only [Option.bind_some]
          rw [tip_below _ _ _ (by simp only [ByteArray.size_extract]; omega), L_tail]
          by_cases hqe : q = (L rest).drop p
          · rw [if_pos hqe, if_pos (hiff.2 hqe)]
          · rw [if_neg hqe, if_neg (fun e => hqe (hiff.1 e))]
            have h8 : ¬ L k.label <+: r := fun e => by
              rw [hrq] at e
              have e9 : (L k.label).drop p <+: q := by
                conv at e => lhs; rw [← List.take_append_drop p (L k.label)]
                exact (List.prefix_append_right_inj _).1 e
              have e10 := hd_prefix e9 (by rw [List.length_drop]; omega)
              rw [← htq, htip] at e10
              exact hdiff e10.symm
            unfold below
            rw [if_neg (fun e => h8 e.2)]
        · rw [if_neg htq, if_neg (fun e => htq (by rw [htip, hiff.1 e]))]
          exact low_below k p _ hp q r hrq
  · have h1 : r ≠ L rest := fun e => hpre (by rw [e]; exact List.take_prefix _ _)
    have h2 : ¬ L k.label <+: r := fun e => hpre (by rw [← hct]; exact (List.take_prefix _ _).trans e)
    rw [if_neg h1]
    unfold below
    rw [hlab.1, if_neg (fun e => hpre e.2), if_neg (fun e => h2 e.2)]
end Go.Proofs.Ytkaeglnnahecjaa.T
/- radix, plain: what insert makes: it finds, it is in order, its labels are small. -/
set_option linter.unusedVariables false
set_option linter.unusedSimpArgs false
namespace Go.Proofs.Ytkaeglnnahecjaa.T

theorem fb_insN (n : Nd) (rest : ByteArray) (l : Lf) (ns : Sup) : fb (insN n rest l ns) = fb n := by rw [fb_hd, insN_label, fb_hd]
theorem splitN_label (k : Nd) (p : Nat) (rest : ByteArray) (l : Lf) (ns : Sup) : (splitN k p rest l ns).label = rest.extract 0 p := by
  unfold splitN
  split <;> rfl
theorem fb_splitN (k : Nd) (p : Nat) (rest : ByteArray) (l : Lf) (ns : Sup) (h0 : 0 < p) (hr : 0 < rest.size) : fb (splitN k p rest l ns) = hd (L rest) := by
  rw [fb_hd, splitN_label, L_head]
  have h1 : 0 < (L rest).length := by rw [L_len]; exact hr
  cases e : L rest with
  | nil => rw [e] at h1; simp at h1
  | cons x xs =>
    cases p with
    | zero => omega
    | succ p => rfl
theorem find_ins : ∀ (N : Nat) (rest : ByteArray), rest.size ≤ N → ∀ n, Ok n → ∀ (l : Lf) (ns : Sup) (r : List UInt8), findT (insN n rest l ns) r = if r = L rest then some l else findT n r := by
  intro N
  induction N with
  | zero =>
    intro rest hN n ho l ns r
    have e0 : L rest = [] := List.length_eq_zero_iff.1 (by rw [L_len]; omega)
    rw [insN, dif_pos (by omega), e0]
    by_cases hr : r = []
    · rw [if_pos hr, hr, findT_nil]; rfl
    · rw [if_neg hr, findT_eq _ _ hr, findT_eq _ _ hr]; rfl
  | succ N ih =>
    intro rest hN n ho l ns r
    by_cases h0 : rest.size = 0
    · have e0 : L rest = [] := List.length_eq_zero_iff.1 (by rw [L_len]; omega)
      rw [insN, dif_pos h0, e0]
      by_cases hr : r = []
      · rw [if_pos hr, hr, findT_nil]; rfl
      · rw [if_neg hr, findT_eq _ _ hr, findT_eq _ _ hr]; rfl
    · have hRne : L rest ≠ [] := fun e => h0 (by rw [← L_len, e]; rfl)
      have hrs : 0 < rest.size := by omega
      have hq := kidN_eq n ho rest
      rw [insN, dif_neg h0]
      cases e : kidN n rest with
      | none =>
        simp only []
        rw [e] at hq
        by_cases hr : r = []
        · rw [if_neg (fun e => hRne (by rw [← e, hr])), hr, findT_nil, findT_nil]; rfl
        · rw [findT_eq _ _ hr, findT_eq _ _ hr]
          show (kidT (insAt _ _ _) (hd r)).bind (below r) = _
          have ht : fb (tipN rest l (ns 1)) = hd (L rest) := rfl
          rw [kidT_insAt _ _ _ _ (fun k hk => by rw [ht]; exact kidT_none hq.symm k hk), ht]
          by_cases hx : hd (L rest) = hd r
          · rw [if_pos hx]
            simp only [Option.bind_some]
            rw [tip_below _ _ _ hrs, ← hx, ← hq]
            rfl
          · rw [if_neg hx, if_neg (fun e => hx (by rw [e]))]
      | some k =>
        simp only []
        rw [e] at hq
        obtain ⟨hh, hlt, ek⟩ := kidN_some e
        have hkm : k ∈ n.kids := by rw [← ek]; exact List.getElem_mem _
        have hpos := ho.parts.2.1 k hkm
        have hfk := (kidT_some hq.symm).2
        have hcp := com_pos n k rest e hrs hpos
        have hcl := comB_le k.label rest
        -- both ways
        have key : ∀ (c : Nd) (i : Nat), i = pos (n.kids.map fb) (fbS rest) → fb c = fb k → (∀ r, r ≠ [] → below r c = if r = L rest then some l else below r k) →
            findT (.mk (ns 0).1 n.label n.leaf (n.kids.set i c) (ns 0).2) r = if r = L rest then some l else findT n r := by
          intro c i ei hfc hb
          subst ei
          by_cases hr : r = []
          · rw [if_neg (fun e => hRne (by rw [← e, hr])), hr, findT_nil, findT_nil]; rfl
          · rw [findT_eq _ _ hr, findT_eq _ _ hr]
            show (kidT (n.kids.set _ c) (hd r)).bind (below r) = _
            rw [kidT_set n.kids _ c (hd r) hlt (by rw [hfc, ek]) ho.parts.1]
            by_cases hx : fb c = hd r
            · rw [if_pos hx]
              simp only [Option.bind_some]
              rw [hb r hr]
              rw [hfc, hfk] at hx
              rw [← hx, ← hq]
              rfl
            · rw [if_neg hx, if_neg (fun e => hx (by rw [hfc, hfk, e]))]
        by_cases hp : 0 < comB k.label rest ∧ comB k.label rest = k.label.size
        · rw [dif_pos hp]
          refine key _ _ rfl (fb_insN _ _ _ _) (fun r hr => ?_)
          have hpre := (comB_prefix k.label rest).1 hp.2
          unfold below
          rw [insN_label]
          by_cases hpr : 0 < k.label.size ∧ L k.label <+: r
          · rw [if_pos hpr, if_pos hpr, ih _ (by simp only [ByteArray.size_extract]; omega) k (ho.parts.2.2.get k hkm), L_tail, hp.2]
            have hiff : r.drop k.label.size = (L rest).drop k.label.size ↔ r = L rest := by
              obtain ⟨a, ha⟩ := hpr.2
              obtain ⟨b, hb⟩ := hpre
              have hl : (L k.label).length = k.label.size := L_len _
              rw [← ha, ← hb, ← hl, List.drop_left, List.drop_left]
              exact ⟨fun e => by rw [e], fun e => List.append_cancel_left e⟩
            by_cases e2 : r = L rest
            · rw [if_pos e2, if_pos (hiff.2 e2)]
            · rw [if_neg e2, if_neg (fun h => e2 (hiff.1 h))]
          · rw [if_neg hpr, if_neg hpr, if_neg (fun e2 => hpr ⟨hpos, by rw [e2]; exact hpre⟩)]
        · rw [dif_neg hp]
          refine key _ _ rfl (by rw [fb_splitN _ _ _ _ _ hcp hrs, hfk]) (fun r hr => ?_)
          exact split_below k rest l ns _ rfl hcp (by omega) r
end Go.Proofs.Ytkaeglnnahecjaa.T
/- radix, plain: what insert makes is in order, its labels are small, its leaves lie at their keys. -/
set_option linter.unusedVariables false
set_option linter.unusedSimpArgs false
namespace Go.Proofs.Ytkaeglnnahecjaa.T

theorem Oks.of : ∀ {ks : List Nd}, (∀ k ∈ ks, Ok k) → Oks ks
  | [], _ => by unfold Oks; trivial
  | n :: r, h => by
    unfold Oks
    exact ⟨h n (by simp), Oks.of (fun k hk => h k (by simp [hk]))⟩
theorem Sms.of : ∀ {ks : List Nd}, (∀ k ∈ ks, Sm k) → Sms ks
  | [], _ => by unfold Sms; trivial
  | n :: r, h => by
    unfold Sms
    exact ⟨h n (by simp), Sms.of (fun k hk => h k (by simp [hk]))⟩
theorem Ok.mk' {b : Nat} {label : ByteArray} {leaf : Option Lf} {kids : List Nd} {m : Value} (h1 : (kids.map fb).Pairwise (· < ·)) (h2 : ∀ k ∈ kids, 0 < k.label.size) (h3 : ∀ k ∈ kids, Ok k) : Ok (.mk b label leaf kids m) := by
  unfold Ok
  exact ⟨h1, h2, Oks.of h3⟩
theorem Sm.mk' {b : Nat} {label : ByteArray} {leaf : Option Lf} {kids : List Nd} {m : Value} (h1 : label.size < 4000000000000) (h3 : ∀ k ∈ kids, Sm k) : Sm (.mk b label leaf kids m) := by
  unfold Sm
  exact ⟨h1, Sms.of h3⟩
theorem mem_insAt {α : Type} {i : Nat} {x y : α} {l : List α} (h : y ∈ insAt i x l) : y = x ∨ y ∈ l := by
  rcases List.mem_append.1 h with e | e
  · exact .inr (List.mem_of_mem_take e)
  · rcases List.mem_cons.1 e with e | e
    · exact .inl e
    · exact .inr (List.mem_of_mem_drop e)
theorem rise_insAt : ∀ (fs : List Nat) (x : Nat), fs.Pairwise (· < ·) → x ∉ fs → (insAt (pos fs x) x fs).Pairwise (· < ·)
  | [], x, _, _ => by simp [insAt, pos]
  | y :: r, x, hp, hx => by
    have h2 := List.pairwise_cons.1 hp
    unfold pos
    by_cases h : y < x
    · rw [if_pos h]
      have ih := rise_insAt r x h2.2 (fun e => hx (by simp [e]))
      show (y :: insAt (pos r x) x r).Pairwise (· < ·)
      refine List.pairwise_cons.2 ⟨fun z hz => ?_, ih⟩
      rcases mem_insAt hz with e | e
      · rw [e]; exact h
      · exact h2.1 z e
    · rw [if_neg h]
      show (x :: y :: r).Pairwise (· < ·)
      have hxy : x < y := by
        have : x ≠ y := fun e => hx (by simp [e])
        omega
      refine List.pairwise_cons.2 ⟨fun z hz => ?_, hp⟩
      rcases List.mem_cons.1 hz with e | e
      · rw [e]; exact hxy
      · have := h2.1 z e; omega
theorem map_insAt (ks : List Nd) (i : Nat) (t : Nd) : (insAt i t ks).map fb = insAt i (fb t) (ks.map fb) := by simp [insAt]
theorem ok_insAt (ks : List Nd) (x : Nat) (t : Nd) (ht : fb t = x) (hp : (ks.map fb).Pairwise (· < ·)) (hn : ∀ k ∈ ks, fb k ≠ x) : ((insAt (pos (ks.map fb) x) t ks).map fb).Pairwise (· < ·) := by
  rw [map_insAt, ht]
  refine rise_insAt _ _ hp (fun e => ?_)
  obtain ⟨k, hk, e2⟩ := List.mem_map.1 e
  exact hn k hk e2
theorem ok_tip (s : ByteArray) (l : Lf) (a : Nat × Value) : Ok (tipN s l a) := Ok.mk' (by simp) (by simp) (by simp)
theorem ok_low (k : Nd) (p b : Nat) (h : Ok k) : Ok (lowN k p b) := Ok.mk' h.parts.1 h.parts.2.1 (fun x hx => h.parts.2.2.get x hx)
theorem ok_split (k : Nd) (rest : ByteArray) (l : Lf) (ns : Sup) (p : Nat) (ep : comB k.label rest = p) (hk : Ok k) (hp : p < k.label.size) : Ok (splitN k p rest l ns) := by
  have hpr : p ≤ rest.size := by have := comB_le k.label rest; omega
  have hll : 0 < (lowN k p (ns 2).1).label.size := by
    show 0 < (k.label.extract p k.label.size).size
    simp only [ByteArray.size_extract]
    omega
  unfold splitN
  split
  · exact Ok.mk' (by simp) (by simpa using hll) (by simpa using ok_low k p _ hk)
  · rename_i hpe
    have hx : fbAt rest p = fb (tipN (rest.extract p rest.size) l (ns 3)) := by
      rw [fb_hd]
      show _ = hd (L (rest.extract p rest.size))
      rw [L_tail, hd_drop]
      rfl
    refine Ok.mk' (ok_insAt [lowN k p (ns 2).1] _ _ hx.symm (by simp) (fun k' hk' => ?_)) (fun k' hk' => ?_) (fun k' hk' => ?_)
    · rw [List.mem_singleton] at hk'
      rw [hk', fb_hd]
      show hd (L (k.label.extract p k.label.size)) ≠ _
      rw [L_tail, hd_drop]
      have h5 := com_stop (L k.label) (L rest) (by show comB k.label rest < _; rw [L_len]; omega) (by show comB k.label rest < _; rw [L_len]; omega)
      have e2 : com (L k.label) (L rest) = p := ep
      rw [e2] at h5
      intro e
      exact h5 (UInt8.toNat_inj.1 e)
    · rcases mem_insAt hk' with e | e
      · rw [e]
        show 0 < (rest.extract p rest.size).size
        simp only [ByteArray.size_extract]
        omega
      · rw [List.mem_singleton] at e; rw [e]; exact hll
    · rcases mem_insAt hk' with e | e
      · rw [e]; exact ok_tip _ _ _
      · rw [List.mem_singleton] at e; rw [e]; exact ok_low k p _ hk
theorem map_set_same (ks : List Nd) (i : Nat) (c : Nd) (hi : i < ks.length) (h : fb c = fb ks[i]) : (ks.set i c).map fb = ks.map fb := by
  rw [List.map_set, h]
  apply List.ext_getElem?
  intro j
  rw [List.getElem?_set]
  split
  · rename_i e
    subst e
    rw [List.length_map, if_pos hi, List.getElem?_map, List.getElem?_eq_getElem hi]
    rfl
  · rfl
theorem ok_ins : ∀ (N : Nat) (rest : ByteArray), rest.size ≤ N → ∀ n, Ok n → ∀ (l : Lf) (ns : Sup), Ok (insN n rest l ns) := by
  intro N
  induction N with
  | zero =>
    intro rest hN n ho l ns
    rw [insN, dif_pos (by omega)]
    exact Ok.mk' ho.parts.1 ho.parts.2.1 (fun x hx => ho.parts.2.2.get x hx)
  | succ N ih =>
    intro rest hN n ho l ns
    by_cases h0 : rest.size = 0
    · rw [insN, dif_pos h0]
      exact Ok.mk' ho.parts.1 ho.parts.2.1 (fun x hx => ho.parts.2.2.get x hx)
    · have hrs : 0 < rest.size := by omega
      have hq := kidN_eq n ho rest
      rw [insN, dif_neg h0]
      cases e : kidN n rest with
      | none =>
        simp only []
        rw [e] at hq
        refine Ok.mk' (ok_insAt n.kids (fbS rest) _ rfl ho.parts.1 (fun k hk => kidT_none hq.symm k hk)) (fun k' hk' => ?_) (fun k' hk' => ?_)
        · rcases mem_insAt hk' with e | e
          · rw [e]; exact hrs
          · exact ho.parts.2.1 k' e
        · rcases mem_insAt hk' with e | e
          · rw [e]; exact ok_tip _ _ _
          · exact ho.parts.2.2.get k' e
      | some k =>
        simp only []
        rw [e] at hq
        obtain ⟨hh, hlt, ek⟩ := kidN_some e
        have hkm : k ∈ n.kids := by rw [← ek]; exact List.getElem_mem _
        have hpos := ho.parts.2.1 k hkm
        have hfk := (kidT_some hq.symm).2
        have hcp := com_pos n k rest e hrs hpos
        have hcl := comB_le k.label rest
        have key : ∀ (c : Nd), fb c = fb k → 0 < c.label.size → Ok c → Ok (.mk (ns 0).1 n.label n.leaf (n.kids.set (pos (n.kids.map fb) (fbS rest)) c) (ns 0).2) := fun c hfc hcl hoc => by
          refine Ok.mk' ?_ (fun k' hk' => ?_) (fun k' hk' => ?_)
          · rw [map_set_same _ _ _ hlt (by rw [hfc, ek])]; exact ho.parts.1
          · rcases List.mem_or_eq_of_mem_set hk' with e | e
            · exact ho.parts.2.1 k' e
            · rw [e]; exact hcl
          · rcases List.mem_or_eq_of_mem_set hk' with e | e
            · exact ho.parts.2.2.get k' e
            · rw [e]; exact hoc
        by_cases hp : 0 < comB k.label rest ∧ comB k.label rest = k.label.size
        · rw [dif_pos hp]
          exact key _ (fb_insN _ _ _ _) (by rw [insN_label]; exact hpos) (ih _ (by simp only [ByteArray.size_extract]; omega) k (ho.parts.2.2.get k hkm) _ _)
        · rw [dif_neg hp]
          refine key _ (by rw [fb_splitN _ _ _ _ _ hcp hrs, hfk]) ?_ (ok_split k rest l ns _ rfl (ho.parts.2.2.get k hkm) (by omega))
          rw [splitN_label]
          simp only [ByteArray.size_extract]
          omega
theorem sm_ins : ∀ (N : Nat) (rest : ByteArray), rest.size ≤ N → rest.size < 4000000000000 → ∀ n, Sm n → ∀ (l : Lf) (ns : Sup), Sm (insN n rest l ns) := by
  intro N
  induction N with
  | zero =>
    intro rest hN hb n hs l ns
    rw [insN, dif_pos (by omega)]
    exact Sm.mk' hs.parts.1 (fun x hx => hs.parts.2.mem x hx)
  | succ N ih =>
    intro rest hN hb n hs l ns
    rw [insN]
    split
    · exact Sm.mk' hs.parts.1 (fun x hx => hs.parts.2.mem x hx)
    · split
      · refine Sm.mk' hs.parts.1 (fun k' hk' => ?_)
        rcases mem_insAt hk' with e | e
        · rw [e]; exact Sm.mk' hb (by simp)
        · exact hs.parts.2.mem k' e
      · rename_i k e
        obtain ⟨hh, hlt, ek⟩ := kidN_some e
        have hkm : k ∈ n.kids := by rw [← ek]; exact List.getElem_mem _
        have hks := hs.parts.2.mem k hkm
        have hlow : ∀ b p, Sm (lowN k p b) := fun b p => Sm.mk' (by simp only [ByteArray.size_extract]; have := hks.parts.1; omega) (fun x hx => hks.parts.2.mem x hx)
        split
        · refine Sm.mk' hs.parts.1 (fun k' hk' => ?_)
          rcases List.mem_or_eq_of_mem_set hk' with e | e
          · exact hs.parts.2.mem k' e
          · rw [e]
            exact ih _ (by simp only [ByteArray.size_extract]; omega) (by simp only [ByteArray.size_extract]; omega) k hks _ _
        · refine Sm.mk' hs.parts.1 (fun k' hk' => ?_)
          rcases List.mem_or_eq_of_mem_set hk' with e | e
          · exact hs.parts.2.mem k' e
          · rw [e]
            unfold splitN
            split
            · exact Sm.mk' (by simp only [ByteArray.size_extract]; omega) (by simpa using hlow _ _)
            · refine Sm.mk' (by simp only [ByteArray.size_extract]; omega) (fun k2 hk2 => ?_)
              rcases mem_insAt hk2 with e | e
              · rw [e]; exact Sm.mk' (by simp only [ByteArray.size_extract]; omega) (by simp)
              · rw [List.mem_singleton] at e; rw [e]; exact hlow _ _
/-- a tree as the program's calls make it -/
structure Good (root : Nd) : Prop where
  ok : Ok root
  sm : Sm root
  top : root.label.size = 0
  keys : ∀ r l, findT root r = some l → L l.key = r
theorem good_empty (b : Nat) (m : Value) : Good (emptyN b m) :=
  ⟨Ok.mk' (by simp) (by simp) (by simp), Sm.mk' (by decide) (by simp), rfl, fun r l h => by
    by_cases e : r = []
    · subst e; rw [findT_nil] at h; cases h
    · rw [findT_eq _ _ e] at h; cases h⟩
theorem good_ins {root : Nd} (h : Good root) (k : ByteArray) (hk : k.size < 4000000000000) (l : Lf) (hl : l.key = k) (ns : Sup) : Good (insN root k l ns) :=
  ⟨ok_ins k.size k (Nat.le_refl _) root h.ok l ns, sm_ins k.size k (Nat.le_refl _) hk root h.sm l ns, by rw [insN_label]; exact h.top, fun r l' e => by
    rw [find_ins k.size k (Nat.le_refl _) root h.ok l ns r] at e
    by_cases er : r = L k
    · rw [if_pos er] at e; cases e; rw [hl, er]
    · rw [if_neg er] at e; exact h.keys r l' e⟩
end Go.Proofs.Ytkaeglnnahecjaa.T
/- radix, plain: Get finds what is there; Longest is the longest beginning that is there. -/
set_option linter.unusedVariables false
set_option linter.unusedSimpArgs false
namespace Go.Proofs.Ytkaeglnnahecjaa.T

theorem downN_eq (n : Nd) (ho : Ok n) (rest : ByteArray) (h : rest.size ≠ 0) : downN n rest = (kidT n.kids (hd (L rest))).bind fun k => if L k.label <+: L rest then some k else none := by
  unfold downN
  rw [if_neg h, kidN_eq n ho rest]
  congr 1
  funext k
  have : (Lib.hasPrefix rest.data.toList k.label.data.toList = true) ↔ L k.label <+: L rest := List.isPrefixOf_iff_prefix
  by_cases e : L k.label <+: L rest
  · rw [if_pos e, if_pos (this.2 e)]
  · rw [if_neg e, if_neg (fun h => e (this.1 h))]
theorem seek_way (k : ByteArray) : ∀ (f : Nat) (n : Nd) (a : Nat), Ok n → k.size + 1 < f + a + n.label.size → a + n.label.size ≤ k.size →
    wayF (stepF k) k f (some n) a none = findT n ((L k).drop (a + n.label.size)) := by
  intro f
  induction f with
  | zero => intro n a _ h1 h2; omega
  | succ f ih =>
    intro n a ho h1 h2
    obtain ⟨a2, ea⟩ : ∃ a2, a + n.label.size = a2 := ⟨_, rfl⟩
    unfold wayF
    rw [ea]
    have hsz : (k.extract a2 k.size).size = k.size - a2 := by simp only [ByteArray.size_extract]; omega
    by_cases hend : a2 = k.size
    · have e1 : downN n (k.extract a2 k.size) = none := by unfold downN; rw [if_pos (by omega)]
      have e2 : (L k).drop a2 = [] := List.drop_eq_nil_iff.2 (by rw [L_len]; omega)
      rw [e1, wayF_none, e2, findT_nil]
      unfold stepF
      rw [if_pos hend]
    · have e1 := downN_eq n ho (k.extract a2 k.size) (by omega)
      rw [L_tail] at e1
      have hne : (L k).drop a2 ≠ [] := fun e => by have := List.drop_eq_nil_iff.1 e; rw [L_len] at this; omega
      have es : stepF k none n a2 = none := by unfold stepF; rw [if_neg hend]
      rw [es, findT_eq _ _ hne]
      cases ek : kidT n.kids (hd ((L k).drop a2)) with
      | none =>
        rw [ek] at e1
        rw [e1]
        exact wayF_none _ _ _ _ _
      | some m =>
        rw [ek] at e1
        simp only [Option.bind_some] at e1 ⊢
        have hm := (kidT_some ek).1
        have hpos := ho.parts.2.1 m hm
        by_cases hp : L m.label <+: (L k).drop a2
        · rw [if_pos hp] at e1
          have hle := hp.length_le
          rw [L_len, List.length_drop, L_len] at hle
          rw [e1, ih m a2 (ho.parts.2.2.get m hm) (by omega) (by omega)]
          unfold below
          rw [if_pos ⟨hpos, hp⟩, List.drop_drop]
        · rw [if_neg hp] at e1
          rw [e1, wayF_none]
          unfold below
          rw [if_neg (fun e => hp e.2)]
theorem seek_eq {root : Nd} (h : Good root) (k : ByteArray) : seekN root k = findT root (L k) := by
  unfold seekN
  rw [seek_way k _ root 0 h.ok (by omega) (by have := h.top; omega), h.top]
  rfl
theorem find_eq {root : Nd} (h : Good root) (k : ByteArray) : findN root k = findT root (L k) := findN_eq k.size k (Nat.le_refl _) root h.ok
/-- res is what stands at the longest beginning of R beneath n, else s -/
def LongAt (n : Nd) (R : List UInt8) (s res : Option Lf) : Prop :=
  (∃ j, j ≤ R.length ∧ findT n (R.take j) = res ∧ res ≠ none ∧ ∀ j', j < j' → j' ≤ R.length → findT n (R.take j') = none) ∨ (res = s ∧ ∀ j, j ≤ R.length → findT n (R.take j) = none)
theorem hd_take (R : List UInt8) (j : Nat) (h : 0 < j) : hd (R.take j) = hd R := by
  cases R with
  | nil => simp
  | cons x xs => cases j with | zero => omega | succ j => rfl
theorem long_stop (n : Nd) (R : List UInt8) (s : Option Lf) (h : ∀ j, 0 < j → j ≤ R.length → findT n (R.take j) = none) : LongAt n R s (if n.leaf.isSome then n.leaf else s) := by
  cases e : n.leaf with
  | none =>
    refine .inr ⟨rfl, fun j hj => ?_⟩
    by_cases h0 : j = 0
    · subst h0; rw [List.take_zero, findT_nil, e]
    · exact h j (by omega) hj
  | some l =>
    refine .inl ⟨0, Nat.zero_le _, by rw [List.take_zero, findT_nil, e]; rfl, by simp, fun j' h1 h2 => h j' h1 h2⟩
theorem long_way (k : ByteArray) : ∀ (f : Nat) (n : Nd) (a : Nat) (s : Option Lf), Ok n → k.size + 1 < f + a + n.label.size → a + n.label.size ≤ k.size →
    LongAt n ((L k).drop (a + n.label.size)) s (wayF stepL k f (some n) a s) := by
  intro f
  induction f with
  | zero => intro n a s _ h1 h2; omega
  | succ f ih =>
    intro n a s ho h1 h2
    obtain ⟨a2, ea⟩ : ∃ a2, a + n.label.size = a2 := ⟨_, rfl⟩
    unfold wayF
    rw [ea]
    have hsz : (k.extract a2 k.size).size = k.size - a2 := by simp only [ByteArray.size_extract]; omega
    have hRl : ((L k).drop a2).length = k.size - a2 := by rw [List.length_drop, L_len]
    have es : stepL s n a2 = if n.leaf.isSome then n.leaf else s := rfl
    by_cases hend : a2 = k.size
    · have e1 : downN n (k.extract a2 k.size) = none := by unfold downN; rw [if_pos (by omega)]
      rw [e1, wayF_none, es]
      exact long_stop n _ s (fun j h3 h4 => by omega)
    · have e1 := downN_eq n ho (k.extract a2 k.size) (by omega)
      rw [L_tail] at e1
      obtain ⟨R, eR⟩ : ∃ R, (L k).drop a2 = R := ⟨_, rfl⟩
      rw [eR] at e1 hRl ⊢
      have hF : ∀ j, 0 < j → j ≤ R.length → findT n (R.take j) = (kidT n.kids (hd R)).bind (below (R.take j)) := fun j h3 h4 => by
        rw [findT_eq _ _ (fun e => by have := congrArg List.length e; rw [List.length_take, List.length_nil] at this; omega), hd_take R j h3]
      cases ek : kidT n.kids (hd R) with
      | none =>
        rw [ek] at e1 hF
        have e2 : downN n (k.extract a2 k.size) = none := e1
        rw [e2, wayF_none, es]
        exact long_stop n R s (fun j h3 h4 => by rw [hF j h3 h4]; rfl)
      | some m =>
        rw [ek] at e1 hF
        simp only [Option.bind_some] at e1 hF
        have hm := (kidT_some ek).1
        have hpos := ho.parts.2.1 m hm
        have hml : (L m.label).length = m.label.size := L_len _
        by_cases hp : L m.label <+: R
        · rw [if_pos hp] at e1
          have hle := hp.length_le
          rw [hml] at hle
          rw [e1, es]
          have hI := ih m a2 (if n.leaf.isSome then n.leaf else s) (ho.parts.2.2.get m hm) (by omega) (by omega)
          have eR2 : (L k).drop (a2 + m.label.size) = R.drop m.label.size := by rw [← eR, List.drop_drop]
          rw [eR2] at hI
          have hRd : (R.drop m.label.size).length = R.length - m.label.size := List.length_drop
          have hsmall : ∀ j, 0 < j → j < m.label.size → j ≤ R.length → findT n (R.take j) = none := fun j h3 h4 h5 => by
            rw [hF j h3 h5]
            unfold below
            rw [if_neg (fun e => by have := e.2.length_le; rw [hml, List.length_take] at this; omega)]
          have hbig : ∀ j, j ≤ R.length - m.label.size → findT n (R.take (m.label.size + j)) = findT m ((R.drop m.label.size).take j) := fun j h3 => by
            rw [hF _ (by omega) (by omega)]
            unfold below
            have hpre : L m.label <+: R.take (m.label.size + j) := by
              obtain ⟨t, ht⟩ := hp
              rw [← ht, ← hml, List.take_length_add_append]
              exact List.prefix_append _ _
            rw [if_pos ⟨hpos, hpre⟩]
            congr 1
            rw [List.drop_take]
            congr 1
            omega
          rcases hI with ⟨j, j1, j2, j3, j4⟩ | ⟨i1, i2⟩
          · refine .inl ⟨m.label.size + j, by omega, by rw [hbig j (by omega)]; exact j2, j3, fun j' h3 h4 => ?_⟩
            have e3 : j' = m.label.size + (j' - m.label.size) := by omega
            rw [e3, hbig _ (by omega)]
            exact j4 _ (by omega) (by omega)
          · rw [i1]
            refine long_stop n R s (fun j h3 h4 => ?_)
            by_cases h5 : j < m.label.size
            · exact hsmall j h3 h5 h4
            · have e3 : j = m.label.size + (j - m.label.size) := by omega
              rw [e3, hbig _ (by omega)]
              exact i2 _ (by omega)
        · rw [if_neg hp] at e1
          rw [e1, wayF_none, es]
          refine long_stop n R s (fun j h3 h4 => ?_)
          rw [hF j h3 h4]
          unfold below
          rw [if_neg (fun e => hp (e.2.trans (List.take_prefix _ _)))]
theorem long_eq {root : Nd} (h : Good root) (k : ByteArray) : LongAt root (L k) none (longN root k) := by
  have h1 := long_way k (k.size + 2) root 0 none h.ok (by omega) (by have := h.top; omega)
  rw [h.top] at h1
  exact h1
end Go.Proofs.Ytkaeglnnahecjaa.T
