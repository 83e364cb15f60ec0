/- joined: TP9 TP10 TP11 TR15 TP12 N1 -/
import Derived.Test.YtjhgknagmiekeaaJD5
import Derived.Test.YtjhgknagmiekeaaJD3
set_option linter.unusedVariables false
set_option linter.unusedSimpArgs false
namespace Go.Proofs.Ytjhgknagmiekeaa.T
mutual
/-- every way down from n has at most B letters -/
def Fits : Nd → Nat → Prop
  | .mk _ label _ kids _, B => label.size ≤ B ∧ Fitss kids (B - label.size)
def Fitss : List Nd → Nat → Prop
  | [], _ => True
  | n :: r, B => Fits n B ∧ Fitss r B
end
theorem Fits.parts {n : Nd} {B : Nat} (h : Fits n B) : n.label.size ≤ B ∧ Fitss n.kids (B - n.label.size) := by
  cases n; unfold Fits at h; exact h
theorem Fits.mk' {b : Nat} {label : ByteArray} {leaf : Option Lf} {kids : List Nd} {m : Value} {B : Nat} (h : label.size ≤ B) (hk : Fitss kids (B - label.size)) : Fits (.mk b label leaf kids m) B := by
  unfold Fits; exact ⟨h, hk⟩
theorem Fitss.mem {B : Nat} : ∀ {ks : List Nd}, Fitss ks B → ∀ k ∈ ks, Fits k B
  | n :: r, h, k, hk => by
    unfold Fitss at h
    rcases List.mem_cons.1 hk with e | e
    · rw [e]; exact h.1
    · exact Fitss.mem h.2 k e
theorem Fitss.of {B : Nat} : ∀ {ks : List Nd}, (∀ k ∈ ks, Fits k B) → Fitss ks B
  | [], _ => by unfold Fitss; trivial
  | n :: r, h => by unfold Fitss; exact ⟨h n (by simp), Fitss.of (fun k hk => h k (by simp [hk]))⟩
mutual
theorem Fits.mono {B B' : Nat} (hb : B ≤ B') : ∀ n : Nd, Fits n B → Fits n B'
  | .mk b label leaf kids mark, h => by
    have h2 := h.parts
    exact Fits.mk' (Nat.le_trans h2.1 hb) (Fitss.mono (Nat.sub_le_sub_right hb _) kids h2.2)
theorem Fitss.mono {B B' : Nat} (hb : B ≤ B') : ∀ ks : List Nd, Fitss ks B → Fitss ks B'
  | [], _ => by unfold Fitss; trivial
  | n :: r, h => by unfold Fitss at h ⊢; exact ⟨Fits.mono hb n h.1, Fitss.mono hb r h.2⟩
end
mutual
theorem Fits.sm {B : Nat} (hb : B < 4000000000000) : ∀ n : Nd, Fits n B → Sm n
  | .mk b label leaf kids mark, h => by
    have h2 := h.parts
    have h3 : label.size ≤ B := h2.1
    unfold Sm
    exact ⟨by omega, Fitss.sm (B := B - label.size) (by omega) kids h2.2⟩
theorem Fitss.sm {B : Nat} (hb : B < 4000000000000) : ∀ ks : List Nd, Fitss ks B → Sms ks
  | [], _ => by unfold Sms; trivial
  | n :: r, h => by unfold Fitss at h; unfold Sms; exact ⟨Fits.sm hb n h.1, Fitss.sm hb r h.2⟩
end
theorem fits_tip (s : ByteArray) (l : Lf) (a : Nat × Value) (B : Nat) (h : s.size ≤ B) : Fits (tipN s l a) B := Fits.mk' h (by unfold Fitss; trivial)
theorem fits_low (k : Nd) (p b B : Nat) (hp : p ≤ k.label.size) (h : Fits k B) : Fits (lowN k p b) (B - p) := by
  have h2 := h.parts
  have e : (k.label.extract p k.label.size).size = k.label.size - p := by simp only [ByteArray.size_extract]; omega
  refine Fits.mk' (by rw [e]; omega) ?_
  rw [e]
  have e2 : B - p - (k.label.size - p) = B - k.label.size := by omega
  rw [e2]
  exact h2.2
theorem fits_ins : ∀ (N : Nat) (rest : ByteArray), rest.size ≤ N → ∀ (n : Nd) (B : Nat), n.label.size + rest.size ≤ B → Fits n B → ∀ (l : Lf) (ns : Sup), Fits (insN n rest l ns) B := by
  intro N
  induction N with
  | zero =>
    intro rest hN n B hb hf l ns
    rw [insN, dif_pos (by omega)]
    exact Fits.mk' hf.parts.1 hf.parts.2
  | succ N ih =>
    intro rest hN n B hb hf l ns
    rw [insN]
    split
    · exact Fits.mk' hf.parts.1 hf.parts.2
    · split
      · refine Fits.mk' hf.parts.1 (Fitss.of fun k hk => ?_)
        rcases mem_insAt hk with e | e
        · rw [e]; exact fits_tip _ _ _ _ (by omega)
        · exact hf.parts.2.mem k e
      · rename_i k e
        obtain ⟨hh, hlt, ek⟩ := kidN_some e
        have hkm : k ∈ n.kids := by rw [← ek]; exact List.getElem_mem _
        have hfk := hf.parts.2.mem k hkm
        have hle := comB_le k.label rest
        split
        · rename_i hp
          refine Fits.mk' hf.parts.1 (Fitss.of fun k' hk' => ?_)
          rcases List.mem_or_eq_of_mem_set hk' with e | e
          · exact hf.parts.2.mem k' e
          · rw [e]
            refine ih _ (by simp only [ByteArray.size_extract]; omega) k _ ?_ hfk l _
            simp only [ByteArray.size_extract]
            omega
        · refine Fits.mk' hf.parts.1 (Fitss.of fun k' hk' => ?_)
          rcases List.mem_or_eq_of_mem_set hk' with e | e
          · exact hf.parts.2.mem k' e
          · rw [e]
            have hlow := fits_low k (comB k.label rest) (ns 2).1 _ hle.1 hfk
            have es : (rest.extract 0 (comB k.label rest)).size = comB k.label rest := by simp only [ByteArray.size_extract]; omega
            unfold splitN
            split
            · refine Fits.mk' (by rw [es]; omega) (Fitss.of fun k2 hk2 => ?_)
              rw [List.mem_singleton] at hk2
              rw [hk2, es]; exact hlow
            · refine Fits.mk' (by rw [es]; omega) (Fitss.of fun k2 hk2 => ?_)
              rw [es]
              rcases mem_insAt hk2 with e | e
              · rw [e]; exact fits_tip _ _ _ _ (by simp only [ByteArray.size_extract]; omega)
              · rw [List.mem_singleton] at e; rw [e]; exact hlow
theorem delN_some {n m : Nd} {rest : ByteArray} {ns : Sup} {l : Lf} (h : delN n rest ns = some (m, l)) :
    (rest.size = 0 ∧ n.leaf = some l ∧ m = .mk (ns 0).1 n.label none n.kids (ns 0).2) ∨
    (rest.size ≠ 0 ∧ ∃ k low, downN n rest = some k ∧ 0 < k.label.size ∧ delN k (rest.extract k.label.size rest.size) (fun j => ns (j + 2)) = some (low, l) ∧
      m = .mk (ns 0).1 n.label n.leaf (putKid n.kids (pos (n.kids.map fb) (fbS rest)) (shapedN low (ns 1).1)) (ns 0).2) := by
  rw [delN] at h
  by_cases h0 : rest.size = 0
  · rw [dif_pos h0] at h
    cases e : n.leaf with
    | none => rw [e] at h; cases h
    | some l' => rw [e] at h; cases h; exact .inl ⟨h0, rfl, rfl⟩
  · rw [dif_neg h0] at h
    cases e : downN n rest with
    | none => rw [e] at h; cases h
    | some k =>
      rw [e] at h
      simp only [] at h
      by_cases hp : 0 < k.label.size
      · rw [dif_pos hp] at h
        cases e2 : delN k (rest.extract k.label.size rest.size) (fun j => ns (j + 2)) with
        | none => rw [e2] at h; cases h
        | some x => rw [e2] at h; cases h; exact .inr ⟨h0, k, x.1, rfl, hp, e2, rfl⟩
      · rw [dif_neg hp] at h; cases h
theorem mem_putKid {ks : List Nd} {i : Nat} {o : Option Nd} {x : Nd} (h : x ∈ putKid ks i o) : x ∈ ks ∨ o = some x := by
  cases o with
  | none => exact .inl (List.mem_of_mem_eraseIdx h)
  | some s =>
    rcases List.mem_or_eq_of_mem_set h with e | e
    · exact .inl e
    · exact .inr (by rw [e])
theorem fits_shaped {n s : Nd} {b B : Nat} (hf : Fits n B) (h : shapedN n b = some s) : Fits s B := by
  rcases shaped_cases n b with ⟨e, _⟩ | ⟨_, _, e⟩ | ⟨k, hl, hk, e⟩
  · rw [e] at h; cases h; exact hf
  · rw [e] at h; cases h
  · rw [e] at h; cases h
    have h2 := hf.parts
    have hfk := h2.2.mem k (by rw [hk]; simp)
    have h3 := hfk.parts
    refine Fits.mk' ?_ ?_
    · rw [ByteArray.size_append]; omega
    · rw [ByteArray.size_append, Nat.sub_add_eq]; exact h3.2
theorem fits_del : ∀ (N : Nat) (rest : ByteArray), rest.size ≤ N → ∀ (n m : Nd) (B : Nat) (ns : Sup) (l : Lf), Fits n B → delN n rest ns = some (m, l) → Fits m B := by
  intro N
  induction N with
  | zero =>
    intro rest hN n m B ns l hf h
    rcases delN_some h with ⟨h0, h1, h2⟩ | ⟨h0, _⟩
    · rw [h2]; exact Fits.mk' hf.parts.1 hf.parts.2
    · omega
  | succ N ih =>
    intro rest hN n m B ns l hf h
    rcases delN_some h with ⟨h0, h1, h2⟩ | ⟨h0, k, low, hd, hp, hdel, h2⟩
    · rw [h2]; exact Fits.mk' hf.parts.1 hf.parts.2
    · rw [h2]
      have hkm := (downN_some hd).1
      have hfl := ih (rest.extract k.label.size rest.size) (by simp only [ByteArray.size_extract]; omega) k low _ _ l (hf.parts.2.mem k hkm) hdel
      refine Fits.mk' hf.parts.1 (Fitss.of fun x hx => ?_)
      rcases mem_putKid hx with e | e
      · exact hf.parts.2.mem x e
      · exact fits_shaped hfl e
def Full (n : Nd) : Prop := n.leaf.isSome = true ∨ 2 ≤ n.kids.length
mutual
/-- every node beneath n is full -/
def Br : Nd → Prop
  | .mk _ _ _ kids _ => Brs kids
def Brs : List Nd → Prop
  | [] => True
  | n :: r => (Full n ∧ Br n) ∧ Brs r
end
theorem Br.parts {n : Nd} (h : Br n) : Brs n.kids := by cases n; unfold Br at h; exact h
theorem Br.mk' {b : Nat} {label : ByteArray} {leaf : Option Lf} {kids : List Nd} {m : Value} (h : Brs kids) : Br (.mk b label leaf kids m) := by unfold Br; exact h
theorem Brs.mem : ∀ {ks : List Nd}, Brs ks → ∀ k ∈ ks, Full k ∧ Br k
  | n :: r, h, k, hk => by
    unfold Brs at h
    rcases List.mem_cons.1 hk with e | e
    · rw [e]; exact h.1
    · exact Brs.mem h.2 k e
theorem Brs.of : ∀ {ks : List Nd}, (∀ k ∈ ks, Full k ∧ Br k) → Brs ks
  | [], _ => by unfold Brs; trivial
  | n :: r, h => by unfold Brs; exact ⟨h n (by simp), Brs.of (fun k hk => h k (by simp [hk]))⟩
theorem full_ins (n : Nd) (rest : ByteArray) (l : Lf) (ns : Sup) (h : Full n) : Full (insN n rest l ns) := by
  unfold Full at h ⊢
  rw [insN]
  split
  · exact .inl rfl
  · split
    · refine h.imp id (fun h => ?_)
      show 2 ≤ (insAt _ _ n.kids).length
      unfold insAt
      rw [List.length_append, List.length_cons, List.length_take, List.length_drop]
      omega
    · split
      · refine h.imp id (fun h => ?_)
        show 2 ≤ (n.kids.set _ _).length
        rw [List.length_set]; exact h
      · refine h.imp id (fun h => ?_)
        show 2 ≤ (n.kids.set _ _).length
        rw [List.length_set]; exact h
theorem br_tip (s : ByteArray) (l : Lf) (a : Nat × Value) : Full (tipN s l a) ∧ Br (tipN s l a) := ⟨.inl rfl, Br.mk' (by unfold Brs; trivial)⟩
theorem br_ins : ∀ (N : Nat) (rest : ByteArray), rest.size ≤ N → ∀ (n : Nd), Br n → ∀ (l : Lf) (ns : Sup), Br (insN n rest l ns) := by
  intro N
  induction N with
  | zero =>
    intro rest hN n hb l ns
    rw [insN, dif_pos (by omega)]
    exact Br.mk' hb.parts
  | succ N ih =>
    intro rest hN n hb l ns
    rw [insN]
    split
    · exact Br.mk' hb.parts
    · split
      · refine Br.mk' (Brs.of fun k hk => ?_)
        rcases mem_insAt hk with e | e
        · rw [e]; exact br_tip _ _ _
        · exact hb.parts.mem k e
      · rename_i k e
        obtain ⟨hh, hlt, ek⟩ := kidN_some e
        have hkm : k ∈ n.kids := by rw [← ek]; exact List.getElem_mem _
        have hbk := hb.parts.mem k hkm
        split
        · refine Br.mk' (Brs.of fun k' hk' => ?_)
          rcases List.mem_or_eq_of_mem_set hk' with e | e
          · exact hb.parts.mem k' e
          · rw [e]
            exact ⟨full_ins k _ l _ hbk.1, ih _ (by simp only [ByteArray.size_extract]; omega) k hbk.2 l _⟩
        · refine Br.mk' (Brs.of fun k' hk' => ?_)
          rcases List.mem_or_eq_of_mem_set hk' with e | e
          · exact hb.parts.mem k' e
          · rw [e]
            have hlow : Full (lowN k (comB k.label rest) (ns 2).1) ∧ Br (lowN k (comB k.label rest) (ns 2).1) := ⟨hbk.1, Br.mk' hbk.2.parts⟩
            unfold splitN
            split
            · refine ⟨.inl rfl, Br.mk' (Brs.of fun k2 hk2 => ?_)⟩
              rw [List.mem_singleton] at hk2
              rw [hk2]; exact hlow
            · refine ⟨.inr ?_, Br.mk' (Brs.of fun k2 hk2 => ?_)⟩
              · show 2 ≤ (insAt _ _ [_]).length
                unfold insAt
                rw [List.length_append, List.length_cons, List.length_take, List.length_drop]
                simp only [List.length_singleton]
                omega
              · rcases mem_insAt hk2 with e | e
                · rw [e]; exact br_tip _ _ _
                · rw [List.mem_singleton] at e; rw [e]; exact hlow
theorem br_shaped {n s : Nd} {b : Nat} (hb : Br n) (h : shapedN n b = some s) : Full s ∧ Br s := by
  rcases shaped_cases n b with ⟨e, hf⟩ | ⟨_, _, e⟩ | ⟨k, hl, hk, e⟩
  · rw [e] at h; cases h; exact ⟨hf, hb⟩
  · rw [e] at h; cases h
  · rw [e] at h; cases h
    have h2 := hb.parts.mem k (by rw [hk]; simp)
    exact ⟨h2.1, Br.mk' h2.2.parts⟩
theorem br_del : ∀ (N : Nat) (rest : ByteArray), rest.size ≤ N → ∀ (n m : Nd) (ns : Sup) (l : Lf), Br n → delN n rest ns = some (m, l) → Br m := by
  intro N
  induction N with
  | zero =>
    intro rest hN n m ns l hf h
    rcases delN_some h with ⟨h0, h1, h2⟩ | ⟨h0, _⟩
    · rw [h2]; exact Br.mk' hf.parts
    · omega
  | succ N ih =>
    intro rest hN n m ns l hf h
    rcases delN_some h with ⟨h0, h1, h2⟩ | ⟨h0, k, low, hd, hp, hdel, h2⟩
    · rw [h2]; exact Br.mk' hf.parts
    · rw [h2]
      have hkm := (downN_some hd).1
      have hbl := ih (rest.extract k.label.size rest.size) (by simp only [ByteArray.size_extract]; omega) k low _ l (hf.parts.mem k hkm).2 hdel
      refine Br.mk' (Brs.of fun x hx => ?_)
      rcases mem_putKid hx with e | e
      · exact hf.parts.mem x e
      · exact br_shaped hbl e
structure Fine (root : Nd) : Prop extends Good root where
  fits : Fits root 3999999999999
  br : Br root
theorem fine_empty (b : Nat) (m : Value) : Fine (emptyN b m) := ⟨good_empty b m, Fits.mk' (by decide) (by unfold Fitss; trivial), Br.mk' (by unfold Brs; trivial)⟩
theorem fine_ins {root : Nd} (h : Fine root) (k : ByteArray) (hk : k.size < 4000000000000) (l : Lf) (hl : l.key = k) (ns : Sup) : Fine (insN root k l ns) :=
  ⟨good_ins h.toGood k hk l hl ns, fits_ins k.size k (Nat.le_refl _) root _ (by have := h.top; omega) h.fits l ns, br_ins k.size k (Nat.le_refl _) root h.br l ns⟩
theorem fine_del {root m : Nd} (h : Fine root) (k : ByteArray) (l : Lf) (ns : Sup) (hd : delN root k ns = some (m, l)) : Fine m ∧ findT root (L k) = some l ∧ ∀ r, findT m r = if r = L k then none else findT root r := by
  have hd2 := del_find k.size k (Nat.le_refl _) root h.ok ns
  have hf := fits_del k.size k (Nat.le_refl _) root m _ ns l h.fits hd
  cases e : findT root (L k) with
  | none => rw [hd2.1 e] at hd; cases hd
  | some l' =>
    obtain ⟨m', h1, h2, h3, h4⟩ := hd2.2 l' e
    rw [hd] at h1
    cases h1
    refine ⟨⟨⟨h3, hf.sm (by omega), by rw [h2]; exact h.top, fun r l2 h5 => ?_⟩, hf, br_del k.size k (Nat.le_refl _) root m ns l h.br hd⟩, rfl, h4⟩
    rw [h4] at h5
    split at h5
    · cases h5
    · exact h.keys r l2 h5
theorem all_del {root m : Nd} (h : Fine root) (k : ByteArray) (l : Lf) (ns : Sup) (hd : delN root k ns = some (m, l)) : All m = (All root).filter (fun e => decide (e.1 ≠ L k)) := by
  obtain ⟨hm, _, hf⟩ := fine_del h k l ns hd
  refine rise_ext (all_rise hm.toGood) ((all_rise h.toGood).filter _) (fun x => ?_)
  obtain ⟨q, l'⟩ := x
  rw [mem_all hm.toGood, hf, List.mem_filter, mem_all h.toGood]
  by_cases e : q = L k
  · rw [if_pos e]; simp [e]
  · rw [if_neg e]; simp [e]
end Go.Proofs.Ytjhgknagmiekeaa.T
set_option linter.unusedVariables false
set_option linter.unusedSimpArgs false
namespace Go.Proofs.Ytjhgknagmiekeaa.T
def nodeT (n : Nd) (r : List UInt8) : Option Nd :=
  if h0 : r = [] then some n
  else match kidT n.kids (hd r) with
    | none => none
    | some k => if h : 0 < k.label.size ∧ L k.label <+: r then nodeT k (r.drop k.label.size) else none
termination_by r.length
decreasing_by
  have : 0 < r.length := by cases r with | nil => exact absurd rfl h0 | cons a b => simp
  rw [List.length_drop]
  omega
def beneath (r : List UInt8) (k : Nd) : Option Nd := if 0 < k.label.size ∧ L k.label <+: r then nodeT k (r.drop k.label.size) else none
def Parts (n : Nd) (r : List UInt8) : Prop := ∃ a b s t, a ≠ b ∧ findT n (r ++ a :: s) ≠ none ∧ findT n (r ++ b :: t) ≠ none
end Go.Proofs.Ytjhgknagmiekeaa.T
set_option linter.unusedVariables false
set_option linter.unusedSimpArgs false
namespace Go.Proofs.Ytjhgknagmiekeaa.T
mutual
def Sim : Nd → Nd → Prop
  | .mk _ label leaf kids _, b => label = b.label ∧ leaf.map Lf.val = b.leaf.map Lf.val ∧ Sims kids b.kids
def Sims : List Nd → List Nd → Prop
  | [], ms => ms = []
  | k :: ks, ms => ∃ m r, ms = m :: r ∧ Sim k m ∧ Sims ks r
end
theorem Sim.parts {a b : Nd} (h : Sim a b) : a.label = b.label ∧ a.leaf.map Lf.val = b.leaf.map Lf.val ∧ Sims a.kids b.kids := by
  cases a; unfold Sim at h; exact h
theorem Sims.get : ∀ {ks ms : List Nd}, Sims ks ms → ks.length = ms.length ∧ ∀ i (hi : i < ks.length) (hj : i < ms.length), Sim ks[i] ms[i]
  | [], ms, h => by unfold Sims at h; subst h; exact ⟨rfl, fun i hi => by simp at hi⟩
  | k :: ks, ms, h => by
    unfold Sims at h
    obtain ⟨m, r, rfl, h1, h2⟩ := h
    have ih := Sims.get h2
    refine ⟨by simp [ih.1], fun i hi hj => ?_⟩
    cases i with
    | zero => exact h1
    | succ i => exact ih.2 i (by simpa using hi) (by simpa using hj)
mutual
def nsz : Nd → Nat
  | .mk _ _ _ kids _ => nszs kids + 1
def nszs : List Nd → Nat
  | [] => 0
  | n :: r => nsz n + nszs r
end
theorem nszs_mem : ∀ {ks : List Nd} {k : Nd}, k ∈ ks → nsz k ≤ nszs ks
  | n :: r, k, h => by
    unfold nszs
    rcases List.mem_cons.1 h with e | e
    · rw [e]; omega
    · have := nszs_mem e; omega
theorem nsz_kid {n k : Nd} (h : k ∈ n.kids) : nsz k < nsz n := by
  cases n with
  | mk b l f ks m =>
    have h1 : nsz (.mk b l f ks m) = nszs ks + 1 := by rw [nsz]
    have h2 : nsz k ≤ nszs ks := nszs_mem h
    omega
end Go.Proofs.Ytjhgknagmiekeaa.T
set_option linter.unusedVariables false
set_option linter.unusedSimpArgs false
namespace Go.Proofs.Ytjhgknagmiekeaa.T
open Go.RowKit Go.Lib Go.Proofs Go.Proofs.YtjhgknagmiekeaaW.PrintWords
def Strs (w : World) (A : Option Addr) (l : List ByteArray) : Prop := ∀ i (h : i < l.length), ∃ ad, A = some ad ∧ w.cell? (ad.add i) = some (.string l[i])
theorem Strs.keep {w w' : World} {A : Option Addr} {l : List ByteArray} (h : Strs w A l) (k : Kept w w') : Strs w' A l := fun i hi => by
  obtain ⟨ad, h1, h2⟩ := h i hi
  exact ⟨ad, h1, k.cell h2⟩
def IntVals (root : Nd) : Prop := ∀ r l, findT root r = some l → ∃ v : Int, l.val = .int .i64 v
theorem vals_empty (b : Nat) (m : Value) : IntVals (emptyN b m) := fun r l h => by
  by_cases e : r = []
  · subst e; rw [findT_nil] at h; cases h
  · rw [findT_eq _ _ e] at h; cases h
theorem vals_ins {root : Nd} (hg : Good root) (h : IntVals root) (k : ByteArray) (l : Lf) (v : Int) (hl : l.val = .int .i64 v) (ns : Sup) : IntVals (insN root k l ns) := fun r l' e => by
  rw [find_ins k.size k (Nat.le_refl _) root hg.ok l ns r] at e
  by_cases er : r = L k
  · rw [if_pos er] at e; cases e; exact ⟨v, hl⟩
  · rw [if_neg er] at e; exact h r l' e
structure IntTree (w : World) (tb : Nat) (root : Nd) (size : Int) : Prop where
  at_ : TrAt w tb root size
  good : Good root
  vals : IntVals root
end Go.Proofs.Ytjhgknagmiekeaa.T
set_option linter.unusedVariables false
set_option linter.unusedSimpArgs false
namespace Go.Proofs.Ytjhgknagmiekeaa.T
def valT (n : Nd) (r : List UInt8) : Option Value := (findT n r).map Lf.val
def gtB (k : List UInt8) (e : Ent) : Bool := decide (k < e.1)
theorem gtB_iff {k : List UInt8} {e : Ent} : gtB k e = true ↔ k < e.1 := by unfold gtB; simp
theorem all_split {root : Nd} (h : Good root) (k : List UInt8) :
    All root = (All root).filter (fun e => decide (e.1 < k)) ++ ((findT root k).toList.map fun l => (k, l)) ++ (All root).filter (gtB k) := by
  refine rise_ext (all_rise h) ?_ (fun x => ?_)
  · have hr := all_rise h
    rw [List.append_assoc, List.pairwise_append, List.pairwise_append]
    refine ⟨hr.filter _, ⟨?_, hr.filter _, ?_⟩, ?_⟩
    · cases findT root k <;> simp
    · intro a ha c hc
      obtain ⟨l, _, e⟩ := List.mem_map.1 ha
      rw [← e]
      exact gtB_iff.1 (List.mem_filter.1 hc).2
    · intro a ha c hc
      have h1 : a.1 < k := of_decide_eq_true (List.mem_filter.1 ha).2
      rcases List.mem_append.1 hc with e | e
      · obtain ⟨l, _, e⟩ := List.mem_map.1 e
        rw [← e]; exact h1
      · exact blt_trans h1 (gtB_iff.1 (List.mem_filter.1 e).2)
  · obtain ⟨q, l'⟩ := x
    rw [List.mem_append, List.mem_append, List.mem_filter, List.mem_filter, mem_all h, List.mem_map]
    simp only [decide_eq_true_eq, gtB_iff]
    constructor
    · intro h1
      rcases blt_total q k with h2 | h2 | h2
      · exact .inl (.inl ⟨h1, h2⟩)
      · subst h2; exact .inl (.inr ⟨l', by rw [h1]; simp, rfl⟩)
      · exact .inr ⟨h1, h2⟩
    · rintro ((⟨h1, _⟩ | ⟨l, h1, h2⟩) | ⟨h1, _⟩)
      · exact h1
      · cases h2; exact Option.mem_toList.1 h1
      · exact h1
theorem all_ins2 {root : Nd} (h : Good root) (k : ByteArray) (l : Lf) (ns : Sup) (hg : Good (insN root k l ns)) :
    All (insN root k l ns) = (All root).filter (fun e => decide (e.1 < L k)) ++ (L k, l) :: (All root).filter (gtB (L k)) := by
  rw [all_ins h k l ns hg]
  congr 2
theorem len_ins {root : Nd} (h : Good root) (k : ByteArray) (l : Lf) (ns : Sup) (hg : Good (insN root k l ns)) :
    ((All (insN root k l ns)).length : Int) = (All root).length + (if findT root (L k) = none then 1 else 0) := by
  have e1 := congrArg List.length (all_ins2 h k l ns hg)
  have e2 := congrArg List.length (all_split h (L k))
  simp only [List.length_append, List.length_cons, List.length_map] at e1 e2
  cases e : findT root (L k) with
  | none => rw [e] at e2; simp at e2 ⊢; omega
  | some l' => rw [e] at e2; simp at e2 ⊢; omega
theorem len_del {root m : Nd} (h : Fine root) (k : ByteArray) (l : Lf) (ns : Sup) (hd : delN root k ns = some (m, l)) : ((All m).length : Int) = (All root).length - 1 := by
  obtain ⟨hm, hf, _⟩ := fine_del h k l ns hd
  have e1 := all_del h k l ns hd
  have e2 := all_split h.toGood (L k)
  rw [hf] at e2
  have e3 : All m = (All root).filter (fun e => decide (e.1 < L k)) ++ (All root).filter (gtB (L k)) := by
    refine rise_ext (all_rise hm.toGood) ?_ (fun x => ?_)
    · have hr := all_rise h.toGood
      rw [List.pairwise_append]
      exact ⟨hr.filter _, hr.filter _, fun a ha c hc => blt_trans (of_decide_eq_true (List.mem_filter.1 ha).2 : a.1 < L k) (gtB_iff.1 (List.mem_filter.1 hc).2)⟩
    · rw [e1, List.mem_append, List.mem_filter, List.mem_filter, List.mem_filter]
      simp only [decide_eq_true_eq, gtB_iff]
      constructor
      · rintro ⟨h1, h2⟩
        rcases blt_total x.1 (L k) with h3 | h3 | h3
        · exact .inl ⟨h1, h3⟩
        · exact absurd h3 h2
        · exact .inr ⟨h1, h3⟩
      · rintro (⟨h1, h2⟩ | ⟨h1, h2⟩)
        · exact ⟨h1, fun e => by rw [e] at h2; exact blt_irrefl _ h2⟩
        · exact ⟨h1, fun e => by rw [e] at h2; exact blt_irrefl _ h2⟩
  have e4 := congrArg List.length e3
  have e5 := congrArg List.length e2
  simp only [List.length_append, List.length_cons, List.length_map] at e4 e5
  simp at e5
  omega
theorem all_empty (b : Nat) (m : Value) : All (emptyN b m) = [] := by
  show ents [] (emptyN b m) = []
  rw [ents_eq]
  simp [emptyN, Nd.leaf, Nd.kids, entss]
theorem valT_ins {root : Nd} (h : Good root) (k : ByteArray) (l : Lf) (ns : Sup) (r : List UInt8) : valT (insN root k l ns) r = if r = L k then some l.val else valT root r := by
  unfold valT
  rw [find_ins k.size k (Nat.le_refl _) root h.ok l ns r]
  split <;> rfl
theorem valT_del {root m : Nd} (h : Fine root) (k : ByteArray) (l : Lf) (ns : Sup) (hd : delN root k ns = some (m, l)) (r : List UInt8) : valT m r = if r = L k then none else valT root r := by
  unfold valT
  rw [(fine_del h k l ns hd).2.2 r]
  split <;> rfl
theorem valT_empty (b : Nat) (m : Value) (r : List UInt8) : valT (emptyN b m) r = none := by
  unfold valT
  by_cases e : r = []
  · subst e; rw [findT_nil]; rfl
  · rw [findT_eq _ _ e]; rfl
end Go.Proofs.Ytjhgknagmiekeaa.T
set_option linter.unusedVariables false
set_option linter.unusedSimpArgs false
namespace Go.Proofs.Ytjhgknagmiekeaa.N
open Go.RowKit Go.Proofs.Ytjhgknagmiekeaa.K Go.Proofs.YtjhgknagmiekeaaW.PrintWords Go.Proofs.YtjhgknagmiekeaaW.PrintLast
theorem size_list (s : ByteArray) : s.size = s.data.toList.length := by rw [Array.length_toList]; rfl
theorem bt_list (s : ByteArray) (n : Nat) (h : n < s.data.toList.length) : bt s n = ((s.data.toList[n]).toNat : Int) := by
  have h' : n < s.size := by rw [Array.length_toList] at h; exact h
  simp [bt, h']
  rfl
theorem bt_drop (s : ByteArray) (i : Nat) (h : i < s.size) : ∃ b, s.data.toList.drop i = b :: s.data.toList.drop (i + 1) ∧ bt s i = (b.toNat : Int) := by
  have h2 : i < s.data.toList.length := by rw [← size_list]; exact h
  exact ⟨_, List.drop_eq_getElem_cons h2, bt_list s i h2⟩
theorem less_cons (a b : UInt8) (x y : List UInt8) : Op.bytesLess (a :: x) (b :: y) = (decide (a < b) || (a == b && Op.bytesLess x y)) := rfl
theorem u8_tri (a b : UInt8) : a < b ∨ a = b ∨ b < a := by
  rw [UInt8.lt_iff_toNat_lt, UInt8.lt_iff_toNat_lt, ← UInt8.toNat_inj]
  omega
theorem u8_asym (a b : UInt8) (h : a < b) : ¬ b < a ∧ ¬ a = b ∧ ¬ b = a := by
  rw [UInt8.lt_iff_toNat_lt] at h
  rw [UInt8.lt_iff_toNat_lt, ← UInt8.toNat_inj, ← UInt8.toNat_inj]
  omega
theorem less_ev (x y : ByteArray) (hx : x.size < 4611686018427387904) : Ev (fun k => musterref01_Less.f k x y) (Op.bytesLess x.toList y.toList) := by
  have key : ∀ d i : Nat, i ≤ x.size → x.size - i = d → Ev (fun k => musterref01_Less.l0 k x y (i : Int)) (Op.bytesLess (x.data.toList.drop i) (y.data.toList.drop i)) := by
    intro d
    induction d with
    | zero =>
      intro i hi hd
      have hz : x.data.toList.drop i = [] := List.drop_eq_nil_of_le (by rw [← size_list]; omega)
      by_cases hy : i < y.size
      · obtain ⟨b, hb, _⟩ := bt_drop y i hy
        rw [hz, hb]
        refine Ev.step (f := fun k => musterref01_Less.j1 k x y i true) (fun k => ?_) ?_
        · simp only [musterref01_Less.l0]
          rw [if_pos (by omega), if_pos (by omega)]
        · refine Ev.step (f := fun k => some true) (fun k => ?_) (Ev.now _)
          simp only [musterref01_Less.j1, if_true]
      · have hz2 : y.data.toList.drop i = [] := List.drop_eq_nil_of_le (by rw [← size_list]; omega)
        rw [hz, hz2]
        refine Ev.step (f := fun k => some false) (fun k => ?_) (Ev.now _)
        simp only [musterref01_Less.l0]
        rw [if_neg (by omega)]
    | succ d ih =>
      intro i hi hd
      have hlt : i < x.size := by omega
      obtain ⟨a, ha, hba⟩ := bt_drop x i hlt
      by_cases hy : i < y.size
      · obtain ⟨b, hb, hbb⟩ := bt_drop y i hy
        have hab : (bt x i < bt y i) ↔ a < b := by rw [hba, hbb, UInt8.lt_iff_toNat_lt]; omega
        have hba2 : (bt x i > bt y i) ↔ b < a := by rw [hba, hbb, UInt8.lt_iff_toNat_lt]; omega
        rw [ha, hb, less_cons]
        refine Ev.step (f := fun k => musterref01_Less.j1 k x y i (decide (a < b))) (fun k => ?_) ?_
        · simp only [musterref01_Less.l0]
          rw [if_pos (by omega), if_neg (by omega), if_pos (by omega), if_pos (by omega)]
          congr 1
          exact decide_eq_decide.2 hab
        · rcases u8_tri a b with hl | rfl | hl
          · refine Ev.step (f := fun k => some true) (fun k => ?_) (by simp only [hl, decide_true, Bool.true_or]; exact Ev.now _)
            simp only [musterref01_Less.j1, hl, decide_true, if_true]
          · have hn : ¬ a < a := by rw [UInt8.lt_iff_toNat_lt]; omega
            have e : (decide (a < a) || (a == a && Op.bytesLess (x.data.toList.drop (i + 1)) (y.data.toList.drop (i + 1)))) = Op.bytesLess (x.data.toList.drop (i + 1)) (y.data.toList.drop (i + 1)) := by simp
            rw [e]
            refine Ev.step (f := fun k => musterref01_Less.l0 k x y ((i + 1 : Nat) : Int)) (fun k => ?_) (ih (i + 1) (by omega) (by omega))
            simp only [musterref01_Less.j1]
            rw [if_neg (by simp), if_pos (by omega), if_pos (by omega), if_pos (by omega), if_neg (by rw [hba2]; exact hn), show wrap64 ((i : Int) + 1) = ((i + 1 : Nat) : Int) from by unfold wrap64; omega]
          · obtain ⟨h1, h2, h3⟩ := u8_asym b a hl
            refine Ev.step (f := fun k => some false) (fun k => ?_) (by simp only [h1, h3, decide_false, Bool.false_or, beq_iff_eq, Bool.and_eq_true]; have : (a == b) = false := by simpa using h3
                                                                        rw [this]; exact Ev.now _)
            simp only [musterref01_Less.j1]
            rw [if_neg (by simp [h1]), if_pos (by omega), if_pos (by omega), if_pos (by omega), if_pos (by rw [hba2]; exact hl)]
      · have hz2 : y.data.toList.drop i = [] := List.drop_eq_nil_of_le (by rw [← size_list]; omega)
        rw [ha, hz2]
        refine Ev.step (f := fun k => some false) (fun k => ?_) (Ev.now _)
        simp only [musterref01_Less.l0]
        rw [if_neg (by omega)]
  have := key x.size 0 (by omega) (by omega)
  rw [Lib.toList_data, Lib.toList_data]
  exact this
theorem less_dec (x y : ByteArray) : Op.bytesLess x.toList y.toList = decide (T.L x < T.L y) := by
  rw [Lib.toList_data, Lib.toList_data]
  exact bytesLess_eq _ _
abbrev gd (l : List ByteArray) (j : Nat) : ByteArray := l.getD j ⟨#[]⟩
def Rise (keys : List ByteArray) : Prop := (keys.map T.L).Pairwise (· < ·)
theorem Rise.lt {keys : List ByteArray} (h : Rise keys) {i j : Nat} (hij : i < j) (hj : j < keys.length) : T.L (gd keys i) < T.L (gd keys j) := by
  have h2 := List.pairwise_iff_getElem.1 h i j (by rw [List.length_map]; omega) (by rw [List.length_map]; exact hj) hij
  rw [List.getElem_map, List.getElem_map] at h2
  simp only [gd, List.getD_eq_getElem?_getD, List.getElem?_eq_getElem (show i < keys.length by omega), List.getElem?_eq_getElem hj, Option.getD_some]
  exact h2
def Cut (keys : List ByteArray) (a : ByteArray) (lo hi : Nat) : Prop := (∀ j, j < lo → T.L (gd keys j) < T.L a) ∧ ∀ j, hi ≤ j → j < keys.length → ¬ T.L (gd keys j) < T.L a
theorem mid_ev (lo hi : Nat) (h : lo < hi) (hh : hi < 4611686018427387904) : wrap64 ((lo : Int) + (wrap64 (Int.tdiv (wrap64 ((hi : Int) - (lo : Int))) 2))) = ((lo + (hi - lo) / 2 : Nat) : Int) := by
  have e1 : wrap64 ((hi : Int) - (lo : Int)) = ((hi - lo : Nat) : Int) := by unfold wrap64; omega
  rw [e1]
  have e2 : Int.tdiv ((hi - lo : Nat) : Int) 2 = (((hi - lo) / 2 : Nat) : Int) := by
    rw [Int.tdiv_eq_ediv_of_nonneg (by omega)]
    omega
  rw [e2]
  have e3 : wrap64 ((((hi - lo) / 2 : Nat) : Int)) = (((hi - lo) / 2 : Nat) : Int) := by unfold wrap64; omega
  rw [e3]
  unfold wrap64
  omega
theorem find_loop (keys : List ByteArray) (a : ByteArray) (hlen : keys.length < 4611686018427387904) (hs : ∀ k ∈ keys, k.size < 4611686018427387904) : ∀ (D lo hi : Nat), hi - lo ≤ D → lo ≤ hi → hi ≤ keys.length → (Rise keys → Cut keys a lo hi) →
    ∃ n : Nat, n ≤ keys.length ∧ Ev (fun k => musterref03_Find.l0 k keys a (lo : Int) (hi : Int)) ((n : Int), decide (n < keys.length) && (gd keys n).toList == a.toList) ∧ (Rise keys → Cut keys a n n) := by
  intro D
  induction D with
  | zero =>
    intro lo hi hd h1 h2 hc
    have e : lo = hi := by omega
    subst e
    refine ⟨lo, h2, ?_, hc⟩
    by_cases hl : lo < keys.length
    · refine Ev.step (f := fun k => some ((lo : Int), ((gd keys lo).toList == a.toList))) (fun k => ?_) (by rw [decide_eq_true hl]; exact Ev.now _)
      simp only [musterref03_Find.l0]
      rw [if_neg (by omega), if_pos (by omega), if_pos (by omega)]
      rfl
    · refine Ev.step (f := fun k => some ((lo : Int), false)) (fun k => ?_) (by rw [decide_eq_false hl]; exact Ev.now _)
      simp only [musterref03_Find.l0]
      rw [if_neg (by omega), if_neg (by omega)]
  | succ D ih =>
    intro lo hi hd h1 h2 hc
    by_cases hlt : lo < hi
    · obtain ⟨mid, emid⟩ : ∃ mid, lo + (hi - lo) / 2 = mid := ⟨_, rfl⟩
      have hm1 : lo ≤ mid := by omega
      have hm2 : mid < hi := by omega
      have hm3 : mid < keys.length := by omega
      have hw := mid_ev lo hi hlt (by omega)
      rw [emid] at hw
      have hk : (gd keys mid).size < 4611686018427387904 := by
        have e : gd keys mid = keys[mid] := by simp [gd, List.getD_eq_getElem?_getD, hm3]
        rw [e]; exact hs _ (List.getElem_mem _)
      have hless := less_ev (gd keys mid) a hk
      rw [less_dec] at hless
      have hstep : ∀ k, musterref03_Find.l0 (k + 1) keys a (lo : Int) (hi : Int) = (musterref01_Less.f k (gd keys mid) a).bind fun t => if t = true then musterref03_Find.l0 k keys a ((mid + 1 : Nat) : Int) (hi : Int) else musterref03_Find.l0 k keys a (lo : Int) (mid : Int) := fun k => by
        simp only [musterref03_Find.l0]
        rw [if_pos (by omega), hw, if_pos (by omega), if_pos (by omega)]
        have e1 : wrap64 ((mid : Int) + 1) = ((mid + 1 : Nat) : Int) := by unfold wrap64; omega
        rw [e1]
        rfl
      by_cases hL : T.L (gd keys mid) < T.L a
      · have hc2 : Rise keys → Cut keys a (mid + 1) hi := by
          intro hr
          refine ⟨fun j hj => ?_, (hc hr).2⟩
          rcases Nat.lt_or_ge j mid with h | h
          · exact T.blt_trans (hr.lt h hm3) hL
          · have : j = mid := by omega
            rw [this]
            exact hL
        obtain ⟨n, hn1, hn2, hn3⟩ := ih (mid + 1) hi (by omega) (by omega) h2 hc2
        refine ⟨n, hn1, Ev.step hstep (Ev.bind hless ?_), hn3⟩
        simp only [decide_eq_true hL, if_true]
        exact hn2
      · have hc2 : Rise keys → Cut keys a lo mid := by
          intro hr
          refine ⟨(hc hr).1, fun j h3 h4 h5 => ?_⟩
          rcases Nat.lt_or_ge mid j with h | h
          · exact hL (T.blt_trans (hr.lt h h4) h5)
          · have : j = mid := by omega
            rw [this] at h5
            exact hL h5
        obtain ⟨n, hn1, hn2, hn3⟩ := ih lo mid (by omega) hm1 (by omega) hc2
        refine ⟨n, hn1, Ev.step hstep (Ev.bind hless ?_), hn3⟩
        simp only [decide_eq_false hL]
        exact hn2
    · exact ih lo hi (by omega) h1 h2 hc
theorem gd_get {l : List ByteArray} {j : Nat} (h : j < l.length) : gd l j = l[j] := by simp [gd, List.getD_eq_getElem?_getD, h]
theorem find_ex (keys : List ByteArray) (a : ByteArray) (hlen : keys.length < 4611686018427387904) (hs : ∀ k ∈ keys, k.size < 4611686018427387904) :
    ∃ (n : Nat) (b : Bool), n ≤ keys.length ∧ Ev (fun k => musterref03_Find.f k keys a) ((n : Int), b) ∧ (b = true → n < keys.length ∧ gd keys n = a) ∧ (Rise keys → Cut keys a n n ∧ (b = true ↔ a ∈ keys)) := by
  obtain ⟨n, h1, h2, h3⟩ := find_loop keys a hlen hs keys.length 0 keys.length (by omega) (by omega) (Nat.le_refl _) (fun _ => ⟨fun j hj => by omega, fun j hj h => by omega⟩)
  have hb : (decide (n < keys.length) && (gd keys n).toList == a.toList) = true ↔ n < keys.length ∧ gd keys n = a := by
    rw [Bool.and_eq_true, decide_eq_true_eq, beq_iff_eq, Lib.toList_data, Lib.toList_data]
    exact ⟨fun h => ⟨h.1, T.L_inj h.2⟩, fun h => ⟨h.1, by rw [h.2]⟩⟩
  refine ⟨n, _, h1, h2, hb.1, fun hr => ⟨h3 hr, ?_⟩⟩
  rw [hb]
  constructor
  · rintro ⟨h4, h5⟩
    rw [← h5, gd_get h4]
    exact List.getElem_mem _
  · intro hm
    obtain ⟨j, hj, ej⟩ := List.getElem_of_mem hm
    rw [← gd_get hj] at ej
    have hc := h3 hr
    have hjn : j = n := by
      rcases Nat.lt_trichotomy j n with h | h | h
      · have := hc.1 j h
        rw [ej] at this
        exact absurd this (T.blt_irrefl _)
      · exact h
      · have h6 := hr.lt h hj
        rw [ej] at h6
        exact absurd h6 (hc.2 n (Nat.le_refl _) (by omega))
    subst hjn
    exact ⟨hj, ej⟩
end Go.Proofs.Ytjhgknagmiekeaa.N
