/- joined: TP5 TP6 TP7 TP8 TP9 TR23 TR25 TP10 TP11 TR15 TP12 TR28 G5 G6 G7 G8 G9 G11 G12 G13 TP15 Q2 G14 G17 G18 -/
import Derived.Test.YtjhgknagmiekeaaJW3
import Derived.Sort.Walk0
import Derived.Laws.Concat
import Derived.Shelf.SlicesE.Delete
import Derived.Lib.OwnBridge
import Derived.Deep.RegionLaw
import Derived.Deep.RegionHeld3
import Derived.Maps.Own
import Derived.Lib.SmallJoins
import Derived.Maps.OwnSet
import Derived.Shelf.SlIter.Nil
import Derived.Shelf.SortM.Plain
import Derived.Shelf.SortM.SortNone
import Derived.Shelf.SlLaysZ
import Derived.Shelf.SlLaysM
import Derived.Test.YtjhgknagmiekeaaProg
set_option linter.unusedVariables false
set_option linter.unusedSimpArgs false
namespace Go.Proofs.Ytjhgknagmiekeaa.T
theorem Oks.of : ∀ {ks : List Nd}, (∀ k ∈ ks, Ok k) → Oks ks
  | [], _ => by unfold Oks; trivial
  | n :: r, h => by
    unfold Oks
    exact ⟨h n (by simp), Oks.of (fun k hk => h k (by simp [hk]))⟩
theorem Sms.of : ∀ {ks : List Nd}, (∀ k ∈ ks, Sm k) → Sms ks
  | [], _ => by unfold Sms; trivial
  | n :: r, h => by
    unfold Sms
    exact ⟨h n (by simp), Sms.of (fun k hk => h k (by simp [hk]))⟩
theorem Ok.mk' {b : Nat} {label : ByteArray} {leaf : Option Lf} {kids : List Nd} {m : Value} (h1 : (kids.map fb).Pairwise (· < ·)) (h2 : ∀ k ∈ kids, 0 < k.label.size) (h3 : ∀ k ∈ kids, Ok k) : Ok (.mk b label leaf kids m) := by
  unfold Ok
  exact ⟨h1, h2, Oks.of h3⟩
theorem Sm.mk' {b : Nat} {label : ByteArray} {leaf : Option Lf} {kids : List Nd} {m : Value} (h1 : label.size < 4000000000000) (h3 : ∀ k ∈ kids, Sm k) : Sm (.mk b label leaf kids m) := by
  unfold Sm
  exact ⟨h1, Sms.of h3⟩
theorem mem_insAt {α : Type} {i : Nat} {x y : α} {l : List α} (h : y ∈ insAt i x l) : y = x ∨ y ∈ l := by
  rcases List.mem_append.1 h with e | e
  · exact .inr (List.mem_of_mem_take e)
  · rcases List.mem_cons.1 e with e | e
    · exact .inl e
    · exact .inr (List.mem_of_mem_drop e)
theorem rise_insAt : ∀ (fs : List Nat) (x : Nat), fs.Pairwise (· < ·) → x ∉ fs → (insAt (pos fs x) x fs).Pairwise (· < ·)
  | [], x, _, _ => by simp [insAt, pos]
  | y :: r, x, hp, hx => by
    have h2 := List.pairwise_cons.1 hp
    unfold pos
    by_cases h : y < x
    · rw [if_pos h]
      have ih := rise_insAt r x h2.2 (fun e => hx (by simp [e]))
      show (y :: insAt (pos r x) x r).Pairwise (· < ·)
      refine List.pairwise_cons.2 ⟨fun z hz => ?_, ih⟩
      rcases mem_insAt hz with e | e
      · rw [e]; exact h
      · exact h2.1 z e
    · rw [if_neg h]
      show (x :: y :: r).Pairwise (· < ·)
      have hxy : x < y := by
        have : x ≠ y := fun e => hx (by simp [e])
        omega
      refine List.pairwise_cons.2 ⟨fun z hz => ?_, hp⟩
      rcases List.mem_cons.1 hz with e | e
      · rw [e]; exact hxy
      · have := h2.1 z e; omega
theorem map_insAt (ks : List Nd) (i : Nat) (t : Nd) : (insAt i t ks).map fb = insAt i (fb t) (ks.map fb) := by simp [insAt]
theorem ok_insAt (ks : List Nd) (x : Nat) (t : Nd) (ht : fb t = x) (hp : (ks.map fb).Pairwise (· < ·)) (hn : ∀ k ∈ ks, fb k ≠ x) : ((insAt (pos (ks.map fb) x) t ks).map fb).Pairwise (· < ·) := by
  rw [map_insAt, ht]
  refine rise_insAt _ _ hp (fun e => ?_)
  obtain ⟨k, hk, e2⟩ := List.mem_map.1 e
  exact hn k hk e2
theorem ok_tip (s : ByteArray) (l : Lf) (a : Nat × Value) : Ok (tipN s l a) := Ok.mk' (by simp) (by simp) (by simp)
theorem ok_low (k : Nd) (p b : Nat) (h : Ok k) : Ok (lowN k p b) := Ok.mk' h.parts.1 h.parts.2.1 (fun x hx => h.parts.2.2.get x hx)
theorem ok_split (k : Nd) (rest : ByteArray) (l : Lf) (ns : Sup) (p : Nat) (ep : comB k.label rest = p) (hk : Ok k) (hp : p < k.label.size) : Ok (splitN k p rest l ns) := by
  have hpr : p ≤ rest.size := by have := comB_le k.label rest; omega
  have hll : 0 < (lowN k p (ns 2).1).label.size := by
    show 0 < (k.label.extract p k.label.size).size
    simp only [ByteArray.size_extract]
    omega
  unfold splitN
  split
  · exact Ok.mk' (by simp) (by simpa using hll) (by simpa using ok_low k p _ hk)
  · rename_i hpe
    have hx : fbAt rest p = fb (tipN (rest.extract p rest.size) l (ns 3)) := by
      rw [fb_hd]
      show _ = hd (L (rest.extract p rest.size))
      rw [L_tail, hd_drop]
      rfl
    refine Ok.mk' (ok_insAt [lowN k p (ns 2).1] _ _ hx.symm (by simp) (fun k' hk' => ?_)) (fun k' hk' => ?_) (fun k' hk' => ?_)
    · rw [List.mem_singleton] at hk'
      rw [hk', fb_hd]
      show hd (L (k.label.extract p k.label.size)) ≠ _
      rw [L_tail, hd_drop]
      have h5 := com_stop (L k.label) (L rest) (by show comB k.label rest < _; rw [L_len]; omega) (by show comB k.label rest < _; rw [L_len]; omega)
      have e2 : com (L k.label) (L rest) = p := ep
      rw [e2] at h5
      intro e
      exact h5 (UInt8.toNat_inj.1 e)
    · rcases mem_insAt hk' with e | e
      · rw [e]
        show 0 < (rest.extract p rest.size).size
        simp only [ByteArray.size_extract]
        omega
      · rw [List.mem_singleton] at e; rw [e]; exact hll
    · rcases mem_insAt hk' with e | e
      · rw [e]; exact ok_tip _ _ _
      · rw [List.mem_singleton] at e; rw [e]; exact ok_low k p _ hk
theorem map_set_same (ks : List Nd) (i : Nat) (c : Nd) (hi : i < ks.length) (h : fb c = fb ks[i]) : (ks.set i c).map fb = ks.map fb := by
  rw [List.map_set, h]
  apply List.ext_getElem?
  intro j
  rw [List.getElem?_set]
  split
  · rename_i e
    subst e
    rw [List.length_map, if_pos hi, List.getElem?_map, List.getElem?_eq_getElem hi]
    rfl
  · rfl
theorem ok_ins : ∀ (N : Nat) (rest : ByteArray), rest.size ≤ N → ∀ n, Ok n → ∀ (l : Lf) (ns : Sup), Ok (insN n rest l ns) := by
  intro N
  induction N with
  | zero =>
    intro rest hN n ho l ns
    rw [insN, dif_pos (by omega)]
    exact Ok.mk' ho.parts.1 ho.parts.2.1 (fun x hx => ho.parts.2.2.get x hx)
  | succ N ih =>
    intro rest hN n ho l ns
    by_cases h0 : rest.size = 0
    · rw [insN, dif_pos h0]
      exact Ok.mk' ho.parts.1 ho.parts.2.1 (fun x hx => ho.parts.2.2.get x hx)
    · have hrs : 0 < rest.size := by omega
      have hq := kidN_eq n ho rest
      rw [insN, dif_neg h0]
      cases e : kidN n rest with
      | none =>
        simp only []
        rw [e] at hq
        refine Ok.mk' (ok_insAt n.kids (fbS rest) _ rfl ho.parts.1 (fun k hk => kidT_none hq.symm k hk)) (fun k' hk' => ?_) (fun k' hk' => ?_)
        · rcases mem_insAt hk' with e | e
          · rw [e]; exact hrs
          · exact ho.parts.2.1 k' e
        · rcases mem_insAt hk' with e | e
          · rw [e]; exact ok_tip _ _ _
          · exact ho.parts.2.2.get k' e
      | some k =>
        simp only []
        rw [e] at hq
        obtain ⟨hh, hlt, ek⟩ := kidN_some e
        have hkm : k ∈ n.kids := by rw [← ek]; exact List.getElem_mem _
        have hpos := ho.parts.2.1 k hkm
        have hfk := (kidT_some hq.symm).2
        have hcp := com_pos n k rest e hrs hpos
        have hcl := comB_le k.label rest
        have key : ∀ (c : Nd), fb c = fb k → 0 < c.label.size → Ok c → Ok (.mk (ns 0).1 n.label n.leaf (n.kids.set (pos (n.kids.map fb) (fbS rest)) c) (ns 0).2) := fun c hfc hcl hoc => by
          refine Ok.mk' ?_ (fun k' hk' => ?_) (fun k' hk' => ?_)
          · rw [map_set_same _ _ _ hlt (by rw [hfc, ek])]; exact ho.parts.1
          · rcases List.mem_or_eq_of_mem_set hk' with e | e
            · exact ho.parts.2.1 k' e
            · rw [e]; exact hcl
          · rcases List.mem_or_eq_of_mem_set hk' with e | e
            · exact ho.parts.2.2.get k' e
            · rw [e]; exact hoc
        by_cases hp : 0 < comB k.label rest ∧ comB k.label rest = k.label.size
        · rw [dif_pos hp]
          exact key _ (fb_insN _ _ _ _) (by rw [insN_label]; exact hpos) (ih _ (by simp only [ByteArray.size_extract]; omega) k (ho.parts.2.2.get k hkm) _ _)
        · rw [dif_neg hp]
          refine key _ (by rw [fb_splitN _ _ _ _ _ hcp hrs, hfk]) ?_ (ok_split k rest l ns _ rfl (ho.parts.2.2.get k hkm) (by omega))
          rw [splitN_label]
          simp only [ByteArray.size_extract]
          omega
theorem sm_ins : ∀ (N : Nat) (rest : ByteArray), rest.size ≤ N → rest.size < 4000000000000 → ∀ n, Sm n → ∀ (l : Lf) (ns : Sup), Sm (insN n rest l ns) := by
  intro N
  induction N with
  | zero =>
    intro rest hN hb n hs l ns
    rw [insN, dif_pos (by omega)]
    exact Sm.mk' hs.parts.1 (fun x hx => hs.parts.2.mem x hx)
  | succ N ih =>
    intro rest hN hb n hs l ns
    rw [insN]
    split
    · exact Sm.mk' hs.parts.1 (fun x hx => hs.parts.2.mem x hx)
    · split
      · refine Sm.mk' hs.parts.1 (fun k' hk' => ?_)
        rcases mem_insAt hk' with e | e
        · rw [e]; exact Sm.mk' hb (by simp)
        · exact hs.parts.2.mem k' e
      · rename_i k e
        obtain ⟨hh, hlt, ek⟩ := kidN_some e
        have hkm : k ∈ n.kids := by rw [← ek]; exact List.getElem_mem _
        have hks := hs.parts.2.mem k hkm
        have hlow : ∀ b p, Sm (lowN k p b) := fun b p => Sm.mk' (by simp only [ByteArray.size_extract]; have := hks.parts.1; omega) (fun x hx => hks.parts.2.mem x hx)
        split
        · refine Sm.mk' hs.parts.1 (fun k' hk' => ?_)
          rcases List.mem_or_eq_of_mem_set hk' with e | e
          · exact hs.parts.2.mem k' e
          · rw [e]
            exact ih _ (by simp only [ByteArray.size_extract]; omega) (by simp only [ByteArray.size_extract]; omega) k hks _ _
        · refine Sm.mk' hs.parts.1 (fun k' hk' => ?_)
          rcases List.mem_or_eq_of_mem_set hk' with e | e
          · exact hs.parts.2.mem k' e
          · rw [e]
            unfold splitN
            split
            · exact Sm.mk' (by simp only [ByteArray.size_extract]; omega) (by simpa using hlow _ _)
            · refine Sm.mk' (by simp only [ByteArray.size_extract]; omega) (fun k2 hk2 => ?_)
              rcases mem_insAt hk2 with e | e
              · rw [e]; exact Sm.mk' (by simp only [ByteArray.size_extract]; omega) (by simp)
              · rw [List.mem_singleton] at e; rw [e]; exact hlow _ _
structure Good (root : Nd) : Prop where
  ok : Ok root
  sm : Sm root
  top : root.label.size = 0
  keys : ∀ r l, findT root r = some l → L l.key = r
theorem good_empty (b : Nat) (m : Value) : Good (emptyN b m) :=
  ⟨Ok.mk' (by simp) (by simp) (by simp), Sm.mk' (by decide) (by simp), rfl, fun r l h => by
    by_cases e : r = []
    · subst e; rw [findT_nil] at h; cases h
    · rw [findT_eq _ _ e] at h; cases h⟩
theorem good_ins {root : Nd} (h : Good root) (k : ByteArray) (hk : k.size < 4000000000000) (l : Lf) (hl : l.key = k) (ns : Sup) : Good (insN root k l ns) :=
  ⟨ok_ins k.size k (Nat.le_refl _) root h.ok l ns, sm_ins k.size k (Nat.le_refl _) hk root h.sm l ns, by rw [insN_label]; exact h.top, fun r l' e => by
    rw [find_ins k.size k (Nat.le_refl _) root h.ok l ns r] at e
    by_cases er : r = L k
    · rw [if_pos er] at e; cases e; rw [hl, er]
    · rw [if_neg er] at e; exact h.keys r l' e⟩
end Go.Proofs.Ytjhgknagmiekeaa.T
set_option linter.unusedVariables false
set_option linter.unusedSimpArgs false
namespace Go.Proofs.Ytjhgknagmiekeaa.T
theorem downN_eq (n : Nd) (ho : Ok n) (rest : ByteArray) (h : rest.size ≠ 0) : downN n rest = (kidT n.kids (hd (L rest))).bind fun k => if L k.label <+: L rest then some k else none := by
  unfold downN
  rw [if_neg h, kidN_eq n ho rest]
  congr 1
  funext k
  have : (Lib.hasPrefix rest.data.toList k.label.data.toList = true) ↔ L k.label <+: L rest := List.isPrefixOf_iff_prefix
  by_cases e : L k.label <+: L rest
  · rw [if_pos e, if_pos (this.2 e)]
  · rw [if_neg e, if_neg (fun h => e (this.1 h))]
theorem seek_way (k : ByteArray) : ∀ (f : Nat) (n : Nd) (a : Nat), Ok n → k.size + 1 < f + a + n.label.size → a + n.label.size ≤ k.size →
    wayF (stepF k) k f (some n) a none = findT n ((L k).drop (a + n.label.size)) := by
  intro f
  induction f with
  | zero => intro n a _ h1 h2; omega
  | succ f ih =>
    intro n a ho h1 h2
    obtain ⟨a2, ea⟩ : ∃ a2, a + n.label.size = a2 := ⟨_, rfl⟩
    unfold wayF
    rw [ea]
    have hsz : (k.extract a2 k.size).size = k.size - a2 := by simp only [ByteArray.size_extract]; omega
    by_cases hend : a2 = k.size
    · have e1 : downN n (k.extract a2 k.size) = none := by unfold downN; rw [if_pos (by omega)]
      have e2 : (L k).drop a2 = [] := List.drop_eq_nil_iff.2 (by rw [L_len]; omega)
      rw [e1, wayF_none, e2, findT_nil]
      unfold stepF
      rw [if_pos hend]
    · have e1 := downN_eq n ho (k.extract a2 k.size) (by omega)
      rw [L_tail] at e1
      have hne : (L k).drop a2 ≠ [] := fun e => by have := List.drop_eq_nil_iff.1 e; rw [L_len] at this; omega
      have es : stepF k none n a2 = none := by unfold stepF; rw [if_neg hend]
      rw [es, findT_eq _ _ hne]
      cases ek : kidT n.kids (hd ((L k).drop a2)) with
      | none =>
        rw [ek] at e1
        rw [e1]
        exact wayF_none _ _ _ _ _
      | some m =>
        rw [ek] at e1
        simp only [Option.bind_some] at e1 ⊢
        have hm := (kidT_some ek).1
        have hpos := ho.parts.2.1 m hm
        by_cases hp : L m.label <+: (L k).drop a2
        · rw [if_pos hp] at e1
          have hle := hp.length_le
          rw [L_len, List.length_drop, L_len] at hle
          rw [e1, ih m a2 (ho.parts.2.2.get m hm) (by omega) (by omega)]
          unfold below
          rw [if_pos ⟨hpos, hp⟩, List.drop_drop]
        · rw [if_neg hp] at e1
          rw [e1, wayF_none]
          unfold below
          rw [if_neg (fun e => hp e.2)]
theorem seek_eq {root : Nd} (h : Good root) (k : ByteArray) : seekN root k = findT root (L k) := by
  unfold seekN
  rw [seek_way k _ root 0 h.ok (by omega) (by have := h.top; omega), h.top]
  rfl
theorem find_eq {root : Nd} (h : Good root) (k : ByteArray) : findN root k = findT root (L k) := findN_eq k.size k (Nat.le_refl _) root h.ok
theorem hd_take (R : List UInt8) (j : Nat) (h : 0 < j) : hd (R.take j) = hd R := by
  cases R with
  | nil => simp
  | cons x xs => cases j with | zero => omega | succ j => rfl
end Go.Proofs.Ytjhgknagmiekeaa.T
set_option linter.unusedVariables false
set_option linter.unusedSimpArgs false
namespace Go.Proofs.Ytjhgknagmiekeaa.T
theorem blt_trans {x y z : List UInt8} (h : x < y) (k : y < z) : x < z := List.lt_trans h k
theorem blt_irrefl (x : List UInt8) : ¬ x < x := List.lt_irrefl x
theorem blt_total (x y : List UInt8) : x < y ∨ x = y ∨ y < x := by
  induction x generalizing y with
  | nil => cases y with
    | nil => exact .inr (.inl rfl)
    | cons b y => exact .inl (List.nil_lt_cons b y)
  | cons a x ih => cases y with
    | nil => exact .inr (.inr (List.nil_lt_cons a x))
    | cons b y =>
      simp only [List.cons_lt_cons_iff]
      by_cases h1 : a < b
      · exact .inl (.inl h1)
      · by_cases h2 : a = b
        · subst h2
          rcases ih y with h | h | h
          · exact .inl (.inr ⟨rfl, h⟩)
          · exact .inr (.inl (by rw [h]))
          · exact .inr (.inr (.inr ⟨rfl, h⟩))
        · refine .inr (.inr (.inl ?_))
          rw [UInt8.lt_iff_toNat_lt] at h1 ⊢
          have h3 : a.toNat ≠ b.toNat := fun e => h2 (UInt8.toNat_inj.1 e)
          omega
theorem blt_pre (p x y : List UInt8) : p ++ x < p ++ y ↔ x < y := by
  induction p with
  | nil => rfl
  | cons a p ih => simp only [List.cons_append, List.cons_lt_cons_iff, ih]; simp
theorem blt_ext (p r : List UInt8) (h : r ≠ []) : p < p ++ r := by
  cases r with
  | nil => exact absurd rfl h
  | cons b r =>
    have := (blt_pre p [] (b :: r)).2 (List.nil_lt_cons b r)
    rwa [List.append_nil] at this
theorem blt_hd {x y : List UInt8} (hx : x ≠ []) (hy : y ≠ []) (h : hd x < hd y) : x < y := by
  cases x with
  | nil => exact absurd rfl hx
  | cons a x => cases y with
    | nil => exact absurd rfl hy
    | cons b y =>
      rw [List.cons_lt_cons_iff]
      refine .inl ?_
      rw [UInt8.lt_iff_toNat_lt]
      exact h
theorem hd_append {x y : List UInt8} (hx : x ≠ []) : hd (x ++ y) = hd x := by
  cases x with
  | nil => exact absurd rfl hx
  | cons a x => rfl
theorem sorted_ext {α : Type} {lt : α → α → Prop} (irr : ∀ a, ¬ lt a a) (tr : ∀ a b c, lt a b → lt b c → lt a c) : ∀ (A B : List α), A.Pairwise lt → B.Pairwise lt → (∀ x, x ∈ A ↔ x ∈ B) → A = B
  | [], [], _, _, _ => rfl
  | [], b :: B, _, _, h => by have := (h b).2 (by simp); simp at this
  | a :: A, [], _, _, h => by have := (h a).1 (by simp); simp at this
  | a :: A, b :: B, hA, hB, h => by
    have hA2 := List.pairwise_cons.1 hA
    have hB2 := List.pairwise_cons.1 hB
    have e : a = b := by
      rcases List.mem_cons.1 ((h a).1 (by simp)) with e | e
      · exact e
      · rcases List.mem_cons.1 ((h b).2 (by simp)) with e2 | e2
        · exact e2.symm
        · exact absurd (tr _ _ _ (hA2.1 b e2) (hB2.1 a e)) (irr a)
    subst e
    rw [sorted_ext irr tr A B hA2.2 hB2.2 (fun x => ⟨fun hx => ?_, fun hx => ?_⟩)]
    · rcases List.mem_cons.1 ((h x).1 (by simp [hx])) with e | e
      · subst e; exact absurd (hA2.1 x hx) (irr x)
      · exact e
    · rcases List.mem_cons.1 ((h x).2 (by simp [hx])) with e | e
      · subst e; exact absurd (hB2.1 x hx) (irr x)
      · exact e
abbrev Ent := List UInt8 × Lf
mutual
def ents (p : List UInt8) : Nd → List Ent
  | .mk _ label leaf kids _ => (leaf.toList.map fun l => (p ++ L label, l)) ++ entss (p ++ L label) kids
def entss (p : List UInt8) : List Nd → List Ent
  | [] => []
  | n :: r => ents p n ++ entss p r
end
theorem ents_eq (p : List UInt8) (n : Nd) : ents p n = (n.leaf.toList.map fun l => (p ++ L n.label, l)) ++ entss (p ++ L n.label) n.kids := by
  cases n; rw [ents]; rfl
theorem mem_entss (p : List UInt8) (x : Ent) : ∀ ks : List Nd, x ∈ entss p ks ↔ ∃ k ∈ ks, x ∈ ents p k
  | [] => by rw [entss]; simp
  | n :: r => by
    rw [entss, List.mem_append, mem_entss p x r]
    constructor
    · rintro (h | ⟨k, hk, h⟩)
      · exact ⟨n, by simp, h⟩
      · exact ⟨k, by simp [hk], h⟩
    · rintro ⟨k, hk, h⟩
      rcases List.mem_cons.1 hk with e | e
      · subst e; exact .inl h
      · exact .inr ⟨k, e, h⟩
theorem kidT_of_mem : ∀ {ks : List Nd} {k : Nd}, (ks.map fb).Pairwise (· < ·) → k ∈ ks → kidT ks (fb k) = some k
  | n :: r, k, hp, hk => by
    have h2 := List.pairwise_cons.1 hp
    unfold kidT
    rcases List.mem_cons.1 hk with e | e
    · subst e; rw [List.find?_cons_of_pos (by simp)]
    · have := h2.1 (fb k) (List.mem_map_of_mem e)
      rw [List.find?_cons_of_neg (by simp; omega)]
      exact kidT_of_mem h2.2 e
theorem L_ne {s : ByteArray} (h : 0 < s.size) : L s ≠ [] := fun e => by have := L_len s; rw [e] at this; simp at this; omega
theorem findT_kid {n : Nd} (ho : Ok n) {k : Nd} (hk : k ∈ n.kids) (r : List UInt8) : findT n (L k.label ++ r) = findT k r := by
  have hpos := ho.parts.2.1 k hk
  have hne := L_ne hpos
  rw [findT_eq _ _ (by simp [hne]), hd_append hne]
  have hf : hd (L k.label) = fb k := (fb_hd k).symm
  rw [hf, kidT_of_mem ho.parts.1 hk]
  simp only [Option.bind_some, below]
  rw [if_pos ⟨hpos, List.prefix_append _ _⟩]
  congr 1
  rw [← L_len, List.drop_left]
theorem findT_of {n : Nd} (ho : Ok n) {r : List UInt8} {l : Lf} (h : findT n r = some l) : (r = [] ∧ n.leaf = some l) ∨ ∃ k ∈ n.kids, ∃ t, r = L k.label ++ t ∧ findT k t = some l := by
  by_cases hr : r = []
  · subst hr; rw [findT_nil] at h; exact .inl ⟨rfl, h⟩
  · rw [findT_eq _ _ hr] at h
    cases e : kidT n.kids (hd r) with
    | none => rw [e] at h; cases h
    | some k =>
      rw [e] at h
      simp only [Option.bind_some, below] at h
      split at h
      · rename_i hp
        obtain ⟨t, ht⟩ := hp.2
        refine .inr ⟨k, (kidT_some e).1, t, ht.symm, ?_⟩
        rw [← ht, ← L_len, List.drop_left] at h
        exact h
      · cases h
mutual
theorem mem_ents (q : List UInt8) (l : Lf) : ∀ (n : Nd) (p : List UInt8), Ok n → ((q, l) ∈ ents p n ↔ ∃ r, q = p ++ L n.label ++ r ∧ findT n r = some l)
  | .mk b label leaf kids mark, p, ho => by
    have hk := mem_kids q l kids (p ++ L label) ho.parts.2.2
    rw [ents_eq, List.mem_append, mem_entss]
    constructor
    · rintro (h | ⟨k, hkm, h⟩)
      · obtain ⟨l', hl', e⟩ := List.mem_map.1 h
        cases e
        refine ⟨[], by simp, ?_⟩
        rw [findT_nil]
        exact Option.mem_toList.1 hl'
      · obtain ⟨r, e, hr⟩ := (hk k hkm).1 h
        refine ⟨L k.label ++ r, by rw [e]; simp [Nd.label], ?_⟩
        rw [findT_kid ho (show k ∈ (Nd.mk b label leaf kids mark).kids from hkm)]
        exact hr
    · rintro ⟨r, e, hr⟩
      rcases findT_of ho hr with ⟨e1, e2⟩ | ⟨k, hkm, t, e1, e2⟩
      · subst e1
        refine .inl (List.mem_map.2 ⟨l, Option.mem_toList.2 e2, ?_⟩)
        rw [e, List.append_nil]
      · exact .inr ⟨k, hkm, (hk k hkm).2 ⟨t, by rw [e, e1]; simp [Nd.label], e2⟩⟩
theorem mem_kids (q : List UInt8) (l : Lf) : ∀ (ks : List Nd) (p : List UInt8), Oks ks → ∀ k ∈ ks, ((q, l) ∈ ents p k ↔ ∃ r, q = p ++ L k.label ++ r ∧ findT k r = some l)
  | [], _, _ => by simp
  | n :: r, p, ho => by
    intro k hk
    unfold Oks at ho
    rcases List.mem_cons.1 hk with e | e
    · rw [e]; exact mem_ents q l n p ho.1
    · exact mem_kids q l r p ho.2 k e
end
mutual
theorem ents_rise : ∀ (n : Nd) (p : List UInt8), Ok n → (ents p n).Pairwise (fun a b => a.1 < b.1)
  | .mk b label leaf kids mark, p, ho => by
    rw [ents_eq, List.pairwise_append]
    refine ⟨?_, entss_rise kids (p ++ L label) ho.parts.2.2 ho.parts.1 ho.parts.2.1, ?_⟩
    · cases leaf <;> simp [Nd.leaf]
    · intro a ha c hc
      obtain ⟨l', hl', e⟩ := List.mem_map.1 ha
      obtain ⟨k, hkm, hck⟩ := (mem_entss _ _ _).1 hc
      obtain ⟨r, er, _⟩ := (mem_kids c.1 c.2 kids (p ++ L label) ho.parts.2.2 k hkm).1 hck
      rw [← e, er]
      show p ++ L label < _
      rw [List.append_assoc (p ++ L label)]
      exact blt_ext _ _ (by have := L_ne (ho.parts.2.1 k hkm); simp [this])
theorem entss_rise : ∀ (ks : List Nd) (p : List UInt8), Oks ks → (ks.map fb).Pairwise (· < ·) → (∀ k ∈ ks, 0 < k.label.size) → (entss p ks).Pairwise (fun a b => a.1 < b.1)
  | [], _, _, _, _ => by rw [entss]; exact List.Pairwise.nil
  | n :: r, p, ho, hp, hl => by
    unfold Oks at ho
    have hp2 := List.pairwise_cons.1 hp
    rw [entss, List.pairwise_append]
    refine ⟨ents_rise n p ho.1, entss_rise r p ho.2 hp2.2 (fun k hk => hl k (by simp [hk])), ?_⟩
    intro a ha c hc
    obtain ⟨k, hkm, hck⟩ := (mem_entss _ _ _).1 hc
    obtain ⟨s, es, _⟩ := (mem_ents a.1 a.2 n p ho.1).1 ha
    obtain ⟨t, et, _⟩ := (mem_kids c.1 c.2 r p ho.2 k hkm).1 hck
    rw [es, et, List.append_assoc, List.append_assoc, blt_pre]
    have h1 := L_ne (hl n (by simp))
    have h2 := L_ne (hl k (by simp [hkm]))
    refine blt_hd (by simp [h1]) (by simp [h2]) ?_
    rw [hd_append h1, hd_append h2, ← fb_hd, ← fb_hd]
    exact hp2.1 (fb k) (List.mem_map_of_mem hkm)
end
abbrev All (root : Nd) : List Ent := ents [] root
theorem mem_all {root : Nd} (h : Good root) (q : List UInt8) (l : Lf) : (q, l) ∈ All root ↔ findT root q = some l := by
  rw [mem_ents q l root [] h.ok]
  have e : L root.label = [] := List.length_eq_zero_iff.1 (by rw [L_len]; exact h.top)
  rw [e]
  constructor
  · rintro ⟨r, e, hr⟩; rw [e]; exact hr
  · intro hr; exact ⟨q, rfl, hr⟩
theorem all_rise {root : Nd} (h : Good root) : (All root).Pairwise (fun a b => a.1 < b.1) := ents_rise root [] h.ok
theorem rise_ext {A B : List Ent} (hA : A.Pairwise (fun a b => a.1 < b.1)) (hB : B.Pairwise (fun a b => a.1 < b.1)) (h : ∀ x, x ∈ A ↔ x ∈ B) : A = B :=
  sorted_ext (lt := fun a b : Ent => a.1 < b.1) (fun a => blt_irrefl _) (fun a b c => blt_trans) A B hA hB h
theorem all_ins {root : Nd} (h : Good root) (k : ByteArray) (l : Lf) (ns : Sup) (hg : Good (insN root k l ns)) :
    All (insN root k l ns) = (All root).filter (fun e => decide (e.1 < L k)) ++ (L k, l) :: (All root).filter (fun e => decide (L k < e.1)) := by
  refine rise_ext (all_rise hg) ?_ (fun x => ?_)
  · have hr := all_rise h
    rw [List.pairwise_append, List.pairwise_cons]
    refine ⟨hr.filter _, ⟨?_, hr.filter _⟩, ?_⟩
    · intro a ha; exact of_decide_eq_true (List.mem_filter.1 ha).2
    · intro a ha c hc
      have h1 : a.1 < L k := of_decide_eq_true (List.mem_filter.1 ha).2
      rcases List.mem_cons.1 hc with e | e
      · rw [e]; exact h1
      · have h2 : L k < c.1 := of_decide_eq_true (List.mem_filter.1 e).2
        exact blt_trans h1 h2
  · obtain ⟨q, l'⟩ := x
    rw [mem_all hg, find_ins k.size k (Nat.le_refl _) root h.ok l ns q, List.mem_append, List.mem_cons, List.mem_filter, List.mem_filter, mem_all h]
    simp only [decide_eq_true_eq]
    by_cases e : q = L k
    · rw [if_pos e]
      subst e
      constructor
      · intro e; cases e; exact .inr (.inl rfl)
      · rintro (⟨_, h⟩ | h | ⟨_, h⟩)
        · exact absurd h (blt_irrefl _)
        · cases h; rfl
        · exact absurd h (blt_irrefl _)
    · rw [if_neg e]
      constructor
      · intro h1
        rcases blt_total q (L k) with h2 | h2 | h2
        · exact .inl ⟨h1, h2⟩
        · exact absurd h2 e
        · exact .inr (.inr ⟨h1, h2⟩)
      · rintro (⟨h, _⟩ | h | ⟨h, _⟩)
        · exact h
        · exact absurd (congrArg Prod.fst h) e
        · exact h
end Go.Proofs.Ytjhgknagmiekeaa.T
set_option linter.unusedVariables false
set_option linter.unusedSimpArgs false
namespace Go.Proofs.Ytjhgknagmiekeaa.T
theorem L_append (a b : ByteArray) : L (a ++ b) = L a ++ L b := by simp [L, ByteArray.data_append]
end Go.Proofs.Ytjhgknagmiekeaa.T
set_option linter.unusedVariables false
set_option linter.unusedSimpArgs false
namespace Go.Proofs.Ytjhgknagmiekeaa.T
mutual
/-- every way down from n has at most B letters -/
def Fits : Nd → Nat → Prop
  | .mk _ label _ kids _, B => label.size ≤ B ∧ Fitss kids (B - label.size)
def Fitss : List Nd → Nat → Prop
  | [], _ => True
  | n :: r, B => Fits n B ∧ Fitss r B
end
theorem Fits.parts {n : Nd} {B : Nat} (h : Fits n B) : n.label.size ≤ B ∧ Fitss n.kids (B - n.label.size) := by
  cases n; unfold Fits at h; exact h
theorem Fits.mk' {b : Nat} {label : ByteArray} {leaf : Option Lf} {kids : List Nd} {m : Value} {B : Nat} (h : label.size ≤ B) (hk : Fitss kids (B - label.size)) : Fits (.mk b label leaf kids m) B := by
  unfold Fits; exact ⟨h, hk⟩
theorem Fitss.mem {B : Nat} : ∀ {ks : List Nd}, Fitss ks B → ∀ k ∈ ks, Fits k B
  | n :: r, h, k, hk => by
    unfold Fitss at h
    rcases List.mem_cons.1 hk with e | e
    · rw [e]; exact h.1
    · exact Fitss.mem h.2 k e
theorem Fitss.of {B : Nat} : ∀ {ks : List Nd}, (∀ k ∈ ks, Fits k B) → Fitss ks B
  | [], _ => by unfold Fitss; trivial
  | n :: r, h => by unfold Fitss; exact ⟨h n (by simp), Fitss.of (fun k hk => h k (by simp [hk]))⟩
mutual
theorem Fits.mono {B B' : Nat} (hb : B ≤ B') : ∀ n : Nd, Fits n B → Fits n B'
  | .mk b label leaf kids mark, h => by
    have h2 := h.parts
    exact Fits.mk' (Nat.le_trans h2.1 hb) (Fitss.mono (Nat.sub_le_sub_right hb _) kids h2.2)
theorem Fitss.mono {B B' : Nat} (hb : B ≤ B') : ∀ ks : List Nd, Fitss ks B → Fitss ks B'
  | [], _ => by unfold Fitss; trivial
  | n :: r, h => by unfold Fitss at h ⊢; exact ⟨Fits.mono hb n h.1, Fitss.mono hb r h.2⟩
end
mutual
theorem Fits.sm {B : Nat} (hb : B < 4000000000000) : ∀ n : Nd, Fits n B → Sm n
  | .mk b label leaf kids mark, h => by
    have h2 := h.parts
    have h3 : label.size ≤ B := h2.1
    unfold Sm
    exact ⟨by omega, Fitss.sm (B := B - label.size) (by omega) kids h2.2⟩
theorem Fitss.sm {B : Nat} (hb : B < 4000000000000) : ∀ ks : List Nd, Fitss ks B → Sms ks
  | [], _ => by unfold Sms; trivial
  | n :: r, h => by unfold Fitss at h; unfold Sms; exact ⟨Fits.sm hb n h.1, Fitss.sm hb r h.2⟩
end
theorem fits_tip (s : ByteArray) (l : Lf) (a : Nat × Value) (B : Nat) (h : s.size ≤ B) : Fits (tipN s l a) B := Fits.mk' h (by unfold Fitss; trivial)
theorem fits_low (k : Nd) (p b B : Nat) (hp : p ≤ k.label.size) (h : Fits k B) : Fits (lowN k p b) (B - p) := by
  have h2 := h.parts
  have e : (k.label.extract p k.label.size).size = k.label.size - p := by simp only [ByteArray.size_extract]; omega
  refine Fits.mk' (by rw [e]; omega) ?_
  rw [e]
  have e2 : B - p - (k.label.size - p) = B - k.label.size := by omega
  rw [e2]
  exact h2.2
theorem fits_ins : ∀ (N : Nat) (rest : ByteArray), rest.size ≤ N → ∀ (n : Nd) (B : Nat), n.label.size + rest.size ≤ B → Fits n B → ∀ (l : Lf) (ns : Sup), Fits (insN n rest l ns) B := by
  intro N
  induction N with
  | zero =>
    intro rest hN n B hb hf l ns
    rw [insN, dif_pos (by omega)]
    exact Fits.mk' hf.parts.1 hf.parts.2
  | succ N ih =>
    intro rest hN n B hb hf l ns
    rw [insN]
    split
    · exact Fits.mk' hf.parts.1 hf.parts.2
    · split
      · refine Fits.mk' hf.parts.1 (Fitss.of fun k hk => ?_)
        rcases mem_insAt hk with e | e
        · rw [e]; exact fits_tip _ _ _ _ (by omega)
        · exact hf.parts.2.mem k e
      · rename_i k e
        obtain ⟨hh, hlt, ek⟩ := kidN_some e
        have hkm : k ∈ n.kids := by rw [← ek]; exact List.getElem_mem _
        have hfk := hf.parts.2.mem k hkm
        have hle := comB_le k.label rest
        split
        · rename_i hp
          refine Fits.mk' hf.parts.1 (Fitss.of fun k' hk' => ?_)
          rcases List.mem_or_eq_of_mem_set hk' with e | e
          · exact hf.parts.2.mem k' e
          · rw [e]
            refine ih _ (by simp only [ByteArray.size_extract]; omega) k _ ?_ hfk l _
            simp only [ByteArray.size_extract]
            omega
        · refine Fits.mk' hf.parts.1 (Fitss.of fun k' hk' => ?_)
          rcases List.mem_or_eq_of_mem_set hk' with e | e
          · exact hf.parts.2.mem k' e
          · rw [e]
            have hlow := fits_low k (comB k.label rest) (ns 2).1 _ hle.1 hfk
            have es : (rest.extract 0 (comB k.label rest)).size = comB k.label rest := by simp only [ByteArray.size_extract]; omega
            unfold splitN
            split
            · refine Fits.mk' (by rw [es]; omega) (Fitss.of fun k2 hk2 => ?_)
              rw [List.mem_singleton] at hk2
              rw [hk2, es]; exact hlow
            · refine Fits.mk' (by rw [es]; omega) (Fitss.of fun k2 hk2 => ?_)
              rw [es]
              rcases mem_insAt hk2 with e | e
              · rw [e]; exact fits_tip _ _ _ _ (by simp only [ByteArray.size_extract]; omega)
              · rw [List.mem_singleton] at e; rw [e]; exact hlow
def Full (n : Nd) : Prop := n.leaf.isSome = true ∨ 2 ≤ n.kids.length
mutual
/-- every node beneath n is full -/
def Br : Nd → Prop
  | .mk _ _ _ kids _ => Brs kids
def Brs : List Nd → Prop
  | [] => True
  | n :: r => (Full n ∧ Br n) ∧ Brs r
end
theorem Br.parts {n : Nd} (h : Br n) : Brs n.kids := by cases n; unfold Br at h; exact h
theorem Br.mk' {b : Nat} {label : ByteArray} {leaf : Option Lf} {kids : List Nd} {m : Value} (h : Brs kids) : Br (.mk b label leaf kids m) := by unfold Br; exact h
theorem Brs.mem : ∀ {ks : List Nd}, Brs ks → ∀ k ∈ ks, Full k ∧ Br k
  | n :: r, h, k, hk => by
    unfold Brs at h
    rcases List.mem_cons.1 hk with e | e
    · rw [e]; exact h.1
    · exact Brs.mem h.2 k e
theorem Brs.of : ∀ {ks : List Nd}, (∀ k ∈ ks, Full k ∧ Br k) → Brs ks
  | [], _ => by unfold Brs; trivial
  | n :: r, h => by unfold Brs; exact ⟨h n (by simp), Brs.of (fun k hk => h k (by simp [hk]))⟩
theorem full_ins (n : Nd) (rest : ByteArray) (l : Lf) (ns : Sup) (h : Full n) : Full (insN n rest l ns) := by
  unfold Full at h ⊢
  rw [insN]
  split
  · exact .inl rfl
  · split
    · refine h.imp id (fun h => ?_)
      show 2 ≤ (insAt _ _ n.kids).length
      unfold insAt
      rw [List.length_append, List.length_cons, List.length_take, List.length_drop]
      omega
    · split
      · refine h.imp id (fun h => ?_)
        show 2 ≤ (n.kids.set _ _).length
        rw [List.length_set]; exact h
      · refine h.imp id (fun h => ?_)
        show 2 ≤ (n.kids.set _ _).length
        rw [List.length_set]; exact h
theorem br_tip (s : ByteArray) (l : Lf) (a : Nat × Value) : Full (tipN s l a) ∧ Br (tipN s l a) := ⟨.inl rfl, Br.mk' (by unfold Brs; trivial)⟩
theorem br_ins : ∀ (N : Nat) (rest : ByteArray), rest.size ≤ N → ∀ (n : Nd), Br n → ∀ (l : Lf) (ns : Sup), Br (insN n rest l ns) := by
  intro N
  induction N with
  | zero =>
    intro rest hN n hb l ns
    rw [insN, dif_pos (by omega)]
    exact Br.mk' hb.parts
  | succ N ih =>
    intro rest hN n hb l ns
    rw [insN]
    split
    · exact Br.mk' hb.parts
    · split
      · refine Br.mk' (Brs.of fun k hk => ?_)
        rcases mem_insAt hk with e | e
        · rw [e]; exact br_tip _ _ _
        · exact hb.parts.mem k e
      · rename_i k e
        obtain ⟨hh, hlt, ek⟩ := kidN_some e
        have hkm : k ∈ n.kids := by rw [← ek]; exact List.getElem_mem _
        have hbk := hb.parts.mem k hkm
        split
        · refine Br.mk' (Brs.of fun k' hk' => ?_)
          rcases List.mem_or_eq_of_mem_set hk' with e | e
          · exact hb.parts.mem k' e
          · rw [e]
            exact ⟨full_ins k _ l _ hbk.1, ih _ (by simp only [ByteArray.size_extract]; omega) k hbk.2 l _⟩
        · refine Br.mk' (Brs.of fun k' hk' => ?_)
          rcases List.mem_or_eq_of_mem_set hk' with e | e
          · exact hb.parts.mem k' e
          · rw [e]
            have hlow : Full (lowN k (comB k.label rest) (ns 2).1) ∧ Br (lowN k (comB k.label rest) (ns 2).1) := ⟨hbk.1, Br.mk' hbk.2.parts⟩
            unfold splitN
            split
            · refine ⟨.inl rfl, Br.mk' (Brs.of fun k2 hk2 => ?_)⟩
              rw [List.mem_singleton] at hk2
              rw [hk2]; exact hlow
            · refine ⟨.inr ?_, Br.mk' (Brs.of fun k2 hk2 => ?_)⟩
              · show 2 ≤ (insAt _ _ [_]).length
                unfold insAt
                rw [List.length_append, List.length_cons, List.length_take, List.length_drop]
                simp only [List.length_singleton]
                omega
              · rcases mem_insAt hk2 with e | e
                · rw [e]; exact br_tip _ _ _
                · rw [List.mem_singleton] at e; rw [e]; exact hlow
structure Fine (root : Nd) : Prop extends Good root where
  fits : Fits root 3999999999999
  br : Br root
theorem fine_empty (b : Nat) (m : Value) : Fine (emptyN b m) := ⟨good_empty b m, Fits.mk' (by decide) (by unfold Fitss; trivial), Br.mk' (by unfold Brs; trivial)⟩
theorem fine_ins {root : Nd} (h : Fine root) (k : ByteArray) (hk : k.size < 4000000000000) (l : Lf) (hl : l.key = k) (ns : Sup) : Fine (insN root k l ns) :=
  ⟨good_ins h.toGood k hk l hl ns, fits_ins k.size k (Nat.le_refl _) root _ (by have := h.top; omega) h.fits l ns, br_ins k.size k (Nat.le_refl _) root h.br l ns⟩
end Go.Proofs.Ytjhgknagmiekeaa.T
set_option linter.unusedVariables false
set_option linter.unusedSimpArgs false
namespace Go.Proofs.Ytjhgknagmiekeaa.T
open Go.RowKit Go.Lib Go.Proofs Go.Proofs.YtjhgknagmiekeaaW.PrintWords
theorem belowAt {w w1 w2 : World} (h : Below w.heap.size w w1) (h2 : Below w1.heap.size w1 w2) : Below w.heap.size w w2 :=
  h.trans ⟨h2.os, h2.tape, h2.output, h2.size, fun x hx => h2.block x (by have := h.size; omega)⟩
end Go.Proofs.Ytjhgknagmiekeaa.T
set_option linter.unusedVariables false
set_option linter.unusedSimpArgs false
namespace Go.Proofs.Ytjhgknagmiekeaa.T
open Go.RowKit Go.Lib Go.Proofs Go.Proofs.YtjhgknagmiekeaaW.PrintWords
def NodeRow (w : World) (v : Value) (xs : List (Nat × ByteArray)) : Prop := ∃ A c, v = .slice A xs.length c ∧ ∀ i (h : i < xs.length), ∃ g, A = some ⟨g, 0, none⟩ ∧ w.cell? ⟨g, i * 2, none⟩ = some (ptr xs[i].1) ∧ w.cell? ⟨g, i * 2 + 1, none⟩ = some (.string xs[i].2)
theorem NodeRow.keep {w w' : World} {v : Value} {xs : List (Nat × ByteArray)} (h : NodeRow w v xs) (k : Kept w w') : NodeRow w' v xs := by
  obtain ⟨A, c, e, h⟩ := h
  refine ⟨A, c, e, fun i hi => ?_⟩
  obtain ⟨g, e1, h1, h2⟩ := h i hi
  exact ⟨g, e1, k.cell h1, k.cell h2⟩
end Go.Proofs.Ytjhgknagmiekeaa.T
set_option linter.unusedVariables false
set_option linter.unusedSimpArgs false
namespace Go.Proofs.Ytjhgknagmiekeaa.T
def nodeT (n : Nd) (r : List UInt8) : Option Nd :=
  if h0 : r = [] then some n
  else match kidT n.kids (hd r) with
    | none => none
    | some k => if h : 0 < k.label.size ∧ L k.label <+: r then nodeT k (r.drop k.label.size) else none
termination_by r.length
decreasing_by
  have : 0 < r.length := by cases r with | nil => exact absurd rfl h0 | cons a b => simp
  rw [List.length_drop]
  omega
theorem nodeT_nil (n : Nd) : nodeT n [] = some n := by rw [nodeT, dif_pos rfl]
def beneath (r : List UInt8) (k : Nd) : Option Nd := if 0 < k.label.size ∧ L k.label <+: r then nodeT k (r.drop k.label.size) else none
theorem nodeT_eq (n : Nd) (r : List UInt8) (h : r ≠ []) : nodeT n r = (kidT n.kids (hd r)).bind (beneath r) := by
  rw [nodeT, dif_neg h]
  cases kidT n.kids (hd r) with
  | none => rfl
  | some k =>
    simp only [Option.bind_some, beneath]
    by_cases h2 : 0 < k.label.size ∧ L k.label <+: r
    · rw [dif_pos h2, if_pos h2]
    · rw [dif_neg h2, if_neg h2]
theorem nodeT_kid {n : Nd} (ho : Ok n) {k : Nd} (hk : k ∈ n.kids) (r : List UInt8) : nodeT n (L k.label ++ r) = nodeT k r := by
  have hpos := ho.parts.2.1 k hk
  have hne := L_ne hpos
  rw [nodeT_eq _ _ (by simp [hne]), hd_append hne]
  have hf : hd (L k.label) = fb k := (fb_hd k).symm
  rw [hf, kidT_of_mem ho.parts.1 hk]
  simp only [Option.bind_some, beneath]
  rw [if_pos ⟨hpos, List.prefix_append _ _⟩]
  congr 1
  rw [← L_len, List.drop_left]
theorem nodeT_of {n : Nd} (ho : Ok n) {r : List UInt8} {x : Nd} (h : nodeT n r = some x) : (r = [] ∧ x = n) ∨ ∃ k ∈ n.kids, ∃ t, r = L k.label ++ t ∧ nodeT k t = some x := by
  by_cases hr : r = []
  · subst hr; rw [nodeT_nil] at h; cases h; exact .inl ⟨rfl, rfl⟩
  · rw [nodeT_eq _ _ hr] at h
    cases e : kidT n.kids (hd r) with
    | none => rw [e] at h; cases h
    | some k =>
      rw [e] at h
      simp only [Option.bind_some, beneath] at h
      split at h
      · rename_i hp
        obtain ⟨t, ht⟩ := hp.2
        refine .inr ⟨k, (kidT_some e).1, t, ht.symm, ?_⟩
        rw [← ht, ← L_len, List.drop_left] at h
        exact h
      · cases h
theorem findT_node : ∀ (N : Nat) (n : Nd) (r : List UInt8), r.length ≤ N → findT n r = (nodeT n r).bind Nd.leaf := by
  intro N
  induction N with
  | zero =>
    intro n r h
    have : r = [] := List.length_eq_zero_iff.1 (by omega)
    subst this
    rw [findT_nil, nodeT_nil]; rfl
  | succ N ih =>
    intro n r h
    by_cases hr : r = []
    · subst hr; rw [findT_nil, nodeT_nil]; rfl
    · rw [findT_eq _ _ hr, nodeT_eq _ _ hr]
      cases e : kidT n.kids (hd r) with
      | none => rfl
      | some k =>
        simp only [Option.bind_some, below, beneath]
        by_cases hp : 0 < k.label.size ∧ L k.label <+: r
        · rw [if_pos hp, if_pos hp]
          exact ih k _ (by rw [List.length_drop]; omega)
        · rw [if_neg hp, if_neg hp]; rfl
end Go.Proofs.Ytjhgknagmiekeaa.T
set_option linter.unusedVariables false
set_option linter.unusedSimpArgs false
namespace Go.Proofs.Ytjhgknagmiekeaa.T
mutual
def Sim : Nd → Nd → Prop
  | .mk _ label leaf kids _, b => label = b.label ∧ leaf.map Lf.val = b.leaf.map Lf.val ∧ Sims kids b.kids
def Sims : List Nd → List Nd → Prop
  | [], ms => ms = []
  | k :: ks, ms => ∃ m r, ms = m :: r ∧ Sim k m ∧ Sims ks r
end
theorem Sim.parts {a b : Nd} (h : Sim a b) : a.label = b.label ∧ a.leaf.map Lf.val = b.leaf.map Lf.val ∧ Sims a.kids b.kids := by
  cases a; unfold Sim at h; exact h
theorem Sims.get : ∀ {ks ms : List Nd}, Sims ks ms → ks.length = ms.length ∧ ∀ i (hi : i < ks.length) (hj : i < ms.length), Sim ks[i] ms[i]
  | [], ms, h => by unfold Sims at h; subst h; exact ⟨rfl, fun i hi => by simp at hi⟩
  | k :: ks, ms, h => by
    unfold Sims at h
    obtain ⟨m, r, rfl, h1, h2⟩ := h
    have ih := Sims.get h2
    refine ⟨by simp [ih.1], fun i hi hj => ?_⟩
    cases i with
    | zero => exact h1
    | succ i => exact ih.2 i (by simpa using hi) (by simpa using hj)
end Go.Proofs.Ytjhgknagmiekeaa.T
set_option linter.unusedVariables false
set_option linter.unusedSimpArgs false
namespace Go.Proofs.Ytjhgknagmiekeaa.T
open Go.RowKit Go.Lib Go.Proofs Go.Proofs.YtjhgknagmiekeaaW.PrintWords
def Strs (w : World) (A : Option Addr) (l : List ByteArray) : Prop := ∀ i (h : i < l.length), ∃ ad, A = some ad ∧ w.cell? (ad.add i) = some (.string l[i])
theorem Strs.keep {w w' : World} {A : Option Addr} {l : List ByteArray} (h : Strs w A l) (k : Kept w w') : Strs w' A l := fun i hi => by
  obtain ⟨ad, h1, h2⟩ := h i hi
  exact ⟨ad, h1, k.cell h2⟩
def IntVals (root : Nd) : Prop := ∀ r l, findT root r = some l → ∃ v : Int, l.val = .int .i64 v
theorem vals_empty (b : Nat) (m : Value) : IntVals (emptyN b m) := fun r l h => by
  by_cases e : r = []
  · subst e; rw [findT_nil] at h; cases h
  · rw [findT_eq _ _ e] at h; cases h
theorem vals_ins {root : Nd} (hg : Good root) (h : IntVals root) (k : ByteArray) (l : Lf) (v : Int) (hl : l.val = .int .i64 v) (ns : Sup) : IntVals (insN root k l ns) := fun r l' e => by
  rw [find_ins k.size k (Nat.le_refl _) root hg.ok l ns r] at e
  by_cases er : r = L k
  · rw [if_pos er] at e; cases e; exact ⟨v, hl⟩
  · rw [if_neg er] at e; exact h r l' e
structure IntTree (w : World) (tb : Nat) (root : Nd) (size : Int) : Prop where
  at_ : TrAt w tb root size
  good : Good root
  vals : IntVals root
end Go.Proofs.Ytjhgknagmiekeaa.T
set_option linter.unusedVariables false
set_option linter.unusedSimpArgs false
namespace Go.Proofs.Ytjhgknagmiekeaa.T
def valT (n : Nd) (r : List UInt8) : Option Value := (findT n r).map Lf.val
def gtB (k : List UInt8) (e : Ent) : Bool := decide (k < e.1)
theorem gtB_iff {k : List UInt8} {e : Ent} : gtB k e = true ↔ k < e.1 := by unfold gtB; simp
theorem all_split {root : Nd} (h : Good root) (k : List UInt8) :
    All root = (All root).filter (fun e => decide (e.1 < k)) ++ ((findT root k).toList.map fun l => (k, l)) ++ (All root).filter (gtB k) := by
  refine rise_ext (all_rise h) ?_ (fun x => ?_)
  · have hr := all_rise h
    rw [List.append_assoc, List.pairwise_append, List.pairwise_append]
    refine ⟨hr.filter _, ⟨?_, hr.filter _, ?_⟩, ?_⟩
    · cases findT root k <;> simp
    · intro a ha c hc
      obtain ⟨l, _, e⟩ := List.mem_map.1 ha
      rw [← e]
      exact gtB_iff.1 (List.mem_filter.1 hc).2
    · intro a ha c hc
      have h1 : a.1 < k := of_decide_eq_true (List.mem_filter.1 ha).2
      rcases List.mem_append.1 hc with e | e
      · obtain ⟨l, _, e⟩ := List.mem_map.1 e
        rw [← e]; exact h1
      · exact blt_trans h1 (gtB_iff.1 (List.mem_filter.1 e).2)
  · obtain ⟨q, l'⟩ := x
    rw [List.mem_append, List.mem_append, List.mem_filter, List.mem_filter, mem_all h, List.mem_map]
    simp only [decide_eq_true_eq, gtB_iff]
    constructor
    · intro h1
      rcases blt_total q k with h2 | h2 | h2
      · exact .inl (.inl ⟨h1, h2⟩)
      · subst h2; exact .inl (.inr ⟨l', by rw [h1]; simp, rfl⟩)
      · exact .inr ⟨h1, h2⟩
    · rintro ((⟨h1, _⟩ | ⟨l, h1, h2⟩) | ⟨h1, _⟩)
      · exact h1
      · cases h2; exact Option.mem_toList.1 h1
      · exact h1
theorem all_ins2 {root : Nd} (h : Good root) (k : ByteArray) (l : Lf) (ns : Sup) (hg : Good (insN root k l ns)) :
    All (insN root k l ns) = (All root).filter (fun e => decide (e.1 < L k)) ++ (L k, l) :: (All root).filter (gtB (L k)) := by
  rw [all_ins h k l ns hg]
  congr 2
theorem len_ins {root : Nd} (h : Good root) (k : ByteArray) (l : Lf) (ns : Sup) (hg : Good (insN root k l ns)) :
    ((All (insN root k l ns)).length : Int) = (All root).length + (if findT root (L k) = none then 1 else 0) := by
  have e1 := congrArg List.length (all_ins2 h k l ns hg)
  have e2 := congrArg List.length (all_split h (L k))
  simp only [List.length_append, List.length_cons, List.length_map] at e1 e2
  cases e : findT root (L k) with
  | none => rw [e] at e2; simp at e2 ⊢; omega
  | some l' => rw [e] at e2; simp at e2 ⊢; omega
theorem all_empty (b : Nat) (m : Value) : All (emptyN b m) = [] := by
  show ents [] (emptyN b m) = []
  rw [ents_eq]
  simp [emptyN, Nd.leaf, Nd.kids, entss]
theorem valT_ins {root : Nd} (h : Good root) (k : ByteArray) (l : Lf) (ns : Sup) (r : List UInt8) : valT (insN root k l ns) r = if r = L k then some l.val else valT root r := by
  unfold valT
  rw [find_ins k.size k (Nat.le_refl _) root h.ok l ns r]
  split <;> rfl
end Go.Proofs.Ytjhgknagmiekeaa.T
set_option linter.unusedVariables false
set_option linter.unusedSimpArgs false
namespace Go.Proofs.Ytjhgknagmiekeaa.T
open Go.RowKit Go.Lib Go.Proofs Go.Proofs.YtjhgknagmiekeaaW.PrintWords
structure Tr (w : World) (tb : Nat) (root : Nd) : Prop where
  at_ : TrAt w tb root ((All root).length : Int)
  fine : Fine root
  vals : IntVals root
theorem Tr.keep {w w' : World} {tb : Nat} {root : Nd} (h : Tr w tb root) (k : Kept w w') : Tr w' tb root := ⟨h.at_.keep k, h.fine, h.vals⟩
def gotV : Option Value → Value
  | none => .tuple #[.int .i64 0, .bool false]
  | some v => .tuple #[v, .bool true]
def wasV (tb : Nat) : Option Value → Value
  | none => .tuple #[ptr tb, .int .i64 0, .bool false]
  | some v => .tuple #[ptr tb, v, .bool true]
theorem getC (w : World) (tb : Nat) (root : Nd) (h : Tr w tb root) (k : ByteArray) (hk : k.size < 4000000000000) : Calls Try.prog 35 #[ptr tb, .string k] w fun e w' => e = .returned (gotV (valT root (L k))) ∧ Below w.heap.size w w' := by
  refine (treeGet w tb root _ k h.at_ h.fine.ok h.fine.sm h.fine.top hk).mono ?_
  rintro e w' ⟨rfl, hB⟩
  refine ⟨?_, hB⟩
  rw [seek_eq h.fine.toGood]
  unfold valT
  cases findT root (L k) <;> rfl
end Go.Proofs.Ytjhgknagmiekeaa.T
set_option linter.unusedVariables false
set_option linter.unusedSimpArgs false
namespace Go.Proofs.Ytjhgknagmiekeaa.G
open Go.RowKit Go.Lib Go.Proofs Go.Conc
open Go.Proofs.YtjhgknagmiekeaaW.PrintWords hiding Kept
open Go.Proofs.Ytjhgknagmiekeaa.T (Nd NdAt NdsAt LfAt Lf Row ptr ptrs Tr Fine)
def FarP (p : TypeId → Bool) (w w' : World) : Prop := ∀ (b : Nat) (cs : Array Value) (t : TypeId) (fr : Nat × Nat), w.heap[b]? = some (.cells cs t fr) → p t = false → w'.heap[b]? = some (.cells cs t fr)
theorem FarP.of {p : TypeId → Bool} {w w' : World} (h : Below w.heap.size w w') : FarP p w w' := fun b cs t fr hb _ => (h.block b (Array.getElem?_eq_some_iff.1 hb).1).trans hb
theorem FarP.trans {p : TypeId → Bool} {a b c : World} (h : FarP p a b) (k : FarP p b c) : FarP p a c := fun i cs t fr hi ht => k i cs t fr (h i cs t fr hi ht) ht
section
variable {p : TypeId → Bool}
theorem FarP.row (h58 : p 58 = false) {w w' : World} (h : FarP p w w') {v : Value} {ps : List Value} (hr : Row w v ps) : Row w' v ps := by
  rcases hr with hr | ⟨ad, c, hv, hr⟩
  · exact .inl hr
  · refine .inr ⟨ad, c, hv, fun i hi => ?_⟩
    obtain ⟨h1, cs, fr, h2⟩ := hr i hi
    have h3 := h _ cs 58 fr h2 h58
    exact ⟨(World.cell?_of_block (a := ad.add i) (by rw [add_block]; exact h3.trans h2.symm)).trans h1, cs, fr, h3⟩
theorem FarP.leaf (h127 : p 127 = false) {w w' : World} (h : FarP p w w') {o : Option Lf} (hl : LfAt w o) : LfAt w' o := fun l e => h _ _ _ _ (hl l e) h127
mutual
theorem FarP.nd (h58 : p 58 = false) (h127 : p 127 = false) (h117 : p 117 = false) {w w' : World} (h : FarP p w w') : ∀ t : Nd, NdAt w t → NdAt w' t
  | .mk b label leaf kids mark, hn => by
    unfold NdAt at hn ⊢
    obtain ⟨⟨kv, h1, h2⟩, h3, h4, h5⟩ := hn
    exact ⟨⟨kv, h _ _ _ _ h1 h117, FarP.row h58 h h2⟩, FarP.leaf h127 h h3, FarP.nds h58 h127 h117 h kids h4, h5⟩
theorem FarP.nds (h58 : p 58 = false) (h127 : p 127 = false) (h117 : p 117 = false) {w w' : World} (h : FarP p w w') : ∀ ks : List Nd, NdsAt w ks → NdsAt w' ks
  | [], _ => by unfold NdsAt; trivial
  | n :: r, hn => by
    unfold NdsAt at hn ⊢
    exact ⟨FarP.nd h58 h127 h117 h n hn.1, FarP.nds h58 h127 h117 h r hn.2⟩
end
theorem FarP.tr (h58 : p 58 = false) (h127 : p 127 = false) (h117 : p 117 = false) (h124 : p 124 = false) {w w' : World} (h : FarP p w w') {tb : Nat} {root : Nd} (ht : Tr w tb root) : Tr w' tb root := ⟨⟨h _ _ _ _ ht.at_.blk h124, FarP.nd h58 h127 h117 h root ht.at_.root⟩, ht.fine, ht.vals⟩
end
mutual
/-- the marks of a tree -/
def mks : Nd → List Value
  | .mk _ _ leaf kids mark => mark :: ((leaf.map (fun l => l.mark)).toList ++ mkss kids)
def mkss : List Nd → List Value
  | [] => []
  | n :: r => mks n ++ mkss r
end
theorem mks_eq (n : Nd) : mks n = n.mark :: ((n.leaf.map (fun l => l.mark)).toList ++ mkss n.kids) := by cases n; rfl
theorem mkss_mem {m : Value} : ∀ {ks : List Nd}, m ∈ mkss ks ↔ ∃ k ∈ ks, m ∈ mks k
  | [] => by simp [mkss]
  | n :: r => by
    rw [mkss, List.mem_append, mkss_mem (ks := r)]
    simp
theorem mks_mark (n : Nd) : n.mark ∈ mks n := by rw [mks_eq]; exact List.mem_cons_self
theorem mks_leaf {n : Nd} {l : Lf} (h : n.leaf = some l) : l.mark ∈ mks n := by rw [mks_eq, h]; simp
theorem mks_kid {n k : Nd} (h : k ∈ n.kids) {m : Value} (hm : m ∈ mks k) : m ∈ mks n := by
  rw [mks_eq]
  exact List.mem_cons_of_mem _ (List.mem_append_right _ (mkss_mem.2 ⟨k, h, hm⟩))
def MkAt (w : World) (m : Value) : Prop := ∃ c d, m = ptr (c + 1) ∧ WatchAt w (c + 1) c d
def Mks (w : World) (n : Nd) : Prop := ∀ m ∈ mks n, MkAt w m
theorem Mks.kid {w : World} {n : Nd} (h : Mks w n) : ∀ k ∈ n.kids, Mks w k := fun k hk m hm => h m (mks_kid hk hm)
def chOf : Value → Nat
  | .pointer (some a) => a.block - 1
  | _ => 0
theorem chOf_ptr (c : Nat) : chOf (ptr (c + 1)) = c := rfl
def shutAt (w : World) (c : Nat) : Bool := match w.heap[c]? with
  | some (.chan _ _ d _ _ _) => d
  | _ => false
theorem shutAt_of {w : World} {b c : Nat} {d : Bool} (h : WatchAt w b c d) : shutAt w c = d := by unfold shutAt; rw [h.ch]
structure Shot (w0 w : World) (S : Nat → Bool) : Prop where
  watch : ∀ c d, WatchAt w0 (c + 1) c d → WatchAt w (c + 1) c (d || S c)
  far : ∀ k, k < w0.heap.size → (∀ c d, WatchAt w0 (c + 1) c d → S c = true → k ≠ c + 1 ∧ k ≠ c) → w.heap[k]? = w0.heap[k]?
  size : w0.heap.size ≤ w.heap.size
  below : ∀ B, B ≤ w0.heap.size → (∀ c d, WatchAt w0 (c + 1) c d → S c = true → B ≤ c) → Below B w0 w
theorem Shot.refl (w : World) : Shot w w (fun _ => false) := ⟨fun c d h => by rw [Bool.or_false]; exact h, fun k _ _ => rfl, Nat.le_refl _, fun B _ _ => Below.refl _ _⟩
theorem Shot.farP {w0 w : World} {S : Nat → Bool} (h : Shot w0 w S) : FarP (fun t => t == 154) w0 w := fun b cs t fr hb ht => by
  refine (h.far b (Array.getElem?_eq_some_iff.1 hb).1 (fun c d hw _ => ⟨fun e => ?_, fun e => ?_⟩)).trans hb
  · rw [e, hw.obj] at hb
    injection hb with e1
    injection e1 with _ e2 _
    rw [← e2] at ht
    cases ht
  · rw [e, hw.ch] at hb
    cases hb
theorem WatchAt.move {w w' : World} {c : Nat} {d : Bool} (h : WatchAt w (c + 1) c d) (h1 : w'.heap[c + 1]? = w.heap[c + 1]?) (h2 : w'.heap[c]? = w.heap[c]?) : WatchAt w' (c + 1) c d := ⟨h1.trans h.obj, h2.trans h.ch⟩
theorem WatchAt.apart {w : World} {c c' : Nat} {d d' : Bool} (h : WatchAt w (c + 1) c d) (h' : WatchAt w (c' + 1) c' d') (hne : c ≠ c') : c + 1 ≠ c' ∧ c ≠ c' + 1 := by
  refine ⟨fun e => ?_, fun e => ?_⟩
  · have h1 := h.obj
    rw [e, h'.ch] at h1
    cases h1
  · have h1 := h'.obj
    rw [← e, h.ch] at h1
    cases h1
theorem Shot.fire {w0 w w1 : World} {S : Nat → Bool} (h : Shot w0 w S) {c : Nat} {d : Bool} (hw : WatchAt w0 (c + 1) c d) (hf : FiredOf w w1 (c + 1) c) : Shot w0 w1 (fun x => S x || x == c) := by
  have hwc := h.watch c d hw
  refine ⟨fun c' d' hw' => ?_, fun k hk hs => ?_, Nat.le_trans h.size hf.size, fun B hB hs => ?_⟩
  · by_cases e : c' = c
    · subst e
      have : (d' || (S c' || c' == c')) = true := by simp
      rw [this]
      exact hf.at_
    · have hw2 := h.watch c' d' hw'
      have hap := hw2.apart hwc e
      have : (d' || (S c' || c' == c)) = (d' || S c') := by
        have : (c' == c) = false := beq_eq_false_iff_ne.mpr e
        rw [this, Bool.or_false]
      rw [this]
      exact hw2.move (hf.far _ (Array.getElem?_eq_some_iff.1 hw2.obj).1 (by omega) hap.1) (hf.far _ (Array.getElem?_eq_some_iff.1 hw2.ch).1 hap.2 e)
  · have hc := hs c d hw (by simp)
    exact (hf.far k (Nat.lt_of_lt_of_le hk h.size) hc.1 hc.2).trans (h.far k hk (fun c' d' hw' hS => hs c' d' hw' (by simp [hS])))
  · have hc := hs c d hw (by simp)
    exact (h.below B hB (fun c' d' hw' hS => hs c' d' hw' (by simp [hS]))).trans (hf.below B (by omega) hc (Nat.le_trans hB h.size))
def shootC (w0 : World) (s : (Nat → Bool) × Int) (c : Nat) : (Nat → Bool) × Int := (fun x => s.1 x || x == c, if (shutAt w0 c || s.1 c) = true then s.2 else wrap64 (s.2 + 1))
def marksOn (k : ByteArray) (n : Nd) (a : Nat) : List Nat := chOf n.mark :: (if a = k.size then (n.leaf.map (fun l => chOf l.mark)).toList else [])
def stepW (w0 : World) (k : ByteArray) (s : (Nat → Bool) × Int) (n : Nd) (a : Nat) : (Nat → Bool) × Int := (marksOn k n a).foldl (shootC w0) s
attribute [local go_sem] Oper.semAt_some
set_option maxRecDepth 100000 in
set_option maxHeartbeats 2000000 in
theorem call105 (w : World) (c cb : Nat) (n : Int) (d : Bool) (h : WatchAt w (c + 1) c d) (hb : w.heap[cb]? = some (.cells #[.int .i64 n] 3 (0, 0))) (h1 : cb ≠ c + 1) (h2 : cb ≠ c) :
    Calls Try.prog 105 #[ptr (c + 1), ptr cb] w fun e w' => e = .returned (.tuple #[]) ∧ ∃ w1, FiredOf w w1 (c + 1) c ∧ ((d = true ∧ w' = w1) ∨ (d = false ∧ w' = w1.setCell ⟨cb, 0, none⟩ (.int .i64 (wrap64 (n + 1))))) := by
  have q := Aside0.mk (fireC w (c + 1) c d h)
  have HB := Aside0.mk (And.intro hb (And.intro h1 h2))
  clear h hb h1 h2
  unfold ptr
  go_enter Try.func105, Try.ntmps105
  go_wp2_with fail
  go_at_call 106
  refine q.out.mono ?_
  rintro e w1 ⟨rfl, hf⟩
  have hb1 := (hf.far cb (Array.getElem?_eq_some_iff.1 HB.out.1).1 HB.out.2.1 HB.out.2.2).trans HB.out.1
  have HF := Aside0.mk hf
  clear hf q
  cases d with
  | true =>
    clear hb1
    go_wp2_with fail
    refine bodyPost_end (results_none rfl _ _ _) rfl ?_
    exact ⟨rfl, HF.out⟩
  | false =>
    have c0 : w1.cell? ⟨cb, 0, none⟩ = some (.int .i64 n) := by rw [blk_cell hb1]; rfl
    have f0 : w1.frozen? ⟨cb, 0, none⟩ = false := blk_frozen hb1 0
    clear hb1
    go_wp2_with fail
    refine bodyPost_end (results_none rfl _ _ _) rfl ?_
    exact ⟨rfl, w1, HF.out, rfl⟩
end Go.Proofs.Ytjhgknagmiekeaa.G
set_option linter.unusedVariables false
set_option linter.unusedSimpArgs false
namespace Go.Proofs.Ytjhgknagmiekeaa.G
open Go.RowKit Go.Lib Go.Proofs Go.Conc
open Go.Proofs.YtjhgknagmiekeaaW.PrintWords hiding Kept
open Go.Proofs.YtjhgknagmiekeaaW.PrintLast
open Go.Proofs.Ytjhgknagmiekeaa.T (Nd NdAt NdsAt LfAt Lf Row ptr ptrs Tr Fine leafPtr L)
structure InvF (wB : World) (k : ByteArray) (cb fb kb : Nat) (s : (Nat → Bool) × Int) (w : World) : Prop where
  shot : Shot wB w s.1
  cnt : w.heap[cb]? = some (.cells #[.int .i64 s.2] 3 (0, 0))
  fn : w.heap[fb]? = some (.cells #[.func (.func 105) #[] #[ptr cb]] 155 (0, 0))
  key : w.heap[kb]? = some (.cells #[.string k] 9 (0, 0))
theorem InvF.drew {wB : World} {k : ByteArray} {cb fb kb : Nat} {s : (Nat → Bool) × Int} {w : World} (h : InvF wB k cb fb kb s w) : InvF wB k cb fb kb s w.drew :=
  ⟨⟨fun c d hw => ⟨(h.shot.watch c d hw).obj, (h.shot.watch c d hw).ch⟩, h.shot.far, h.shot.size, fun B h1 h2 => below_drew (h.shot.below B h1 h2)⟩, h.cnt, h.fn, h.key⟩
theorem below_put {B : Nat} {w w' : World} (h : Below B w w') (b j : Nat) (hb : B ≤ b) (v : Value) : Below B w (w'.setCell ⟨b, j, none⟩ v) := h.setCell (p := ⟨b, j, none⟩) hb v
theorem InvF.fire {wB : World} {k : ByteArray} {cb fb kb : Nat} {s : (Nat → Bool) × Int} {w w1 w' : World} (hcb : wB.heap.size ≤ cb) (hfb : cb < fb) (hkb : fb < kb) (h : InvF wB k cb fb kb s w) {c : Nat} {d : Bool} (hw : WatchAt wB (c + 1) c d) (hf : FiredOf w w1 (c + 1) c)
    (hx : ((d || s.1 c) = true ∧ w' = w1) ∨ ((d || s.1 c) = false ∧ w' = w1.setCell ⟨cb, 0, none⟩ (.int .i64 (wrap64 (s.2 + 1))))) : InvF wB k cb fb kb (shootC wB s c) w' := by
  have hlt : c + 1 < wB.heap.size := (Array.getElem?_eq_some_iff.1 hw.obj).1
  have hs := h.shot.fire hw hf
  have k1 := (hf.far cb (Array.getElem?_eq_some_iff.1 h.cnt).1 (by omega) (by omega)).trans h.cnt
  have k2 := (hf.far fb (Array.getElem?_eq_some_iff.1 h.fn).1 (by omega) (by omega)).trans h.fn
  have k3 := (hf.far kb (Array.getElem?_eq_some_iff.1 h.key).1 (by omega) (by omega)).trans h.key
  rcases hx with ⟨e, rfl⟩ | ⟨e, rfl⟩
  · have e2 : (shootC wB s c).2 = s.2 := by unfold shootC; rw [shutAt_of hw, if_pos e]
    exact ⟨hs, by rw [e2]; exact k1, k2, k3⟩
  · have e2 : (shootC wB s c).2 = wrap64 (s.2 + 1) := by unfold shootC; rw [shutAt_of hw, if_neg (by rw [e]; simp)]
    have hk : ∀ j, j ≠ cb → (w1.setCell ⟨cb, 0, none⟩ (.int .i64 (wrap64 (s.2 + 1)))).heap[j]? = w1.heap[j]? := fun j hj => Below.heap_setCell _ _ _ j hj
    refine ⟨⟨fun c' d' hw' => ?_, fun j hj hs' => ?_, ?_, fun B h1 h2 => ?_⟩, by rw [e2]; exact set_atG k1 0 _, (hk fb (by omega)).trans k2, (hk kb (by omega)).trans k3⟩
    · have h9 : c' + 1 < wB.heap.size := (Array.getElem?_eq_some_iff.1 hw'.obj).1
      exact (hs.watch c' d' hw').move (hk _ (by omega)) (hk _ (by omega))
    · exact (hk j (by omega)).trans (hs.far j hj hs')
    · rw [size_setCellG]; exact hs.size
    · exact below_put (hs.below B h1 h2) cb 0 (by omega) _
theorem InvF.call {wB : World} {k : ByteArray} {cb fb kb : Nat} {s : (Nat → Bool) × Int} {w : World} (hcb : wB.heap.size ≤ cb) (hfb : cb < fb) (hkb : fb < kb) (h : InvF wB k cb fb kb s w) {m : Value} (hm : MkAt wB m) :
    ∃ c, m = ptr (c + 1) ∧ chOf m = c ∧ ∀ W, W = w.drew → Calls Try.prog 105 #[ptr (c + 1), ptr cb] W fun e w' => e = .returned (.tuple #[]) ∧ InvF wB k cb fb kb (shootC wB s c) w' := by
  obtain ⟨c, d, rfl, hw⟩ := hm
  refine ⟨c, rfl, rfl, fun W hW => ?_⟩
  subst hW
  have hlt : c + 1 < wB.heap.size := (Array.getElem?_eq_some_iff.1 hw.obj).1
  have hd := h.drew
  refine (call105 w.drew c cb s.2 (d || s.1 c) (hd.shot.watch c d hw) hd.cnt (by omega) (by omega)).mono ?_
  rintro e w' ⟨rfl, w1, hf, hx⟩
  exact ⟨rfl, hd.fire hcb hfb hkb hw hf hx⟩
def fr0_T : Bool × List (List Nat × List Nat) := (true, [([], []), ([], []), ([1], [1]), ([2], [2]), ([3], [3]), ([0, 4], [0, 4])])
def fr0_B : List Nat := [0, 0, 2, 6, 14, 31]
theorem fr0_bits : waitsOk fr0_T.2 fr0_B = true := by kernel_rfl
theorem fr0_tab : rtab .any (opsOf Try.f107 0) = fr0_T := by kernel_rfl
def fr2_T : Bool × List (List Nat × List Nat) := (true, [([], []), ([], []), ([1], [1]), ([2], [2]), ([3], [3]), ([4], [4]), ([5], [5]), ([6], [6]), ([0, 7], [0, 7])])
def fr2_B : List Nat := [0, 0, 2, 6, 14, 30, 62, 126, 255]
theorem fr2_bits : waitsOk fr2_T.2 fr2_B = true := by kernel_rfl
theorem fr2_tab : rtab .any (opsOf Try.f107 2) = fr2_T := by kernel_rfl
attribute [local go_sem] Oper.semAt_some
set_option maxRecDepth 100000 in
set_option maxHeartbeats 4000000 in
theorem call107 (wB : World) (k : ByteArray) (cb fb kb : Nat) (hcb : wB.heap.size ≤ cb) (hfb : cb < fb) (hkb : fb < kb) (s : (Nat → Bool) × Int) (n : Nd) (a : Nat) (w : World) (h : InvF wB k cb fb kb s w) (hn : NdAt wB n) (hm : Mks wB n) (ha : a ≤ k.size) (hk : k.size < 4000000000000) :
    Calls Try.prog 107 #[ptr n.b, .int .i64 (a : Nat), ptr fb, ptr kb] w fun e w' => e = .returned (.tuple #[]) ∧ InvF wB k cb fb kb (stepW wB k s n a) w' := by
  obtain ⟨c, em, ec, q1⟩ := h.call hcb hfb hkb (hm _ (mks_mark n))
  have hnw := FarP.nd rfl rfl rfl h.shot.farP n hn
  obtain ⟨kv, hb, -, -, -⟩ := hnw.parts
  have Q1 := Aside0.mk q1
  have m3 : w.cell? ⟨n.b, 3, none⟩ = some (.pointer (some ⟨c + 1, 0, none⟩)) := by rw [blk_cell hb, em]; rfl
  have cf : w.cell? ⟨fb, 0, none⟩ = some (.func (.func 105) #[] #[.pointer (some ⟨cb, 0, none⟩)]) := by rw [blk_cell h.fn]; rfl
  have HH := Aside0.mk (And.intro h (And.intro hn (And.intro hm ec)))
  clear q1 h hn hm em ec hnw hb
  unfold ptr at Q1 ⊢
  obtain ⟨nb, enb⟩ : ∃ nb, n.b = nb := ⟨_, rfl⟩
  have HNB := Aside0.mk enb
  rw [enb] at m3 ⊢
  clear enb
  go_enter Try.func107, Try.ntmps107
  go_wp2_with fail
  refine start_ (n := 6) (S := (fun Z => Z.cell? ⟨fb, 0, none⟩ = some (.func (.func 105) #[] #[.pointer (some ⟨cb, 0, none⟩)]) ∧ Z.cell? ⟨nb, 3, none⟩ = some (.pointer (some ⟨c + 1, 0, none⟩)))) (ds := [5]) #[false, false, false, false, false, false] (by kernel_rfl) rfl rfl ⟨cf, m3⟩ (fun hHeld => ?_); refine with_tabW fr0_tab fr0_bits (fun HT_ HW_ => ?_)
  refine take_ (i := 0) (N := some 6) (v := ?_) (a' := ?_) #[true, false, false, false, false, false] rfl rfl (take_ofW HT_.out HW_.out (by kernel_rfl)) (fun _ _ _ h => h) (Or.inl ⟨by rfl, ?_⟩) hHeld ?_ ?_
  rotate_left
  · rintro w' ⟨s0, s1⟩
    go_simp
    with_reducible rfl
  rotate_left
  · simp only [Act.put, List.setIfInBounds_toArray, List.set_cons_zero, List.set_cons_succ, i64_w, i32_w]
    rfl
  refine pure_ (i := 1) (N := some 7) (v := ?_) (a' := ?_) #[true, true, false, false, false, false] rfl rfl (any_of HT_.out (by kernel_rfl)) (fun _ _ _ h => h) (Or.inl ⟨by rfl, ?_⟩) ?_ ?_
  rotate_left
  · intro w'
    go_simp
    with_reducible rfl
  rotate_left
  · simp only [Act.put, List.setIfInBounds_toArray, List.set_cons_zero, List.set_cons_succ, i64_w, i32_w]
    rfl
  refine pure_ (i := 2) (N := some 8) (v := ?_) (a' := ?_) #[true, true, true, false, false, false] rfl rfl (any_of HT_.out (by kernel_rfl)) (fun _ _ _ h => h) (Or.inl ⟨by rfl, ?_⟩) ?_ ?_
  rotate_left
  · intro w'
    go_simp
    with_reducible rfl
  rotate_left
  · simp only [Act.put, List.setIfInBounds_toArray, List.set_cons_zero, List.set_cons_succ, i64_w, i32_w]
    rfl
  refine pure_ (i := 3) (N := some 9) (v := ?_) (a' := ?_) #[true, true, true, true, false, false] rfl rfl (any_of HT_.out (by kernel_rfl)) (fun _ _ _ h => h) (Or.inl ⟨by rfl, ?_⟩) ?_ ?_
  rotate_left
  · intro w'
    go_simp
    with_reducible rfl
  rotate_left
  · simp only [Act.put, List.setIfInBounds_toArray, List.set_cons_zero, List.set_cons_succ, i64_w, i32_w]
    rfl
  refine take_ (i := 4) (N := some 10) (v := ?_) (a' := ?_) #[true, true, true, true, true, false] rfl rfl (take_ofW HT_.out HW_.out (by kernel_rfl)) (fun _ _ _ h => h) (Or.inl ⟨by rfl, ?_⟩) hHeld ?_ ?_
  rotate_left
  · rintro w' ⟨s0, s1⟩
    go_simp
    with_reducible rfl
  rotate_left
  · simp only [Act.put, List.setIfInBounds_toArray, List.set_cons_zero, List.set_cons_succ, i64_w, i32_w]
    rfl
  refine last_ (i := 5) (N := some 11) #[true, true, true, true, true, true] rfl rfl (one_of HT_.out (by kernel_rfl)) (by decide) (fun K hK => ?_)
  refine call_ 105 #[.pointer (some ⟨c + 1, 0, none⟩), .pointer (some ⟨cb, 0, none⟩)] (by rfl) rfl (by have he := fun w => enters_ Try.func105 (by kernel_rfl) rfl #[.pointer (some ⟨c + 1, 0, none⟩), .pointer (some ⟨cb, 0, none⟩)] w; unfold execOp; simp [resolve, Deferred.ofValue, invoke, Act.eval, he]) ?_
  refine (Q1.out _ rfl).mono ?_
  rintro e w1 ⟨rfl, h1⟩
  have H1 := Aside0.mk h1
  clear h1 hHeld
  refine ⟨_, rfl, ?_⟩
  refine hK.out _ _ ?_
  clear hK K
  refine done_ (done_of HT_.out (by kernel_rfl)) ?_
  clear m3 cf Q1 HT_ HW_
  have hnd := FarP.nd rfl rfl rfl H1.out.shot.farP n HH.out.2.1
  obtain ⟨kv1, hb1, -, hlf1, -⟩ := hnd.parts
  have g1 : w1.cell? ⟨nb, 1, none⟩ = some (leafPtr n.leaf) := by rw [← HNB.out, blk_cell hb1]; rfl
  have gk : w1.cell? ⟨kb, 0, none⟩ = some (.string k) := by rw [blk_cell H1.out.key]; rfl
  have HLF := Aside0.mk hlf1
  clear hnd hb1 hlf1
  by_cases hak : a = k.size
  · have hae : ((a : Int) == (k.size : Int)) = true := by rw [hak]; simp
    have HAK := Aside0.mk hak
    cases e : n.leaf with
    | none =>
      rw [e] at g1
      have HE := Aside0.mk e
      unfold leafPtr at g1
      clear e hak
      go_wp2_with fail
      refine bodyPost_end (results_none rfl _ _ _) rfl ?_
      have e2 : stepW wB k s n a = shootC wB s c := by
        unfold stepW marksOn
        rw [if_pos HAK.out, HE.out, HH.out.2.2.2]
        rfl
      rw [e2]
      exact ⟨rfl, H1.out⟩
    | some l =>
      rw [e] at g1
      have HE := Aside0.mk e
      obtain ⟨c2, em2, ec2, q2⟩ := H1.out.call hcb hfb hkb (HH.out.2.2.1 _ (mks_leaf e))
      have Q2 := Aside0.mk q2
      have hl := HLF.out l e
      obtain ⟨lb, elb⟩ : ∃ lb, l.b = lb := ⟨_, rfl⟩
      have g2 : w1.cell? ⟨lb, 2, none⟩ = some (.pointer (some ⟨c2 + 1, 0, none⟩)) := by rw [← elb, blk_cell hl, em2]; rfl
      have cf : w1.cell? ⟨fb, 0, none⟩ = some (.func (.func 105) #[] #[.pointer (some ⟨cb, 0, none⟩)]) := by rw [blk_cell H1.out.fn]; rfl
      have HC2 := Aside0.mk ec2
      have g1' : w1.cell? ⟨nb, 1, none⟩ = some (.pointer (some ⟨lb, 0, none⟩)) := by rw [← elb]; exact g1
      clear g1
      have g1 := g1'
      clear g1'
      unfold ptr at Q2
      clear e hak hl elb em2 ec2 q2
      go_wp2_with fail
      refine start_ (n := 9) (S := (fun Z => Z.cell? ⟨fb, 0, none⟩ = some (.func (.func 105) #[] #[.pointer (some ⟨cb, 0, none⟩)]) ∧ Z.cell? ⟨nb, 1, none⟩ = some (.pointer (some ⟨lb, 0, none⟩)) ∧ Z.cell? ⟨lb, 2, none⟩ = some (.pointer (some ⟨c2 + 1, 0, none⟩)))) (ds := [8]) #[false, false, false, false, false, false, false, false, false] (by kernel_rfl) rfl rfl ⟨cf, g1, g2⟩ (fun hHeld => ?_); refine with_tabW fr2_tab fr2_bits (fun HT_ HW_ => ?_)
      refine take_ (i := 0) (N := some 23) (v := ?_) (a' := ?_) #[true, false, false, false, false, false, false, false, false] rfl rfl (take_ofW HT_.out HW_.out (by kernel_rfl)) (fun _ _ _ h => h) (Or.inl ⟨by rfl, ?_⟩) hHeld ?_ ?_
      rotate_left
      · rintro w' ⟨s0, s1, s2⟩
        go_simp
        with_reducible rfl
      rotate_left
      · simp only [Act.put, List.setIfInBounds_toArray, List.set_cons_zero, List.set_cons_succ, i64_w, i32_w]
        rfl
      refine pure_ (i := 1) (N := some 24) (v := ?_) (a' := ?_) #[true, true, false, false, false, false, false, false, false] rfl rfl (any_of HT_.out (by kernel_rfl)) (fun _ _ _ h => h) (Or.inl ⟨by rfl, ?_⟩) ?_ ?_
      rotate_left
      · intro w'
        go_simp
        with_reducible rfl
      rotate_left
      · simp only [Act.put, List.setIfInBounds_toArray, List.set_cons_zero, List.set_cons_succ, i64_w, i32_w]
        rfl
      refine pure_ (i := 2) (N := some 25) (v := ?_) (a' := ?_) #[true, true, true, false, false, false, false, false, false] rfl rfl (any_of HT_.out (by kernel_rfl)) (fun _ _ _ h => h) (Or.inl ⟨by rfl, ?_⟩) ?_ ?_
      rotate_left
      · intro w'
        go_simp
        with_reducible rfl
      rotate_left
      · simp only [Act.put, List.setIfInBounds_toArray, List.set_cons_zero, List.set_cons_succ, i64_w, i32_w]
        rfl
      refine pure_ (i := 3) (N := some 26) (v := ?_) (a' := ?_) #[true, true, true, true, false, false, false, false, false] rfl rfl (any_of HT_.out (by kernel_rfl)) (fun _ _ _ h => h) (Or.inl ⟨by rfl, ?_⟩) ?_ ?_
      rotate_left
      · intro w'
        go_simp
        with_reducible rfl
      rotate_left
      · simp only [Act.put, List.setIfInBounds_toArray, List.set_cons_zero, List.set_cons_succ, i64_w, i32_w]
        rfl
      refine take_ (i := 4) (N := some 27) (v := ?_) (a' := ?_) #[true, true, true, true, true, false, false, false, false] rfl rfl (take_ofW HT_.out HW_.out (by kernel_rfl)) (fun _ _ _ h => h) (Or.inl ⟨by rfl, ?_⟩) hHeld ?_ ?_
      rotate_left
      · rintro w' ⟨s0, s1, s2⟩
        go_simp
        with_reducible rfl
      rotate_left
      · simp only [Act.put, List.setIfInBounds_toArray, List.set_cons_zero, List.set_cons_succ, i64_w, i32_w]
        rfl
      refine pure_ (i := 5) (N := some 28) (v := ?_) (a' := ?_) #[true, true, true, true, true, true, false, false, false] rfl rfl (any_of HT_.out (by kernel_rfl)) (fun _ _ _ h => h) (Or.inl ⟨by rfl, ?_⟩) ?_ ?_
      rotate_left
      · intro w'
        go_simp
        with_reducible rfl
      rotate_left
      · simp only [Act.put, List.setIfInBounds_toArray, List.set_cons_zero, List.set_cons_succ, i64_w, i32_w]
        rfl
      refine pure_ (i := 6) (N := some 29) (v := ?_) (a' := ?_) #[true, true, true, true, true, true, true, false, false] rfl rfl (any_of HT_.out (by kernel_rfl)) (fun _ _ _ h => h) (Or.inl ⟨by rfl, ?_⟩) ?_ ?_
      rotate_left
      · intro w'
        go_simp
        with_reducible rfl
      rotate_left
      · simp only [Act.put, List.setIfInBounds_toArray, List.set_cons_zero, List.set_cons_succ, i64_w, i32_w]
        rfl
      refine take_ (i := 7) (N := some 30) (v := ?_) (a' := ?_) #[true, true, true, true, true, true, true, true, false] rfl rfl (take_ofW HT_.out HW_.out (by kernel_rfl)) (fun _ _ _ h => h) (Or.inl ⟨by rfl, ?_⟩) hHeld ?_ ?_
      rotate_left
      · rintro w' ⟨s0, s1, s2⟩
        go_simp
        with_reducible rfl
      rotate_left
      · simp only [Act.put, List.setIfInBounds_toArray, List.set_cons_zero, List.set_cons_succ, i64_w, i32_w]
        rfl
      refine last_ (i := 8) (N := some 31) #[true, true, true, true, true, true, true, true, true] rfl rfl (one_of HT_.out (by kernel_rfl)) (by decide) (fun K hK => ?_)
      refine call_ 105 #[.pointer (some ⟨c2 + 1, 0, none⟩), .pointer (some ⟨cb, 0, none⟩)] (by rfl) rfl (by have he := fun w => enters_ Try.func105 (by kernel_rfl) rfl #[.pointer (some ⟨c2 + 1, 0, none⟩), .pointer (some ⟨cb, 0, none⟩)] w; unfold execOp; simp [resolve, Deferred.ofValue, invoke, Act.eval, he]) ?_
      refine (Q2.out _ rfl).mono ?_
      rintro e w2 ⟨rfl, h2⟩
      have H2 := Aside0.mk h2
      clear h2 hHeld
      refine ⟨_, rfl, ?_⟩
      refine hK.out _ _ ?_
      clear hK K
      refine done_ (done_of HT_.out (by kernel_rfl)) ?_
      clear g1 g2 gk cf Q2 HT_ HW_
      go_wp2_with fail
      refine bodyPost_end (results_none rfl _ _ _) rfl ?_
      have e2 : stepW wB k s n a = shootC wB (shootC wB s c) c2 := by
        unfold stepW marksOn
        rw [if_pos HAK.out, HE.out, HH.out.2.2.2]
        show shootC wB (shootC wB s c) (chOf l.mark) = _
        rw [HC2.out]
      rw [e2]
      exact ⟨rfl, H2.out⟩
  · have hae : ((a : Int) == (k.size : Int)) = false := beq_eq_false_iff_ne.mpr (by omega)
    have HAK := Aside0.mk hak
    clear hak
    go_wp2_with fail
    refine bodyPost_end (results_none rfl _ _ _) rfl ?_
    have e2 : stepW wB k s n a = shootC wB s c := by
      unfold stepW marksOn
      rw [if_neg HAK.out, HH.out.2.2.2]
      rfl
    rw [e2]
    exact ⟨rfl, H1.out⟩
end Go.Proofs.Ytjhgknagmiekeaa.G
set_option linter.unusedVariables false
set_option linter.unusedSimpArgs false
namespace Go.Proofs.Ytjhgknagmiekeaa.G
open Go.RowKit Go.Lib Go.Proofs Go.Conc
open Go.Proofs.YtjhgknagmiekeaaW.PrintWords hiding Kept
open Go.Proofs.Ytjhgknagmiekeaa.T (Nd NdAt NdsAt LfAt Lf Row ptr ptrs Tr Fine leafPtr L Strs wayF)
def fireK (w0 : World) (root : Nd) (s : (Nat → Bool) × Int) (k : ByteArray) : (Nat → Bool) × Int := wayF (stepW w0 k) k (k.size + 2) (some root) 0 s
def fireAll (w0 : World) (root : Nd) (ks : List ByteArray) : (Nat → Bool) × Int := ks.foldl (fireK w0 root) (fun _ => false, 0)
theorem shot_alloc {w0 w : World} {S : Nat → Bool} (h : Shot w0 w S) (o : Obj) : Shot w0 (w.alloc o) S :=
  ⟨fun c d hw => (h.watch c d hw).move (Below.heap_alloc _ _ _ (Array.getElem?_eq_some_iff.1 (h.watch c d hw).obj).1) (Below.heap_alloc _ _ _ (Array.getElem?_eq_some_iff.1 (h.watch c d hw).ch).1), fun k hk hs => (Below.heap_alloc _ _ _ (Nat.lt_of_lt_of_le hk h.size)).trans (h.far k hk hs), by rw [World.size_alloc]; exact Nat.le_succ_of_le h.size, fun B h1 h2 => (h.below B h1 h2).alloc (Nat.le_trans h1 h.size) o⟩
theorem strs_far {p : TypeId → Bool} (h9 : p 9 = false) {w w' : World} (h : FarP p w w') {A : Option Addr} {ks : List ByteArray} (hs : ∀ i (hi : i < ks.length), ∃ ad cs fr, A = some ad ∧ w.heap[ad.block]? = some (.cells cs 9 fr)) (hk : Strs w A ks) : Strs w' A ks := fun i hi => by
  obtain ⟨ad, e, hc⟩ := hk i hi
  obtain ⟨ad', cs, fr, e', hb⟩ := hs i hi
  rw [e] at e'
  cases e'
  exact ⟨ad, e, (World.cell?_of_block (a := ad.add i) (by rw [add_block]; exact (h _ _ _ _ hb h9).trans hb.symm)).trans hc⟩
theorem run_store_fn {P : Program} {w : World} {a : Addr} {m : Mode} (f : Fn) (x y : Array Value) : (store a (.func f x y) m).run P w = stored P w a (.func f x y) m := run_store P w a _ m rfl
attribute [local go_sem] run_store_fn
set_option maxRecDepth 100000 in
set_option maxHeartbeats 4000000 in
theorem fireTree (w : World) (tb : Nat) (root : Nd) (ht : Tr w tb root) (hM : Mks w root) (A : Option Addr) (c : Nat) (ks : List ByteArray) (hA : Strs w A ks) (hAt : ∀ i (hi : i < ks.length), ∃ ad cs fr, A = some ad ∧ w.heap[ad.block]? = some (.cells cs 9 fr)) (hn : ks.length < 4000000000000) (hs : ∀ k ∈ ks, k.size < 4000000000000) :
    Calls Try.prog 61 #[ptr tb, .slice A ks.length c] w fun e w' => e = .returned (.int .i64 (fireAll w root ks).2) ∧ Shot w w' (fireAll w root ks).1 := by
  have HT := Aside0.mk (And.intro ht hM)
  have HS := Aside0.mk (And.intro hs (And.intro hA hAt))
  obtain ⟨n, en⟩ : ∃ n, ks.length = n := ⟨_, rfl⟩
  have HN := Aside0.mk en
  rw [en] at hn ⊢
  clear ht hM hA hAt hs en
  have hmf : ∀ (fn : Fn) (first cap : Array Value) (w : World), (Instr.makeFunc fn first cap).run Try.prog w = .ok (.func fn first cap) w := fun _ _ _ _ => rfl
  unfold ptr
  go_enter Try.func61, Try.ntmps61
  go_upto_region 3 with fail
  obtain ⟨B1, eB1⟩ : ∃ B1, w.heap.size = B1 := ⟨_, rfl⟩
  have HB1 := Aside0.mk eB1
  obtain ⟨W0, eW0⟩ : ∃ W0, (w.alloc (.cells #[.int .i64 0] 3)).alloc (.cells #[.func (.func 105) #[] #[ptr B1]] 155) = W0 := ⟨_, rfl⟩
  have H0 : Aside0 (Shot w W0 (fun _ => false) ∧ W0.heap[B1]? = some (.cells #[.int .i64 0] 3 (0, 0)) ∧ W0.heap[B1 + 1]? = some (.cells #[.func (.func 105) #[] #[ptr B1]] 155 (0, 0)) ∧ B1 + 1 < W0.heap.size) := by
    rw [← eW0]
    refine ⟨shot_alloc (shot_alloc (Shot.refl w) _) _, ?_, ?_, by rw [World.size_alloc, World.size_alloc]; omega⟩
    · rw [← eB1]; exact (Below.heap_alloc _ _ _ (by rw [World.size_alloc]; omega)).trans (heap_alloc_new w _)
    · have := heap_alloc_new (w.alloc (.cells #[.int .i64 0] 3)) (.cells #[.func (.func 105) #[] #[ptr B1]] 155)
      rwa [World.size_alloc, eB1] at this
  have HE0 := Aside0.mk eW0
  rw [eB1]
  have HK : Aside0 (Below w.heap.size w W0) := ⟨by rw [← eW0]; exact ((Below.refl _ w).alloc (Nat.le_refl _) _).alloc (by rw [World.size_alloc]; omega) _⟩
  have e9 : (w.alloc (.cells #[.int .i64 0] 3)).alloc (.cells #[.func (.func 105) #[] #[.pointer (some ⟨B1, 0, none⟩)]] 155) = W0 := eW0
  rw [e9]
  clear e9 eW0 eB1
  go_wp2_with fail
  go_loopg [12] (n + 1) (fun kq v12 W => ∃ (j : Nat) (s : (Nat → Bool) × Int), v12 = .int .i64 (j : Int) ∧ Aside0 (j + kq = n + 1 ∧ j ≤ n) ∧ Aside0 (Shot w W s.1 ∧ W.heap[B1]? = some (.cells #[.int .i64 s.2] 3 (0, 0)) ∧ W.heap[B1 + 1]? = some (.cells #[.func (.func 105) #[] #[ptr B1]] 155 (0, 0))) ∧ Aside0 (s = (ks.take j).foldl (fireK w root) (fun _ => false, 0)))
  case atStart => exact ⟨0, (fun _ => false, 0), rfl, ⟨by omega, Nat.zero_le _⟩, ⟨H0.out.1, H0.out.2.1, H0.out.2.2.1⟩, ⟨rfl⟩⟩
  case round =>
    obtain ⟨j, s, rfl, HI, HV, HF⟩ := hrel
    by_cases hj : j < n
    · have hj' : j < ks.length := by rw [HN.out]; exact hj
      obtain ⟨ad, ea, hk0⟩ := strs_far rfl HV.out.1.farP HS.out.2.2 HS.out.2.1 j hj'
      obtain ⟨k, ek⟩ : ∃ k, ks[j] = k := ⟨_, rfl⟩
      rw [ek] at hk0
      have hks : k.size < 4000000000000 := HS.out.1 k (by rw [← ek]; exact List.getElem_mem _)
      subst ea
      obtain ⟨G, eG⟩ : ∃ G, wr.heap.size = G := ⟨_, rfl⟩
      obtain ⟨W1, eW1⟩ : ∃ W1, wr.alloc (.cells #[.string k] 9) = W1 := ⟨_, rfl⟩
      have hG : B1 + 1 < G := by rw [← eG]; exact (Array.getElem?_eq_some_iff.1 HV.out.2.2).1
      have hst := shot_alloc HV.out.1 (.cells #[.string k] 9)
      have hkey : W1.heap[G]? = some (.cells #[.string k] 9 (0, 0)) := by rw [← eW1, ← eG]; exact heap_alloc_new wr _
      rw [eW1] at hst
      have hinv : InvF w k B1 (B1 + 1) G s W1 := ⟨hst, by rw [← eW1]; exact (Below.heap_alloc _ _ _ (by omega)).trans HV.out.2.1, by rw [← eW1]; exact (Below.heap_alloc _ _ _ (by omega)).trans HV.out.2.2, hkey⟩
      have hrt : W1.cell? ⟨tb, 0, none⟩ = some (.pointer (some ⟨root.b, 0, none⟩)) := by rw [blk_cell (hst.farP _ _ _ _ HT.out.1.at_.blk rfl)]; rfl
      have q1 := Aside0.mk (T.way107 (stepW w k) (InvF w k B1 (B1 + 1) G) (FarP (fun t => t == 154) w) (Mks w) (B1 + 1) G w W1 tb root _ k s hks hst.farP HT.out.1.at_ HT.out.1.fine.ok HT.out.1.fine.sm HT.out.1.fine.top hinv HT.out.2 (fun x hx => hx.kid) hrt (fun w1 hR x hx => FarP.nd rfl rfl rfl hR x hx)
        (fun s' x a w1 hR hI hx hp ha => (call107 w k B1 (B1 + 1) G (Nat.le_of_eq HB1.out) (by omega) hG s' x a w1 hI hx hp ha hks).mono (fun e w' ⟨h1, h2⟩ => ⟨h1, h2, h2.shot.farP⟩)))
      have ck : W1.cell? ⟨G, 0, none⟩ = some (.string k) := by rw [blk_cell hkey]; rfl
      have HTK : Aside0 (ks.take (j + 1) = ks.take j ++ [k]) := ⟨by rw [List.take_add_one, List.getElem?_eq_getElem hj', ek]; rfl⟩
      have HEW := Aside0.mk (And.intro eW1 eG)
      clear hst hkey hinv hrt eW1 ek hj' hks eG hG
      unfold ptr at q1
      go_upto_region 6 with fail
      rw [HEW.out.1, HEW.out.2]
      clear hk0
      go_wp2_with (go_at_call 85; refine q1.out.mono ?_)
      rintro e w2 ⟨rfl, h2, -⟩
      have H2 := Aside0.mk h2
      clear h2 q1 ck
      go_wp2_with fail
      go_roundg (n - j)
      case measure => have := HI.out; omega
      case rel =>
        refine ⟨j + 1, fireK w root s k, by simp, ⟨by have := HI.out; omega⟩, ⟨H2.out.shot, H2.out.cnt, H2.out.fn⟩, ⟨?_⟩⟩
        rw [HTK.out, List.foldl_append, ← HF.out]
        rfl
    · have hin : j = n := by have := HI.out; omega
      subst hin
      have c1 : wr.cell? ⟨B1, 0, none⟩ = some (.int .i64 s.2) := by rw [blk_cell HV.out.2.1]; rfl
      go_wp2_with fail
      go_ret
      have e2 : fireAll w root ks = s := by
        unfold fireAll
        rw [HF.out, ← HN.out, List.take_length]
      rw [e2]
      exact ⟨rfl, HV.out.1⟩
end Go.Proofs.Ytjhgknagmiekeaa.G
set_option linter.unusedVariables false
set_option linter.unusedSimpArgs false
namespace Go.Proofs.Ytjhgknagmiekeaa.G
open Go.RowKit Go.Lib Go.Proofs Go.Conc
open Go.Proofs.YtjhgknagmiekeaaW.PrintWords hiding Kept
open Go.Proofs.Ytjhgknagmiekeaa.T (Nd NdAt ptr Tr L)
section
variable {P : Program} {f : FuncId} {fn : Func}
end
structure BaseAt (w : World) (b v tb : Nat) (n : Int) (held : Bool) : Prop where
  base : w.heap[b]? = some (.cells #[ptr v, .int .i32 (if held then 1 else 0), .int .u32 0] 191 (0, 0))
  ver : w.heap[v]? = some (.cells #[ptr tb, .int .u64 n] 194 (0, 0))
end Go.Proofs.Ytjhgknagmiekeaa.G
set_option linter.unusedVariables false
set_option linter.unusedSimpArgs false
namespace Go.Proofs.Ytjhgknagmiekeaa.G
open Go.RowKit Go.Lib Go.Proofs Go.Conc
open Go.Proofs.YtjhgknagmiekeaaW.PrintWords hiding Kept
open Go.Proofs.YtjhgknagmiekeaaW.PrintLast
open Go.Proofs.Ytjhgknagmiekeaa.T (Nd NdAt ptr Tr L emptyN TrAt NewMark)
attribute [local go_sem] Oper.semAt_some
end Go.Proofs.Ytjhgknagmiekeaa.G
set_option linter.unusedVariables false
set_option linter.unusedSimpArgs false
namespace Go.Proofs.Ytjhgknagmiekeaa.G
open Go.RowKit Go.Lib Go.Proofs Go.Conc
open Go.Proofs.YtjhgknagmiekeaaW.PrintWords hiding Kept
open Go.Proofs.Ytjhgknagmiekeaa.T
theorem mks_mk {b : Nat} {label : ByteArray} {leaf : Option Lf} {kids : List Nd} {mark m : Value} : m ∈ mks (.mk b label leaf kids mark) ↔ m = mark ∨ (∃ l, leaf = some l ∧ m = l.mark) ∨ ∃ k ∈ kids, m ∈ mks k := by
  rw [mks_eq]
  show m ∈ mark :: ((leaf.map (fun l => l.mark)).toList ++ mkss kids) ↔ _
  rw [List.mem_cons, List.mem_append, mkss_mem]
  cases leaf <;> simp
theorem mks_of (n : Nd) {m : Value} : m ∈ mks n ↔ m = n.mark ∨ (∃ l, n.leaf = some l ∧ m = l.mark) ∨ ∃ k ∈ n.kids, m ∈ mks k := by
  cases n; exact mks_mk
theorem mks_tip {rest : ByteArray} {l : Lf} {s : Nat × Value} {m : Value} (h : m ∈ mks (tipN rest l s)) : m = s.2 ∨ m = l.mark := by
  rcases mks_mk.1 h with h | ⟨l', h1, h2⟩ | ⟨k, h1, h2⟩
  · exact .inl h
  · cases h1; exact .inr h2
  · cases h1
theorem mks_low {k : Nd} {p b : Nat} {m : Value} (h : m ∈ mks (lowN k p b)) : m ∈ mks k := by
  rw [mks_of]
  exact mks_mk.1 h
theorem mks_split {k : Nd} {p : Nat} {rest : ByteArray} {l : Lf} {ns : Sup} {m : Value} (h : m ∈ mks (splitN k p rest l ns)) : m ∈ mks k ∨ m = l.mark ∨ ∃ j, m = (ns j).2 := by
  unfold splitN at h
  split at h
  · rcases mks_mk.1 h with h | ⟨l', h1, h2⟩ | ⟨x, h1, h2⟩
    · exact .inr (.inr ⟨_, h⟩)
    · cases h1; exact .inr (.inl h2)
    · rw [List.mem_singleton] at h1; subst h1; exact .inl (mks_low h2)
  · rcases mks_mk.1 h with h | ⟨l', h1, h2⟩ | ⟨x, h1, h2⟩
    · exact .inr (.inr ⟨_, h⟩)
    · cases h1
    · rcases mem_insAt h1 with e | e
      · subst e
        rcases mks_tip h2 with h3 | h3
        · exact .inr (.inr ⟨_, h3⟩)
        · exact .inr (.inl h3)
      · rw [List.mem_singleton] at e; subst e; exact .inl (mks_low h2)
theorem mks_ins : ∀ (N : Nat) (rest : ByteArray), rest.size ≤ N → ∀ (n : Nd) (l : Lf) (ns : Sup) (m : Value), m ∈ mks (insN n rest l ns) → m ∈ mks n ∨ m = l.mark ∨ ∃ j, m = (ns j).2 := by
  intro N
  induction N with
  | zero =>
    intro rest hN n l ns m h
    rw [insN, dif_pos (by omega)] at h
    rcases mks_mk.1 h with h | ⟨l', h1, h2⟩ | ⟨k, h1, h2⟩
    · exact .inr (.inr ⟨_, h⟩)
    · cases h1; exact .inr (.inl h2)
    · exact .inl (mks_kid h1 h2)
  | succ N ih =>
    intro rest hN n l ns m h
    rw [insN] at h
    split at h
    · rcases mks_mk.1 h with h | ⟨l', h1, h2⟩ | ⟨k, h1, h2⟩
      · exact .inr (.inr ⟨_, h⟩)
      · cases h1; exact .inr (.inl h2)
      · exact .inl (mks_kid h1 h2)
    · split at h
      · rcases mks_mk.1 h with h | ⟨l', h1, h2⟩ | ⟨k, h1, h2⟩
        · exact .inr (.inr ⟨_, h⟩)
        · exact .inl (by rw [h2]; exact mks_leaf h1)
        · rcases mem_insAt h1 with e | e
          · subst e
            rcases mks_tip h2 with h3 | h3
            · exact .inr (.inr ⟨_, h3⟩)
            · exact .inr (.inl h3)
          · exact .inl (mks_kid e h2)
      · rename_i k e
        obtain ⟨hh, hlt, ek⟩ := kidN_some e
        have hkm : k ∈ n.kids := by rw [← ek]; exact List.getElem_mem _
        split at h
        · rcases mks_mk.1 h with h | ⟨l', h1, h2⟩ | ⟨x, h1, h2⟩
          · exact .inr (.inr ⟨_, h⟩)
          · exact .inl (by rw [h2]; exact mks_leaf h1)
          · rcases List.mem_or_eq_of_mem_set h1 with e | e
            · exact .inl (mks_kid e h2)
            · subst e
              rcases ih _ (by simp only [ByteArray.size_extract]; omega) k l _ m h2 with h3 | h3 | ⟨j, h3⟩
              · exact .inl (mks_kid hkm h3)
              · exact .inr (.inl h3)
              · exact .inr (.inr ⟨j + 1, h3⟩)
        · rcases mks_mk.1 h with h | ⟨l', h1, h2⟩ | ⟨x, h1, h2⟩
          · exact .inr (.inr ⟨_, h⟩)
          · exact .inl (by rw [h2]; exact mks_leaf h1)
          · rcases List.mem_or_eq_of_mem_set h1 with e | e
            · exact .inl (mks_kid e h2)
            · subst e
              rcases mks_split h2 with h3 | h3 | h3
              · exact .inl (mks_kid hkm h3)
              · exact .inr (.inl h3)
              · exact .inr (.inr h3)
end Go.Proofs.Ytjhgknagmiekeaa.G
set_option linter.unusedVariables false
set_option linter.unusedSimpArgs false
namespace Go.Proofs.Ytjhgknagmiekeaa.G
open Go.RowKit Go.Lib Go.Proofs Go.Conc Go.Maps
open Go.Proofs.YtjhgknagmiekeaaW.PrintWords hiding Kept
open Go.Proofs.Ytjhgknagmiekeaa.T (Nd NdAt ptr Tr L All valT wasV Lf)
structure Only (p : Nat → Prop) (w w' : World) : Prop where
  far : ∀ k, k < w.heap.size → ¬ p k → w'.heap[k]? = w.heap[k]?
  size : w.heap.size ≤ w'.heap.size
  below : ∀ B, B ≤ w.heap.size → (∀ k, k < w.heap.size → p k → B ≤ k) → Below B w w'
theorem Only.refl (p : Nat → Prop) (w : World) : Only p w w := ⟨fun _ _ _ => rfl, Nat.le_refl _, fun _ _ _ => Below.refl _ _⟩
theorem Only.of {p : Nat → Prop} {w w' : World} (h : Below w.heap.size w w') : Only p w w' := ⟨fun k hk _ => h.block k hk, h.size, fun B hB _ => h.mono hB⟩
theorem Only.trans {p q : Nat → Prop} {a b c : World} (h : Only p a b) (k : Only q b c) : Only (fun x => p x ∨ q x) a c := by
  refine ⟨fun x hx hn => (k.far x (Nat.lt_of_lt_of_le hx h.size) (fun e => hn (.inr e))).trans (h.far x hx (fun e => hn (.inl e))), Nat.le_trans h.size k.size, fun B hB hs => (h.below B hB (fun x hx hp => hs x hx (.inl hp))).trans (k.below B (Nat.le_trans hB h.size) (fun x hx hq => ?_))⟩
  by_cases hlt : x < a.heap.size
  · exact hs x hlt (.inr hq)
  · omega
theorem Only.imp {p q : Nat → Prop} {w w' : World} (h : Only p w w') (hp : ∀ k, k < w.heap.size → p k → q k) : Only q w w' := ⟨fun k hk hn => h.far k hk (fun e => hn (hp k hk e)), h.size, fun B hB hs => h.below B hB (fun k hk e => hs k hk (hp k hk e))⟩
theorem Only.put {p : Nat → Prop} {w w' : World} (h : Only p w w') (b j : Nat) (hb : p b ∨ w.heap.size ≤ b) (v : Value) : Only p w (w'.setCell ⟨b, j, none⟩ v) := by
  refine ⟨fun k hk hn => (Below.heap_setCell _ _ _ k (fun e => ?_)).trans (h.far k hk hn), by rw [size_setCellG]; exact h.size, fun B hB hs => below_put (h.below B hB hs) b j ?_ v⟩
  · have e2 : k = b := e
    rcases hb with hb | hb
    · exact hn (by rw [e2]; exact hb)
    · omega
  · rcases hb with hb | hb
    · by_cases hlt : b < w.heap.size
      · exact hs b hlt hb
      · omega
    · omega
theorem Only.at {p : Nat → Prop} {w w' : World} (h : Only p w w') {b : Nat} {o : Obj} (hb : w.heap[b]? = some o) (hp : ¬ p b) : w'.heap[b]? = some o := (h.far b (Array.getElem?_eq_some_iff.1 hb).1 hp).trans hb
theorem BaseAt.move {w w' : World} {b v tb : Nat} {n : Int} {held : Bool} (h : BaseAt w b v tb n held) (h1 : w'.heap[b]? = w.heap[b]?) (h2 : w'.heap[v]? = w.heap[v]?) : BaseAt w' b v tb n held := ⟨h1.trans h.base, h2.trans h.ver⟩
theorem BaseAt.ne {w : World} {b v tb : Nat} {n : Int} {held : Bool} (h : BaseAt w b v tb n held) : b ≠ v := fun e => by
  have h1 := h.base
  rw [e, h.ver] at h1
  cases h1
end Go.Proofs.Ytjhgknagmiekeaa.G
set_option linter.unusedVariables false
set_option linter.unusedSimpArgs false
namespace Go.Proofs.Ytjhgknagmiekeaa.G
open Go.RowKit Go.Lib Go.Proofs Go.Conc Go.Maps Go.Sort Go.Shelf
open Go.Proofs.YtjhgknagmiekeaaW.PrintWords hiding Kept
open Go.Proofs.Ytjhgknagmiekeaa.T (Nd NdAt ptr Tr L All valT wasV Lf Strs)
structure TxtRow (w : World) (v : Value) (ks : List ByteArray) : Prop where
  slice : ∃ A c, v = .slice A ks.length c ∧ Strs w A ks ∧ ∀ i (hi : i < ks.length), ∃ ad cs fr, A = some ad ∧ w.heap[ad.block]? = some (.cells cs 9 fr)
end Go.Proofs.Ytjhgknagmiekeaa.G
set_option linter.unusedVariables false
set_option linter.unusedSimpArgs false
namespace Go.Proofs.Ytjhgknagmiekeaa.T
mutual
/-- the blocks of a tree's nodes -/
def bls : Nd → List Nat
  | .mk b _ _ kids _ => b :: blss kids
def blss : List Nd → List Nat
  | [] => []
  | n :: r => bls n ++ blss r
end
mutual
/-- how many nodes are not known, down to the known ones -/
def cntF (K : Nat → Bool) : Nd → Nat
  | .mk b _ _ kids _ => if K b = true then 0 else 1 + cntFs K kids
def cntFs (K : Nat → Bool) : List Nd → Nat
  | [] => 0
  | n :: r => cntF K n + cntFs K r
end
theorem bls_eq (n : Nd) : bls n = n.b :: blss n.kids := by cases n; rw [bls]; rfl
theorem cntF_eq (K : Nat → Bool) (n : Nd) : cntF K n = if K n.b = true then 0 else 1 + cntFs K n.kids := by cases n; rw [cntF]; rfl
theorem mem_blss {b : Nat} : ∀ {ks : List Nd}, b ∈ blss ks ↔ ∃ k ∈ ks, b ∈ bls k
  | [] => by rw [blss]; simp
  | n :: r => by
    rw [blss, List.mem_append, mem_blss (ks := r)]
    constructor
    · rintro (h | ⟨k, hk, h⟩)
      · exact ⟨n, by simp, h⟩
      · exact ⟨k, by simp [hk], h⟩
    · rintro ⟨k, hk, h⟩
      rcases List.mem_cons.1 hk with e | e
      · subst e; exact .inl h
      · exact .inr ⟨k, e, h⟩
def Kn (K : Nat → Bool) (n : Nd) : Prop := ∀ b ∈ bls n, K b = true
theorem Kn.self {K : Nat → Bool} {n : Nd} (h : Kn K n) : K n.b = true := h n.b (by rw [bls_eq]; simp)
theorem Kn.kid {K : Nat → Bool} {n : Nd} (h : Kn K n) {k : Nd} (hk : k ∈ n.kids) : Kn K k := fun b hb => h b (by rw [bls_eq]; exact List.mem_cons_of_mem _ (mem_blss.2 ⟨k, hk, hb⟩))
theorem Kn.zero {K : Nat → Bool} {n : Nd} (h : Kn K n) : cntF K n = 0 := by rw [cntF_eq, if_pos h.self]
end Go.Proofs.Ytjhgknagmiekeaa.T
set_option linter.unusedVariables false
set_option linter.unusedSimpArgs false
namespace Go.Proofs.Ytjhgknagmiekeaa.T
def wayL (k : ByteArray) : Nat → Option Nd → Nat → List (Nd × Nat)
  | 0, _, _ => []
  | _ + 1, none, _ => []
  | f + 1, some n, a => (n, a + n.label.size) :: wayL k f (downN n (k.extract (a + n.label.size) k.size)) (a + n.label.size)
theorem wayL_none (k : ByteArray) (f a : Nat) : wayL k f none a = [] := by cases f <;> rfl
theorem wayF_list {σ : Type} (step : σ → Nd → Nat → σ) (k : ByteArray) : ∀ (f : Nat) (o : Option Nd) (a : Nat) (s : σ), wayF step k f o a s = (wayL k f o a).foldl (fun s p => step s p.1 p.2) s
  | 0, _, _, _ => rfl
  | _ + 1, none, _, _ => rfl
  | f + 1, some n, a, s => by
    unfold wayF wayL
    rw [List.foldl_cons]
    exact wayF_list step k f _ _ _
def onR (n : Nd) (R : List UInt8) (b j : Nat) : Option (Nd × Nat) := (nodeT n (R.take j)).map fun x => (x, b + j)
theorem filterMap_head {β : Type} (g : Nat → Option β) (y : β) (A : Nat) (hA : 0 < A) (h0 : g 0 = some y) (h : ∀ j, 0 < j → j < A → g j = none) : (List.range A).filterMap g = [y] := by
  obtain ⟨m, rfl⟩ : ∃ m, A = m + 1 := ⟨A - 1, by omega⟩
  rw [List.range_succ_eq_map, List.filterMap_cons, h0]
  show y :: _ = _
  rw [List.filterMap_map]
  congr 1
  refine List.filterMap_eq_nil_iff.2 (fun j hj => ?_)
  have := List.mem_range.1 hj
  exact h (j + 1) (by omega) (by omega)
theorem fm_congr {α β : Type} {f g : α → Option β} : ∀ {l : List α}, (∀ x ∈ l, f x = g x) → l.filterMap f = l.filterMap g
  | [], _ => rfl
  | x :: l, h => by rw [List.filterMap_cons, List.filterMap_cons, h x List.mem_cons_self, fm_congr (fun y hy => h y (List.mem_cons_of_mem _ hy))]
theorem way_stop (n : Nd) (R : List UInt8) (b : Nat) (h : ∀ j, 0 < j → j ≤ R.length → nodeT n (R.take j) = none) : (List.range (R.length + 1)).filterMap (onR n R b) = [(n, b)] :=
  filterMap_head _ _ _ (by omega) (by unfold onR; rw [List.take_zero, nodeT_nil]; rfl) (fun j h1 h2 => by unfold onR; rw [h j h1 (by omega)]; rfl)
theorem way_nodes (k : ByteArray) : ∀ (f : Nat) (n : Nd) (a : Nat), Ok n → k.size + 1 < f + a + n.label.size → a + n.label.size ≤ k.size →
    wayL k f (some n) a = (List.range (((L k).drop (a + n.label.size)).length + 1)).filterMap (onR n ((L k).drop (a + n.label.size)) (a + n.label.size)) := by
  intro f
  induction f with
  | zero => intro n a _ h1 h2; omega
  | succ f ih =>
    intro n a ho h1 h2
    obtain ⟨a2, ea⟩ : ∃ a2, a + n.label.size = a2 := ⟨_, rfl⟩
    unfold wayL
    rw [ea]
    have hsz : (k.extract a2 k.size).size = k.size - a2 := by simp only [ByteArray.size_extract]; omega
    have hRl : ((L k).drop a2).length = k.size - a2 := by rw [List.length_drop, L_len]
    by_cases hend : a2 = k.size
    · have e1 : downN n (k.extract a2 k.size) = none := by unfold downN; rw [if_pos (by omega)]
      rw [e1, wayL_none]
      exact (way_stop n _ a2 (fun j h3 h4 => by omega)).symm
    · have e1 := downN_eq n ho (k.extract a2 k.size) (by omega)
      rw [L_tail] at e1
      obtain ⟨R, eR⟩ : ∃ R, (L k).drop a2 = R := ⟨_, rfl⟩
      rw [eR] at e1 hRl ⊢
      have hF : ∀ j, 0 < j → j ≤ R.length → nodeT n (R.take j) = (kidT n.kids (hd R)).bind (beneath (R.take j)) := fun j h3 h4 => by
        rw [nodeT_eq _ _ (fun e => by have := congrArg List.length e; rw [List.length_take, List.length_nil] at this; omega), hd_take R j h3]
      cases ek : kidT n.kids (hd R) with
      | none =>
        rw [ek] at e1 hF
        have e2 : downN n (k.extract a2 k.size) = none := e1
        rw [e2, wayL_none]
        exact (way_stop n R a2 (fun j h3 h4 => by rw [hF j h3 h4]; rfl)).symm
      | some m =>
        rw [ek] at e1 hF
        simp only [Option.bind_some] at e1 hF
        have hm := (kidT_some ek).1
        have hpos := ho.parts.2.1 m hm
        have hml : (L m.label).length = m.label.size := L_len _
        by_cases hp : L m.label <+: R
        · rw [if_pos hp] at e1
          have hle := hp.length_le
          rw [hml] at hle
          rw [e1]
          have hI := ih m a2 (ho.parts.2.2.get m hm) (by omega) (by omega)
          have eR2 : (L k).drop (a2 + m.label.size) = R.drop m.label.size := by rw [← eR, List.drop_drop]
          rw [eR2] at hI
          have hRd : (R.drop m.label.size).length = R.length - m.label.size := List.length_drop
          have hsmall : ∀ j, 0 < j → j < m.label.size → nodeT n (R.take j) = none := fun j h3 h4 => by
            rw [hF j h3 (by omega)]
            unfold beneath
            rw [if_neg (fun e => by have := e.2.length_le; rw [hml, List.length_take] at this; omega)]
          have hbig : ∀ j, j ≤ R.length - m.label.size → nodeT n (R.take (m.label.size + j)) = nodeT m ((R.drop m.label.size).take j) := fun j h3 => by
            rw [hF _ (by omega) (by omega)]
            unfold beneath
            have hpre : L m.label <+: R.take (m.label.size + j) := by
              obtain ⟨t, ht⟩ := hp
              rw [← ht, ← hml, List.take_length_add_append]
              exact List.prefix_append _ _
            rw [if_pos ⟨hpos, hpre⟩]
            congr 1
            rw [List.drop_take]
            congr 1
            omega
          obtain ⟨D, eD⟩ : ∃ D, (R.drop m.label.size).length + 1 = D := ⟨_, rfl⟩
          rw [hI, eD, show R.length + 1 = m.label.size + D from by omega, List.range_add, List.filterMap_append, filterMap_head (onR n R a2) (n, a2) m.label.size hpos (by unfold onR; rw [List.take_zero, nodeT_nil]; rfl) (fun j h3 h4 => by unfold onR; rw [hsmall j h3 h4]; rfl), List.filterMap_map]
          show _ :: _ = _ :: _
          congr 1
          refine fm_congr (fun j hj => ?_)
          have hj2 := List.mem_range.1 hj
          show onR m _ _ j = onR n R a2 (m.label.size + j)
          unfold onR
          rw [hbig j (by omega), Nat.add_assoc]
        · rw [if_neg hp] at e1
          rw [e1, wayL_none]
          refine (way_stop n R a2 (fun j h3 h4 => ?_)).symm
          rw [hF j h3 h4]
          unfold beneath
          rw [if_neg (fun e => hp (e.2.trans (List.take_prefix _ _)))]
theorem way_root {root : Nd} (h : Good root) (k : ByteArray) : wayL k (k.size + 2) (some root) 0 = (List.range (k.size + 1)).filterMap (onR root (L k) 0) := by
  have h1 := way_nodes k (k.size + 2) root 0 h.ok (by omega) (by have := h.top; omega)
  rw [h.top] at h1
  simp only [Nat.zero_add, List.drop_zero] at h1
  rw [h1, L_len]
theorem last_on (n : Nd) (R : List UInt8) : ∀ N : Nat, ∃ r, ((List.range (N + 1)).filterMap (onR n R 0)).foldl (fun _ p => p.2) 0 = r ∧ r ≤ N ∧ nodeT n (R.take r) ≠ none ∧ ∀ j, r < j → j ≤ N → nodeT n (R.take j) = none
  | 0 => ⟨0, by
    have e : (List.range (0 + 1)).filterMap (onR n R 0) = [(n, 0)] := filterMap_head _ _ _ (by omega) (by unfold onR; rw [List.take_zero, nodeT_nil]; rfl) (fun j h1 h2 => by omega)
    rw [e]; rfl, Nat.le_refl _, by rw [List.take_zero, nodeT_nil]; simp, fun j h1 h2 => by omega⟩
  | N + 1 => by
    obtain ⟨r, h1, h2, h3, h4⟩ := last_on n R N
    rw [List.range_succ, List.filterMap_append, List.foldl_append, h1]
    cases e : nodeT n (R.take (N + 1)) with
    | none =>
      refine ⟨r, ?_, by omega, h3, fun j h5 h6 => ?_⟩
      · rw [List.filterMap_cons, show onR n R 0 (N + 1) = none from by unfold onR; rw [e]; rfl]; rfl
      · by_cases h7 : j = N + 1
        · rw [h7]; exact e
        · exact h4 j h5 (by omega)
    | some x =>
      refine ⟨N + 1, ?_, Nat.le_refl _, by rw [e]; simp, fun j h5 h6 => by omega⟩
      rw [List.filterMap_cons, show onR n R 0 (N + 1) = some (x, N + 1) from by unfold onR; rw [e, Nat.zero_add]; rfl]; rfl
theorem reach_eq {root : Nd} (h : Good root) (k : ByteArray) : reachN root k ≤ k.size ∧ nodeT root ((L k).take (reachN root k)) ≠ none ∧ ∀ j, reachN root k < j → j ≤ k.size → nodeT root ((L k).take j) = none := by
  obtain ⟨r, h1, h2, h3, h4⟩ := last_on root (L k) k.size
  have e : reachN root k = r := by
    unfold reachN
    rw [wayF_list, way_root h, ← h1]
    rfl
  rw [e]
  exact ⟨h2, h3, h4⟩
end Go.Proofs.Ytjhgknagmiekeaa.T
set_option linter.unusedVariables false
set_option linter.unusedSimpArgs false
namespace Go.Proofs.Ytjhgknagmiekeaa.G
open Go.RowKit Go.Lib Go.Proofs Go.Conc Go.Maps
open Go.Proofs.YtjhgknagmiekeaaW.PrintWords hiding Kept
open Go.Proofs.Ytjhgknagmiekeaa.T (Nd NdAt ptr Tr L All valT wasV Lf Strs wayL wayF)
def CellsOf (w : World) (q : TypeId → Bool) (p : Nat → Prop) : Prop := ∀ k, p k → ∃ cs t fr, w.heap[k]? = some (.cells cs t fr) ∧ q t = true
theorem Only.farP {p : Nat → Prop} {q : TypeId → Bool} {w w' : World} (h : Only p w w') (hp : CellsOf w q p) : FarP q w w' := fun b cs t fr hb ht => h.at hb (fun e => by
  obtain ⟨cs', t', fr', h1, h2⟩ := hp b e
  rw [hb] at h1
  injection h1 with e1
  injection e1 with _ e2 _
  rw [e2, h2] at ht
  cases ht)
theorem Only.watch {p : Nat → Prop} {q : TypeId → Bool} {w w' : World} (h : Only p w w') (hp : CellsOf w q p) (h154 : q 154 = false) {c : Nat} {d : Bool} (hw : WatchAt w (c + 1) c d) : WatchAt w' (c + 1) c d :=
  ⟨h.farP hp _ _ _ _ hw.obj h154, h.at hw.ch (fun e => by
    obtain ⟨cs', t', fr', h1, h2⟩ := hp c e
    rw [hw.ch] at h1
    cases h1)⟩
theorem MkAt.imp {w w' : World} (h : ∀ c d, WatchAt w (c + 1) c d → ∃ d', WatchAt w' (c + 1) c d') {m : Value} (hm : MkAt w m) : MkAt w' m := by
  obtain ⟨c, d, e, hw⟩ := hm
  obtain ⟨d', hw'⟩ := h c d hw
  exact ⟨c, d', e, hw'⟩
theorem TxtRow.far {p : TypeId → Bool} (h9 : p 9 = false) {w w' : World} (h : FarP p w w') {v : Value} {ks : List ByteArray} (ht : TxtRow w v ks) : TxtRow w' v ks := by
  obtain ⟨A, c, e, hs, hb⟩ := ht.slice
  exact ⟨A, c, e, strs_far h9 h hb hs, fun i hi => by
    obtain ⟨ad, cs, fr, e1, e2⟩ := hb i hi
    exact ⟨ad, cs, fr, e1, h _ _ _ _ e2 h9⟩⟩
theorem fold_shoot (w0 : World) : ∀ (l : List Nat) (s : (Nat → Bool) × Int) (x : Nat), (l.foldl (shootC w0) s).1 x = true → s.1 x = true ∨ x ∈ l
  | [], s, x, h => .inl h
  | c :: l, s, x, h => by
    rcases fold_shoot w0 l (shootC w0 s c) x h with h1 | h1
    · have h2 : (s.1 x || x == c) = true := h1
      rw [Bool.or_eq_true] at h2
      rcases h2 with h2 | h2
      · exact .inl h2
      · exact .inr (by rw [beq_iff_eq.1 h2]; exact List.mem_cons_self)
    · exact .inr (List.mem_cons_of_mem _ h1)
theorem marksOn_mks {k : ByteArray} {n : Nd} {a x : Nat} (h : x ∈ marksOn k n a) : ∃ m ∈ mks n, chOf m = x := by
  unfold marksOn at h
  rcases List.mem_cons.1 h with h | h
  · exact ⟨n.mark, mks_mark n, h.symm⟩
  · split at h
    · cases e : n.leaf with
      | none => rw [e] at h; cases h
      | some l =>
        rw [e] at h
        have h2 : x = chOf l.mark := by simpa using h
        exact ⟨l.mark, mks_leaf e, h2.symm⟩
    · cases h
theorem wayL_mks (k : ByteArray) (root : Nd) : ∀ (f : Nat) (o : Option Nd) (a : Nat), (∀ n, o = some n → ∀ m ∈ mks n, m ∈ mks root) → ∀ p ∈ wayL k f o a, ∀ m ∈ mks p.1, m ∈ mks root
  | 0, _, _, _, p, hp, _, _ => by unfold wayL at hp; cases hp
  | _ + 1, none, _, _, p, hp, _, _ => by unfold wayL at hp; cases hp
  | f + 1, some n, a, h, p, hp, m, hm => by
    unfold wayL at hp
    rcases List.mem_cons.1 hp with e | e
    · rw [e] at hm; exact h n rfl m hm
    · refine wayL_mks k root f _ _ (fun x hx m' hm' => ?_) p e m hm
      exact h n rfl m' (mks_kid (T.downN_some hx).1 hm')
theorem fold_way (w0 : World) (k : ByteArray) (root : Nd) : ∀ (l : List (Nd × Nat)) (s : (Nat → Bool) × Int) (x : Nat), (∀ p ∈ l, ∀ m ∈ mks p.1, m ∈ mks root) → (l.foldl (fun s p => stepW w0 k s p.1 p.2) s).1 x = true → s.1 x = true ∨ ∃ m ∈ mks root, chOf m = x
  | [], s, x, _, h => .inl h
  | p :: l, s, x, hl, h => by
    rcases fold_way w0 k root l _ x (fun q hq => hl q (List.mem_cons_of_mem _ hq)) h with h1 | h1
    · rcases fold_shoot w0 _ s x h1 with h2 | h2
      · exact .inl h2
      · obtain ⟨m, h3, h4⟩ := marksOn_mks h2
        exact .inr ⟨m, hl p List.mem_cons_self m h3, h4⟩
    · exact .inr h1
theorem fireK_mks (w0 : World) (root : Nd) (s : (Nat → Bool) × Int) (k : ByteArray) (x : Nat) (h : (fireK w0 root s k).1 x = true) : s.1 x = true ∨ ∃ m ∈ mks root, chOf m = x := by
  unfold fireK at h
  rw [T.wayF_list] at h
  exact fold_way w0 k root _ s x (wayL_mks k root _ _ _ (fun n e m hm => by cases e; exact hm)) h
theorem fold_fire (w0 : World) (root : Nd) : ∀ (ks : List ByteArray) (s : (Nat → Bool) × Int) (x : Nat), (ks.foldl (fireK w0 root) s).1 x = true → s.1 x = true ∨ ∃ m ∈ mks root, chOf m = x
  | [], s, x, h => .inl h
  | k :: ks, s, x, h => by
    rcases fold_fire w0 root ks _ x h with h1 | h1
    · exact fireK_mks w0 root s k x h1
    · exact .inr h1
theorem fireAll_mks (w0 : World) (root : Nd) (ks : List ByteArray) (x : Nat) (h : (fireAll w0 root ks).1 x = true) : ∃ m ∈ mks root, chOf m = x := by
  rcases fold_fire w0 root ks _ x h with h1 | h1
  · cases h1
  · exact h1
end Go.Proofs.Ytjhgknagmiekeaa.G
set_option linter.unusedVariables false
set_option linter.unusedSimpArgs false
namespace Go.Proofs.Ytjhgknagmiekeaa.T
open Go.RowKit Go.Lib Go.Proofs Go.Proofs.YtjhgknagmiekeaaW.PrintWords
set_option maxHeartbeats 4000000 in
set_option maxRecDepth 100000 in
theorem way104 {σ : Type} (step : σ → Nd → Nat → σ) (Inv : σ → World → Prop) (cb : Nat) (wB w : World) (tb : Nat) (root : Nd) (size : Int) (k : ByteArray) (s0 : σ) (hk : k.size < 4000000000000) (hkw : Kept wB w) (hsz : wB.heap.size ≤ w.heap.size) (ht : TrAt wB tb root size) (ho : Ok root) (hsm : Sm root) (hroot : root.label.size = 0)
    (hinv : Inv s0 w)
    (hcall : ∀ s n a w1, Kept wB w1 → wB.heap.size ≤ w1.heap.size → Inv s w1 → NdAt wB n → a ≤ k.size → Calls Try.prog 104 #[ptr n.b, .int .i64 (a : Nat), ptr cb] w1 fun e w' => e = .returned (.tuple #[]) ∧ Inv (step s n a) w' ∧ Below wB.heap.size w1 w') :
    Calls Try.prog 85 #[ptr tb, .string k, .func (.func 104) #[] #[ptr cb]] w fun e w' => e = .returned (.tuple #[]) ∧ Inv (wayF step k (k.size + 2) (some root) 0 s0) w' ∧ Below wB.heap.size w w' := by
  have c0 : w.cell? ⟨tb, 0, none⟩ = some (.pointer (some ⟨root.b, 0, none⟩)) := by rw [blk_cell (hkw.at ht.blk)]; rfl
  have HS := Aside0.mk (Stand.mk ht.root ho hsm (by rw [hroot]; omega) : Stand wB k root 0)
  have HC := Aside0.mk hcall
  have HW := Aside0.mk (And.intro hkw (And.intro hsz (And.intro hinv hroot)))
  clear hcall ht ho hsm hkw hsz hinv hroot
  unfold ptr
  go_enter Try.func85, Try.ntmps85
  go_wp2_with fail
  go_loopg [6, 7] (k.size + 2) (fun kq v6 v7 w' => ∃ (a : Nat) (on : Option Nd) (s : σ) (p : Option Addr), v6 = .int .i64 (a : Int) ∧ v7 = .pointer p ∧ Aside0 (optPtr on = .pointer p ∧ (∀ n, on = some n → Stand wB k n a ∧ k.size + 1 < kq + a + n.label.size) ∧ a ≤ k.size) ∧
    Aside0 (wayF step k kq on a s = wayF step k (k.size + 2) (some root) 0 s0) ∧ Aside0 (Inv s w' ∧ Kept wB w' ∧ wB.heap.size ≤ w'.heap.size ∧ Below wB.heap.size w w'))
  case atStart =>
    refine ⟨0, some root, s0, some ⟨root.b, 0, none⟩, rfl, rfl, ⟨rfl, fun n e => by cases e; exact ⟨HS.out, by have := HW.out.2.2.2; omega⟩, by omega⟩, ⟨rfl⟩, ⟨HW.out.2.2.1, HW.out.1, HW.out.2.1, Below.refl _ _⟩⟩
  case round =>
    obtain ⟨a, on, s, p, rfl, rfl, HO, HF, HI⟩ := hrel
    cases on with
    | none =>
      have ep : p = none := by have := HO.out.1; simpa [optPtr] using this.symm
      subst ep
      go_wp2_with fail
      refine bodyPost_end (results_none rfl _ _ _) rfl ?_
      refine ⟨rfl, ?_, HI.out.2.2.2⟩
      rw [← HF.out, wayF_none]
      exact HI.out.1
    | some n =>
      have ep : p = some ⟨n.b, 0, none⟩ := by have := HO.out.1; simpa [optPtr, ptr] using this.symm
      subst ep
      obtain ⟨hst, hq⟩ := HO.out.2.1 n rfl
      obtain ⟨kvn, hbn, _, _, _⟩ := hst.at_.parts
      have cl : wr.cell? ⟨n.b, 0, none⟩ = some (.string n.label) := by rw [blk_cell (HI.out.2.1.at hbn)]; rfl
      have hle := hst.le
      obtain ⟨a2, ea2⟩ : ∃ a2, a + n.label.size = a2 := ⟨_, rfl⟩
      have ha2 : a2 ≤ k.size := by omega
      have ha2I : (a2 : Int) ≤ (k.size : Int) := by omega
      have ew : wrap64 ((a : Int) + (n.label.size : Int)) = (a2 : Int) := by unfold wrap64; omega
      have ew2 : (a : Int) + (n.label.size : Int) = (a2 : Int) := by omega
      have q1 := Aside0.mk (HC.out s n a2 wr HI.out.2.1 HI.out.2.2.1 HI.out.1 hst.at_ ha2)
      have HST := Aside0.mk (And.intro hst (And.intro hq ea2))
      have HEW := Aside0.mk ew
      clear hst hq hbn hle ea2 ew
      unfold ptr at q1
      go_wp2_with (go_at_call 104; refine q1.out.mono ?_)
      rintro e w2 ⟨rfl, hi2, hb2⟩
      have hs2 := hb2.size
      have hk2 : Kept wB w2 := fun x hx => (hb2.block x hx).trans (HI.out.2.1 x hx)
      obtain ⟨p2, ep2⟩ := optPtr_form (downN n (k.extract a2 k.size))
      have q2 := downC w2 n (NdAt.keep hk2 n HST.out.1.at_) HST.out.1.ok (k.extract a2 k.size)
      rw [ep2] at q2
      have q3 := Aside0.mk q2
      have H2 := Aside0.mk (And.intro hi2 (And.intro hb2 (And.intro hk2 ep2)))
      clear hi2 hb2 hk2 ep2 q2 q1 hs2
      unfold ptr at q3
      go_wp2_with (go_at_call 121; refine q3.out.mono ?_)
      rintro e w3 ⟨rfl, rfl⟩
      clear q3
      go_wp2_with fail
      obtain ⟨hst, hq, ea2⟩ := HST.out
      cases hgk : gk with
      | zero => exfalso; have := hst.le; rw [hgk] at hq; omega
      | succ g1 =>
        go_roundg g1
        case measure => omega
        case rel =>
          obtain ⟨hi2, hb2, hk2, ep2⟩ := H2.out
          have hf := HF.out
          rw [hgk] at hf
          unfold wayF at hf
          rw [ea2] at hf
          refine ⟨a2, downN n (k.extract a2 k.size), step s n a2, p2, rfl, rfl, ⟨ep2, fun m em => ?_, ha2⟩, ⟨hf⟩, ⟨hi2, hk2, by have := HI.out.2.2.1; have := hb2.size; omega, HI.out.2.2.2.trans hb2⟩⟩
          obtain ⟨hm, hml⟩ := downN_some em
          have hse : (k.extract a2 k.size).size = k.size - a2 := by simp only [ByteArray.size_extract]; omega
          have hpos := hst.ok.parts.2.1 m hm
          obtain ⟨ii, hii, eii⟩ := List.getElem_of_mem hm
          refine ⟨⟨?_, hst.ok.parts.2.2.get m hm, hst.sm.parts.2.mem m hm, by omega⟩, by rw [hgk] at hq; omega⟩
          rw [← eii]
          exact hst.at_.parts.choose_spec.2.2.2.get ii hii
def stepM (_ : Value) (n : Nd) (_ : Nat) : Value := n.mark
def InvM (cb : Nat) (s : Value) (w : World) : Prop := w.heap[cb]? = some (.cells #[s] 90 (0, 0)) ∧ ∃ p, s = .pointer p
theorem nd_mark {w : World} : ∀ {n : Nd}, NdAt w n → ∃ m, n.mark = ptr m
  | .mk _ _ _ _ _, h => by unfold NdAt at h; exact h.2.2.2
set_option maxHeartbeats 4000000 in
set_option maxRecDepth 100000 in
theorem callM (wB : World) (cb : Nat) (hcb : wB.heap.size ≤ cb) (s : Value) (n : Nd) (a : Nat) (w1 : World) (hk : Kept wB w1) (hi : InvM cb s w1) (hn : NdAt wB n) :
    Calls Try.prog 104 #[ptr n.b, .int .i64 (a : Nat), ptr cb] w1 fun e w' => e = .returned (.tuple #[]) ∧ InvM cb (stepM s n a) w' ∧ Below wB.heap.size w1 w' := by
  obtain ⟨kv, hb, _, _, _⟩ := hn.parts
  obtain ⟨m, em⟩ := nd_mark hn
  rw [em] at hb
  have c3 : w1.cell? ⟨n.b, 3, none⟩ = some (.pointer (some ⟨m, 0, none⟩)) := by rw [blk_cell (hk.at hb)]; rfl
  have cc : w1.cell? ⟨cb, 0, none⟩ = some s := by rw [blk_cell hi.1]; rfl
  have fc : w1.frozen? ⟨cb, 0, none⟩ = false := blk_frozen hi.1 0
  have HI := Aside0.mk (And.intro hi (And.intro em hcb))
  clear hi hb hk hn em
  unfold ptr
  go_enter Try.func104, Try.ntmps104
  go_wp2_with fail
  refine bodyPost_end (results_none rfl _ _ _) rfl ?_
  refine ⟨rfl, ?_, below_set wB w1 cb HI.out.2.2 _⟩
  have e : stepM s n a = ptr m := HI.out.2.1
  rw [e]
  exact ⟨put_one w1 HI.out.1.1, _, rfl⟩
def markN (root : Nd) (k : ByteArray) : Value := wayF stepM k (k.size + 2) (some root) 0 (.pointer none)
set_option maxHeartbeats 4000000 in
set_option maxRecDepth 100000 in
theorem treeUnder (w : World) (tb : Nat) (root : Nd) (h : Tr w tb root) (k : ByteArray) (hk : k.size < 4000000000000) :
    Calls Try.prog 58 #[ptr tb, .string k] w fun e w' => e = .returned (markN root k) ∧ Below w.heap.size w w' := by
  have hk0 : Kept w (w.alloc (.cells #[.pointer none] 90)) := Kept.of ((Below.refl _ w).alloc (Nat.le_refl _) _)
  have q1 := Aside0.mk (way104 stepM (InvM w.heap.size) w.heap.size w (w.alloc (.cells #[.pointer none] 90)) tb root _ k (.pointer none) hk hk0 (by simp only [World.size_alloc]; omega) h.at_ h.fine.ok h.fine.sm h.fine.top ⟨heap_alloc_new w _, _, rfl⟩
    (fun s n a w1 h1 h2 h3 h4 h5 => callM w w.heap.size (Nat.le_refl _) s n a w1 h1 h3 h4))
  clear h hk0
  have eM : wayF stepM k (k.size + 2) (some root) 0 (.pointer none) = markN root k := rfl
  rw [eM] at q1
  clear eM
  obtain ⟨mv, emv⟩ : ∃ mv, markN root k = mv := ⟨_, rfl⟩
  rw [emv] at q1 ⊢
  clear emv
  unfold ptr at q1 ⊢
  go_enter Try.func58, Try.ntmps58
  go_wp2_with (go_at_call 85; refine q1.out.mono ?_)
  rintro e w2 ⟨rfl, ⟨hi, p, rfl⟩, hb⟩
  have cc : w2.cell? ⟨w.heap.size, 0, none⟩ = some (.pointer p) := by rw [blk_cell hi]; rfl
  have HB : Aside0 (Below w.heap.size w w2) := ⟨((Below.refl _ w).alloc (Nat.le_refl _) _).trans hb⟩
  clear hi hb q1
  go_wp2_with fail
  go_ret
  exact ⟨rfl, HB.out⟩
theorem seek_mks {root : Nd} {k : ByteArray} {l : Lf} (h : seekN root k = some l) : l.mark ∈ G.mks root := by
  unfold seekN at h
  rw [wayF_list] at h
  have hw := G.wayL_mks k root (k.size + 2) (some root) 0 (fun n e m hm => by cases e; exact hm)
  have key : ∀ (ps : List (Nd × Nat)) (s : Option Lf), (∀ p ∈ ps, ∀ m ∈ G.mks p.1, m ∈ G.mks root) → (∀ x, s = some x → x.mark ∈ G.mks root) → ps.foldl (fun s p => stepF k s p.1 p.2) s = some l → l.mark ∈ G.mks root := by
    intro ps
    induction ps with
    | nil => intro s _ hs e; exact hs l e
    | cons p ps ih =>
      intro s hp hs e
      refine ih _ (fun q hq => hp q (List.mem_cons_of_mem _ hq)) (fun x ex => ?_) e
      have ex2 : (if p.2 = k.size then p.1.leaf else s) = some x := ex
      split at ex2
      · exact hp p List.mem_cons_self _ (G.mks_leaf ex2)
      · exact hs x ex2
  exact key _ none hw (fun x e => by cases e) h
def watchN (root : Nd) (k : ByteArray) : Value := match seekN root k with | some l => l.mark | none => markN root k
set_option maxHeartbeats 4000000 in
set_option maxRecDepth 100000 in
theorem treeWatch (w : World) (tb : Nat) (root : Nd) (h : Tr w tb root) (hM : G.Mks w root) (k : ByteArray) (hk : k.size < 4000000000000) :
    Calls Try.prog 59 #[ptr tb, .string k] w fun e w' => e = .returned (watchN root k) ∧ Below w.heap.size w w' := by
  have q1 := Aside0.mk (treeFind w tb root _ k h.at_ h.fine.ok h.fine.sm h.fine.top hk)
  have HH := Aside0.mk (And.intro h hM)
  clear h hM
  unfold watchN
  cases es : seekN root k with
  | none =>
    rw [es] at q1
    unfold leafPtr ptr at q1
    unfold ptr
    clear es
    show Calls _ _ _ _ fun e w' => e = .returned (markN root k) ∧ _
    obtain ⟨mv, emv⟩ : ∃ mv, markN root k = mv := ⟨_, rfl⟩
    have HE := Aside0.mk emv
    rw [emv]
    clear emv
    go_enter Try.func59, Try.ntmps59
    go_wp2_with fail
    go_at_call 88
    refine q1.out.mono ?_
    rintro e w1 ⟨rfl, -, hb⟩
    have q2 := Aside0.mk (treeUnder w1 tb root (HH.out.1.keep (Kept.of hb)) k hk)
    have HB := Aside0.mk hb
    clear hb q1
    rw [HE.out] at q2
    unfold ptr at q2
    go_wp2_with fail
    go_at_call 58
    refine q2.out.mono ?_
    rintro e w2 ⟨rfl, hb2⟩
    have HB2 := Aside0.mk hb2
    clear hb2 q2
    go_wp2_with fail
    go_ret
    exact ⟨rfl, belowAt HB.out HB2.out⟩
  | some l =>
    obtain ⟨c, d, em, hw⟩ := HH.out.2 _ (seek_mks es)
    have HE := Aside0.mk em
    rw [es] at q1
    unfold leafPtr ptr at q1
    unfold ptr
    clear es hw em
    show Calls _ _ _ _ fun e w' => e = .returned l.mark ∧ _
    rw [HE.out]
    go_enter Try.func59, Try.ntmps59
    go_wp2_with fail
    go_at_call 88
    refine q1.out.mono ?_
    rintro e w1 ⟨rfl, hl, hb⟩
    have hl1 := (Kept.of hb).at (hl l rfl)
    rw [HE.out] at hl1
    have c2 : w1.cell? ⟨l.b, 2, none⟩ = some (.pointer (some ⟨c + 1, 0, none⟩)) := by rw [blk_cell hl1]; rfl
    have HB := Aside0.mk hb
    clear hb hl hl1 q1
    go_wp2_with fail
    go_ret
    exact ⟨rfl, HB.out⟩
end Go.Proofs.Ytjhgknagmiekeaa.T
set_option linter.unusedVariables false
set_option linter.unusedSimpArgs false
namespace Go.Proofs.Ytjhgknagmiekeaa.T
theorem in_insAt {α : Type} {i : Nat} {x y : α} {l : List α} (h : y ∈ l) : y ∈ insAt i x l := by
  unfold insAt
  rw [← List.take_append_drop i l] at h
  rcases List.mem_append.1 h with h | h
  · exact List.mem_append.2 (.inl h)
  · exact List.mem_append.2 (.inr (List.mem_cons_of_mem _ h))
theorem at_set {α : Type} {i : Nat} {x : α} {l : List α} (h : i < l.length) : x ∈ l.set i x :=
  List.mem_iff_getElem.2 ⟨i, by rw [List.length_set]; exact h, List.getElem_set_self _⟩
theorem node_low (k : Nd) (p b : Nat) {t : List UInt8} (ht : t ≠ []) : nodeT (lowN k p b) t = nodeT k t := by
  rw [nodeT_eq _ _ ht, nodeT_eq _ _ ht]
  rfl
theorem tip_node {rest : ByteArray} {l : Lf} {s : Nat × Value} {t : List UInt8} {X : Nd} (h : nodeT (tipN rest l s) t = some X) : X.mark = s.2 := by
  by_cases ht : t = []
  · rw [ht, nodeT_nil] at h
    cases h
    rfl
  · rw [nodeT_eq _ _ ht] at h
    cases h
theorem low_split {k : Nd} {p : Nat} {rest : ByteArray} {l : Lf} {ns : Sup} : lowN k p (ns 2).1 ∈ (splitN k p rest l ns).kids := by
  unfold splitN
  split
  · exact List.mem_singleton.2 rfl
  · exact in_insAt (List.mem_singleton.2 rfl)
theorem split_label {k : Nd} {p : Nat} {rest : ByteArray} {l : Lf} {ns : Sup} : (splitN k p rest l ns).label = rest.extract 0 p ∧ (splitN k p rest l ns).mark = (ns 1).2 := by
  unfold splitN
  split <;> exact ⟨rfl, rfl⟩
theorem split_kids {k x : Nd} {p : Nat} {rest : ByteArray} {l : Lf} {ns : Sup} (h : x ∈ (splitN k p rest l ns).kids) : x = lowN k p (ns 2).1 ∨ ∃ r, x = tipN r l (ns 3) := by
  unfold splitN at h
  split at h
  · exact .inl (List.mem_singleton.1 h)
  · rcases mem_insAt h with e | e
    · exact .inr ⟨_, e⟩
    · exact .inl (List.mem_singleton.1 e)
theorem insN_mark (n : Nd) (rest : ByteArray) (l : Lf) (ns : Sup) : (insN n rest l ns).mark = (ns 0).2 := by
  rw [insN]
  split
  · rfl
  · split
    · rfl
    · split <;> rfl
theorem node_split {k : Nd} {p : Nat} {rest : ByteArray} {l : Lf} {ns : Sup} (ho : Ok (splitN k p rest l ns)) (hp : p ≤ k.label.size) {t : List UInt8} {X : Nd} (h : nodeT k t = some X) :
    ∃ X', nodeT (splitN k p rest l ns) ((L k.label).drop p ++ t) = some X' ∧ X'.mark = X.mark := by
  have e := nodeT_kid ho (low_split (k := k) (p := p) (rest := rest) (l := l) (ns := ns)) t
  have el : L (lowN k p (ns 2).1).label = (L k.label).drop p := by
    show L (k.label.extract p k.label.size) = _
    rw [L_extract, List.take_of_length_le (by rw [L_len]; exact Nat.le_refl _)]
  rw [el] at e
  by_cases ht : t = []
  · subst ht
    rw [nodeT_nil] at h e
    cases h
    exact ⟨_, e, rfl⟩
  · rw [node_low _ _ _ ht, h] at e
    exact ⟨X, e, rfl⟩
theorem node_keep : ∀ (N : Nat) (rest : ByteArray), rest.size ≤ N → ∀ n, Ok n → ∀ (l : Lf) (ns : Sup) (r : List UInt8) (X : Nd), nodeT n r = some X → ¬ r <+: L rest → ∃ X', nodeT (insN n rest l ns) r = some X' ∧ X'.mark = X.mark := by
  intro N
  induction N with
  | zero =>
    intro rest hN n ho l ns r X h hr
    have hoi := ok_ins 0 rest hN n ho l ns
    rw [insN, dif_pos (by omega)] at hoi ⊢
    rcases nodeT_of ho h with ⟨e, -⟩ | ⟨k, hk, t, e, ht⟩
    · exact absurd (by rw [e]; exact List.nil_prefix) hr
    · subst e
      exact ⟨X, (nodeT_kid hoi (k := k) hk t).trans ht, rfl⟩
  | succ N ih =>
    intro rest hN n ho l ns r X h hr
    have hoi := ok_ins (N + 1) rest hN n ho l ns
    rcases nodeT_of ho h with ⟨e, -⟩ | ⟨k, hk, t, e, ht⟩
    · exact absurd (by rw [e]; exact List.nil_prefix) hr
    subst e
    by_cases h0 : rest.size = 0
    · rw [insN, dif_pos h0] at hoi ⊢
      exact ⟨X, (nodeT_kid hoi (k := k) hk t).trans ht, rfl⟩
    · rw [insN, dif_neg h0] at hoi ⊢
      cases e : kidN n rest with
      | none =>
        rw [e] at hoi
        simp only [] at hoi ⊢
        exact ⟨X, (nodeT_kid hoi (k := k) (in_insAt hk) t).trans ht, rfl⟩
      | some k0 =>
        rw [e] at hoi
        simp only [] at hoi ⊢
        obtain ⟨hh, hlt, ek⟩ := kidN_some e
        have key : ∀ c : Nd, Ok (.mk (ns 0).1 n.label n.leaf (n.kids.set (pos (n.kids.map fb) (fbS rest)) c) (ns 0).2) → (k = k0 → ∃ X', nodeT (.mk (ns 0).1 n.label n.leaf (n.kids.set (pos (n.kids.map fb) (fbS rest)) c) (ns 0).2) (L k.label ++ t) = some X' ∧ X'.mark = X.mark) →
            ∃ X', nodeT (.mk (ns 0).1 n.label n.leaf (n.kids.set (pos (n.kids.map fb) (fbS rest)) c) (ns 0).2) (L k.label ++ t) = some X' ∧ X'.mark = X.mark := by
          intro c hoc hc
          obtain ⟨j, hj, ej⟩ := List.getElem_of_mem hk
          by_cases hji : pos (n.kids.map fb) (fbS rest) = j
          · subst hji
            exact hc (ej.symm.trans ek)
          · have hm : k ∈ n.kids.set (pos (n.kids.map fb) (fbS rest)) c := List.mem_iff_getElem.2 ⟨j, by rw [List.length_set]; exact hj, by rw [List.getElem_set_ne hji]; exact ej⟩
            exact ⟨X, (nodeT_kid hoc (k := k) hm t).trans ht, rfl⟩
        have hcl := comB_le k0.label rest
        split
        · rename_i hp
          rw [dif_pos hp] at hoi
          refine key _ hoi (fun ekk => ?_)
          subst ekk
          have e1 := nodeT_kid hoi (k := insN k (rest.extract (comB k.label rest) rest.size) l (fun j => ns (j + 1))) (at_set hlt) t
          rw [insN_label] at e1
          rw [e1]
          refine ih _ (by simp only [ByteArray.size_extract]; omega) k (ho.parts.2.2.get k hk) _ _ t X ht (fun hpre => hr ?_)
          obtain ⟨u, hu⟩ := (comB_prefix k.label rest).1 hp.2
          have e2 : L (rest.extract (comB k.label rest) rest.size) = u := by
            rw [L_extract, List.take_of_length_le (by rw [L_len]; exact Nat.le_refl _), ← hu, hp.2, ← L_len, List.drop_left]
          rw [e2] at hpre
          rw [← hu]
          exact (List.prefix_append_right_inj _).2 hpre
        · rename_i hp
          rw [dif_neg hp] at hoi
          refine key _ hoi (fun ekk => ?_)
          subst ekk
          have hos : Ok (splitN k (comB k.label rest) rest l ns) := hoi.parts.2.2.get _ (at_set hlt)
          have e1 := nodeT_kid hoi (k := splitN k (comB k.label rest) rest l ns) (at_set hlt) ((L k.label).drop (comB k.label rest) ++ t)
          have e2 : L (splitN k (comB k.label rest) rest l ns).label = (L k.label).take (comB k.label rest) := by
            rw [split_label.1, L_extract, List.drop_zero]
            exact (com_take _ _).symm
          rw [e2, ← List.append_assoc, List.take_append_drop] at e1
          rw [e1]
          exact node_split hos hcl.1 ht
theorem node_new : ∀ (N : Nat) (rest : ByteArray), rest.size ≤ N → ∀ n, Ok n → ∀ (l : Lf) (ns : Sup) (r : List UInt8) (X' : Nd), nodeT (insN n rest l ns) r = some X' → (∃ r' X, nodeT n r' = some X ∧ X'.mark = X.mark) ∨ ∃ j, X'.mark = (ns j).2 := by
  intro N
  induction N with
  | zero =>
    intro rest hN n ho l ns r X' h
    have hoi := ok_ins 0 rest hN n ho l ns
    rcases nodeT_of hoi h with ⟨-, e⟩ | ⟨k, hk, t, -, ht⟩
    · exact .inr ⟨0, by rw [e, insN_mark]⟩
    · rw [insN, dif_pos (by omega)] at hk
      exact .inl ⟨_, X', (nodeT_kid ho (k := k) hk t).trans ht, rfl⟩
  | succ N ih =>
    intro rest hN n ho l ns r X' h
    have hoi := ok_ins (N + 1) rest hN n ho l ns
    rcases nodeT_of hoi h with ⟨-, e⟩ | ⟨k, hk, t, -, ht⟩
    · exact .inr ⟨0, by rw [e, insN_mark]⟩
    have hok := hoi.parts.2.2.get k hk
    by_cases h0 : rest.size = 0
    · rw [insN, dif_pos h0] at hk
      exact .inl ⟨_, X', (nodeT_kid ho (k := k) hk t).trans ht, rfl⟩
    · rw [insN, dif_neg h0] at hk
      cases e : kidN n rest with
      | none =>
        rw [e] at hk
        rcases mem_insAt hk with e2 | e2
        · subst e2
          exact .inr ⟨_, tip_node ht⟩
        · exact .inl ⟨_, X', (nodeT_kid ho (k := k) e2 t).trans ht, rfl⟩
      | some k0 =>
        rw [e] at hk
        simp only [] at hk
        obtain ⟨hh, hlt, ek⟩ := kidN_some e
        have hkm : k0 ∈ n.kids := by rw [← ek]; exact List.getElem_mem _
        split at hk
        · rcases List.mem_or_eq_of_mem_set hk with e2 | e2
          · exact .inl ⟨_, X', (nodeT_kid ho (k := k) e2 t).trans ht, rfl⟩
          · subst e2
            rcases ih _ (by simp only [ByteArray.size_extract]; omega) k0 (ho.parts.2.2.get k0 hkm) _ _ t X' ht with ⟨r', X, h1, h2⟩ | ⟨j, h1⟩
            · exact .inl ⟨_, X, (nodeT_kid ho (k := k0) hkm r').trans h1, h2⟩
            · exact .inr ⟨j + 1, h1⟩
        · rcases List.mem_or_eq_of_mem_set hk with e2 | e2
          · exact .inl ⟨_, X', (nodeT_kid ho (k := k) e2 t).trans ht, rfl⟩
          · subst e2
            rcases nodeT_of hok ht with ⟨-, e3⟩ | ⟨x, hx, u, -, hu⟩
            · exact .inr ⟨1, by rw [e3, split_label.2]⟩
            · rcases split_kids hx with e3 | ⟨q, e3⟩
              · subst e3
                by_cases hun : u = []
                · rw [hun, nodeT_nil] at hu
                  cases hu
                  exact .inl ⟨_, k0, (nodeT_kid ho (k := k0) hkm []).trans (nodeT_nil k0), rfl⟩
                · rw [node_low _ _ _ hun] at hu
                  exact .inl ⟨_, X', (nodeT_kid ho (k := k0) hkm u).trans hu, rfl⟩
              · subst e3
                exact .inr ⟨_, tip_node hu⟩
end Go.Proofs.Ytjhgknagmiekeaa.T
namespace Go.Proofs.Ytjhgknagmiekeaa.G
open Go.Proofs.Ytjhgknagmiekeaa.T
theorem fold_shoot_iff (w0 : World) : ∀ (l : List Nat) (s : (Nat → Bool) × Int) (x : Nat), (l.foldl (shootC w0) s).1 x = true ↔ s.1 x = true ∨ x ∈ l
  | [], s, x => by simp
  | c :: l, s, x => by
    rw [List.foldl_cons, fold_shoot_iff w0 l]
    show ((s.1 x || x == c) = true ∨ _) ↔ _
    rw [Bool.or_eq_true, beq_iff_eq, List.mem_cons, or_assoc]
theorem fold_step_iff (w0 : World) (k : ByteArray) : ∀ (ps : List (Nd × Nat)) (s : (Nat → Bool) × Int) (x : Nat), (ps.foldl (fun s p => stepW w0 k s p.1 p.2) s).1 x = true ↔ s.1 x = true ∨ ∃ p ∈ ps, x ∈ marksOn k p.1 p.2
  | [], s, x => by simp
  | p :: ps, s, x => by
    rw [List.foldl_cons, fold_step_iff w0 k ps]
    show (((marksOn k p.1 p.2).foldl (shootC w0) s).1 x = true ∨ _) ↔ _
    rw [fold_shoot_iff, or_assoc]
    refine or_congr Iff.rfl ⟨fun h => ?_, fun h => ?_⟩
    · rcases h with h | ⟨q, hq, h⟩
      · exact ⟨p, List.mem_cons_self, h⟩
      · exact ⟨q, List.mem_cons_of_mem _ hq, h⟩
    · obtain ⟨q, hq, h⟩ := h
      rcases List.mem_cons.1 hq with e | e
      · subst e; exact .inl h
      · exact .inr ⟨q, e, h⟩
theorem fire_key {root : Nd} (h : T.Good root) (w0 : World) (k : ByteArray) (x : Nat) : (fireAll w0 root [k]).1 x = true ↔ (∃ j, j ≤ k.size ∧ ∃ X, nodeT root ((L k).take j) = some X ∧ chOf X.mark = x) ∨ ∃ l, findT root (L k) = some l ∧ chOf l.mark = x := by
  have e : fireAll w0 root [k] = (wayL k (k.size + 2) (some root) 0).foldl (fun s p => stepW w0 k s p.1 p.2) (fun _ => false, 0) := by
    unfold fireAll
    rw [List.foldl_cons, List.foldl_nil]
    unfold fireK
    exact wayF_list _ _ _ _ _ _
  have hfk : findT root (L k) = (nodeT root (L k)).bind Nd.leaf := findT_node _ root (L k) (Nat.le_refl _)
  have htk : (L k).take k.size = L k := List.take_of_length_le (by rw [L_len]; exact Nat.le_refl _)
  rw [e, fold_step_iff, way_root h]
  refine ⟨fun hx => ?_, fun hx => .inr ?_⟩
  · rcases hx with hx | ⟨p, hp, hx⟩
    · cases hx
    · obtain ⟨j, hj, ej⟩ := List.mem_filterMap.1 hp
      have hj2 := List.mem_range.1 hj
      unfold onR at ej
      obtain ⟨X, hX, eX⟩ := Option.map_eq_some_iff.1 ej
      subst eX
      unfold marksOn at hx
      rcases List.mem_cons.1 hx with hx | hx
      · exact .inl ⟨j, by omega, X, hX, hx.symm⟩
      · split at hx
        · rename_i hjk
          have hjk2 : j = k.size := by simpa using hjk
          cases hl : X.leaf with
          | none => rw [hl] at hx; cases hx
          | some l =>
            rw [hl] at hx
            have h2 : x = chOf l.mark := by simpa using hx
            refine .inr ⟨l, ?_, h2.symm⟩
            rw [hjk2, htk] at hX
            rw [hfk, hX]
            exact hl
        · cases hx
  · rcases hx with ⟨j, hj, X, hX, ex⟩ | ⟨l, hl, ex⟩
    · refine ⟨(X, 0 + j), List.mem_filterMap.2 ⟨j, List.mem_range.2 (by omega), by unfold onR; rw [hX]; rfl⟩, ?_⟩
      unfold marksOn
      exact List.mem_cons.2 (.inl ex.symm)
    · rw [hfk] at hl
      obtain ⟨X, hX, hl⟩ := Option.bind_eq_some_iff.1 hl
      refine ⟨(X, 0 + k.size), List.mem_filterMap.2 ⟨k.size, List.mem_range.2 (by omega), by unfold onR; rw [htk, hX]; rfl⟩, ?_⟩
      unfold marksOn
      refine List.mem_cons.2 (.inr ?_)
      rw [if_pos (by simp)]
      show x ∈ (X.leaf.map _).toList
      rw [hl]
      exact List.mem_singleton.2 ex.symm
end Go.Proofs.Ytjhgknagmiekeaa.G
